/-
  A line's packet comes, the first one; seaFlows.
-/
import Derived.Test.YtbphbafmchhipaaLaw
import Derived.Deep.LoopGhost
import Derived.Lib.SlBytesConst
import Derived.Outline
namespace Go.Proofs.Ytbphbafmchhipaa
open Go.RowKit Sea

set_option maxHeartbeats 1000000 in
set_option maxRecDepth 100000 in
theorem line_moves1 (L1 L2 : List B) (a px py pn : Nat) (x : Snd) (y : Rcv) (p : Pkt) (rest : List Pkt) (ap : Bool) (o : List B) (h : Inv L1 L2 3 x y (p :: rest) o []) (hfew : (p :: rest).length ≤ 256) (g : Seg) (hg : IsPiece L1 L2 3 p g ∨ IsAck y p g) (w : World) (R : SA) (s : Sat w (lineAt a px py pn x y (p :: rest) ap o * R)) :
    Calls Try.prog 7 #[.pointer (some ⟨a, 0, none⟩), .agg #[.int .i64 1, .int .i64 0, .int .i64 0]] w fun e w' => e = .returned (.tuple #[]) ∧ Later w w' ∧ ∃ x' y' net' o', LineStep x y rest ap o g x' y' net' o' ∧ Sat w' (lineAt a px py pn x' y' net' ap o' * R) := by
  obtain ⟨ov, s0⟩ := Sat.line_open.1 s
  have s2 := s0.alloc (.cells #[.int .i64 1, .int .i64 0, .int .i64 0] 36)
  have n2 : (w.alloc (.cells #[.int .i64 1, .int .i64 0, .int .i64 0] 36)).cell? ⟨a, 2, none⟩ = some (.pointer (some ⟨pn, 0, none⟩)) := s2.p2.cell 2
  have l1 : Later w (w.alloc (.cells #[.int .i64 1, .int .i64 0, .int .i64 0] 36)) := (Later.refl w).alloc _
  have hlen : 1 ≤ ((p :: rest).length : Int) ∧ ((p :: rest).length : Int) ≤ 256 := by simp at hfew ⊢; omega
  have hp : (p :: rest)[0]? = some p := rfl
  have he : (p :: rest).eraseIdx 0 = rest := rfl
  have hTake := fun w' R' sw => net_take pn (p :: rest) ap 0 p hp (by omega) w' R' sw
  rw [he] at hTake
  have Hc : RowKit.Hid (∀ w' bv R', Sat w' (lineAt a px py pn x y rest ap o * (bytesSeg bv p.body * R')) → Calls Try.prog 20 #[.pointer (some ⟨a, 0, none⟩), .agg #[.int .i64 p.src, .int .i64 p.dst, bv], .bool false] w' fun e w'' => e = .returned (.tuple #[]) ∧ Later w' w'' ∧ ∃ x' y' net' o', LineStep x y rest ap o g x' y' net' o' ∧ Sat w'' (lineAt a px py pn x' y' net' ap o' * R')) :=
    Lib.hid fun w' bv R' sw => line_step L1 L2 a px py pn x y rest (p :: rest) ap o h (fun q hq => List.mem_cons_of_mem _ hq) p g hg bv w' R' sw
  generalize hnet : (p :: rest) = net at *
  have Hl := Lib.hid fun w' R' sw => net_len pn net ap w' R' sw
  have Ht : RowKit.Hid (∀ w' R', Sat w' (netAt pn net ap * R') → Calls Try.prog 19 #[.pointer (some ⟨pn, 0, none⟩), .int .i64 0] w' fun e w'' => ∃ a c, e = .returned (.tuple #[.agg #[.int .i64 p.src, .int .i64 p.dst, .slice a p.body.length c], .bool true]) ∧ Later w' w'' ∧ Sat w'' (bytesRow (.slice a p.body.length c) p.body * (netAt pn rest ap * R'))) := Lib.hid hTake
  obtain ⟨hn1, hn2⟩ := hlen
  have hw1 : IntKind.u64.wrap (net.length : Int) = (net.length : Int) := by rw [wraps_u64 _ (by omega) (by omega)]
  clear h hg hp he hTake hnet hfew
  go_enter Try.func7, Try.ntmps7
  go_wp2_with (go_at_call 13
               with_reducible refine (Hl.out _ _ s2.p5).mono ?_
               rintro e w' ⟨rfl, rfl⟩)
  go_quiet ((go_at_call 13; exact Calls.quiet_of_same ((Hl.out _ _ (s2.drewN _).p5).mono fun _ _ h => ⟨h.1, h.2.symm⟩)))
  have s3 := s2.drewN nq
  have l3 := l1.drewN nq
  generalize ((w.alloc (.cells #[.int .i64 1, .int .i64 0, .int .i64 0] 36)).drewN nq) = W at *
  have n2 : W.cell? ⟨a, 2, none⟩ = some (.pointer (some ⟨pn, 0, none⟩)) := s3.p2.cell 2
  have k0 : W.cell? ⟨w.heap.size, 0, none⟩ = some (.int .i64 1) := s3.cell 0
  clear s2 l1
  go_wp2_with (first
    | (go_at_call 19
       with_reducible refine (Ht.out _ _ s3.p5).mono ?_
       rintro e w2 ⟨pa, pc, rfl, l2, s5⟩
       have k0 : w2.cell? ⟨w.heap.size, 0, none⟩ = some (.int .i64 1) := s5.p3.cell 0
       have hlt : w.heap.size < w2.heap.size := s5.p3.lt
       have l6 := (l3.trans l2).alloc (.cells #[.int .i64 p.src, .int .i64 p.dst, .slice pa p.body.length pc] 59)
       have s6 : Sat (w2.alloc (.cells #[.int .i64 p.src, .int .i64 p.dst, .slice pa p.body.length pc] 59)) (lineAt a px py pn x y rest ap o * (bytesSeg (.slice pa p.body.length pc) p.body * R)) := Sat.line_open.2 ⟨ov, (((s5.mono bytesRow_seg).alloc _).right.x3).eq (by ac_rfl)⟩)
    | (go_at_call 20
       with_reducible refine (Hc.out _ _ _ s6).mono ?_
       rintro e w3 ⟨rfl, l7, hN⟩))
  go_end0
  exact ⟨rfl, l6.trans l7, hN⟩

theorem RdX.two (b : Nat) : RdX (SA.obj (b + 2) (.cells #[.slice (some ⟨b, 0, none⟩) 1 1, .slice (some ⟨b + 1, 0, none⟩) 1 1] 25 (0, 0)) * (SA.obj (b + 1) (.cells #[.int .u8 98] 5 (1, 2)) * SA.obj b (.cells #[.int .u8 97] 5 (1, 2)))) (.slice (some ⟨b + 2, 0, none⟩) 2 2) [[97], [98]] := by
  refine .inr ⟨b + 2, 0, 2, [.slice (some ⟨b, 0, none⟩) 1 1, .slice (some ⟨b + 1, 0, none⟩) 1 1], rfl, by simp, by simp [maxLen], rfl, fun w s j bv x hbv hx => ?_⟩
  have s2 : Sat w (SA.obj b (.cells #[.int .u8 97] 5 (1, 2)) * SA.one) := (s.right.right).eq (SA.mul_one _).symm
  have s1 : Sat w (SA.obj (b + 1) (.cells #[.int .u8 98] 5 (1, 2)) * _) := s.right
  have h2 : j < 2 := (List.getElem?_eq_some_iff.1 hx).1
  rcases (show j = 0 ∨ j = 1 by omega) with rfl | rfl
  · simp at hbv hx
    subst hbv hx
    refine ⟨s.cell 0, .inr ⟨b, 0, 1, rfl, by simp, by simp [maxLen], fun i hi => ?_⟩⟩
    obtain rfl : i = 0 := by simp at hi; exact hi
    exact s2.cell 0
  · simp at hbv hx
    subst hbv hx
    refine ⟨s.cell 1, .inr ⟨b + 1, 0, 1, rfl, by simp, by simp [maxLen], fun i hi => ?_⟩⟩
    obtain rfl : i = 0 := by simp at hi; exact hi
    exact s1.cell 0

def twoL : List B := [[97], [98]]

set_option maxHeartbeats 1000000 in
set_option maxRecDepth 100000 in
theorem sea_flows (w : World) (R : SA) (s : Sat w R) :
    Calls Try.prog 4 #[] w fun e w' => e = .returned (.bool true) ∧ Later w w' ∧ Sat w' R := by
  have s1 := ((s.alloc (.cells #[.int .u8 97] 5 (1, 2))).alloc (.cells #[.int .u8 98] 5 (1, 2))).alloc (.cells #[.slice (some ⟨w.heap.size, 0, none⟩) 1 1, .slice (some ⟨w.heap.size + 1, 0, none⟩) 1 1] 25)
  rw [alloc_size, alloc_size] at s1
  have hX := RdX.two w.heap.size
  have s2 := s1.eq (show _ = (SA.obj (w.heap.size + 2) (.cells #[.slice (some ⟨w.heap.size, 0, none⟩) 1 1, .slice (some ⟨w.heap.size + 1, 0, none⟩) 1 1] 25 (0, 0)) * (SA.obj (w.heap.size + 1) (.cells #[.int .u8 98] 5 (1, 2)) * SA.obj w.heap.size (.cells #[.int .u8 97] 5 (1, 2)))) * R from by ac_rfl)
  generalize hXX : (SA.obj (w.heap.size + 2) (.cells #[.slice (some ⟨w.heap.size, 0, none⟩) 1 1, .slice (some ⟨w.heap.size + 1, 0, none⟩) 1 1] 25 (0, 0)) * (SA.obj (w.heap.size + 1) (.cells #[.int .u8 98] 5 (1, 2)) * SA.obj w.heap.size (.cells #[.int .u8 97] 5 (1, 2)))) = X at *
  have Ho := Lib.hid (opened_calls 0 0 _ [[97], [98]] X hX (by simp) (by simp) _ R s2)
  have HX := Lib.hid hX
  clear hX hXX s1
  have kc1 : (convert 25 25 (.slice (some ⟨w.heap.size, 0, none⟩) 1 1)).run Try.prog (w.alloc (.cells #[.int .u8 97] 5)) = .ok (.slice (some ⟨w.heap.size, 0, none⟩) 1 1) (w.alloc (.cells #[.int .u8 97] 5 (1, 2))) :=
    Lib.run_convert_bytes_const (P := Try.prog) w 25 5 #[.int .u8 97] 1 1 Try.underlying25 Try.underlying5
  have kc2 : (convert 25 25 (.slice (some ⟨w.heap.size + 1, 0, none⟩) 1 1)).run Try.prog ((w.alloc (.cells #[.int .u8 97] 5 (1, 2))).alloc (.cells #[.int .u8 98] 5)) = .ok (.slice (some ⟨w.heap.size + 1, 0, none⟩) 1 1) ((w.alloc (.cells #[.int .u8 97] 5 (1, 2))).alloc (.cells #[.int .u8 98] 5 (1, 2))) := by
    have h := Lib.run_convert_bytes_const (P := Try.prog) (w.alloc (.cells #[.int .u8 97] 5 (1, 2))) 25 5 #[.int .u8 98] 1 1 Try.underlying25 Try.underlying5
    rw [alloc_size] at h
    exact h
  go_enter Try.func4, Try.ntmps4
  go_wp2_with (go_at_call 5
               with_reducible refine Ho.out.mono ?_
               rintro e w1 ⟨a, px, py, pn, W, S, hWS, rfl, l1, s3⟩)
  have hW1 : W = 1 := by
    have h := hWS.2.2.2.2.1
    simp [IntKind.wrap, IntKind.bits, IntKind.signed] at h
    omega
  have hS1 : S = 1 := by
    have h := hWS.2.2.2.2.2
    simp [IntKind.wrap, IntKind.bits, IntKind.signed] at h
    omega
  subst hW1 hS1
  have h0 : Inv twoL [] 3 ⟨3, 1, 1, 0, 0, twoL.map (fun b => (b, 0))⟩ ⟨8, 0, 0, []⟩ [] [] [] := inv_start twoL [] (by simp [twoL]) (by simp) (by simp [twoL]) (by simp) ⟨by omega, by omega⟩ ⟨by omega, by omega⟩
  have l0 : Later w w1 := (((Later.refl w).alloc _).alloc _).alloc _ |>.trans l1
  have s4 : Sat w1 (lineAt a px py pn ⟨3, 1, 1, 0, 0, twoL.map (fun b => (b, 0))⟩ ⟨8, 0, 0, []⟩ [] false [] * (X * R)) := s3
  clear kc1 kc2 hWS s3 l1 s2
  have H0 := Lib.hid (And.intro h0 (And.intro l0 s4))
  clear h0 l0 s4
  go_loopw [3] (fun x3 wr => ∃ (k : Nat) (x : Snd) (y : Rcv) (o : List B), x3 = .int .i64 k ∧ k ≤ 4 ∧ Later w wr ∧ Inv twoL [] 3 x y [] o [] ∧ x.owed ≤ 4 - k ∧ x.now ≤ k ∧ Sat wr (lineAt a px py pn x y [] false o * (X * R))) (fun x3 _ => 4 - (intOf x3).toNat)
  case atStart => exact ⟨0, _, _, _, rfl, by omega, H0.out.2.1, H0.out.1, by simp [Snd.owed, Snd.wait, twoL], Nat.le_refl _, H0.out.2.2⟩
  case round =>
    obtain ⟨k, x, y, o, rfl, hk, lr, hinv, howed, hnow, sr⟩ := hrel
    clear H0
    by_cases hlt : k < 4
    · obtain ⟨T, hT⟩ : ∃ T, T = if 0 < x.l.length ∧ x.wait = 0 then x.acked + 1 else 0 := ⟨_, rfl⟩
      have hR := Round.begin hinv (by simp) T (by
        rw [hT]
        split
        · rename_i c; exact .inr ⟨rfl, rfl, c.1, c.2⟩
        · exact .inl rfl)
      obtain ⟨i1, i2, i3, i4, i5, i6⟩ := inv_now hinv
      have Ht := Lib.hid (line_tick a px py pn x y [] false o (by omega) (by omega) (by omega) i3 i6 wr _ sr)
      have HR := Lib.hid (And.intro hinv (And.intro hT (And.intro hR (And.intro howed hnow))))
      have hk1 : (k : Int) < 4 := by omega
      clear hR hT hinv howed hnow i1 i2 i3 i4 i5 i6 sr
      go_wp2_with (go_at_call 12
                   with_reducible refine Ht.out.mono ?_
                   rintro e w2 ⟨rfl, l2, s5⟩)
      go_loopg [] (toCome (sendAll false [] x.tick.2)) (fun n wi => ∃ (x' : Snd) (y' : Rcv) (net' : List Pkt) (o' : List B), Round twoL [] 3 x.acked (x.now + 1) x.span x.window x.tick.1.l T x' y' net' o' [] ∧ toCome net' ≤ n ∧ Later w wi ∧ Sat wi (lineAt a px py pn x' y' net' false o' * (X * R)))
      case atStart => exact ⟨_, y, _, o, HR.out.2.2.1, Nat.le_refl _, lr.trans l2, s5⟩
      case round =>
        obtain ⟨x', y', net', o', hR, htc, li, si⟩ := hrel
        obtain ⟨ov, s6⟩ := Sat.line_open.1 si
        have n2 : wr.cell? ⟨a, 2, none⟩ = some (.pointer (some ⟨pn, 0, none⟩)) := s6.cell 2
        have Hl := Lib.hid (net_len pn net' false wr _ s6.p4)
        cases net' with
        | nil =>
          have Hl0 : RowKit.Hid (Calls Try.prog 13 #[.pointer (some ⟨pn, 0, none⟩)] wr fun e w' => e = .returned (.int .i64 0) ∧ wr = w') := Lib.hid Hl.out
          have HRi := Lib.hid hR
          clear hR Hl
          go_wp2_with (go_at_call 13
                       with_reducible refine Hl0.out.mono ?_
                       rintro e w' ⟨rfl, rfl⟩)
          obtain ⟨hinv, hT, _, howed, hnow⟩ := HR.out
          have hR := HRi.out
          have ho := Round.owed hinv hT hR
          have hn := hR.now
          refine ⟨⟨k + 1, x', y', o', by go_num, by omega, li, hR.inv, by omega, by omega, si⟩, ?_⟩
          simp [intOf]
          omega
        | cons p rest =>
          obtain ⟨g, hg⟩ := hR.inv.pk p List.mem_cons_self
          have Hm := Lib.hid (line_moves1 twoL [] a px py pn x' y' p rest false o' hR.inv hR.few g hg wr _ si)
          have hlen : 1 ≤ ((p :: rest).length : Int) := by simp; omega
          have HRi := Lib.hid (And.intro hR (And.intro hg htc))
          clear hR hg htc
          generalize hln : (p :: rest).length = ln at *
          clear hln
          go_wp2_with (first
            | (go_at_call 13
               with_reducible refine Hl.out.mono ?_
               rintro e w' ⟨rfl, rfl⟩)
            | (go_at_call 7
               with_reducible refine Hm.out.mono ?_
               rintro e w5 ⟨rfl, l5, hN⟩))
          obtain ⟨x2, y2, net2, o2, st, s7⟩ := hN
          obtain ⟨hR, hg, htc⟩ := HRi.out
          obtain ⟨hR2, htc2⟩ := st.round hR hg
          go_roundg (toCome net2)
          case measure => omega
          case rel => exact ⟨x2, y2, net2, o2, hR2, Nat.le_refl _, li.trans l5, s7⟩
    · obtain rfl : k = 4 := by omega
      obtain ⟨ov, s6⟩ := Sat.line_open.1 sr
      obtain ⟨hl, _, h3⟩ := hinv.all (by omega)
      have h3 := h3 rfl
      subst h3
      have b4 : wr.cell? ⟨a, 4, none⟩ = some (.bool false) := s6.cell 4
      have b0 : wr.cell? ⟨a, 0, none⟩ = some (.pointer (some ⟨px, 0, none⟩)) := s6.cell 0
      have b3 : wr.cell? ⟨a, 3, none⟩ = some ov := s6.cell 3
      have HL : RowKit.Hid (Calls Try.prog 15 #[.pointer (some ⟨px, 0, none⟩)] wr fun e w' => e = .returned (.int .i64 0) ∧ wr = w') := by
        refine Lib.hid ((snd_left px x wr _ s6.p2).mono fun e w' h => ?_)
        rw [hl] at h
        exact h
      have HS : RowKit.Hid (Calls Try.prog 16 #[ov, .slice (some ⟨w.heap.size + 1 + 1, 0, none⟩) 2 2] wr fun e w' => e = .returned (.bool true) ∧ ∃ n, w' = wr.drewN n) := by
        refine Lib.hid ((same_calls ov (.slice (some ⟨w.heap.size + 2, 0, none⟩) 2 2) twoL twoL wr (s6.p5.out_rd) (HX.out.rd sr.p2.left) (by simp [twoL])).mono fun e w' h => ?_)
        rw [decide_eq_true rfl] at h
        exact h
      have hov : ov.oneCell' = true := by
        rcases s6.p5.out_rd with ⟨⟨a', h⟩, _⟩ | ⟨g, o, cap, h, _⟩
        · rw [h]; rfl
        · rw [h]; rfl
      clear hl howed hnow hinv s6
      go_wp2_with (first
        | (go_at_call 15
           with_reducible refine HL.out.mono ?_
           rintro e w' ⟨rfl, rfl⟩)
        | (go_at_call 16
           with_reducible refine HS.out.mono ?_
           rintro e w' ⟨rfl, n, rfl⟩))
      go_ret
      exact ⟨rfl, lr.drewN n, (sr.drewN n).right.right⟩

end Go.Proofs.Ytbphbafmchhipaa
