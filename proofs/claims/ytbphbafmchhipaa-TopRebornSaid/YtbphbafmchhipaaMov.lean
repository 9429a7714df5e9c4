/-
  A line: something happens.
-/
import Derived.Test.YtbphbafmchhipaaLineD
namespace Go.Proofs.Ytbphbafmchhipaa
open Go.RowKit Sea

theorem pk_body {L1 L2 : List B} {v : Nat} {x : Snd} {y : Rcv} {net : List Pkt} {o3 o4 : List B} (h : Inv L1 L2 v x y net o3 o4) : ∀ p ∈ net, p.body.length ≤ 1030 := by
  intro p hp
  obtain ⟨g, hg | hg⟩ := h.pk p hp
  · rw [hg.1]; exact (segBytes_length (piece_fit h hg)).2
  · rw [hg.1]; exact (segBytes_length (ack_fit hg)).2
theorem mem_erase_sub {l : List Pkt} {i : Nat} : ∀ q ∈ l.eraseIdx i, q ∈ l := fun _ hq => List.mem_of_mem_eraseIdx hq
theorem mem_back_sub {l : List Pkt} {i : Nat} : ∀ q ∈ l.eraseIdx i ++ (l[i]?).toList, q ∈ l := fun q hq => by
  rcases List.mem_append.1 hq with h | h
  · exact List.mem_of_mem_eraseIdx h
  · exact List.mem_of_getElem? (Option.mem_toList.1 h)
theorem mem_twice_sub {l : List Pkt} {i : Nat} : ∀ q ∈ (if l.length < 256 then l ++ (l[i]?).toList else l), q ∈ l := fun q hq => by
  split at hq
  · rcases List.mem_append.1 hq with h | h
    · exact h
    · exact List.mem_of_getElem? (Option.mem_toList.1 h)
  · exact hq
theorem back_length {l : List Pkt} {i : Nat} : (l.eraseIdx i ++ (l[i]?).toList).length ≤ l.length := by
  rcases Nat.lt_or_ge i l.length with h | h
  · rw [List.length_append, List.length_eraseIdx_of_lt h, List.getElem?_eq_getElem h, Option.toList_some, List.length_singleton]
    omega
  · rw [List.eraseIdx_of_length_le h, List.getElem?_eq_none h]
    simp
theorem erase_length {l : List Pkt} {i : Nat} : (l.eraseIdx i).length ≤ l.length := List.length_eraseIdx_le _ _
theorem twice_length {l : List Pkt} {i : Nat} (h : l.length ≤ 256) : (if l.length < 256 then l ++ (l[i]?).toList else l).length ≤ 256 := by
  split
  · rw [List.length_append]
    have : (l[i]?).toList.length ≤ 1 := by cases l[i]? <;> simp
    omega
  · exact h

theorem shl_bit (K : Nat) (hE : (K : Int) % 8 = 0 ∨ (K : Int) % 8 = 1 ∨ (K : Int) % 8 = 2 ∨ (K : Int) % 8 = 3 ∨ (K : Int) % 8 = 4 ∨ (K : Int) % 8 = 5 ∨ (K : Int) % 8 = 6 ∨ (K : Int) % 8 = 7) :
    ∃ P2 : Nat, (∀ w, (Op.shift BinOp.shl IntKind.u8 1 IntKind.i64 ((K : Int).tmod 8)).run Try.prog w = .ok (.int .u8 (P2 : Int)) w) ∧ 0 < P2 ∧ P2 < 256 := by
  rw [Int.tmod_eq_emod_of_nonneg (Int.natCast_nonneg K)]
  rcases hE with h | h | h | h | h | h | h | h
  · rw [h]; exact ⟨1, fun _ => by kernel_rfl, by omega, by omega⟩
  · rw [h]; exact ⟨2, fun _ => by kernel_rfl, by omega, by omega⟩
  · rw [h]; exact ⟨4, fun _ => by kernel_rfl, by omega, by omega⟩
  · rw [h]; exact ⟨8, fun _ => by kernel_rfl, by omega, by omega⟩
  · rw [h]; exact ⟨16, fun _ => by kernel_rfl, by omega, by omega⟩
  · rw [h]; exact ⟨32, fun _ => by kernel_rfl, by omega, by omega⟩
  · rw [h]; exact ⟨64, fun _ => by kernel_rfl, by omega, by omega⟩
  · rw [h]; exact ⟨128, fun _ => by kernel_rfl, by omega, by omega⟩
theorem xor_bit (b : UInt8) (P2 : Nat) (h1 : 0 < P2) (h2 : P2 < 256) : ∃ c : UInt8, bits BinOp.xor IntKind.u8 (b.toNat : Int) (P2 : Int) = (c.toNat : Int) ∧ c ≠ b := by
  have hb := b.toNat_lt
  have hx : b.toNat ^^^ P2 < 256 := Nat.xor_lt_two_pow (n := 8) (by omega) (by omega)
  refine ⟨UInt8.ofNat (b.toNat ^^^ P2), ?_, fun e => ?_⟩
  · rw [xor_u8 (by omega) h2]
    have : (UInt8.ofNat (b.toNat ^^^ P2)).toNat = b.toNat ^^^ P2 := by rw [UInt8.toNat_ofNat']; omega
    rw [this]
  · have := congrArg UInt8.toNat e
    rw [UInt8.toNat_ofNat', Nat.mod_eq_of_lt (by omega)] at this
    have h0 : b.toNat ^^^ P2 = b.toNat ^^^ 0 := by rw [Nat.xor_zero]; exact this
    have := xor_cl h0
    omega

set_option maxHeartbeats 1000000 in
set_option maxRecDepth 100000 in
theorem line_moves (L1 L2 : List B) (a px py pn : Nat) (x : Snd) (y : Rcv) (net : List Pkt) (ap : Bool) (o : List B) (h : Inv L1 L2 3 x y net o []) (hfew : net.length ≤ 256) (hn : x.now < 1000000) (kind att by_ : Int) (w : World) (R : SA) (s : Sat w (lineAt a px py pn x y net ap o * R)) :
    Calls Try.prog 7 #[.pointer (some ⟨a, 0, none⟩), .agg #[.int .i64 kind, .int .i64 att, .int .i64 by_]] w fun e w' => e = .returned (.tuple #[]) ∧ LineNow L1 L2 a px py pn (x.now + 1) R w w' := by
  obtain ⟨u, hu, hu2⟩ : ∃ u : Nat, IntKind.u64.wrap att = (u : Int) ∧ u < 18446744073709551616 := by
    refine ⟨(IntKind.u64.wrap att).toNat, ?_, ?_⟩
    · simp [IntKind.wrap, IntKind.bits, IntKind.signed]; omega
    · simp [IntKind.wrap, IntKind.bits, IntKind.signed]; omega
  obtain ⟨ov, s0⟩ := Sat.line_open.1 s
  have s1 := s.alloc (.cells #[.int .i64 kind, .int .i64 att, .int .i64 by_] 36)
  have s2 := s0.alloc (.cells #[.int .i64 kind, .int .i64 att, .int .i64 by_] 36)
  have n2 : (w.alloc (.cells #[.int .i64 kind, .int .i64 att, .int .i64 by_] 36)).cell? ⟨a, 2, none⟩ = some (.pointer (some ⟨pn, 0, none⟩)) := s2.p2.cell 2
  have k1 : (w.alloc (.cells #[.int .i64 kind, .int .i64 att, .int .i64 by_] 36)).cell? ⟨w.heap.size, 1, none⟩ = some (.int .i64 att) := s2.cell 1
  have l1 : Later w (w.alloc (.cells #[.int .i64 kind, .int .i64 att, .int .i64 by_] 36)) := (Later.refl w).alloc _
  have Hl := Lib.hid (net_len pn net ap _ _ s2.p5)
  have Hl2 := Lib.hid (net_len pn net ap _ _ s2.drew.p5)
  have Hl3 : RowKit.Hid (∀ n, Calls Try.prog 13 #[.pointer (some ⟨pn, 0, none⟩)] ((w.alloc (.cells #[.int .i64 kind, .int .i64 att, .int .i64 by_] 36)).drewN n) fun e w' => e = .returned (.int .i64 net.length) ∧ ((w.alloc (.cells #[.int .i64 kind, .int .i64 att, .int .i64 by_] 36)).drewN n) = w') := Lib.hid fun n => net_len pn net ap _ _ (s2.drewN n).p5
  have Hinv := Lib.hid h
  clear h
  go_enter Try.func7, Try.ntmps7
  go_upto_if 13 with (go_at_call 13
                      with_reducible refine Hl.out.mono ?_
                      rintro e w' ⟨rfl, rfl⟩)
  go_cut [4] (fun x4 wx => ∃ j n : Nat, x4 = .int .i64 j ∧ (net.length = 0 ∧ j = 0 ∨ j < net.length) ∧ wx = (w.alloc (.cells #[.int .i64 kind, .int .i64 att, .int .i64 by_] 36)).drewN n)
  case first =>
    by_cases h0 : net.length = 0
    · have h0' : ((net.length : Nat) : Int) = 0 := by omega
      go_wp2_with fail
      go_meet
      exact ⟨0, 0, rfl, .inl ⟨h0, rfl⟩, rfl⟩
    · have h1 : 0 < net.length := by omega
      have hw1 : IntKind.u64.wrap ((net.length : Nat) : Int) = (net.length : Int) := by rw [wraps_u64 _ (by omega) (by omega)]
      have hw2 : IntKind.i64.wrap ((u : Int) % (net.length : Int)) = ((u % net.length : Nat) : Int) := by
        have := Nat.mod_lt u h1
        rw [IntKind.wrap_i64, ← Int.natCast_emod]
        omega
      have hlt := Nat.mod_lt u h1
      have Hlt := Lib.hid hlt
      have h2 : (0 : Int) < (net.length : Int) := by omega
      clear hlt h0
      go_wp2_with fail
      go_quiet ((go_at_call 13; exact Calls.quiet_of_same ((Hl3.out _).mono fun _ _ h => ⟨h.1, h.2.symm⟩)))
      go_wp2_with fail
      go_meet
      exact ⟨u % net.length, nq, by rw [Int.natCast_emod], .inr Hlt.out, rfl⟩
  case rest =>
    obtain ⟨j, n, rfl, hj, rfl⟩ := hcut
    clear n2 k1 Hl Hl2 Hl3 hu hu2
    have s3 := s1.drewN n
    have s4 := s2.drewN n
    have l4 := l1.drewN n
    clear s1 s2 l1
    generalize (w.alloc (.cells #[.int .i64 kind, .int .i64 att, .int .i64 by_] 36)).drewN n = W at *
    have k0 : W.cell? ⟨w.heap.size, 0, none⟩ = some (.int .i64 kind) := s3.cell 0
    have k2 : W.cell? ⟨w.heap.size, 2, none⟩ = some (.int .i64 by_) := s3.cell 2
    have n2 : W.cell? ⟨a, 2, none⟩ = some (.pointer (some ⟨pn, 0, none⟩)) := s4.p2.cell 2
    obtain ⟨i1, i2, i3, i4, i5, i6⟩ := inv_now Hinv.out
    by_cases c0 : kind = 0
    · subst c0
      have Ht := Lib.hid (line_tick a px py pn x y net ap o (by omega) (by omega) (by omega) i3 i6 W _ s3.p2)
      clear i3 i6
      go_wp2_with (go_at_call 12
                   with_reducible refine Ht.out.mono ?_
                   rintro e w2 ⟨rfl, l2, s5⟩)
      go_end0
      exact ⟨rfl, l4.trans l2, _, y, _, ap, o, Hinv.out.tick ap, sendAll_few ap _ _ hfew, Nat.le_refl _, s5.x2⟩
    · have b0 : (kind == 0) = false := by simpa using c0
      clear i3 i6
      by_cases c7 : kind = 7
      · subst c7
        have Hp := Lib.hid (net_part pn net ap W _ s4.p5)
        go_wp2_with (go_at_call 24
                     with_reducible refine Hp.out.mono ?_
                     rintro e w2 ⟨rfl, l2, s5⟩)
        go_end0
        exact ⟨rfl, l4.trans l2, x, y, net, true, o, Hinv.out, hfew, by omega, Sat.line_open.2 ⟨ov, s5.x2.eq (by ac_rfl)⟩⟩
      · have b7 : (kind == 7) = false := by simpa using c7
        by_cases c3 : kind = 3
        · subst c3
          have Hp := Lib.hid (net_drop pn net ap j (by omega) W _ s4.p5)
          clear b0 b7
          go_wp2_with (go_at_call 21
                       with_reducible refine Hp.out.mono ?_
                       rintro e w2 ⟨⟨b, rfl⟩, l2, s5⟩)
          go_end0
          exact ⟨rfl, l4.trans l2, x, y, _, ap, o, Hinv.out.sub mem_erase_sub, Nat.le_trans erase_length hfew, by omega, Sat.line_open.2 ⟨ov, s5.x2.eq (by ac_rfl)⟩⟩
        have b3 : (kind == 3) = false := by simpa using c3
        by_cases c4 : kind = 4
        · subst c4
          have Hp := Lib.hid (net_twice pn net ap j (by omega) (fun p hp => by have := pk_body Hinv.out p hp; omega) W _ s4.p5)
          clear b0 b7 b3
          go_wp2_with (go_at_call 22
                       with_reducible refine Hp.out.mono ?_
                       rintro e w2 ⟨⟨b, rfl⟩, l2, s5⟩)
          go_end0
          exact ⟨rfl, l4.trans l2, x, y, _, ap, o, Hinv.out.sub mem_twice_sub, twice_length hfew, by omega, Sat.line_open.2 ⟨ov, s5.x2.eq (by ac_rfl)⟩⟩
        have b4 : (kind == 4) = false := by simpa using c4
        by_cases c5 : kind = 5
        · subst c5
          have Hp := Lib.hid (net_back pn net ap j (by omega) W _ s4.p5)
          clear b0 b7 b3 b4
          go_wp2_with (go_at_call 23
                       with_reducible refine Hp.out.mono ?_
                       rintro e w2 ⟨⟨b, rfl⟩, l2, s5⟩)
          go_end0
          exact ⟨rfl, l4.trans l2, x, y, _, ap, o, Hinv.out.sub mem_back_sub, Nat.le_trans back_length hfew, by omega, Sat.line_open.2 ⟨ov, s5.x2.eq (by ac_rfl)⟩⟩
        have b5 : (kind == 5) = false := by simpa using c5
        by_cases c126 : kind = 1 ∨ kind = 2 ∨ kind = 6
        · clear b0 b7 b3 b4 b5
          rcases hj with ⟨hj1, rfl⟩ | hj
          · obtain rfl : net = [] := List.length_eq_zero_iff.1 hj1
            have Hp0 := net_take_none pn ap 0 W _ s4.p5
            change Calls _ _ #[_, .int .i64 0] _ _ at Hp0
            have Hp := Lib.hid Hp0
            clear Hp0
            clear hj1 c0 c7 c3 c4 c5
            rcases c126 with rfl | rfl | rfl
            all_goals
              go_wp2_with (go_at_call 19
                           with_reducible refine Hp.out.mono ?_
                           rintro e w2 ⟨rfl, l2, s5⟩)
              go_end0
              exact ⟨rfl, (l4.trans l2).alloc _, x, y, _, ap, o, Hinv.out, by simp, by omega, Sat.line_open.2 ⟨ov, ((s5.alloc _).right.x2).eq (by ac_rfl)⟩⟩
          · obtain ⟨p, hp⟩ : ∃ p, net[j]? = some p := ⟨_, List.getElem?_eq_getElem hj⟩
            have Hp := Lib.hid (net_take pn net ap j p hp (by omega) W _ s4.p5)
            have Hmem := Lib.hid (List.mem_of_getElem? hp)
            have Hc : RowKit.Hid (∀ w' bv R', Sat w' (lineAt a px py pn x y (net.eraseIdx j) ap o * (bytesSeg bv p.body * R')) → Calls Try.prog 20 #[.pointer (some ⟨a, 0, none⟩), .agg #[.int .i64 p.src, .int .i64 p.dst, bv], .bool false] w' fun e w'' => e = .returned (.tuple #[]) ∧ LineNow L1 L2 a px py pn x.now R' w' w'') :=
              Lib.hid fun w' bv R' sw => line_comes L1 L2 a px py pn x y (net.eraseIdx j) net ap o Hinv.out mem_erase_sub (Nat.le_trans erase_length hfew) p Hmem.out bv w' R' sw
            unfold pktVal at Hp
            clear hp c0 c7 c3 c4 c5
            by_cases c6 : kind = 6
            · subst c6
              obtain ⟨ub, hub, hub2⟩ : ∃ u : Nat, IntKind.u64.wrap by_ = (u : Int) ∧ u < 18446744073709551616 := by
                refine ⟨(IntKind.u64.wrap by_).toNat, ?_, ?_⟩
                · simp [IntKind.wrap, IntKind.bits, IntKind.signed]; omega
                · simp [IntKind.wrap, IntKind.bits, IntKind.signed]; omega
              have hpb := pk_body Hinv.out p Hmem.out
              obtain ⟨g, hg, hgb⟩ : ∃ g, Fit g ∧ p.body = segBytes g := by
                obtain ⟨g, hg | hg⟩ := Hinv.out.pk p Hmem.out
                · exact ⟨g, piece_fit Hinv.out hg, hg.1⟩
                · exact ⟨g, ack_fit hg, hg.1⟩
              have hpl : 10 ≤ p.body.length := by rw [hgb]; exact (segBytes_length hg).1
              obtain ⟨K, M, I, hK, hM, hI, hIl, hMp⟩ : ∃ K M I : Nat, K = ub % M ∧ 8 * ((p.body.length : Int) - 6) = (M : Int) ∧ 6 + (K : Int) / 8 = (I : Int) ∧ I < p.body.length ∧ 0 < M ∧ M < 10000 := by
                have := Nat.mod_lt ub (show 0 < 8 * (p.body.length - 6) by omega)
                exact ⟨ub % (8 * (p.body.length - 6)), 8 * (p.body.length - 6), 6 + ub % (8 * (p.body.length - 6)) / 8, rfl, by omega, by omega, by omega, by omega, by omega⟩
              have hKM : K < M := by rw [hK]; exact Nat.mod_lt _ hMp.1
              have hwM : IntKind.u64.wrap (M : Int) = (M : Int) := by rw [wraps_u64 _ (by omega) (by omega)]
              have hwK : IntKind.i64.wrap ((ub : Int) % (M : Int)) = (K : Int) := by
                rw [hK, IntKind.wrap_i64, ← Int.natCast_emod]
                have := Nat.mod_lt ub hMp.1
                omega
              have hMi : (0 : Int) < (M : Int) := by omega
              have hK0 : (0 : Int) ≤ (K : Int) := Int.natCast_nonneg _
              have hK1 : (K : Int) < 10000 := by omega
              have hI1 : (I : Int) < (p.body.length : Int) := by omega
              have hI0 : (0 : Int) ≤ (I : Int) := Int.natCast_nonneg _
              have hpl1 : 10 ≤ (p.body.length : Int) := by omega
              have hpl2 : (p.body.length : Int) ≤ 1030 := by omega
              have hKe : (ub : Int) % (M : Int) = (K : Int) := by rw [hK, Int.natCast_emod]
              have HK := Lib.hid hK
              have Hgb := Lib.hid (And.intro hg hgb)
              clear hK hMp hKM hub2 hg hgb
              go_wp2_with (go_at_call 19
                           with_reducible refine Hp.out.mono ?_
                           rintro e w2 ⟨pa, pc, rfl, l2, s5⟩
                           obtain ⟨gb, pc', hv, hpc, hpc2⟩ := (show Sat w2 (row _ _ _ _ _ * _) from s5).row_some (by omega)
                           cases hv
                           have k0 : w2.cell? ⟨w.heap.size, 0, none⟩ = some (.int .i64 6) := s5.p3.cell 0
                           have k2 : w2.cell? ⟨w.heap.size, 2, none⟩ = some (.int .i64 by_) := s5.p3.cell 2
                           have hlt : w.heap.size < w2.heap.size := s5.p3.lt)
              have s6 := s5.alloc (.cells #[.int .i64 p.src, .int .i64 p.dst, .slice (some ⟨gb, 0, none⟩) p.body.length pc] 59)
              have l6 := (l4.trans l2).alloc (.cells #[.int .i64 p.src, .int .i64 p.dst, .slice (some ⟨gb, 0, none⟩) p.body.length pc] 59)
              have q2 : (w2.alloc (.cells #[.int .i64 p.src, .int .i64 p.dst, .slice (some ⟨gb, 0, none⟩) p.body.length pc] 59)).cell? ⟨w2.heap.size, 2, none⟩ = some (.slice (some ⟨gb, 0, none⟩) p.body.length pc) := s6.cell 2
              have gI : (w2.alloc (.cells #[.int .i64 p.src, .int .i64 p.dst, .slice (some ⟨gb, 0, none⟩) p.body.length pc] 59)).cell? ⟨gb, I, none⟩ = some (.int .u8 ((p.body[I]'hIl).toNat : Int)) := by
                have q := (s6.p2.mono bytesRow_seg).byte I hIl
                rw [Nat.zero_add] at q
                exact q
              have fI : (w2.alloc (.cells #[.int .i64 p.src, .int .i64 p.dst, .slice (some ⟨gb, 0, none⟩) p.body.length pc] 59)).frozen? ⟨gb, I, none⟩ = false := (show Sat _ (row _ _ _ _ _ * _) from s6.p2).row_free I (by omega)
              have hgq : ¬ gb = w2.heap.size := by
                have := (show Sat w2 (row _ _ _ _ _ * _) from s5).row_lt
                omega
              generalize hW3 : w2.alloc (.cells #[.int .i64 p.src, .int .i64 p.dst, .slice (some ⟨gb, 0, none⟩) p.body.length pc] 59) = W3 at *
              have HW3 := Lib.hid hW3
              clear hW3 k0 k2 s5 Hp hwM hwK hMi hKe hM
              generalize hby : p.body[I]'hIl = by8 at *
              have Hby := Lib.hid hby
              clear hby
              unfold maxLen at hpc2
              have hq8 : IntKind.i64.wrap ((K : Int) / 8) = (K : Int) / 8 := by rw [IntKind.wrap_i64]; omega
              have hI2 : IntKind.i64.wrap (6 + (K : Int) / 8) = (I : Int) := by rw [IntKind.wrap_i64]; omega
              have hr8 : IntKind.i64.wrap ((K : Int) % 8) = (K : Int) % 8 := by rw [IntKind.wrap_i64]; omega
              have hE : (K : Int) % 8 = 0 ∨ (K : Int) % 8 = 1 ∨ (K : Int) % 8 = 2 ∨ (K : Int) % 8 = 3 ∨ (K : Int) % 8 = 4 ∨ (K : Int) % 8 = 5 ∨ (K : Int) % 8 = 6 ∨ (K : Int) % 8 = 7 := by omega
              obtain ⟨P2, hsh, hp1, hp2⟩ := shl_bit K hE
              obtain ⟨c8, hex, hc8⟩ := xor_bit by8 P2 hp1 hp2
              clear HK hE hr8 hp1 hp2
              have s7 := (s6.p2.bytes_set rfl I hIl c8).drew
              have l7 := (l6.setCell ⟨gb, I, none⟩ (.int .u8 (c8.toNat : Int))).drew
              have Hbad : frameGet (p.body.set I c8) = .error 21 := by
                obtain ⟨hg, hgb⟩ := Hgb.out
                have hb := Hby.out
                rw [hgb]
                refine turned_21 hg I (by have := Int.natCast_nonneg K; omega) (by rw [← hgb]; exact hIl) c8 ?_
                rw [List.getD_eq_getElem?_getD, ← hgb, List.getElem?_eq_getElem hIl, hb]
                exact hc8
              have Hc2 : RowKit.Hid (∀ w' bv R', Sat w' (lineAt a px py pn x y (net.eraseIdx j) ap o * (bytesSeg bv (p.body.set I c8) * R')) → Calls Try.prog 20 #[.pointer (some ⟨a, 0, none⟩), .agg #[.int .i64 p.src, .int .i64 p.dst, bv], .bool true] w' fun e w'' => e = .returned (.tuple #[]) ∧ Later w' w'' ∧ Sat w'' (lineAt a px py pn x y (net.eraseIdx j) ap o * R')) :=
                Lib.hid fun w' bv R' sw => line_bad a px py pn x y (net.eraseIdx j) ap o ⟨p.src, p.dst, p.body.set I c8⟩ bv Hbad (by rw [List.length_set]; omega) w' R' sw
              clear Hbad Hc hc8
              clear hI
              go_region_law (fail)
              all_goals
                clear gI fI q2 hex hsh hq8 hI2
                generalize (W3.setCell ⟨gb, I, none⟩ (.int .u8 (c8.toNat : Int))).drew = W4 at *
                have q0 : W4.cell? ⟨w2.heap.size, 0, none⟩ = some (.int .i64 p.src) := s7.p2.cell 0
                have q1 : W4.cell? ⟨w2.heap.size, 1, none⟩ = some (.int .i64 p.dst) := s7.p2.cell 1
                have q2 : W4.cell? ⟨w2.heap.size, 2, none⟩ = some (.slice (some ⟨gb, 0, none⟩) p.body.length pc) := s7.p2.cell 2
                have k0 : W4.cell? ⟨w.heap.size, 0, none⟩ = some (.int .i64 6) := s7.p4.cell 0
                have s8 : Sat W4 (lineAt a px py pn x y (net.eraseIdx j) ap o * (bytesSeg (.slice (some ⟨gb, 0, none⟩) p.body.length pc) (p.body.set I c8) * R)) := Sat.line_open.2 ⟨ov, ((s7.mono bytesRow_seg).x2.x3).eq (by ac_rfl)⟩
                go_wp2_with (go_at_call 20
                             with_reducible refine (Hc2.out _ _ _ s8).mono ?_
                             rintro e w3 ⟨rfl, l8, s9⟩)
                go_end0
                exact ⟨rfl, l7.trans l8, x, y, _, ap, o, Hinv.out.sub mem_erase_sub, Nat.le_trans erase_length hfew, by omega, s9⟩
            · have c12 : kind = 1 ∨ kind = 2 := by omega
              clear c126 c6
              rcases c12 with rfl | rfl
              all_goals
                go_wp2_with (first
                  | (go_at_call 19
                     with_reducible refine Hp.out.mono ?_
                     rintro e w2 ⟨pa, pc, rfl, l2, s5⟩
                     (first | (have k0 : w2.cell? ⟨w.heap.size, 0, none⟩ = some (.int .i64 1) := s5.p3.cell 0) | (have k0 : w2.cell? ⟨w.heap.size, 0, none⟩ = some (.int .i64 2) := s5.p3.cell 0))
                     have hlt : w.heap.size < w2.heap.size := s5.p3.lt
                     have l6 := (l4.trans l2).alloc (.cells #[.int .i64 p.src, .int .i64 p.dst, .slice pa p.body.length pc] 59)
                     have s6 : Sat (w2.alloc (.cells #[.int .i64 p.src, .int .i64 p.dst, .slice pa p.body.length pc] 59)) (lineAt a px py pn x y (net.eraseIdx j) ap o * (bytesSeg (.slice pa p.body.length pc) p.body * R)) := Sat.line_open.2 ⟨ov, (((s5.mono bytesRow_seg).alloc _).right.x3).eq (by ac_rfl)⟩)
                  | (go_at_call 20
                     with_reducible refine (Hc.out _ _ _ s6).mono ?_
                     rintro e w3 ⟨rfl, hN⟩))
                go_end0
                obtain ⟨l7, x', y', net', ap', o', r1, r2, r3, r4⟩ := hN
                exact ⟨rfl, l6.trans l7, x', y', net', ap', o', r1, r2, by omega, r4⟩
        · obtain ⟨c1, c2, c6⟩ : ¬ kind = 1 ∧ ¬ kind = 2 ∧ ¬ kind = 6 := ⟨fun e => c126 (.inl e), fun e => c126 (.inr (.inl e)), fun e => c126 (.inr (.inr e))⟩
          have b1 : (kind == 1) = false := by simpa using c1
          have b2 : (kind == 2) = false := by simpa using c2
          have b6 : (kind == 6) = false := by simpa using c6
          have Hp := Lib.hid (net_join pn net ap W _ s4.p5)
          clear c126
          go_wp2_with (go_at_call 11
                       with_reducible refine Hp.out.mono ?_
                       rintro e w2 ⟨rfl, l2, s5⟩)
          go_end0
          exact ⟨rfl, l4.trans l2, x, y, net, false, o, Hinv.out, hfew, by omega, Sat.line_open.2 ⟨ov, s5.x2.eq (by ac_rfl)⟩⟩

end Go.Proofs.Ytbphbafmchhipaa
