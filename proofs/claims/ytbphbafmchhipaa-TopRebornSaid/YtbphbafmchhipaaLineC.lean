/-
  A packet comes to a line.
-/
import Derived.Test.YtbphbafmchhipaaLineB
import Derived.Test.YtbphbafmchhipaaSndF
import Derived.Test.YtbphbafmchhipaaCmp
namespace Go.Proofs.Ytbphbafmchhipaa
open Go.RowKit Sea

set_option maxHeartbeats 700000 in
set_option maxRecDepth 100000 in
/-- A packet one of whose bits was turned. -/
theorem line_bad (a px py pn : Nat) (x : Snd) (y : Rcv) (net : List Pkt) (ap : Bool) (o : List B) (p : Pkt) (bv : Value) (hg : frameGet p.body = .error 21) (hsm : p.body.length ≤ 4096) (w : World) (R : SA) (s : Sat w (lineAt a px py pn x y net ap o * (bytesSeg bv p.body * R))) :
    Calls Try.prog 20 #[.pointer (some ⟨a, 0, none⟩), pktVal p bv, .bool true] w fun e w' => e = .returned (.tuple #[]) ∧ Later w w' ∧ Sat w' (lineAt a px py pn x y net ap o * R) := by
  obtain ⟨ov, s⟩ := Sat.line_open.1 s
  obtain ⟨src, dst, body⟩ := p
  dsimp only at *
  have s1 := s.alloc (.cells #[.int .i64 src, .int .i64 dst, bv] 59)
  have Hp := Lib.hid (parse_bad bv body _ _ s1.p7 hsm hg)
  clear hg
  obtain ⟨ba, bc, rfl, _⟩ := (show Sat w (seg _ _ _ _ _ * _) from s.p6).seg_form
  unfold pktVal
  dsimp only
  go_enter Try.func20, Try.ntmps20
  go_wp2_with (go_at_call 28
               with_reducible refine Hp.out.mono ?_
               rintro e w1 ⟨rfl, l1, s2⟩
               have n4 : w1.cell? ⟨a, 4, none⟩ = some (.bool false) := s2.p3.cell 4
               have f4 : w1.frozen? ⟨a, 4, none⟩ = false := s2.p3.free 4
               have hlt : a < w1.heap.size := s2.p3.lt)
  refine bodyPost_ret (v := .tuple #[]) (by simp [results, Try.results20, go_sem]) rfl ?_
  refine ⟨rfl, (((Later.refl w).alloc _).trans l1 |>.setCell _ _).alloc _, Sat.line_open.2 ⟨ov, ?_⟩⟩
  exact (((s2.p3.set 4 (.bool false)).alloc _).right.x3.x2).eq (by unfold lineCells; ac_rfl)

set_option maxHeartbeats 1000000 in
set_option maxRecDepth 100000 in
/-- An answer comes. -/
theorem line_ack (a px py pn : Nat) (x : Snd) (y : Rcv) (net : List Pkt) (ap : Bool) (o : List B) (sl sq : Nat) (bv : Value) (hf : Fit ⟨sl, sq, true, []⟩) (hl : x.l.length ≤ 4096) (hok : sl = x.life → sq ≤ x.acked + x.l.length) (h0 : (x.hear ⟨sl, sq, true, []⟩).2 = 0)
    (w : World) (R : SA) (s : Sat w (lineAt a px py pn x y net ap o * (bytesSeg bv (segBytes ⟨sl, sq, true, []⟩) * R))) :
    Calls Try.prog 20 #[.pointer (some ⟨a, 0, none⟩), .agg #[.int .i64 1, .int .i64 0, bv], .bool false] w fun e w' => e = .returned (.tuple #[]) ∧ Later w w' ∧ Sat w' (lineAt a px py pn (x.hear ⟨sl, sq, true, []⟩).1 y net ap o * R) := by
  obtain ⟨ov, s⟩ := Sat.line_open.1 s
  have s1 := s.alloc (.cells #[.int .i64 1, .int .i64 0, bv] 59)
  have Hp := Lib.hid (parse_oktrue sl sq [] bv _ _ s1.p7 hf)
  obtain ⟨ba, bc, rfl, _⟩ := (show Sat w (seg _ _ _ _ _ * _) from s.p6).seg_form
  generalize hbody : segBytes ⟨sl, sq, true, []⟩ = body at *
  clear hbody
  have Hh := Lib.hid fun bv' w' R' sw => snd_hear px x sl sq bv' hf.1 hok hl hf.2.2 w' R' sw
  rw [h0] at Hh
  generalize (x.hear ⟨sl, sq, true, []⟩).1 = x' at *
  clear h0 hok hl hf
  go_enter Try.func20, Try.ntmps20
  go_wp2_with (go_at_call 28
               with_reducible refine Hp.out.mono ?_
               rintro e w1 ⟨bv', rfl, l1, s2⟩
               obtain ⟨ba', bc', rfl, _⟩ := (show Sat w1 (seg _ _ _ _ _ * _) from s2).seg_form
               simp only [List.length_nil] at s2
               have n4 : w1.cell? ⟨a, 4, none⟩ = some (.bool false) := s2.p4.cell 4
               have f4 : w1.frozen? ⟨a, 4, none⟩ = false := s2.p4.free 4
               have n0 : w1.cell? ⟨a, 0, none⟩ = some (.pointer (some ⟨px, 0, none⟩)) := s2.p4.cell 0
               have m1 : w1.cell? ⟨w.heap.size, 1, none⟩ = some (.int .i64 0) := s2.p3.cell 1
               have hlt : a < w1.heap.size := s2.p4.lt
               have hlt2 : w.heap.size < w1.heap.size := s2.p3.lt)
  have s3 := (s2.p4.set 4 (.bool false)).alloc (.cells #[.int .u64 sl, .int .u64 sq, .bool true, .slice ba' 0 bc'] 70)
  rw [size_set] at s3
  have l3 : Later w ((w1.setCell ⟨a, 4, none⟩ (.bool false)).alloc (.cells #[.int .u64 sl, .int .u64 sq, .bool true, .slice ba' 0 bc'] 70)) := ((((Later.refl w).alloc _).trans l1).setCell _ _).alloc _
  clear n4 f4 n0 m1 hlt hlt2
  generalize (w1.setCell ⟨a, 4, none⟩ (.bool false)).alloc (.cells #[.int .u64 sl, .int .u64 sq, .bool true, .slice ba' 0 bc'] 70) = W at s3 l3 ⊢
  have n4 : W.cell? ⟨a, 4, none⟩ = some (.bool false) := s3.p2.cell 4
  have n0 : W.cell? ⟨a, 0, none⟩ = some (.pointer (some ⟨px, 0, none⟩)) := s3.p2.cell 0
  have m0 : W.cell? ⟨w1.heap.size, 0, none⟩ = some (.int .u64 sl) := s3.cell 0
  have m1 : W.cell? ⟨w1.heap.size, 1, none⟩ = some (.int .u64 sq) := s3.cell 1
  have m2 : W.cell? ⟨w1.heap.size, 2, none⟩ = some (.bool true) := s3.cell 2
  have m3 : W.cell? ⟨w1.heap.size, 3, none⟩ = some (.slice ba' 0 bc') := s3.cell 3
  go_region_law
    ((go_simp
      go_at_call 29
      with_reducible refine (Hh.out _ _ _ (s3.drew.p6.p4.p2)).mono ?_
      rintro e w2 ⟨rfl, l2, s4⟩
      have f4 : w2.frozen? ⟨a, 4, none⟩ = false := s4.p4.free 4
      have n4 : w2.cell? ⟨a, 4, none⟩ = some (.bool false) := s4.p4.cell 4))
  all_goals
    go_wp2
    refine bodyPost_ret (v := .tuple #[]) (by simp [results, Try.results20, go_sem]) rfl ?_
    refine ⟨rfl, ((l3.drew.trans l2).setCell _ _), Sat.line_open.2 ⟨ov, ?_⟩⟩
    exact ((s4.p4.set 4 (.bool false)).x3.x3.x3.x3).eq (by unfold lineCells; ac_rfl)

theorem nil_seg : bytesSeg (.slice none 0 0) [] = SA.one := by
  funext h
  apply propext
  constructor
  · rintro ⟨_, ⟨_, _, r⟩ | ⟨g, off, cap, cur, a, _⟩⟩
    · exact r
    · cases a
  · intro r; exact ⟨by simp [bts], .inl ⟨rfl, rfl, r⟩⟩
theorem outCells_one {l : List B} {bs : List Value} {w : World} {R : SA} (hb : bs.length = l.length) (s : Sat w (bodiesOf outEl l bs * R)) : ∀ u ∈ cellsOf outEnc l bs, u.oneCell' = true := by
  induction l generalizing bs R with
  | nil => intro u hu; rw [cellsOf_nil] at hu; cases hu
  | cons x l ih =>
    cases bs with
    | nil => cases hb
    | cons b bs =>
      intro u hu
      simp only [bodiesOf, SA.mul_assoc] at s
      simp only [cellsOf, List.mem_append] at hu
      rcases hu with hu | hu
      · simp only [outEnc, List.mem_cons, List.not_mem_nil, or_false] at hu
        rcases hu with rfl
        obtain ⟨a, c, h, _⟩ := (show Sat w (row _ _ _ _ _ * _) from s).row_form
        rw [h]; rfl
      · exact ih (by simpa using hb) s.right u hu
theorem Sat.out_join {w : World} {V : Value} {o l : List B} {bs cs : List Value} {R : SA} (hb : bs.length = o.length) (hc : cs.length = l.length)
    (s : Sat w (row 25 1 V (o.length + l.length) (cellsOf outEnc o bs ++ cellsOf outEnc l cs) * (bodiesOf outEl o bs * (bodiesOf outEl l cs * R)))) : Sat w (outAt V (o ++ l) * R) := by
  refine Sat.recs_open.2 ⟨bs ++ cs, by simp [hb, hc], ?_⟩
  rw [cellsOf_append _ _ _ _ _ hb, bodiesOf_append _ _ _ _ _ hb, List.length_append, SA.mul_assoc]
  exact s

set_option maxHeartbeats 1000000 in
set_option maxRecDepth 100000 in
/-- A piece comes. -/
theorem line_piece (a px py pn : Nat) (x : Snd) (y : Rcv) (net : List Pkt) (ap : Bool) (o : List B) (life seq : Nat) (body : B) (bv : Value) (hf : Fit ⟨life, seq, false, body⟩) (hlife : ¬ life < y.life) (hx2 : seq < 1000000) (hy1 : y.got < 1000000) (hy2 : y.window ≤ 64) (hy3 : y.m.length ≤ 4096)
    (al aq : Nat) (hA : (y.hear ⟨life, seq, false, body⟩).2.2.1 = ⟨al, aq, true, []⟩) (hAf : Fit ⟨al, aq, true, []⟩) (hlen : o.length + (y.hear ⟨life, seq, false, body⟩).2.1.length ≤ 4096)
    (w : World) (R : SA) (s : Sat w (lineAt a px py pn x y net ap o * (bytesSeg bv (segBytes ⟨life, seq, false, body⟩) * R))) :
    Calls Try.prog 20 #[.pointer (some ⟨a, 0, none⟩), .agg #[.int .i64 0, .int .i64 1, bv], .bool false] w fun e w' => e = .returned (.tuple #[]) ∧ Later w w' ∧
      Sat w' (lineAt a px py pn x (y.hear ⟨life, seq, false, body⟩).1 (send ap net ⟨1, 0, segBytes ⟨al, aq, true, []⟩⟩) ap (o ++ (y.hear ⟨life, seq, false, body⟩).2.1) * R) := by
  obtain ⟨ov, s⟩ := Sat.line_open.1 s
  have s1 := s.alloc (.cells #[.int .i64 0, .int .i64 1, bv] 59)
  have Hp := Lib.hid (parse_okfalse life seq body bv _ _ s1.p7 hf)
  obtain ⟨ba, bc, rfl, _⟩ := (show Sat w (seg _ _ _ _ _ * _) from s.p6).seg_form
  generalize hbody : segBytes ⟨life, seq, false, body⟩ = pb at *
  clear hbody
  have Hh0 := fun bv' w' R' sw => rcv_hear py y ⟨life, seq, false, body⟩ bv' hf.1 rfl hlife hf.2.1 hx2 hy1 hy2 hy3 w' R' sw
  rw [hA] at Hh0
  dsimp only [segVal] at Hh0
  have Hh := Lib.hid Hh0
  clear Hh0 hA hf hlife hx2 hy1 hy2 hy3
  generalize (y.hear ⟨life, seq, false, body⟩).1 = y' at *
  generalize (y.hear ⟨life, seq, false, body⟩).2.1 = lo at *
  have Hs : RowKit.Hid (∀ w' R', Sat w' (lineAt a px py pn x y' net ap (o ++ lo) * R') → Calls Try.prog 27 #[.pointer (some ⟨a, 0, none⟩), .agg #[.int .u64 al, .int .u64 aq, .bool true, .slice none 0 0], .int .i64 1] w' fun e w'' => e = .returned (.tuple #[]) ∧ Later w' w'' ∧ Sat w'' (lineAt a px py pn x y' (send ap net ⟨1, 0, segBytes ⟨al, aq, true, []⟩⟩) ap (o ++ lo) * R')) := by
    refine Lib.hid fun w' R' sw => ?_
    have h := line_sends1 a px py pn x y' net ap (o ++ lo) ⟨al, aq, true, []⟩ (.slice none 0 0) hAf w' R' (by rw [nil_seg, SA.one_mul]; exact sw)
    dsimp only [segVal] at h
    rw [nil_seg, SA.one_mul] at h
    exact h
  clear hAf
  go_enter Try.func20, Try.ntmps20
  go_wp2_with (go_at_call 28
               with_reducible refine Hp.out.mono ?_
               rintro e w1 ⟨bv', rfl, l1, s2⟩
               obtain ⟨ba', bc', rfl, _⟩ := (show Sat w1 (seg _ _ _ _ _ * _) from s2).seg_form
               have n4 : w1.cell? ⟨a, 4, none⟩ = some (.bool false) := s2.p4.cell 4
               have f4 : w1.frozen? ⟨a, 4, none⟩ = false := s2.p4.free 4
               have n1 : w1.cell? ⟨a, 1, none⟩ = some (.pointer (some ⟨py, 0, none⟩)) := s2.p4.cell 1
               have m1 : w1.cell? ⟨w.heap.size, 1, none⟩ = some (.int .i64 1) := s2.p3.cell 1
               have hlt : a < w1.heap.size := s2.p4.lt
               have hlt2 : w.heap.size < w1.heap.size := s2.p3.lt)
  have s3 := (s2.p4.set 4 (.bool false)).alloc (.cells #[.int .u64 life, .int .u64 seq, .bool false, .slice ba' body.length bc'] 70)
  rw [size_set] at s3
  have l3 : Later w ((w1.setCell ⟨a, 4, none⟩ (.bool false)).alloc (.cells #[.int .u64 life, .int .u64 seq, .bool false, .slice ba' body.length bc'] 70)) := ((((Later.refl w).alloc _).trans l1).setCell _ _).alloc _
  clear n4 f4 n1 m1 hlt hlt2
  generalize (w1.setCell ⟨a, 4, none⟩ (.bool false)).alloc (.cells #[.int .u64 life, .int .u64 seq, .bool false, .slice ba' body.length bc'] 70) = W at s3 l3 ⊢
  have n1 : W.cell? ⟨a, 1, none⟩ = some (.pointer (some ⟨py, 0, none⟩)) := s3.p2.cell 1
  have m0 : W.cell? ⟨w1.heap.size, 0, none⟩ = some (.int .u64 life) := s3.cell 0
  have m1 : W.cell? ⟨w1.heap.size, 1, none⟩ = some (.int .u64 seq) := s3.cell 1
  have m2 : W.cell? ⟨w1.heap.size, 2, none⟩ = some (.bool false) := s3.cell 2
  have m3 : W.cell? ⟨w1.heap.size, 3, none⟩ = some (.slice ba' body.length bc') := s3.cell 3
  have nn1 := World.new_ne W _ n1
  have nm0 := World.new_ne W _ m0
  go_upto_region 7 with fail
  go_cut [8, 9, 10] (fun x8 x9 x10 wx => ∃ (va : Option Addr) (vc : Nat) (q : Nat), x8 = .slice va lo.length vc ∧ x9 = .pointer (some ⟨q, 0, none⟩) ∧ x10 = .int .i64 0 ∧ Later w wx ∧ Sat wx (SA.obj q (.cells #[.int .u64 al, .int .u64 aq, .bool true, .slice none 0 0] 70 (0, 0)) *
    (rcvAt py y' * (outAt (.slice va lo.length vc) lo * (SA.obj a (.cells (lineCells px py pn ov) 41 (0, 0)) * (senderAt px x * (netAt pn net ap * (outAt ov o * R))))))))
  case first =>
    go_region_held3 (fun w' => w'.cell? ⟨a, 1, none⟩ = some (.pointer (some ⟨py, 0, none⟩)) ∧ w'.cell? ⟨w1.heap.size, 0, none⟩ = some (.int .u64 life) ∧ w'.cell? ⟨w1.heap.size, 1, none⟩ = some (.int .u64 seq) ∧ w'.cell? ⟨w1.heap.size, 2, none⟩ = some (.bool false) ∧ w'.cell? ⟨w1.heap.size, 3, none⟩ = some (.slice ba' body.length bc'))
      (first | go_keep | exact ⟨n1, m0, m1, m2, m3⟩ | exact ⟨o1, o2, o3, o4, o5⟩)
      (first
        | (go_at_call 31
           with_reducible refine (Hh.out _ _ _ (s3.drew.p7.p4.p2)).mono ?_
           rintro e w2 ⟨v, rfl, l2, s4⟩
           obtain ⟨va, vc, rfl⟩ : ∃ a c, v = .slice a lo.length c := by
             rcases s4.p2.out_rd with ⟨⟨a', h⟩, h2⟩ | ⟨g, o, cap, h, _⟩
             · exact ⟨a', 0, by rw [h, h2]; rfl⟩
             · exact ⟨_, _, h⟩
           have n1 : w2.cell? ⟨a, 1, none⟩ = some (.pointer (some ⟨py, 0, none⟩)) := s4.p5.cell 1
           have m0 : w2.cell? ⟨w1.heap.size, 0, none⟩ = some (.int .u64 life) := s4.p4.cell 0
           have m1 : w2.cell? ⟨w1.heap.size, 1, none⟩ = some (.int .u64 seq) := s4.p4.cell 1
           have m2 : w2.cell? ⟨w1.heap.size, 2, none⟩ = some (.bool false) := s4.p4.cell 2
           have m3 : w2.cell? ⟨w1.heap.size, 3, none⟩ = some (.slice ba' body.length bc') := s4.p4.cell 3
           have nn2 := World.new_ne w2 _ n1
           have nm2 := World.new_ne w2 _ m0
           have lF := ((l3.drew.trans l2).alloc (.cells #[.int .u64 al, .int .u64 aq, .bool true, .slice none 0 0] 70))
           have sF := (s4.alloc (.cells #[.int .u64 al, .int .u64 aq, .bool true, .slice none 0 0] 70)))
        | (go_at_call 31
           with_reducible refine (Hh.out _ _ _ ((s3.alloc _).drew.p8.p5.p2)).mono ?_
           rintro e w2 ⟨v, rfl, l2, s4⟩
           obtain ⟨va, vc, rfl⟩ : ∃ a c, v = .slice a lo.length c := by
             rcases s4.p2.out_rd with ⟨⟨a', h⟩, h2⟩ | ⟨g, o, cap, h, _⟩
             · exact ⟨a', 0, by rw [h, h2]; rfl⟩
             · exact ⟨_, _, h⟩
           have n1 : w2.cell? ⟨a, 1, none⟩ = some (.pointer (some ⟨py, 0, none⟩)) := s4.p6.cell 1
           have m0 : w2.cell? ⟨w1.heap.size, 0, none⟩ = some (.int .u64 life) := s4.p5.cell 0
           have m1 : w2.cell? ⟨w1.heap.size, 1, none⟩ = some (.int .u64 seq) := s4.p5.cell 1
           have m2 : w2.cell? ⟨w1.heap.size, 2, none⟩ = some (.bool false) := s4.p5.cell 2
           have m3 : w2.cell? ⟨w1.heap.size, 3, none⟩ = some (.slice ba' body.length bc') := s4.p5.cell 3
           have z0 : w2.cell? ⟨W.heap.size, 0, none⟩ = some (.int .u64 0) := s4.p4.cell 0
           have z1 : w2.cell? ⟨W.heap.size, 1, none⟩ = some (.int .u64 0) := s4.p4.cell 1
           have z2 : w2.cell? ⟨W.heap.size, 2, none⟩ = some (.bool false) := s4.p4.cell 2
           have z3 : w2.cell? ⟨W.heap.size, 3, none⟩ = some (.slice none 0 0) := s4.p4.cell 3
           have zf0 : w2.frozen? ⟨W.heap.size, 0, none⟩ = false := s4.p4.free 0
           have zf1 : w2.frozen? ⟨W.heap.size, 1, none⟩ = false := s4.p4.free 1
           have zf2 : w2.frozen? ⟨W.heap.size, 2, none⟩ = false := s4.p4.free 2
           have zf3 : w2.frozen? ⟨W.heap.size, 3, none⟩ = false := s4.p4.free 3
           have zz := s4.p4.p5.ne
           have zy := s4.p4.p6.ne
           have lF := (((((l3.alloc (.cells #[.int .u64 0, .int .u64 0, .bool false, .slice none 0 0] 70)).drew.trans l2).setCell ⟨W.heap.size, 0, none⟩ (.int .u64 al)).setCell ⟨W.heap.size, 1, none⟩ (.int .u64 aq)).setCell ⟨W.heap.size, 2, none⟩ (.bool true)).setCell ⟨W.heap.size, 3, none⟩ (.slice none 0 0)
           have sF := ((((s4.p4.set 0 (.int .u64 al)).set 1 (.int .u64 aq)).set 2 (.bool true)).set 3 (.slice none 0 0))))
    all_goals
      go_wp2_with fail
      go_meet
      refine ⟨va, vc, _, rfl, rfl, rfl, lF, ?_⟩
      exact (sF.x4.x4.x5.x5).eq (by unfold lineCells; ac_rfl)
  case rest =>
    obtain ⟨va, vc, q, rfl, rfl, rfl, l5, s5⟩ := hcut
    clear n1 m0 m1 m2 m3 nn1 nm0 s3 l3 s2 l1 s1
    obtain ⟨cs, hcs, s6⟩ := Sat.recs_open.1 (show Sat wc (recs _ _ _ _ _ _ * _) from s5.p3)
    obtain ⟨bs, hbs, s7⟩ := Sat.recs_open.1 (show Sat wc (recs _ _ _ _ _ _ * _) from s6.p8)
    obtain ⟨oa, oc, rfl, _⟩ := s7.row_form
    have n3 : wc.cell? ⟨a, 3, none⟩ = some (.slice oa o.length oc) := s7.p7.cell 3
    have n4 : wc.cell? ⟨a, 4, none⟩ = some (.bool false) := s7.p7.cell 4
    have Hone := Lib.hid (outCells_one hcs s7.p4)
    have hm1 : o.length + lo.length ≤ maxLen := by unfold maxLen; omega
    have hm2 : (o.length + lo.length) * 24 ≤ 140737488355328 := by omega
    have Hbs := Lib.hid (And.intro hbs hcs)
    clear hbs hcs s5 s6
    go_wp2_with (first
      | (refine wpList_append (by rfl) _ _ _ (by rfl) 25 1 24 info_bytes Try.underlying22 (by rfl) (by omega) o.length lo.length (cellsOf outEnc o bs) (cellsOf outEnc lo cs) (by rfl) (by rfl) s7 s7.p3.as_seg Hone.out hm1 hm2 ?_
         intro a8 c8 w8 s8 l8
         have n4 : w8.cell? ⟨a, 4, none⟩ = some (.bool false) := s8.p7.cell 4
         have f3 : w8.frozen? ⟨a, 3, none⟩ = false := s8.p7.free 3
         have f4 : w8.frozen? ⟨a, 4, none⟩ = false := s8.p7.free 4
         have k3 : w8.cell? ⟨a, 3, none⟩ = some (.slice oa o.length oc) := s8.p7.cell 3
         have t0 : w8.cell? ⟨q, 0, none⟩ = some (.int .u64 al) := s8.p5.cell 0
         have t1 : w8.cell? ⟨q, 1, none⟩ = some (.int .u64 aq) := s8.p5.cell 1
         have t2 : w8.cell? ⟨q, 2, none⟩ = some (.bool true) := s8.p5.cell 2
         have t3 : w8.cell? ⟨q, 3, none⟩ = some (.slice none 0 0) := s8.p5.cell 3
         have hqa : ¬ q = a := s8.p7.p6.ne
         have sF : Sat ((w8.setCell ⟨a, 3, none⟩ (.slice a8 (o.length + lo.length) c8)).setCell ⟨a, 4, none⟩ (.bool false)) (lineAt a px py pn x y' net ap (o ++ lo) * R) :=
           Sat.line_open.2 ⟨.slice a8 (o.length + lo.length) c8, (Sat.out_join Hbs.out.1 Hbs.out.2 (((s8.p7.set 3 (.slice a8 (o.length + lo.length) c8)).set 4 (.bool false)).x4.x5.p4.p4.p4)).eq (by unfold lineCells; ac_rfl)⟩
         have lF := ((l5.trans l8).setCell ⟨a, 3, none⟩ (.slice a8 (o.length + lo.length) c8)).setCell ⟨a, 4, none⟩ (.bool false))
      | (go_at_call 27
         with_reducible refine (Hs.out _ _ sF).mono ?_
         rintro e w9 ⟨rfl, l9, s9⟩))
    go_end0
    exact ⟨rfl, lF.trans l9, s9⟩

end Go.Proofs.Ytbphbafmchhipaa
