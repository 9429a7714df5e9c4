/-
  A net: packets come, are lost, come twice, are late.
-/
import Derived.Test.YtbphbafmchhipaaNetC
namespace Go.Proofs.Ytbphbafmchhipaa
open Go.RowKit Sea

set_option maxRecDepth 100000 in
theorem net_take (n : Nat) (l : List Pkt) (ap : Bool) (i : Nat) (p : Pkt) (hp : l[i]? = some p) (hln : l.length ≤ 4096) (w : World) (R : SA) (s : Sat w (netAt n l ap * R)) :
    Calls Try.prog 19 #[.pointer (some ⟨n, 0, none⟩), .int .i64 i] w fun e w' => ∃ a c, e = .returned (.tuple #[pktVal p (.slice a p.body.length c), .bool true]) ∧ Later w w' ∧ Sat w' (bytesRow (.slice a p.body.length c) p.body * (netAt n (l.eraseIdx i) ap * R)) := by
  have hil : i < l.length := (List.getElem?_eq_some_iff.1 hp).1
  have s1 := (s.alloc (.cells #[.int .i64 0, .int .i64 0, .slice none 0 0] 59)).p2
  have Ht := Lib.hid (net_there n l ap i _ _ s1)
  have Hc := Lib.hid (net_cut n l ap i p hp hln _ _ s1)
  have hd : decide (i < l.length) = true := by simpa using hil
  rw [hd] at Ht
  clear hd hil hp
  unfold pktVal at *
  go_enter Try.func19, Try.ntmps19
  go_wp2_with (first
    | (go_at_call 32; with_reducible refine Ht.out.mono ?_; rintro e w' ⟨rfl, rfl⟩)
    | (go_at_call 33; with_reducible refine Hc.out.mono ?_; rintro e w1 ⟨a, c, rfl, l1, s2⟩
       have r0 : w1.cell? ⟨w.heap.size, 0, none⟩ = some (.int .i64 0) := s2.p3.cell 0
       have r1 : w1.cell? ⟨w.heap.size, 1, none⟩ = some (.int .i64 0) := s2.p3.cell 1
       have r2 : w1.cell? ⟨w.heap.size, 2, none⟩ = some (.slice none 0 0) := s2.p3.cell 2
       have q0 : w1.frozen? ⟨w.heap.size, 0, none⟩ = false := s2.p3.free 0
       have q1 : w1.frozen? ⟨w.heap.size, 1, none⟩ = false := s2.p3.free 1
       have q2 : w1.frozen? ⟨w.heap.size, 2, none⟩ = false := s2.p3.free 2))
  refine bodyPost_ret (v := .tuple #[.agg #[.int .i64 p.src, .int .i64 p.dst, .slice a p.body.length c], .bool true]) (by simp [results, Try.results19, go_sem, r0, r1, r2]) rfl ⟨a, c, rfl, (((((Later.refl w).alloc _).trans l1).setCell _ _).setCell _ _).setCell _ _, ?_⟩
  exact (((s2.p3.set 0 _).set 1 _).set 2 _).right

theorem net_take_none (n : Nat) (ap : Bool) (i : Nat) (w : World) (R : SA) (s : Sat w (netAt n [] ap * R)) :
    Calls Try.prog 19 #[.pointer (some ⟨n, 0, none⟩), .int .i64 i] w fun e w' => e = .returned (.tuple #[.agg #[.int .i64 0, .int .i64 0, .slice none 0 0], .bool false]) ∧ Later w w' ∧ Sat w' (netAt n [] ap * R) := by
  have s1 := (s.alloc (.cells #[.int .i64 0, .int .i64 0, .slice none 0 0] 59)).p2
  have Ht := Lib.hid (net_there n [] ap i _ _ s1)
  have hd : decide (i < ([] : List Pkt).length) = false := by simp
  rw [hd] at Ht
  clear hd
  go_enter Try.func19, Try.ntmps19
  go_wp2_with (go_at_call 32; with_reducible refine Ht.out.mono ?_; rintro e w' ⟨rfl, rfl⟩)
  exact bodyPost_ret (v := .tuple #[.agg #[.int .i64 0, .int .i64 0, .slice none 0 0], .bool false]) (by simp [results, Try.results19, go_sem]) rfl ⟨rfl, (Later.refl w).alloc _, s1.x2⟩

/-- A packet is put behind the others. -/
theorem Sat.net_put {w : World} {n : Nat} {l : List Pkt} {ap : Bool} {c : Array Value} {lv : Value} {bs : List Value} {p : Pkt} {b V : Value} {R : SA}
    (H : c.size = 146 ∧ c[0]? = some (.int .i64 2) ∧ c[1]? = some lv ∧ c[3]? = some (.bool ap) ∧ c[14]? = some (.bool ap)) (hb : bs.length = l.length)
    (s : Sat w (SA.obj n (.cells (c.setIfInBounds 1 V) 75 (0, 0)) * (row 59 3 V (l.length + 1) (cellsOf pktEnc l bs ++ pktEnc p b) * (bodiesOf pktEl l bs * (bytesRow b p.body * R))))) :
    Sat w (netAt n (l ++ [p]) ap * R) := by
  obtain ⟨h5, h0, h1, h3, h14⟩ := H
  refine Sat.net_open.2 ⟨c.setIfInBounds 1 V, V, bs ++ [b], ⟨by simp [h5], ?_, ?_, ?_, ?_⟩, by simp [hb], ?_⟩
  · rw [set_at, if_neg (by omega), h0]
  · rw [set_at, if_pos rfl, if_pos (by omega)]
  · rw [set_at, if_neg (by omega), h3]
  · rw [set_at, if_neg (by omega), h14]
  · rw [cellsOf_append _ _ _ _ _ hb, bodiesOf_append _ _ _ _ _ hb, List.length_append]
    simp only [cellsOf, bodiesOf, List.append_nil, SA.mul_one]
    refine s.eq ?_
    unfold pktEl
    rw [SA.mul_assoc]
    rfl

theorem eraseIdx_all {l : List Pkt} {i : Nat} (h : ¬ i < l.length) : l.eraseIdx i = l := List.eraseIdx_of_length_le (by omega)

theorem net_drop (n : Nat) (l : List Pkt) (ap : Bool) (i : Nat) (hln : l.length ≤ 4096) (w : World) (R : SA) (s : Sat w (netAt n l ap * R)) :
    Calls Try.prog 21 #[.pointer (some ⟨n, 0, none⟩), .int .i64 i] w fun e w' => (∃ b, e = .returned (.bool b)) ∧ Later w w' ∧ Sat w' (netAt n (l.eraseIdx i) ap * R) := by
  have Ht := Lib.hid (net_there n l ap i _ _ s)
  by_cases hil : i < l.length
  · have hd : decide (i < l.length) = true := by simpa using hil
    obtain ⟨p, hp⟩ : ∃ p, l[i]? = some p := ⟨_, List.getElem?_eq_getElem hil⟩
    have Hc := Lib.hid (net_cut n l ap i p hp hln _ _ s)
    rw [hd] at Ht
    clear hd hil hp
    unfold pktVal at Hc
    go_enter Try.func21, Try.ntmps21
    go_wp2_with (first
      | (go_at_call 32; with_reducible refine Ht.out.mono ?_; rintro e w' ⟨rfl, rfl⟩)
      | (go_at_call 33; with_reducible refine Hc.out.mono ?_; rintro e w1 ⟨a, c, rfl, l1, s2⟩))
    go_ret
    exact ⟨⟨_, rfl⟩, l1, s2.right⟩
  · have hd : decide (i < l.length) = false := by simpa using hil
    rw [eraseIdx_all hil]
    rw [hd] at Ht
    clear hd hil
    go_enter Try.func21, Try.ntmps21
    go_wp2_with (go_at_call 32; with_reducible refine Ht.out.mono ?_; rintro e w' ⟨rfl, rfl⟩)
    go_ret
    exact ⟨⟨_, rfl⟩, Later.refl _, s⟩

set_option maxHeartbeats 1000000 in
set_option maxRecDepth 100000 in
theorem net_back (n : Nat) (l : List Pkt) (ap : Bool) (i : Nat) (hln : l.length ≤ 4096) (w : World) (R : SA) (s : Sat w (netAt n l ap * R)) :
    Calls Try.prog 23 #[.pointer (some ⟨n, 0, none⟩), .int .i64 i] w fun e w' => (∃ b, e = .returned (.bool b)) ∧ Later w w' ∧ Sat w' (netAt n (l.eraseIdx i ++ (l[i]?).toList) ap * R) := by
  have Ht := Lib.hid (net_there n l ap i _ _ s)
  by_cases hil : i < l.length
  · have hd : decide (i < l.length) = true := by simpa using hil
    have Hc := Lib.hid (net_cut n l ap i l[i] (List.getElem?_eq_getElem hil) hln _ _ s)
    rw [hd] at Ht
    have hp : l[i]? = some l[i] := List.getElem?_eq_getElem hil
    rw [hp]
    have hel : (l.eraseIdx i).length ≤ 4096 := by rw [List.length_eraseIdx]; split <;> omega
    generalize l[i] = p at Hc
    generalize l.eraseIdx i = l' at Hc hel ⊢
    clear hd hil hp
    unfold pktVal at Hc
    have hm1 : l'.length + 1 ≤ maxLen := by unfold maxLen; omega
    have hm2 : (l'.length + 1) * 40 ≤ 140737488355328 := by omega
    go_enter Try.func23, Try.ntmps23
    go_wp2_with (first
      | (go_at_call 32; with_reducible refine Ht.out.mono ?_; rintro e w' ⟨rfl, rfl⟩)
      | (go_at_call 33; with_reducible refine Hc.out.mono ?_; rintro e w1 ⟨a, bc, rfl, l1, s2⟩
         obtain ⟨c, lv, bs, H, hb, s3⟩ := Sat.net_open.1 s2.p2
         obtain ⟨la, lc, rfl, hl1, hl2, _⟩ := s3.p2.row_form
         have k1 : w1.cell? ⟨n, 1, none⟩ = some (.slice la l'.length lc) := (s3.cell 1).trans H.2.2.1
         have f1 : w1.frozen? ⟨n, 1, none⟩ = false := s3.free 1
         have hnw : n < w1.heap.size := s3.lt))
    have HH := Lib.hid H
    clear H
    have s4 := ((s3.alloc (.cells #[.int .i64 p.src, .int .i64 p.dst, .slice a p.body.length bc] 59)).alloc (.cells #[.int .i64 p.src, .int .i64 p.dst, .slice a p.body.length bc] 59)).drew
    rw [alloc_size] at s4
    go_region_law
      (first
        | (refine step_append (by rfl) _ _ _ (by rfl) 59 3 40 info_pkt Try.underlying71 (by rfl) (by omega) l'.length 1 (cellsOf pktEnc l' bs) [.int .i64 p.src, .int .i64 p.dst, .slice a p.body.length bc] (by rfl) (by rfl) s4.p4 (s4.made (n := 1) (sz := 3) rfl max1).as_seg (one_pkt _ _ _ _ _) hm1 hm2 ?_
           intro a4 c4 w4 s5 l5
           have k6 : w4.cell? ⟨n, 1, none⟩ = some (.slice la l'.length lc) := (s5.p4.cell 1).trans HH.out.2.2.1
           have f6 : w4.frozen? ⟨n, 1, none⟩ = false := s5.p4.free 1))
    go_ways
    all_goals
      go_wp2
      go_ret
      refine ⟨⟨_, rfl⟩, (((((l1.alloc _).alloc _).drew).trans l5).setCell _ _), ?_⟩
      have s6 := (s5.p4.set 1 (.slice a4 (l'.length + 1) c4)).x3.x3
      exact Sat.net_put HH.out hb s6
  · have hd : decide (i < l.length) = false := by simpa using hil
    rw [eraseIdx_all hil, List.getElem?_eq_none (by omega), Option.toList_none, List.append_nil]
    rw [hd] at Ht
    clear hd hil
    go_enter Try.func23, Try.ntmps23
    go_wp2_with (go_at_call 32; with_reducible refine Ht.out.mono ?_; rintro e w' ⟨rfl, rfl⟩)
    go_ret
    exact ⟨⟨_, rfl⟩, Later.refl _, s⟩

end Go.Proofs.Ytbphbafmchhipaa
