/-
  A net: who is parted; a packet is sent.
-/
import Derived.Test.YtbphbafmchhipaaNetA
import Derived.RegionTactic
import Derived.ChangeAlike
import Derived.BigRegion
namespace Go.Proofs.Ytbphbafmchhipaa
open Go.RowKit Sea

theorem set_at (c : Array Value) (i j : Nat) (v : Value) : (c.setIfInBounds i v)[j]? = if i = j then (if i < c.size then some v else none) else c[j]? := by
  rw [Array.getElem?_setIfInBounds]

set_option maxHeartbeats 1000000 in
set_option maxRecDepth 100000 in
theorem net_set (n : Nat) (l : List Pkt) (ap ap' : Bool) (w : World) (R : SA) (s : Sat w (netAt n l ap * R)) :
    Calls Try.prog 25 #[.pointer (some ⟨n, 0, none⟩), .int .i64 0, .int .i64 1, .bool ap'] w fun e w' => e = .returned (.int .i64 0) ∧ Later w w' ∧ Sat w' (netAt n l ap' * R) := by
  obtain ⟨c, lv, bs, ⟨h5, h0, h1, h3, h14⟩, hb, s⟩ := Sat.net_open.1 s
  have c0 : w.cell? ⟨n, 0, none⟩ = some (.int .i64 2) := (s.cell 0).trans h0
  have c3 : w.cell? ⟨n, 3, none⟩ = some (.bool ap) := (s.cell 3).trans h3
  have c14 : w.cell? ⟨n, 14, none⟩ = some (.bool ap) := (s.cell 14).trans h14
  have f3 : w.frozen? ⟨n, 3, none⟩ = false := s.free 3
  have f14 : w.frozen? ⟨n, 14, none⟩ = false := s.free 14
  have H := Lib.hid (And.intro h5 (And.intro h0 (And.intro h1 (And.intro h3 h14))))
  clear h5 h0 h1 h3 h14
  have Hi0 : RowKit.Hid (∀ w, w.cell? ⟨n, 0, none⟩ = some (.int .i64 2) → Calls Try.prog 35 #[.pointer (some ⟨n, 0, none⟩), .int .i64 0] w fun e w' => e = .returned (.bool true) ∧ w = w') := Lib.hid fun w h => net_is n 0 (.inl rfl) w h
  have Hi1 : RowKit.Hid (∀ w, w.cell? ⟨n, 0, none⟩ = some (.int .i64 2) → Calls Try.prog 35 #[.pointer (some ⟨n, 0, none⟩), .int .i64 1] w fun e w' => e = .returned (.bool true) ∧ w = w') := Lib.hid fun w h => net_is n 1 (.inr rfl) w h
  go_enter Try.func25, Try.ntmps25
  go_wp2_with (first
    | (go_at_call 35; with_reducible refine (Hi0.out _ c0).mono ?_; rintro e w' ⟨rfl, rfl⟩)
    | (go_at_call 35; with_reducible refine (Hi1.out _ c0).mono ?_; rintro e w' ⟨rfl, rfl⟩))
  go_region
  go_wp2
  go_ret
  refine ⟨rfl, (((Later.refl w).setCell _ _).setCell _ _).drew, ?_⟩
  obtain ⟨h5, h0, h1, h3, h14⟩ := H.out
  refine Sat.net_open.2 ⟨(c.setIfInBounds 3 (.bool ap')).setIfInBounds 14 (.bool ap'), lv, bs, ?_, hb, ((s.set 3 _).set 14 _).drew⟩
  refine ⟨by simp [h5], ?_, ?_, ?_, ?_⟩
  · rw [set_at, set_at, if_neg (by omega), if_neg (by omega), h0]
  · rw [set_at, set_at, if_neg (by omega), if_neg (by omega), h1]
  · rw [set_at, set_at, if_neg (by omega), if_pos rfl, if_pos (by omega)]
  · rw [set_at, if_pos rfl, if_pos (by simp [h5])]

theorem net_part (n : Nat) (l : List Pkt) (ap : Bool) (w : World) (R : SA) (s : Sat w (netAt n l ap * R)) :
    Calls Try.prog 24 #[.pointer (some ⟨n, 0, none⟩), .int .i64 0, .int .i64 1] w fun e w' => e = .returned (.int .i64 0) ∧ Later w w' ∧ Sat w' (netAt n l true * R) := by
  have H := Lib.hid (net_set n l ap true w R s)
  go_enter Try.func24, Try.ntmps24
  go_wp2_with (go_at_call 25; refine H.out.mono ?_; rintro e w' ⟨rfl, l', s'⟩)
  go_ret
  exact ⟨rfl, l', s'⟩
theorem net_join (n : Nat) (l : List Pkt) (ap : Bool) (w : World) (R : SA) (s : Sat w (netAt n l ap * R)) :
    Calls Try.prog 11 #[.pointer (some ⟨n, 0, none⟩), .int .i64 0, .int .i64 1] w fun e w' => e = .returned (.int .i64 0) ∧ Later w w' ∧ Sat w' (netAt n l false * R) := by
  have H := Lib.hid (net_set n l ap false w R s)
  go_enter Try.func11, Try.ntmps11
  go_wp2_with (go_at_call 25; refine H.out.mono ?_; rintro e w' ⟨rfl, l', s'⟩)
  go_ret
  exact ⟨rfl, l', s'⟩

theorem one_pkt (s d : Int) (a : Option Addr) (n c : Nat) : ∀ u ∈ [Value.int .i64 s, .int .i64 d, .slice a n c], u.oneCell' = true := by
  intro u hu
  simp only [List.mem_cons, List.not_mem_nil, or_false] at hu
  rcases hu with rfl | rfl | rfl <;> rfl

set_option maxHeartbeats 1000000 in
set_option maxRecDepth 100000 in
theorem net_send0 (n : Nat) (l : List Pkt) (ap : Bool) (body : B) (bv : Value) (w : World) (R : SA) (s : Sat w (netAt n l ap * (bytesSeg bv body * R))) (hpb : body.length ≤ 1200) :
    Calls Try.prog 37 #[.pointer (some ⟨n, 0, none⟩), .agg #[.int .i64 0, .int .i64 1, bv]] w fun e w' => (∃ k : Int, e = .returned (.int .i64 k)) ∧ Later w w' ∧ Sat w' (netAt n (send ap l ⟨0, 1, body⟩) ap * (bytesSeg bv body * R)) := by
  have hpb' : body.length ≤ 4096 := by omega
  obtain ⟨a, cap, rfl, q1, q2, _⟩ := (s.p2.seg_form : _)
  obtain ⟨c, lv, bs, ⟨h5, h0, h1, h3, h14⟩, hb, s⟩ := Sat.net_open.1 s
  obtain ⟨la, lc, rfl, hl1, hl2, _⟩ := s.p2.row_form
  have s1 := s.alloc (.cells #[.int .i64 0, .int .i64 1, .slice a body.length cap] 59)
  have c1 : w.cell? ⟨n, 1, none⟩ = some (.slice la l.length lc) := (s.cell 1).trans h1
  have ck : w.cell? ⟨n, 3, none⟩ = some (.bool ap) := (s.cell 3).trans h3
  have hn : n < w.heap.size := s.lt
  have H := Lib.hid (And.intro h5 (And.intro h0 (And.intro h1 (And.intro h3 h14))))
  clear h5 h0 h1 h3 h14
  have Hi0 : RowKit.Hid (∀ w, w.cell? ⟨n, 0, none⟩ = some (.int .i64 2) → Calls Try.prog 35 #[.pointer (some ⟨n, 0, none⟩), .int .i64 0] w fun e w' => e = .returned (.bool true) ∧ w = w') := Lib.hid fun w h => net_is n 0 (.inl rfl) w h
  have Hi1 : RowKit.Hid (∀ w, w.cell? ⟨n, 0, none⟩ = some (.int .i64 2) → Calls Try.prog 35 #[.pointer (some ⟨n, 0, none⟩), .int .i64 1] w fun e w' => e = .returned (.bool true) ∧ w = w') := Lib.hid fun w h => net_is n 1 (.inr rfl) w h
  have cW : (w.alloc (.cells #[.int .i64 0, .int .i64 1, .slice a body.length cap] 59)).cell? ⟨n, 0, none⟩ = some (.int .i64 2) := (s1.p2.cell 0).trans H.out.2.1
  have HW := Lib.hid cW
  clear cW
  have Ho : RowKit.Hid (∀ w' R', Sat w' (bytesSeg (.slice a body.length cap) body * R') → Calls Try.prog 34 #[.agg #[.int .i64 0, .int .i64 1, .slice a body.length cap]] w' fun e w'' => ∃ a' c', e = .returned (.agg #[.int .i64 0, .int .i64 1, .slice a' body.length c']) ∧ Later w' w'' ∧ Sat w'' (bytesRow (.slice a' body.length c') body * (bytesSeg (.slice a body.length cap) body * R'))) :=
    Lib.hid fun w' R' sw => net_own ⟨0, 1, body⟩ _ w' R' sw hpb'
  go_enter Try.func37, Try.ntmps37
  go_wp2_with (first
    | (go_at_call 35; with_reducible refine (Hi0.out _ HW.out).mono ?_; rintro e w' ⟨rfl, rfl⟩)
    | (go_at_call 35; with_reducible refine (Hi1.out _ HW.out).mono ?_; rintro e w' ⟨rfl, rfl⟩))
  · have hf : 256 ≤ (l.length : Int) := by assumption
    go_ret
    refine ⟨⟨_, rfl⟩, (Later.refl w).alloc _, ?_⟩
    unfold Sea.send
    rw [if_pos (by right; left; omega)]
    exact Sat.net_open.2 ⟨c, _, bs, H.out, hb, s1.right⟩
  · have hf : (l.length : Int) < 256 := by assumption
    cases ap
    · have hm1 : l.length + 1 ≤ maxLen := by unfold maxLen; omega
      have hm2 : (l.length + 1) * 40 ≤ 140737488355328 := by omega
      have Hs : RowKit.Hid (send false l ⟨0, 1, body⟩ = l ++ [⟨0, 1, body⟩]) := by
        refine Lib.hid ?_
        unfold Sea.send
        rw [if_neg]
        rintro (q | q | q)
        · dsimp only at q; omega
        · omega
        · cases q
      go_quiet (fail)
      go_wp2
      go_region_law
        (first
          | (refine step_append (by rfl) _ _ _ (by rfl) 59 3 40 info_pkt Try.underlying71 (by rfl) (by omega) l.length 1 (cellsOf pktEnc l bs) [.int .i64 0, .int .i64 1, .slice a2 body.length c2] (by rfl) (by rfl) ((s3.alloc _).p6) (((s3.alloc _).made (n := 1) (sz := 3) rfl max1).as_seg) (one_pkt _ _ _ _ _) hm1 hm2 ?_
             intro a4 c4 w4 s5 l5
             have k6 : w4.cell? ⟨n, 1, none⟩ = some (.slice la l.length lc) := (s5.p6.cell 1).trans H.out.2.2.1
             have f6 : w4.frozen? ⟨n, 1, none⟩ = false := s5.p6.free 1)
          | (go_simp
             go_at_call 34
             with_reducible refine (Ho.out _ _ ((s1.drewN _).p5)).mono ?_
             rintro e w2 ⟨a2, c2, rfl, l2, s3⟩
             have k3 : w2.cell? ⟨n, 1, none⟩ = some (.slice la l.length lc) := (s3.p4.cell 1).trans H.out.2.2.1
             have hn2 : n < w2.heap.size := s3.p4.lt
             have lA := ((Later.refl w).alloc _).drewN _ |>.trans l2)
          | (go_simp
             go_at_call 34
             with_reducible refine (Ho.out _ _ ((s1.drewN _).drew.p5)).mono ?_
             rintro e w2 ⟨a2, c2, rfl, l2, s3⟩
             have k3 : w2.cell? ⟨n, 1, none⟩ = some (.slice la l.length lc) := (s3.p4.cell 1).trans H.out.2.2.1
             have hn2 : n < w2.heap.size := s3.p4.lt
             have lA := (((Later.refl w).alloc _).drewN _).drew |>.trans l2))
      all_goals
        go_wp2
        go_ret
        refine ⟨⟨_, rfl⟩, ((lA.alloc _).trans l5).setCell _ _, ?_⟩
        rw [Hs.out]
        obtain ⟨h5, h0, h1, h3, h14⟩ := H.out
        refine Sat.net_open.2 ⟨c.setIfInBounds 1 (.slice a4 (l.length + 1) c4), .slice a4 (l.length + 1) c4, bs ++ [.slice a2 body.length c2], ⟨by simp [h5], ?_, ?_, ?_, ?_⟩, by simp [hb], ?_⟩
        · rw [set_at, if_neg (by omega), h0]
        · rw [set_at, if_pos rfl, if_pos (by omega)]
        · rw [set_at, if_neg (by omega), h3]
        · rw [set_at, if_neg (by omega), h14]
        · rw [cellsOf_append _ _ _ _ _ hb, bodiesOf_append _ _ _ _ _ hb, List.length_append]
          simp only [cellsOf, bodiesOf, List.append_nil, SA.mul_one]
          have s6 := (s5.p6.set 1 (.slice a4 (l.length + 1) c4)).x3
          refine (s6.p5.right).eq ?_
          unfold pktEl
          dsimp only
          have e1 : pktEnc ⟨0, 1, body⟩ (.slice a2 body.length c2) = [.int .i64 0, .int .i64 1, .slice a2 body.length c2] := rfl
          rw [e1]
          ac_rfl
    · go_quiet (fail)
      go_wp2
      go_ret
      refine ⟨⟨_, rfl⟩, ((Later.refl w).alloc _).drewN _, ?_⟩
      unfold Sea.send
      rw [if_pos (by right; right; rfl)]
      exact Sat.net_open.2 ⟨c, _, bs, H.out, hb, (s1.drewN _).right⟩

set_option maxHeartbeats 1000000 in
set_option maxRecDepth 100000 in
theorem net_send1 (n : Nat) (l : List Pkt) (ap : Bool) (body : B) (bv : Value) (w : World) (R : SA) (s : Sat w (netAt n l ap * (bytesSeg bv body * R))) (hpb : body.length ≤ 1200) :
    Calls Try.prog 37 #[.pointer (some ⟨n, 0, none⟩), .agg #[.int .i64 1, .int .i64 0, bv]] w fun e w' => (∃ k : Int, e = .returned (.int .i64 k)) ∧ Later w w' ∧ Sat w' (netAt n (send ap l ⟨1, 0, body⟩) ap * (bytesSeg bv body * R)) := by
  have hpb' : body.length ≤ 4096 := by omega
  obtain ⟨a, cap, rfl, q1, q2, _⟩ := (s.p2.seg_form : _)
  obtain ⟨c, lv, bs, ⟨h5, h0, h1, h3, h14⟩, hb, s⟩ := Sat.net_open.1 s
  obtain ⟨la, lc, rfl, hl1, hl2, _⟩ := s.p2.row_form
  have s1 := s.alloc (.cells #[.int .i64 1, .int .i64 0, .slice a body.length cap] 59)
  have c1 : w.cell? ⟨n, 1, none⟩ = some (.slice la l.length lc) := (s.cell 1).trans h1
  have ck : w.cell? ⟨n, 14, none⟩ = some (.bool ap) := (s.cell 14).trans h14
  have hn : n < w.heap.size := s.lt
  have H := Lib.hid (And.intro h5 (And.intro h0 (And.intro h1 (And.intro h3 h14))))
  clear h5 h0 h1 h3 h14
  have Hi0 : RowKit.Hid (∀ w, w.cell? ⟨n, 0, none⟩ = some (.int .i64 2) → Calls Try.prog 35 #[.pointer (some ⟨n, 0, none⟩), .int .i64 0] w fun e w' => e = .returned (.bool true) ∧ w = w') := Lib.hid fun w h => net_is n 0 (.inl rfl) w h
  have Hi1 : RowKit.Hid (∀ w, w.cell? ⟨n, 0, none⟩ = some (.int .i64 2) → Calls Try.prog 35 #[.pointer (some ⟨n, 0, none⟩), .int .i64 1] w fun e w' => e = .returned (.bool true) ∧ w = w') := Lib.hid fun w h => net_is n 1 (.inr rfl) w h
  have cW : (w.alloc (.cells #[.int .i64 1, .int .i64 0, .slice a body.length cap] 59)).cell? ⟨n, 0, none⟩ = some (.int .i64 2) := (s1.p2.cell 0).trans H.out.2.1
  have HW := Lib.hid cW
  clear cW
  have Ho : RowKit.Hid (∀ w' R', Sat w' (bytesSeg (.slice a body.length cap) body * R') → Calls Try.prog 34 #[.agg #[.int .i64 1, .int .i64 0, .slice a body.length cap]] w' fun e w'' => ∃ a' c', e = .returned (.agg #[.int .i64 1, .int .i64 0, .slice a' body.length c']) ∧ Later w' w'' ∧ Sat w'' (bytesRow (.slice a' body.length c') body * (bytesSeg (.slice a body.length cap) body * R'))) :=
    Lib.hid fun w' R' sw => net_own ⟨1, 0, body⟩ _ w' R' sw hpb'
  go_enter Try.func37, Try.ntmps37
  go_wp2_with (first
    | (go_at_call 35; with_reducible refine (Hi0.out _ HW.out).mono ?_; rintro e w' ⟨rfl, rfl⟩)
    | (go_at_call 35; with_reducible refine (Hi1.out _ HW.out).mono ?_; rintro e w' ⟨rfl, rfl⟩))
  · have hf : 256 ≤ (l.length : Int) := by assumption
    go_ret
    refine ⟨⟨_, rfl⟩, (Later.refl w).alloc _, ?_⟩
    unfold Sea.send
    rw [if_pos (by right; left; omega)]
    exact Sat.net_open.2 ⟨c, _, bs, H.out, hb, s1.right⟩
  · have hf : (l.length : Int) < 256 := by assumption
    cases ap
    · have hm1 : l.length + 1 ≤ maxLen := by unfold maxLen; omega
      have hm2 : (l.length + 1) * 40 ≤ 140737488355328 := by omega
      have Hs : RowKit.Hid (send false l ⟨1, 0, body⟩ = l ++ [⟨1, 0, body⟩]) := by
        refine Lib.hid ?_
        unfold Sea.send
        rw [if_neg]
        rintro (q | q | q)
        · dsimp only at q; omega
        · omega
        · cases q
      go_quiet (fail)
      go_wp2
      go_region_law
        (first
          | (refine step_append (by rfl) _ _ _ (by rfl) 59 3 40 info_pkt Try.underlying71 (by rfl) (by omega) l.length 1 (cellsOf pktEnc l bs) [.int .i64 1, .int .i64 0, .slice a2 body.length c2] (by rfl) (by rfl) ((s3.alloc _).p6) (((s3.alloc _).made (n := 1) (sz := 3) rfl max1).as_seg) (one_pkt _ _ _ _ _) hm1 hm2 ?_
             intro a4 c4 w4 s5 l5
             have k6 : w4.cell? ⟨n, 1, none⟩ = some (.slice la l.length lc) := (s5.p6.cell 1).trans H.out.2.2.1
             have f6 : w4.frozen? ⟨n, 1, none⟩ = false := s5.p6.free 1)
          | (go_simp
             go_at_call 34
             with_reducible refine (Ho.out _ _ ((s1.drewN _).p5)).mono ?_
             rintro e w2 ⟨a2, c2, rfl, l2, s3⟩
             have k3 : w2.cell? ⟨n, 1, none⟩ = some (.slice la l.length lc) := (s3.p4.cell 1).trans H.out.2.2.1
             have hn2 : n < w2.heap.size := s3.p4.lt
             have lA := ((Later.refl w).alloc _).drewN _ |>.trans l2)
          | (go_simp
             go_at_call 34
             with_reducible refine (Ho.out _ _ ((s1.drewN _).drew.p5)).mono ?_
             rintro e w2 ⟨a2, c2, rfl, l2, s3⟩
             have k3 : w2.cell? ⟨n, 1, none⟩ = some (.slice la l.length lc) := (s3.p4.cell 1).trans H.out.2.2.1
             have hn2 : n < w2.heap.size := s3.p4.lt
             have lA := (((Later.refl w).alloc _).drewN _).drew |>.trans l2))
      all_goals
        go_wp2
        go_ret
        refine ⟨⟨_, rfl⟩, ((lA.alloc _).trans l5).setCell _ _, ?_⟩
        rw [Hs.out]
        obtain ⟨h5, h0, h1, h3, h14⟩ := H.out
        refine Sat.net_open.2 ⟨c.setIfInBounds 1 (.slice a4 (l.length + 1) c4), .slice a4 (l.length + 1) c4, bs ++ [.slice a2 body.length c2], ⟨by simp [h5], ?_, ?_, ?_, ?_⟩, by simp [hb], ?_⟩
        · rw [set_at, if_neg (by omega), h0]
        · rw [set_at, if_pos rfl, if_pos (by omega)]
        · rw [set_at, if_neg (by omega), h3]
        · rw [set_at, if_neg (by omega), h14]
        · rw [cellsOf_append _ _ _ _ _ hb, bodiesOf_append _ _ _ _ _ hb, List.length_append]
          simp only [cellsOf, bodiesOf, List.append_nil, SA.mul_one]
          have s6 := (s5.p6.set 1 (.slice a4 (l.length + 1) c4)).x3
          refine (s6.p5.right).eq ?_
          unfold pktEl
          dsimp only
          have e1 : pktEnc ⟨1, 0, body⟩ (.slice a2 body.length c2) = [.int .i64 1, .int .i64 0, .slice a2 body.length c2] := rfl
          rw [e1]
          ac_rfl
    · go_quiet (fail)
      go_wp2
      go_ret
      refine ⟨⟨_, rfl⟩, ((Later.refl w).alloc _).drewN _, ?_⟩
      unfold Sea.send
      rw [if_pos (by right; right; rfl)]
      exact Sat.net_open.2 ⟨c, _, bs, H.out, hb, (s1.drewN _).right⟩

end Go.Proofs.Ytbphbafmchhipaa
