/-
  A sender's tick: what goes now.
-/
import Derived.Test.YtbphbafmchhipaaSndB
import Derived.Test.YtbphbafmchhipaaSec
import Derived.Deep.RegionHeld3
namespace Go.Proofs.Ytbphbafmchhipaa
open Go.RowKit Sea

theorem info_seg : (Try.prog.info? 70).map (fun i => (i.zero, i.size, i.bytes)) = some (some (.agg #[.int .u64 0, .int .u64 0, .bool false, .slice none 0 0]), 4, 48) := by kernel_rfl

def segEnc (s : Seg) (b : Value) : List Value := [.int .u64 s.life, .int .u64 s.seq, .bool s.ack, b]
def segEl (s : Seg) (b : Value) : SA := bytesRow b s.body
def segsAt (v : Value) (l : List Seg) : SA := recs segEnc segEl 70 4 v l

/-- The pieces behind i rounds of a tick. -/
def ticked (x : Snd) (i : Nat) : List (B × Nat) := (x.l.take i).map (sentNow (x.now + 1) x.span) ++ x.l.drop i

theorem ticked_zero (x : Snd) : ticked x 0 = x.l := by simp [ticked]
theorem ticked_length (x : Snd) (i : Nat) : (ticked x i).length = x.l.length := by
  simp only [ticked, List.length_append, List.length_map, List.length_take, List.length_drop]
  omega
theorem ticked_get (x : Snd) (i : Nat) {q : B × Nat} (h : x.l[i]? = some q) : (ticked x i)[i]? = some q := by
  have hi := (List.getElem?_eq_some_iff.1 h).1
  unfold ticked
  rw [List.getElem?_append_right (by simp; omega), List.length_map, List.length_take, Nat.min_eq_left (by omega), Nat.sub_self, List.getElem?_drop]
  exact h
theorem ticked_succ (x : Snd) (i : Nat) {q : B × Nat} (h : x.l[i]? = some q) : ticked x (i + 1) = (ticked x i).set i (sentNow (x.now + 1) x.span q) := by
  have hi := (List.getElem?_eq_some_iff.1 h).1
  have e : x.l.drop i = q :: x.l.drop (i + 1) := by
    rw [List.drop_eq_getElem_cons hi]
    congr 1
    exact (List.getElem?_eq_some_iff.1 h).2
  unfold ticked
  rw [List.take_add_one, h, e, List.set_append_right _ _ (by simp; omega), List.length_map, List.length_take, Nat.min_eq_left (by omega), Nat.sub_self]
  simp
theorem ticked_all (x : Snd) {m : Nat} (h : m = min x.l.length x.window) : ticked x m = x.tick.1.l ∧ x.l.take m = x.l.take x.window := by
  have e : x.l.take m = x.l.take x.window := by
    rw [h]
    rcases Nat.le_total x.l.length x.window with c | c
    · rw [Nat.min_eq_left c, List.take_of_length_le c, List.take_of_length_le (Nat.le_refl _)]
    · rw [Nat.min_eq_right c]
  have f : x.l.drop m = x.l.drop x.window := by
    rw [h]
    rcases Nat.le_total x.l.length x.window with c | c
    · rw [Nat.min_eq_left c, List.drop_of_length_le c, List.drop_of_length_le (Nat.le_refl _)]
    · rw [Nat.min_eq_right c]
  exact ⟨by unfold ticked Snd.tick; rw [e, f], e⟩
theorem not_due {now span : Nat} {q : B × Nat} (h1 : 0 < q.2) (h2 : now - q.2 < span) : Sea.due now span q = false := by
  unfold Sea.due
  simp [h1, h2]
theorem is_due {now span : Nat} {q : B × Nat} (h : ¬ (0 < q.2 ∧ now - q.2 < span)) : Sea.due now span q = true := by
  unfold Sea.due
  simp only [Bool.not_eq_true', Bool.and_eq_false_iff, decide_eq_false_iff_not]
  omega
theorem ticked_none (x : Snd) (i : Nat) {q : B × Nat} (h : x.l[i]? = some q) (hd : Sea.due (x.now + 1) x.span q = false) : ticked x (i + 1) = ticked x i := by
  rw [ticked_succ x i h]
  unfold sentNow
  rw [hd]
  have := ticked_get x i h
  simp only [Bool.false_eq_true, if_false]
  obtain ⟨h1, h2⟩ := List.getElem?_eq_some_iff.1 this
  rw [← h2, List.set_getElem_self]
theorem segs_snoc {life acked now span : Nat} : ∀ (l : List (B × Nat)) (q : B × Nat) (i : Nat), segs life acked now span i (l ++ [q]) = segs life acked now span i l ++ (if Sea.due now span q then [⟨life, acked + (i + l.length) + 1, false, q.1⟩] else [])
  | [], q, i => by simp [segs]
  | p :: l, q, i => by
    simp only [List.cons_append, segs, segs_snoc l q (i + 1), List.append_assoc, List.length_cons]
    rw [show i + 1 + l.length = i + (l.length + 1) from by omega]
theorem segs_succ {life acked now span : Nat} {l : List (B × Nat)} {i : Nat} {q : B × Nat} (h : l[i]? = some q) :
    segs life acked now span 0 (l.take (i + 1)) = segs life acked now span 0 (l.take i) ++ (if Sea.due now span q then [⟨life, acked + i + 1, false, q.1⟩] else []) := by
  have hi := (List.getElem?_eq_some_iff.1 h).1
  rw [List.take_add_one, h, Option.toList_some, segs_snoc, List.length_take, Nat.min_eq_left (by omega), Nat.zero_add]
theorem segs_none {life acked now span : Nat} {l : List (B × Nat)} {i : Nat} {q : B × Nat} (h : l[i]? = some q) (hd : Sea.due now span q = false) :
    segs life acked now span 0 (l.take (i + 1)) = segs life acked now span 0 (l.take i) := by
  rw [segs_succ h, hd]
  simp
theorem bodies_set {xs : List (B × Nat)} {bs : List Value} {i : Nat} {q r : B × Nat} (h : xs[i]? = some q) (hr : r.1 = q.1) : bodiesOf pieceEl (xs.set i r) bs = bodiesOf pieceEl xs bs := by
  induction xs generalizing bs i with
  | nil => simp at h
  | cons x xs ih =>
    cases bs with
    | nil => cases i <;> rfl
    | cons b bs =>
      cases i with
      | zero =>
        simp at h
        subst h
        simp only [List.set_cons_zero, bodiesOf, pieceEl, hr]
      | succ i =>
        simp only [List.set_cons_succ, bodiesOf]
        rw [ih (by simpa using h)]
theorem bodies_ticked (x : Snd) (bs : List Value) : ∀ i, i ≤ x.l.length → bodiesOf pieceEl (ticked x i) bs = bodiesOf pieceEl x.l bs
  | 0, _ => by rw [ticked_zero]
  | i + 1, h => by
    have hq : x.l[i]? = some x.l[i] := List.getElem?_eq_getElem (by omega)
    rw [ticked_succ x i hq, bodies_set (ticked_get x i hq) (by unfold sentNow; split <;> rfl), bodies_ticked x bs i (by omega)]
theorem cells_set {xs : List (B × Nat)} {bs : List Value} {i k : Nat} {q : B × Nat} (h : xs[i]? = some q) (hb : bs.length = xs.length) : cellsOf pieceEnc (xs.set i (q.1, k)) bs = (cellsOf pieceEnc xs bs).set (i * 2 + 1) (.int .i64 k) := by
  induction xs generalizing bs i with
  | nil => simp at h
  | cons x xs ih =>
    cases bs with
    | nil => cases hb
    | cons b bs =>
      cases i with
      | zero =>
        simp at h
        subst h
        simp [cellsOf, pieceEnc]
      | succ i =>
        simp only [List.set_cons_succ, cellsOf]
        rw [ih (by simpa using h) (by simpa using hb), List.set_append_right _ _ (by simp [pieceEnc]; omega), show (i + 1) * 2 + 1 - (pieceEnc x b).length = i * 2 + 1 from by simp [pieceEnc]; omega]
theorem Sat.row_set {w : World} {e : TypeId} {sz g n cap : Nat} {xs : List Value} {R : SA} (s : Sat w (row e sz (.slice (some ⟨g, 0, none⟩) n cap) n xs * R)) (j : Nat) (hj : j < n * sz) (v : Value) :
    Sat (w.setCell ⟨g, j, none⟩ v) (row e sz (.slice (some ⟨g, 0, none⟩) n cap) n (xs.set j v) * R) := by
  have hn : 0 < n := by
    rcases Nat.eq_zero_or_pos n with h | h
    · subst h; omega
    · exact h
  obtain ⟨g', cap', cur, hv, h1, h2, h3, h4, s⟩ := s.row_open hn
  cases hv
  have s' := s.set j v
  refine s'.mono (row_of_obj h1 h2 (by simpa using h3) ?_)
  rw [Array.toList_setIfInBounds, List.take_set, h4]
theorem Sat.row_free {w : World} {e : TypeId} {sz g c n : Nat} {xs : List Value} {R : SA} (s : Sat w (row e sz (.slice (some ⟨g, 0, none⟩) n c) n xs * R)) (j : Nat) (hj : j < n * sz) : w.frozen? ⟨g, j, none⟩ = false := by
  obtain ⟨a, cap, h, _, _, _, _, k⟩ := s.row_form
  cases h
  exact ((k _ rfl).2.2.2 j hj).2

theorem bytesRow_as_seg {w : World} {v : Value} {l : B} {R : SA} (s : Sat w (bytesRow v l * R)) : Sat w (seg 5 1 v l.length (bts l)) := Sat.as_seg s
theorem one_seg (l s : Int) (k : Bool) (a : Option Addr) (n c : Nat) : ∀ u ∈ [Value.int .u64 l, .int .u64 s, .bool k, .slice a n c], u.oneCell' = true := by
  intro u hu
  simp only [List.mem_cons, List.not_mem_nil, or_false] at hu
  rcases hu with rfl | rfl | rfl | rfl <;> rfl

theorem tick_end {w2 : World} {p bl life k n : Nat} {a1 a2 : Option Addr} {c1 c2 : Nat} {qb : B} {so pc : Obj} {lv : Value} {Ls : List Seg} {sbs Cs : List Value} {X Es R : SA} (hsb : sbs.length = Ls.length)
    (s8 : Sat w2 (row 70 4 (.slice a2 (Ls.length + 1) c2) (Ls.length + 1) (cellsOf segEnc Ls sbs ++ [.int .u64 life, .int .u64 k, .bool false, .slice a1 qb.length c1]) * (SA.obj bl so * (row 5 1 (.slice a1 qb.length c1) qb.length (bts qb) * (bodiesOf segEl Ls sbs * (SA.obj p pc * (row 64 2 lv n Cs * (X * (Es * R))))))))) :
    Sat w2 (SA.obj p pc * (row 64 2 lv n Cs * ((X * Es) * (segsAt (.slice a2 (Ls.length + 1) c2) (Ls ++ [⟨life, k, false, qb⟩]) * R)))) := by
  have s9 := s8.x2
  have s10 : Sat w2 (segsAt (.slice a2 (Ls.length + 1) c2) (Ls ++ [⟨life, k, false, qb⟩]) * (SA.obj p pc * (row 64 2 lv n Cs * (X * (Es * R))))) := by
    refine Sat.recs_snoc (b := .slice a1 qb.length c1) hsb (s9.eq ?_)
    unfold segEl bytesRow
    dsimp only
    rw [SA.mul_left_comm (row 5 1 _ _ _)]
    rfl
  exact s10.eq (by ac_rfl)

set_option maxHeartbeats 8000000 in
set_option maxRecDepth 100000 in
theorem snd_tick (p : Nat) (x : Snd) (hn : x.now < 1152921504606846976) (hl : x.l.length ≤ 4096) (ha : x.acked < 1152921504606846976) (hbo : ∀ q ∈ x.l, q.1.length ≤ 4096 ∧ q.2 ≤ x.now) (w : World) (R : SA) (s : Sat w (senderAt p x * R)) :
    Calls Try.prog 26 #[.pointer (some ⟨p, 0, none⟩)] w fun e w' => ∃ v, e = .returned v ∧ Later w w' ∧ Sat w' (senderAt p x.tick.1 * (segsAt v x.tick.2 * R)) := by
  obtain ⟨lv, bs, hb, s⟩ := Sat.sender_open.1 s
  obtain ⟨a, cap, rfl, _⟩ := s.p2.row_form
  have c4 : w.cell? ⟨p, 4, none⟩ = some (.int .i64 x.now) := s.cell 4
  have f4 : w.frozen? ⟨p, 4, none⟩ = false := s.free 4
  have c5 : w.cell? ⟨p, 5, none⟩ = some (.slice a x.l.length cap) := s.cell 5
  have c1 : w.cell? ⟨p, 1, none⟩ = some (.int .i64 x.window) := s.cell 1
  have hn1 : (x.now : Int) < 1152921504606846976 := by omega
  have hn2 : (0 : Int) ≤ (x.now : Int) := Int.natCast_nonneg _
  go_enter Try.func26, Try.ntmps26
  go_wp2
  go_region
  obtain ⟨m, hm⟩ : ∃ m : Nat, min (x.l.length : Int) (x.window : Int) = (m : Int) := ⟨min x.l.length x.window, by omega⟩
  have hm1 : m ≤ x.l.length := by omega
  have Hm : RowKit.Hid (m = min x.l.length x.window) := Lib.hid (by omega)
  go_wp2
  rw [hm]
  clear hm
  have l0 : Later w (w.setCell ⟨p, 4, none⟩ (.int .i64 ((x.now : Int) + 1))).drew := ((Later.refl w).setCell _ _).drew
  have s0 := (s.set 4 (.int .i64 ((x.now : Int) + 1))).drew
  generalize (w.setCell ⟨p, 4, none⟩ (.int .i64 ((x.now : Int) + 1))).drew = w0 at l0 s0 ⊢
  clear c4 f4 c5 c1 s
  go_loopw [3, 25] (fun x3 x25 wr => ∃ i : Nat, i ≤ m ∧ x25 = .int .i64 i ∧ Later w wr ∧ Sat wr (SA.obj p (.cells #[.int .u64 x.life, .int .i64 x.window, .int .i64 x.span, .int .u64 x.acked, .int .i64 ((x.now : Int) + 1), .slice a x.l.length cap] 57 (0, 0)) * (row 64 2 (.slice a x.l.length cap) x.l.length (cellsOf pieceEnc (ticked x i) bs) * (bodiesOf pieceEl x.l bs * (segsAt x3 (segs x.life x.acked (x.now + 1) x.span 0 (x.l.take i)) * R))))) (fun _ x25 _ => m - (intOf x25).toNat)
  case atStart =>
    refine ⟨0, Nat.zero_le _, rfl, l0, ?_⟩
    rw [ticked_zero, List.take_zero]
    have s1 : Sat w0 (segsAt (.slice none 0 0) [] * _) := Sat.recs_none s0
    refine s1.eq ?_
    unfold sndCells
    ac_rfl
  case round =>
    obtain ⟨i, hi, rfl, hl, hs⟩ := hrel
    by_cases hlt : i < m
    · obtain ⟨q, hq⟩ : ∃ q, x.l[i]? = some q := ⟨_, List.getElem?_eq_getElem (by omega)⟩
      obtain ⟨b, hbi⟩ : ∃ b, bs[i]? = some b := ⟨_, List.getElem?_eq_getElem (by omega)⟩
      obtain ⟨g, cap', hv, hc1, hc2⟩ := hs.p2.row_some (by omega)
      cases hv
      obtain ⟨qb, qs⟩ := q
      have hqb := hbo _ (List.mem_of_getElem? hq)
      dsimp only at hqb
      obtain ⟨hqb1, hqb2⟩ := hqb
      obtain ⟨ab, cb, rfl, _⟩ := ((hs.p3.eq (by rw [bodiesOf_split pieceEl x.l bs i _ _ hq hbi, SA.mul_assoc])) : Sat wr (pieceEl (qb, qs) b * (bodiesOf pieceEl (x.l.eraseIdx i) (bs.eraseIdx i) * _))).row_form
      dsimp only at hbi
      have c0 : wr.cell? ⟨p, 0, none⟩ = some (.int .u64 x.life) := hs.cell 0
      have c2 : wr.cell? ⟨p, 2, none⟩ = some (.int .i64 x.span) := hs.cell 2
      have c3 : wr.cell? ⟨p, 3, none⟩ = some (.int .u64 x.acked) := hs.cell 3
      have c4 : wr.cell? ⟨p, 4, none⟩ = some (.int .i64 ((x.now : Int) + 1)) := hs.cell 4
      have c5 : wr.cell? ⟨p, 5, none⟩ = some (.slice (some ⟨g, 0, none⟩) x.l.length cap) := hs.cell 5
      have hget : ∀ k, k < 2 → (cellsOf pieceEnc (ticked x i) bs)[i * 2 + k]? = (pieceEnc (qb, qs) (.slice ab qb.length cb))[k]? := fun k hk => cellsOf_get pieceEnc pieceEnc_length _ bs i k _ _ (ticked_get x i hq) hbi hk
      have g1 : wr.cell? ⟨g, i * 2 + 1, none⟩ = some (.int .i64 qs) := (hs.p2.row_cell _ (by omega)).trans (hget 1 (by omega))
      have fg : wr.frozen? ⟨g, i * 2 + 1, none⟩ = false := hs.p2.row_free _ (by omega)
      have g0 : wr.cell? ⟨g, i * 2, none⟩ = some (.slice ab qb.length cb) := (hs.p2.row_cell _ (by omega)).trans (hget 0 (by omega))
      have hi1 : (i : Int) < (x.l.length : Int) := by omega
      have hi2 : (0 : Int) ≤ (i : Int) := Int.natCast_nonneg _
      have Hg := Lib.hid hget
      clear hget
      by_cases hq0 : 0 < qs ∧ x.now + 1 - qs < x.span
      · obtain ⟨hq1, hq2⟩ := hq0
        have hw : IntKind.i64.wrap ((x.now : Int) + 1 - (qs : Int)) = (x.now : Int) + 1 - (qs : Int) := by rw [IntKind.wrap_i64]; omega
        have ht : (x.now : Int) + 1 - (qs : Int) < (x.span : Int) := by omega
        go_wp2_with fail
        go_quiet (fail)
        go_wp2
        go_roundw
        case rel =>
          refine ⟨i + 1, by omega, by go_num, hl.drewN _, ?_⟩
          have hd : Sea.due (x.now + 1) x.span (qb, qs) = false := not_due hq1 hq2
          rw [ticked_none x i hq hd, segs_none hq hd]
          exact hs.drewN _
        case measure => simp [intOf]; omega
      · have hd := is_due (now := x.now + 1) (span := x.span) (q := (qb, qs)) hq0
        rcases Nat.eq_zero_or_pos qs with hz | hpos
        case' inl =>
          subst hz
          go_wp2_with fail
          go_quiet (fail)
          go_wp2_with fail
        case' inr =>
          obtain ⟨D, hD⟩ : ∃ D : Int, D = (x.now : Int) + 1 - (qs : Int) := ⟨_, rfl⟩
          have hw : IntKind.i64.wrap ((x.now : Int) + 1 - (qs : Int)) = D := by rw [IntKind.wrap_i64]; omega
          have ht : decide (D < (x.span : Int)) = false := by simp; omega
          clear hq0 hqb2 hD
          go_wp2_with fail
          go_quiet (fail)
          clear hw hpos
          go_wp2_with fail
          clear ht
        all_goals
          have s1 := ((hs.drewN nq).p2.row_set (i * 2 + 1) (by omega) (.int .i64 ((x.now : Int) + 1))).p2
          have l1 := (hl.drewN nq).setCell ⟨g, i * 2 + 1, none⟩ (.int .i64 ((x.now : Int) + 1))
          generalize (wr.drewN nq).setCell ⟨g, i * 2 + 1, none⟩ (.int .i64 ((x.now : Int) + 1)) = W at s1 l1 ⊢
          clear c0 c2 c3 c4 c5 g1 fg g0 hl hs
          have hk2 : x.l.length ≤ cap := hc1
          rw [bodiesOf_split pieceEl x.l bs i _ _ hq hbi, SA.mul_assoc] at s1
          obtain ⟨sbs, hsb, s3⟩ := Sat.recs_open.1 s1.p5
          obtain ⟨sa, sc, rfl, _⟩ := s3.row_form
          have hL : (segs x.life x.acked (x.now + 1) x.span 0 (x.l.take i)).length ≤ 4096 := by
            refine Nat.le_trans segs_length ?_
            rw [List.length_take]
            omega
          have k0 : W.cell? ⟨p, 0, none⟩ = some (.int .u64 x.life) := s3.p3.cell 0
          have k3 : W.cell? ⟨p, 3, none⟩ = some (.int .u64 x.acked) := s3.p3.cell 3
          have hset : ((cellsOf pieceEnc (ticked x i) bs).set (i * 2 + 1) (.int .i64 ((x.now : Int) + 1)))[i * 2]? = some (.slice ab qb.length cb) := by
            rw [List.getElem?_set_ne (by omega)]
            exact Hg.out 0 (by omega)
          have k5 : W.cell? ⟨g, i * 2, none⟩ = some (.slice ab qb.length cb) := (s3.p4.row_cell _ (by omega)).trans hset
          have hw1 : IntKind.u64.wrap (i : Int) = (i : Int) := by rw [wraps_u64 _ (by omega) (by omega)]
          have hw2 : IntKind.u64.wrap ((x.acked : Int) + (i : Int)) = (x.acked : Int) + (i : Int) := by rw [wraps_u64 _ (by omega) (by omega)]
          have hw3 : IntKind.u64.wrap ((x.acked : Int) + (i : Int) + 1) = (x.acked : Int) + (i : Int) + 1 := by rw [wraps_u64 _ (by omega) (by omega)]
          have hm1 : 0 + qb.length ≤ maxLen := by unfold maxLen; omega
          have hm2 : (0 + qb.length) * 1 ≤ 140737488355328 := by omega
          have Hset := Lib.hid hset
          clear hset
          generalize hLs : segs x.life x.acked (x.now + 1) x.span 0 (x.l.take i) = Ls at *
          have HLs := Lib.hid hLs
          clear hLs
          have hm3 : Ls.length + 1 ≤ maxLen := by unfold maxLen; omega
          have hm4 : (Ls.length + 1) * 48 ≤ 140737488355328 := by omega
          generalize hCs : (cellsOf pieceEnc (ticked x i) bs).set (i * 2 + 1) (.int .i64 ((x.now : Int) + 1)) = Cs at *
          have HCs := Lib.hid hCs
          clear hCs
          generalize hEs : (bodiesOf pieceEl (x.l.eraseIdx i) (bs.eraseIdx i)) = Es at *
          have HEs := Lib.hid hEs
          clear hEs
          go_region_held3 (fun w' => w'.cell? ⟨p, 0, none⟩ = some (.int .u64 x.life) ∧ w'.cell? ⟨p, 3, none⟩ = some (.int .u64 x.acked) ∧ w'.cell? ⟨g, i * 2, none⟩ = some (.slice ab qb.length cb))
            (first | go_keep | exact ⟨k0, k3, k5⟩)
            (first
              | (refine step_append (by rfl) _ _ _ (by rfl) 5 1 1 info_u8 Try.underlying25 (by rfl) (by omega) 0 qb.length [] (bts qb) (by rfl) (by rfl) (((s3.alloc _).drew).made (n := 0) (sz := 1) rfl max0) (bytesRow_as_seg ((s3.alloc _).drew.p6)) (bts_one qb) hm1 hm2 ?_
                 intro a1 c1 w1 s5 l5
                 simp only [Nat.zero_add, List.nil_append] at s5
                 have k0 : w1.cell? ⟨p, 0, none⟩ = some (.int .u64 x.life) := s5.p4.cell 0
                 have k3 : w1.cell? ⟨p, 3, none⟩ = some (.int .u64 x.acked) := s5.p4.cell 3
                 have k5 : w1.cell? ⟨g, i * 2, none⟩ = some (.slice ab qb.length cb) := (s5.p5.row_cell _ (by omega)).trans Hset.out)
              | go_must (
                 (refine step_append (by rfl) _ _ _ (by rfl) 70 4 48 info_seg Try.underlying66 (by rfl) (by omega) Ls.length 1 (cellsOf segEnc Ls sbs) [.int .u64 x.life, .int .u64 ((x.acked : Int) + (i : Int) + 1), .bool false, .slice a1 qb.length c1] (by rfl) (by rfl) ((s5.alloc _).p3) (((s5.alloc _).made (n := 1) (sz := 4) rfl max1).as_seg) (one_seg _ _ _ _ _ _) hm3 hm4 ?_
                  intro a2 c2 w2 s8 l8
                  have k0 : w2.cell? ⟨p, 0, none⟩ = some (.int .u64 x.life) := s8.p5.cell 0
                  have k3 : w2.cell? ⟨p, 3, none⟩ = some (.int .u64 x.acked) := s8.p5.cell 3
                  have k5 : w2.cell? ⟨g, i * 2, none⟩ = some (.slice ab qb.length cb) := (s8.p6.row_cell _ (by omega)).trans Hset.out)))
          go_wp2
          go_roundw
          case rel =>
            refine ⟨i + 1, by omega, by go_num, (((l1.alloc _).drew.trans l5).alloc _).trans l8, ?_⟩
            have s9 := tick_end (life := x.life) (k := x.acked + i + 1) hsb s8
            rw [← HEs.out, ← bodiesOf_split pieceEl x.l bs i _ _ hq hbi] at s9
            rw [ticked_succ x i hq, segs_succ hq, hd, if_pos rfl, HLs.out]
            unfold sentNow
            rw [hd, if_pos rfl, cells_set (ticked_get x i hq) (by rw [ticked_length]; exact hb)]
            rw [← HCs.out] at s9
            exact s9
          case measure => simp [intOf]; omega
    · go_wp2
      go_ret
      obtain rfl : i = m := by omega
      obtain ⟨e1, e2⟩ := ticked_all x Hm.out
      refine ⟨_, rfl, hl, ?_⟩
      rw [e1, e2] at hs
      refine Sat.sender_open.2 ⟨.slice a x.l.length cap, bs, by rw [tick_length]; exact hb, ?_⟩
      rw [tick_length]
      rw [← e1, bodies_ticked x bs i hm1, e1]
      exact hs

end Go.Proofs.Ytbphbafmchhipaa
