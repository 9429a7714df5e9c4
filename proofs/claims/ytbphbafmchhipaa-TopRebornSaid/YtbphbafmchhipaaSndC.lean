/-
  A sender hears an answer that frees pieces.
-/
import Derived.Test.YtbphbafmchhipaaSndB
namespace Go.Proofs.Ytbphbafmchhipaa
open Go.RowKit Sea

/-- A row from an element on. -/
theorem Sat.row_tail {w : World} {e : TypeId} {sz g n cap : Nat} {xs : List Value} {R : SA} (s : Sat w (row e sz (.slice (some ⟨g, 0, none⟩) n cap) n xs * R)) (d : Nat) (hd : d ≤ n) :
    Sat w (seg e sz (.slice (some ⟨g, d * sz, none⟩) (n - d) (cap - d)) (n - d) (xs.drop (d * sz)) * R) := by
  refine s.mono ?_
  rintro h ⟨hl, ⟨h0, _⟩ | ⟨g', cap', cur, hv, h1, h2, h3, h4, k⟩⟩
  · cases h0
  · cases hv
    have e1 : d * sz + (n - d) * sz = n * sz := by rw [← Nat.add_mul]; congr 1; omega
    have e2 : d * sz + (cap - d) * sz = cap * sz := by rw [← Nat.add_mul]; congr 1; omega
    refine ⟨by rw [List.length_drop]; omega, .inr ⟨g, d * sz, cap - d, cur, rfl, by omega, by omega, by omega, ?_, k⟩⟩
    rw [← h4, List.drop_take, ← e1, Nat.add_sub_cancel_left]
theorem Sat.row_tail0 {w : World} {e : TypeId} {sz g n cap : Nat} {xs : List Value} {R : SA} (s : Sat w (row e sz (.slice (some ⟨g, 0, none⟩) n cap) n xs * R)) :
    Sat w (seg e sz (.slice (some ⟨g, 0, none⟩) 0 0) 0 [] * R) := by
  refine s.mono ?_
  rintro h ⟨hl, ⟨h0, _⟩ | ⟨g', cap', cur, hv, h1, h2, h3, h4, k⟩⟩
  · cases h0
  · cases hv
    exact ⟨by simp, .inr ⟨g, 0, 0, cur, rfl, by omega, by omega, by omega, by simp, k⟩⟩
theorem pieceCells_one {l : List (B × Nat)} {bs : List Value} {w : World} {R : SA} (hb : bs.length = l.length) (s : Sat w (bodiesOf pieceEl l bs * R)) : ∀ u ∈ cellsOf pieceEnc l bs, u.oneCell' = true := by
  induction l generalizing bs R with
  | nil => intro u hu; rw [cellsOf_nil] at hu; cases hu
  | cons x l ih =>
    cases bs with
    | nil => cases hb
    | cons b bs =>
      intro u hu
      simp only [bodiesOf, SA.mul_assoc] at s
      simp only [cellsOf, List.mem_append] at hu
      rcases hu with hu | hu
      · simp only [pieceEnc, List.mem_cons, List.not_mem_nil, or_false] at hu
        rcases hu with rfl | rfl
        · obtain ⟨a, c, h, _⟩ := (show Sat w (row _ _ _ _ _ * _) from s).row_form
          rw [h]; rfl
        · rfl
      · exact ih (by simpa using hb) s.right u hu

theorem hear1_end {w4 : World} {p B g cap d sq c4 : Nat} {x : Snd} {bs : List Value} {bv : Value} {a4 : Option Addr} {so : Obj} {R : SA} (hb : bs.length = x.l.length) 
    (s5 : Sat w4 (row 64 2 (.slice a4 (0 + (x.l.length - d)) c4) (0 + (x.l.length - d)) ([] ++ List.drop (d * 2) (cellsOf pieceEnc x.l bs)) * (bytesSeg bv [] * (SA.obj B so *
      (SA.obj p (.cells (sndCells x (.slice (some ⟨g, 0, none⟩) x.l.length cap)) 57 (0, 0)) * (row 64 2 (.slice (some ⟨g, 0, none⟩) x.l.length cap) x.l.length (cellsOf pieceEnc x.l bs) * (bodiesOf pieceEl x.l bs * R))))))) :
    Sat ((w4.setCell ⟨p, 5, none⟩ (.slice a4 (x.l.length - d) c4)).setCell ⟨p, 3, none⟩ (.int .u64 sq)) (senderAt p { x with acked := sq, l := x.l.drop d } * (bytesSeg bv [] * R)) := by
  rw [Nat.zero_add, List.nil_append] at s5
  have s6 := ((s5.p4.set 5 (.slice a4 (x.l.length - d) c4)).set 3 (.int .u64 sq)).x4.x4
  have s7 := bodiesOf_drop x.l bs d hb s6.p4
  refine Sat.sender_open.2 ⟨.slice a4 (x.l.length - d) c4, bs.drop d, by simp [hb], ?_⟩
  rw [cellsOf_drop pieceEnc_length x.l bs d hb]
  dsimp only
  rw [List.length_drop]
  refine s7.eq ?_
  have e1 : sndCells { x with acked := sq, l := x.l.drop d } (.slice a4 (x.l.length - d) c4) = ((sndCells x (.slice (some ⟨g, 0, none⟩) x.l.length cap)).setIfInBounds 5 (.slice a4 (x.l.length - d) c4)).setIfInBounds 3 (.int .u64 sq) := rfl
  rw [e1]
  ac_rfl

set_option maxHeartbeats 8000000 in
set_option maxRecDepth 100000 in
theorem snd_hear1B (p : Nat) (x : Snd) (sq d : Nat) (bv : Value) (hr : right ⟨x.life, sq, true, []⟩ = true) (hsq : sq = x.acked + d) (hdl : d ≤ x.l.length) (hlen : x.l.length ≤ 4096) (hacked : sq < 18446744073709551616) (hd : 0 < d) (w : World) (R : SA) (g cap : Nat) (bs : List Value) (hb : bs.length = x.l.length) (hc1 : x.l.length ≤ cap)
    (s : Sat w (SA.obj p (.cells (sndCells x (.slice (some ⟨g, 0, none⟩) x.l.length cap)) 57 (0, 0)) * (row 64 2 (.slice (some ⟨g, 0, none⟩) x.l.length cap) x.l.length (cellsOf pieceEnc x.l bs) * (bodiesOf pieceEl x.l bs * (bytesSeg bv [] * R))))) (hcap : ¬ cap = d) :
    Calls Try.prog 29 #[.pointer (some ⟨p, 0, none⟩), .agg #[.int .u64 x.life, .int .u64 sq, .bool true, bv]] w fun e w' => e = .returned (.int .i64 0) ∧ Later w w' ∧ Sat w' (senderAt p { x with acked := sq, l := x.l.drop d } * (bytesSeg bv [] * R)) := by
  have hone := pieceCells_one hb s.p3
  have s1 := s.alloc (.cells #[.int .u64 x.life, .int .u64 sq, .bool true, bv] 70)
  have Hr0 := right_calls ⟨x.life, sq, true, []⟩ bv _ _ s1.p5 hr
  dsimp only [segVal] at Hr0
  have Hr := Lib.hid Hr0
  have hq1 : decide (x.acked < sq) = true := by simp; omega
  have hw1 : IntKind.u64.wrap ((sq : Int) - (x.acked : Int)) = (d : Int) := by rw [wraps_u64 _ (by omega) (by omega)]; omega
  have hw2 : IntKind.u64.wrap (x.l.length : Int) = (x.l.length : Int) := by rw [wraps_u64 _ (by omega) (by omega)]
  have hq2 : decide (x.l.length < d) = false := by simp; omega
  have hq3 : (x.acked : Int) < (sq : Int) := by omega
  have Hone : RowKit.Hid (∀ u ∈ (cellsOf pieceEnc x.l bs).drop (d * 2), u.oneCell' = true) := Lib.hid fun v hv => hone v (List.mem_of_mem_drop hv)
  have hm1 : 0 + (x.l.length - d) ≤ maxLen := by unfold maxLen; omega
  have hm2 : (0 + (x.l.length - d)) * 32 ≤ 140737488355328 := by omega
  have Hsq := Lib.hid hsq
  clear Hr0 hr hone hsq
  go_enter Try.func29, Try.ntmps29
  go_wp2_with (go_at_call 43
               with_reducible refine Hr.out.mono ?_
               rintro e w1 ⟨rfl, l1, s2⟩
               have r0 : w1.cell? ⟨w.heap.size, 0, none⟩ = some (.int .u64 x.life) := s2.p2.cell 0
               have r1 : w1.cell? ⟨w.heap.size, 1, none⟩ = some (.int .u64 sq) := s2.p2.cell 1
               have r2 : w1.cell? ⟨w.heap.size, 2, none⟩ = some (.bool true) := s2.p2.cell 2
               have n0 : w1.cell? ⟨p, 0, none⟩ = some (.int .u64 x.life) := s2.p3.cell 0
               have n3 : w1.cell? ⟨p, 3, none⟩ = some (.int .u64 x.acked) := s2.p3.cell 3
               have n5 : w1.cell? ⟨p, 5, none⟩ = some (.slice (some ⟨g, 0, none⟩) x.l.length cap) := s2.p3.cell 5
               have hpw : p < w1.heap.size := s2.p3.lt
               have hww : w.heap.size < w1.heap.size := s2.p2.lt)
  go_quiet (fail)
  rename Nat => qa
  go_wp2
  go_quiet (fail)
  rename Nat => qb
  go_wp2
  go_quiet (fail)
  go_wp2
  have hd1 : (0 : Int) ≤ (d : Int) := Int.natCast_nonneg d
  have hd2 : (d : Int) ≤ (x.l.length : Int) := by omega
  have hd3 : (d : Int) ≤ (cap : Int) := by omega
  have s3 := ((s2.drewN qa).drewN qb).drewN nq
  have l3 : Later w (((w1.drewN qa).drewN qb).drewN nq) := (((((Later.refl w).alloc _).trans l1).drewN _).drewN _).drewN _
  generalize (((w1.drewN qa).drewN qb).drewN nq) = W at s3 l3 ⊢
  clear r0 r1 r2 n0 n3 n5 hpw hww s2 l1 qa qb nq
  generalize w.heap.size = B at s3 ⊢
  have r1 : W.cell? ⟨B, 1, none⟩ = some (.int .u64 sq) := s3.p2.cell 1
  have n3 : W.cell? ⟨p, 3, none⟩ = some (.int .u64 x.acked) := s3.p3.cell 3
  have n5 : W.cell? ⟨p, 5, none⟩ = some (.slice (some ⟨g, 0, none⟩) x.l.length cap) := s3.p3.cell 5
  have hpw : p < W.heap.size := s3.p3.lt
  have hww : B < W.heap.size := s3.p2.lt
  go_region_law
    (first
      | (refine step_append (by rfl) _ _ _ (by rfl) 64 2 32 info_piece Try.underlying55 (by rfl) (by omega) 0 (x.l.length - d) [] ((cellsOf pieceEnc x.l bs).drop (d * 2)) (by rfl) (by rfl) ((s3.alloc _).drew.made (n := 0) (sz := 2) rfl max0) (((s3.alloc _).drew.p5.row_tail d hdl).left) Hone.out hm1 hm2 ?_
         intro a4 c4 w4 s5 l5
         have f5 : w4.frozen? ⟨p, 5, none⟩ = false := s5.p4.free 5
         have k5 : w4.cell? ⟨p, 5, none⟩ = some (.slice (some ⟨g, 0, none⟩) x.l.length cap) := s5.p4.cell 5
         have f3 : w4.frozen? ⟨p, 3, none⟩ = false := s5.p4.free 3
         have k3 : w4.cell? ⟨p, 3, none⟩ = some (.int .u64 x.acked) := s5.p4.cell 3
         have b1 : w4.cell? ⟨B, 1, none⟩ = some (.int .u64 sq) := s5.p3.cell 1
         have hpB : ¬ p = B := Ne.symm s5.p4.p4.ne))
  all_goals
    go_wp2
    go_ret
    exact ⟨rfl, (((l3.alloc _).drew.trans l5).setCell _ _).setCell _ _, hear1_end hb s5⟩

end Go.Proofs.Ytbphbafmchhipaa
