/-
  A sender in memory, and its calls.
-/
import Derived.Test.YtbphbafmchhipaaNetE
import Derived.Test.YtbphbafmchhipaaSeb
namespace Go.Proofs.Ytbphbafmchhipaa
open Go.RowKit Sea

theorem info_piece : (Try.prog.info? 64).map (fun i => (i.zero, i.size, i.bytes)) = some (some (.agg #[.slice none 0 0, .int .i64 0]), 2, 32) := by kernel_rfl

def pieceEnc (p : B × Nat) (b : Value) : List Value := [b, .int .i64 p.2]
def pieceEl (p : B × Nat) (b : Value) : SA := bytesRow b p.1
def sndCells (x : Snd) (lv : Value) : Array Value := #[.int .u64 x.life, .int .i64 x.window, .int .i64 x.span, .int .u64 x.acked, .int .i64 x.now, lv]
def senderAt (p : Nat) (x : Snd) : SA := SA.ex fun lv : Value => SA.obj p (.cells (sndCells x lv) 57 (0, 0)) * recs pieceEnc pieceEl 64 2 lv x.l

theorem one_piece (a : Option Addr) (n c : Nat) (k : Int) : ∀ u ∈ [Value.slice a n c, .int .i64 k], u.oneCell' = true := by
  intro u hu
  simp only [List.mem_cons, List.not_mem_nil, or_false] at hu
  rcases hu with rfl | rfl <;> rfl

set_option maxRecDepth 100000 in
theorem snd_push (p : Nat) (x : Snd) (bv : Value) (body : B) (X : SA) (hX : ∀ w, Sat w X → Sat w (bytesSeg bv body)) (w : World) (R : SA) (s : Sat w (senderAt p x * (X * R))) (hb : body.length ≤ 1000) (hl : x.l.length < 128) :
    Calls Try.prog 8 #[.pointer (some ⟨p, 0, none⟩), bv] w fun e w' => e = .returned (.int .i64 0) ∧ Later w w' ∧ Sat w' (senderAt p { x with l := x.l ++ [(body, 0)] } * (X * R)) := by
  unfold senderAt at s
  obtain ⟨lv, s⟩ := Sat.ex_mul_iff.1 s
  rw [SA.mul_assoc] at s
  have s2 := s
  rw [SA.mul_left_comm] at s2
  obtain ⟨bs, hbs, s3⟩ := Sat.recs_open.1 s2
  obtain ⟨la, lc, rfl, hlc, hlc2, _, hl0, _⟩ := s3.row_form
  have c5 : w.cell? ⟨p, 5, none⟩ = some (.slice la x.l.length lc) := s3.p3.cell 5
  obtain ⟨ba, bc, rfl, hbc, hbc2, hbl, hb0, _⟩ := ((hX _ s3.p4.left).eq (SA.mul_one _).symm).seg_form
  unfold maxLen at hlc2 hbc2
  have hp : p < w.heap.size := s3.p3.lt
  clear s s2
  have hm1 : 0 + body.length ≤ maxLen := by unfold maxLen; omega
  have hm2 : (0 + body.length) * 1 ≤ 140737488355328 := by omega
  have hm3 : x.l.length + 1 ≤ maxLen := by unfold maxLen; omega
  have hm4 : (x.l.length + 1) * 32 ≤ 140737488355328 := by omega
  go_enter Try.func8, Try.ntmps8
  go_wp2_with fail
  go_region_law
    (first
      | (refine step_append (by rfl) _ _ _ (by rfl) 5 1 1 info_u8 Try.underlying25 (by rfl) (by omega) 0 body.length [] (bts body) (by rfl) (by rfl) (((s3.alloc _).drew).made (n := 0) (sz := 1) rfl max0) (hX _ ((s3.alloc _).drew).p5.left) (bts_one body) hm1 hm2 ?_
         intro a1 c1 w1 s5 l5
         simp only [Nat.zero_add, List.nil_append] at s5
         have k5 : w1.cell? ⟨p, 5, none⟩ = some (.slice la x.l.length lc) := s5.p4.cell 5
         have hp1 : p < w1.heap.size := s5.p4.lt)
      | go_must (
         (refine step_append (by rfl) _ _ _ (by rfl) 64 2 32 info_piece Try.underlying55 (by rfl) (by omega) x.l.length 1 (cellsOf pieceEnc x.l bs) [.slice a1 body.length c1, .int .i64 0] (by rfl) (by rfl) ((s5.alloc _).p3) (((s5.alloc _).made (n := 1) (sz := 2) rfl max1).as_seg) (one_piece _ _ _ _) hm3 hm4 ?_
          intro a2 c2 w2 s8 l8
          have k6 : w2.cell? ⟨p, 5, none⟩ = some (.slice la x.l.length lc) := s8.p5.cell 5
          have f6 : w2.frozen? ⟨p, 5, none⟩ = false := s8.p5.free 5)))
  all_goals
    go_wp2
    go_ret
    refine ⟨rfl, (((((Later.refl w).alloc _).drew.trans l5).alloc _).trans l8).setCell _ _, ?_⟩
    have s9 := (s8.p5).set 5 (.slice a2 (x.l.length + 1) c2)
    refine Sat.ex_mul_iff.2 ⟨.slice a2 (x.l.length + 1) c2, ?_⟩
    rw [SA.mul_assoc]
    refine Sat.p2 (Sat.recs_snoc (b := .slice a1 body.length c1) hbs ?_)
    refine s9.p3.right.eq ?_
    unfold pieceEl bytesRow
    ac_rfl

end Go.Proofs.Ytbphbafmchhipaa
