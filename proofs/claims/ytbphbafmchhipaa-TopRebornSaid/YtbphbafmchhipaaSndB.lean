/-
  A sender: a new one; how many are left; what it hears.
-/
import Derived.Test.YtbphbafmchhipaaSnd
import Derived.Test.YtbphbafmchhipaaParB
namespace Go.Proofs.Ytbphbafmchhipaa
open Go.RowKit Sea

theorem Sat.sender_open {w : World} {p : Nat} {x : Snd} {R : SA} : Sat w (senderAt p x * R) ↔ ∃ (lv : Value) (bs : List Value), bs.length = x.l.length ∧
    Sat w (SA.obj p (.cells (sndCells x lv) 57 (0, 0)) * (row 64 2 lv x.l.length (cellsOf pieceEnc x.l bs) * (bodiesOf pieceEl x.l bs * R))) := by
  unfold senderAt
  rw [Sat.ex_mul_iff]
  constructor
  · rintro ⟨lv, s⟩
    rw [SA.mul_assoc] at s
    obtain ⟨bs, hb, s⟩ := Sat.recs_open.1 s.p2
    exact ⟨lv, bs, hb, s.p3⟩
  · rintro ⟨lv, bs, hb, s⟩
    refine ⟨lv, ?_⟩
    rw [SA.mul_assoc]
    exact (Sat.recs_open.2 ⟨bs, hb, s.p3.p3⟩).p2

theorem snd_new (life window span : Nat) (hw1 : 1 ≤ window) (hw2 : window ≤ 64) (hs1 : 1 ≤ span) (hs2 : span ≤ 1000) (w : World) (R : SA) (s : Sat w R) :
    Calls Try.prog 6 #[.int .u64 life, .int .i64 window, .int .i64 span] w fun e w' => ∃ p, e = .returned (.tuple #[.pointer (some ⟨p, 0, none⟩), .int .i64 0]) ∧ Later w w' ∧ Sat w' (senderAt p ⟨life, window, span, 0, 0, []⟩ * R) := by
  have a1 : ¬ (window : Int) < 1 := by omega
  have a2 : ¬ (64 : Int) < (window : Int) := by omega
  have a3 : ¬ (span : Int) < 1 := by omega
  have a4 : ¬ (1000 : Int) < (span : Int) := by omega
  go_enter Try.func6, Try.ntmps6
  go_wp2
  go_ret2
  refine ⟨_, rfl, (Later.refl w).alloc _, Sat.sender_open.2 ⟨.slice none 0 0, [], rfl, ?_⟩⟩
  rw [List.length_nil, cellsOf_nil, row_nil, SA.one_mul, bodiesOf_nil, SA.one_mul]
  exact s.alloc _

theorem snd_left (p : Nat) (x : Snd) (w : World) (R : SA) (s : Sat w (senderAt p x * R)) :
    Calls Try.prog 15 #[.pointer (some ⟨p, 0, none⟩)] w fun e w' => e = .returned (.int .i64 x.l.length) ∧ w = w' := by
  obtain ⟨lv, bs, hb, s⟩ := Sat.sender_open.1 s
  obtain ⟨a, cap, rfl, _⟩ := s.p2.row_form
  have c5 : w.cell? ⟨p, 5, none⟩ = some (.slice a x.l.length cap) := s.cell 5
  go_enter Try.func15, Try.ntmps15
  go_wp2
  go_ret
  exact ⟨rfl, rfl⟩

theorem cellsOf_drop {α : Type} {enc : α → Value → List Value} {sz : Nat} (hsz : ∀ x b, (enc x b).length = sz) : ∀ (xs : List α) (bs : List Value) (d : Nat), bs.length = xs.length → cellsOf enc (xs.drop d) (bs.drop d) = (cellsOf enc xs bs).drop (d * sz)
  | _, _, 0, _ => by simp
  | [], [], d + 1, _ => by simp [cellsOf]
  | x :: xs, b :: bs, d + 1, h => by
    simp only [List.drop_succ_cons, cellsOf]
    rw [cellsOf_drop hsz xs bs d (by simpa using h), Nat.add_mul, Nat.one_mul, ← hsz x b, Nat.add_comm, ← List.drop_drop, List.drop_left]
theorem bodiesOf_drop {α : Type} {el : α → Value → SA} {w : World} : ∀ (xs : List α) (bs : List Value) (d : Nat) {R : SA}, bs.length = xs.length → Sat w (bodiesOf el xs bs * R) → Sat w (bodiesOf el (xs.drop d) (bs.drop d) * R)
  | _, _, 0, _, _, s => by simpa using s
  | [], [], d + 1, _, _, s => s
  | x :: xs, b :: bs, d + 1, _, h, s => by
    simp only [bodiesOf, SA.mul_assoc] at s
    exact bodiesOf_drop xs bs d (by simpa using h) s.right
theorem pieceEnc_length (p : B × Nat) (b : Value) : (pieceEnc p b).length = 2 := rfl

set_option maxRecDepth 100000 in
/-- An answer that frees nothing. -/
theorem snd_hear0 (p : Nat) (x : Snd) (sl sq : Nat) (bv : Value) (hr : right ⟨sl, sq, true, []⟩ = true) (hc : sl ≠ x.life ∨ sq ≤ x.acked) (w : World) (R : SA) (s : Sat w (senderAt p x * (bytesSeg bv [] * R))) :
    Calls Try.prog 29 #[.pointer (some ⟨p, 0, none⟩), .agg #[.int .u64 sl, .int .u64 sq, .bool true, bv]] w fun e w' => e = .returned (.int .i64 (if sl ≠ x.life then 70 else 0)) ∧ Later w w' ∧ Sat w' (senderAt p x * (bytesSeg bv [] * R)) := by
  obtain ⟨lv, bs, hb, s⟩ := Sat.sender_open.1 s
  obtain ⟨a, cap, rfl, _⟩ := s.p2.row_form
  by_cases hl : sl = x.life
  · have hq : sq ≤ x.acked := by
      rcases hc with h | h
      · exact absurd hl h
      · exact h
    have hq1 : decide (x.acked < sq) = false := by simp; omega
    rw [if_neg (by simpa using hl)]
    subst hl
    have s1 := s.alloc (.cells #[.int .u64 x.life, .int .u64 sq, .bool true, bv] 70)
    have Hr0 := right_calls ⟨x.life, sq, true, []⟩ bv _ _ s1.p5 hr
    dsimp only [segVal] at Hr0
    have Hr := Lib.hid Hr0
    clear Hr0 hr hc hq
    go_enter Try.func29, Try.ntmps29
    go_wp2_with (go_at_call 43
                 with_reducible refine Hr.out.mono ?_
                 rintro e w1 ⟨rfl, l1, s2⟩
                 have r0 : w1.cell? ⟨w.heap.size, 0, none⟩ = some (.int .u64 x.life) := s2.p2.cell 0
                 have r1 : w1.cell? ⟨w.heap.size, 1, none⟩ = some (.int .u64 sq) := s2.p2.cell 1
                 have r2 : w1.cell? ⟨w.heap.size, 2, none⟩ = some (.bool true) := s2.p2.cell 2
                 have n0 : w1.cell? ⟨p, 0, none⟩ = some (.int .u64 x.life) := s2.p3.cell 0
                 have n3 : w1.cell? ⟨p, 3, none⟩ = some (.int .u64 x.acked) := s2.p3.cell 3
                 have n5 : w1.cell? ⟨p, 5, none⟩ = some (.slice a x.l.length cap) := s2.p3.cell 5)
    go_quiet (fail)
    go_wp2
    go_quiet (fail)
    go_wp2
    go_quiet (fail)
    go_wp2
    go_ret
    refine ⟨rfl, (((((Later.refl w).alloc _).trans l1).drewN _).drewN _).drewN _, ?_⟩
    exact Sat.sender_open.2 ⟨_, bs, hb, ((((s2.drewN _).drewN _).drewN _).x2).eq (by ac_rfl)⟩
  · have hl1 : ¬ (sl : Int) = (x.life : Int) := by omega
    rw [if_pos hl]
    have s1 := s.alloc (.cells #[.int .u64 sl, .int .u64 sq, .bool true, bv] 70)
    have Hr0 := right_calls ⟨sl, sq, true, []⟩ bv _ _ s1.p5 hr
    dsimp only [segVal] at Hr0
    have Hr := Lib.hid Hr0
    clear Hr0 hr hc hl
    go_enter Try.func29, Try.ntmps29
    go_wp2_with (go_at_call 43
                 with_reducible refine Hr.out.mono ?_
                 rintro e w1 ⟨rfl, l1, s2⟩
                 have r0 : w1.cell? ⟨w.heap.size, 0, none⟩ = some (.int .u64 sl) := s2.p2.cell 0
                 have r1 : w1.cell? ⟨w.heap.size, 1, none⟩ = some (.int .u64 sq) := s2.p2.cell 1
                 have r2 : w1.cell? ⟨w.heap.size, 2, none⟩ = some (.bool true) := s2.p2.cell 2
                 have n0 : w1.cell? ⟨p, 0, none⟩ = some (.int .u64 x.life) := s2.p3.cell 0)
    go_quiet (fail)
    go_wp2
    go_ret
    refine ⟨rfl, (((Later.refl w).alloc _).trans l1).drewN _, ?_⟩
    exact (Sat.sender_open.2 ⟨_, bs, hb, ((s2.drewN _).x2).eq (by ac_rfl)⟩)

end Go.Proofs.Ytbphbafmchhipaa
