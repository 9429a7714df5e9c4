/-
  A small separation logic over the model's heap: assertions on fragments of the heap, '*' as their disjoint union, and what alloc, a store and a growing world do to them.
-/
import Derived.WalkKit
import Derived.Deep.Draws
namespace Go.Proofs.Ytbphbafmchhipaa
open Go.RowKit

/-- A fragment of the heap. -/
abbrev HF := Nat → Option Obj
def HF.sub (h : HF) (w : World) : Prop := ∀ b o, h b = some o → w.heap[b]? = some o
def HF.disj (h k : HF) : Prop := ∀ b, h b = none ∨ k b = none
def HF.un (h k : HF) : HF := fun b => match h b with
  | some o => some o
  | none => k b
def HF.emp : HF := fun _ => none
def HF.one (b : Nat) (o : Obj) : HF := fun k => if k = b then some o else none

theorem HF.disj_comm {h k : HF} (d : h.disj k) : k.disj h := fun b => (d b).symm
theorem HF.un_comm {h k : HF} (d : h.disj k) : h.un k = k.un h := by
  funext b
  unfold HF.un
  rcases d b with e | e
  · rw [e]; cases k b <;> rfl
  · rw [e]; cases h b <;> rfl
theorem HF.un_assoc (a b c : HF) : (a.un b).un c = a.un (b.un c) := by
  funext i
  unfold HF.un
  cases a i <;> rfl
theorem HF.emp_un (h : HF) : HF.emp.un h = h := rfl
theorem HF.un_none {h k : HF} {b : Nat} : h.un k b = none ↔ h b = none ∧ k b = none := by
  unfold HF.un
  cases h b <;> simp
theorem HF.disj_un {a b c : HF} : (a.un b).disj c ↔ a.disj c ∧ b.disj c := by
  constructor
  · intro d
    constructor
    · intro i; rcases d i with e | e
      · exact .inl (HF.un_none.1 e).1
      · exact .inr e
    · intro i; rcases d i with e | e
      · exact .inl (HF.un_none.1 e).2
      · exact .inr e
  · rintro ⟨d1, d2⟩ i
    rcases d1 i with e | e
    · rcases d2 i with e' | e'
      · exact .inl (HF.un_none.2 ⟨e, e'⟩)
      · exact .inr e'
    · exact .inr e

/-- An assertion on fragments. -/
def SA := HF → Prop
def SA.star (P Q : SA) : SA := fun h => ∃ h1 h2, HF.disj h1 h2 ∧ h = h1.un h2 ∧ P h1 ∧ Q h2
instance : Mul SA := ⟨SA.star⟩
def SA.one : SA := fun h => h = HF.emp
def SA.lift (p : Prop) : SA := fun h => h = HF.emp ∧ p
def SA.ex {α : Type} (f : α → SA) : SA := fun h => ∃ x, f x h
def SA.obj (b : Nat) (o : Obj) : SA := fun h => h = HF.one b o
/-- Everything below a mark, as it was. -/
def SA.old (B : Nat) (w : World) : SA := fun h => h = fun b => if b < B then w.heap[b]? else none

theorem SA.mul_def (P Q : SA) (h : HF) : (P * Q) h ↔ ∃ h1 h2, HF.disj h1 h2 ∧ h = h1.un h2 ∧ P h1 ∧ Q h2 := Iff.rfl

theorem SA.mul_comm (P Q : SA) : P * Q = Q * P := by
  funext h
  apply propext
  constructor
  · rintro ⟨a, b, d, rfl, p, q⟩; exact ⟨b, a, HF.disj_comm d, HF.un_comm d, q, p⟩
  · rintro ⟨a, b, d, rfl, p, q⟩; exact ⟨b, a, HF.disj_comm d, HF.un_comm d, q, p⟩
theorem SA.mul_assoc (P Q R : SA) : P * Q * R = P * (Q * R) := by
  funext h
  apply propext
  constructor
  · rintro ⟨_, c, d, rfl, ⟨a, b, d2, rfl, p, q⟩, r⟩
    obtain ⟨dac, dbc⟩ := HF.disj_un.1 d
    refine ⟨a, b.un c, ?_, HF.un_assoc _ _ _, p, b, c, dbc, rfl, q, r⟩
    exact HF.disj_comm (HF.disj_un.2 ⟨HF.disj_comm d2, HF.disj_comm dac⟩)
  · rintro ⟨a, _, d, rfl, p, b, c, d2, rfl, q, r⟩
    obtain ⟨dba, dca⟩ := HF.disj_un.1 (HF.disj_comm d)
    exact ⟨a.un b, c, HF.disj_un.2 ⟨HF.disj_comm dca, d2⟩, (HF.un_assoc _ _ _).symm, ⟨a, b, HF.disj_comm dba, rfl, p, q⟩, r⟩
theorem SA.mul_left_comm (P Q R : SA) : P * (Q * R) = Q * (P * R) := by
  rw [← SA.mul_assoc, SA.mul_comm P Q, SA.mul_assoc]
instance : Std.Associative (α := SA) (· * ·) := ⟨SA.mul_assoc⟩
instance : Std.Commutative (α := SA) (· * ·) := ⟨SA.mul_comm⟩
theorem SA.one_mul (P : SA) : SA.one * P = P := by
  funext h
  apply propext
  constructor
  · rintro ⟨a, b, _, rfl, rfl, q⟩; exact q
  · intro p; exact ⟨HF.emp, h, fun _ => .inl rfl, rfl, rfl, p⟩
theorem SA.mul_one (P : SA) : P * SA.one = P := by rw [SA.mul_comm, SA.one_mul]
theorem SA.lift_mul (p : Prop) (P : SA) (h : HF) : (SA.lift p * P) h ↔ p ∧ P h := by
  constructor
  · rintro ⟨a, b, _, rfl, ⟨rfl, q⟩, r⟩; exact ⟨q, r⟩
  · rintro ⟨q, r⟩; exact ⟨HF.emp, h, fun _ => .inl rfl, rfl, ⟨rfl, q⟩, r⟩
theorem SA.lift_true {p : Prop} (hp : p) : SA.lift p = SA.one := by
  funext h
  exact propext ⟨fun x => x.1, fun x => ⟨x, hp⟩⟩
theorem SA.ex_mul {α : Type} (f : α → SA) (P : SA) : SA.ex f * P = SA.ex fun x => f x * P := by
  funext h
  apply propext
  constructor
  · rintro ⟨a, b, d, rfl, ⟨x, p⟩, q⟩; exact ⟨x, a, b, d, rfl, p, q⟩
  · rintro ⟨x, a, b, d, rfl, p, q⟩; exact ⟨a, b, d, rfl, ⟨x, p⟩, q⟩
theorem SA.mul_ex {α : Type} (f : α → SA) (P : SA) : P * SA.ex f = SA.ex fun x => P * f x := by
  rw [SA.mul_comm, SA.ex_mul]
  congr 1
  funext x
  exact SA.mul_comm _ _

/-- An assertion holds of some part of a world's heap. -/
def Sat (w : World) (P : SA) : Prop := ∃ h, HF.sub h w ∧ P h

theorem Sat.imp {w : World} {P Q : SA} (s : Sat w P) (k : ∀ h, P h → Q h) : Sat w Q := by
  obtain ⟨h, hs, p⟩ := s
  exact ⟨h, hs, k h p⟩
theorem Sat.eq {w : World} {P Q : SA} (s : Sat w P) (k : P = Q) : Sat w Q := k ▸ s
theorem HF.sub_left {h k : HF} {w : World} (s : (h.un k).sub w) : h.sub w := fun b o e => s b o (by simp [HF.un, e])
theorem HF.sub_right {h k : HF} {w : World} (d : h.disj k) (s : (h.un k).sub w) : k.sub w := fun b o e => s b o (by
  rcases d b with q | q
  · simp [HF.un, e, q]
  · rw [q] at e; cases e)
theorem HF.sub_un {h k : HF} {w : World} (a : h.sub w) (b : k.sub w) : (h.un k).sub w := by
  intro i o e
  unfold HF.un at e
  split at e
  · rename_i x hx; cases e; exact a i _ hx
  · exact b i o e
theorem Sat.left {w : World} {P Q : SA} (s : Sat w (P * Q)) : Sat w P := by
  obtain ⟨_, hs, a, b, d, rfl, p, q⟩ := s
  exact ⟨a, HF.sub_left hs, p⟩
theorem Sat.right {w : World} {P Q : SA} (s : Sat w (P * Q)) : Sat w Q := by
  obtain ⟨_, hs, a, b, d, rfl, p, q⟩ := s
  exact ⟨b, HF.sub_right d hs, q⟩
theorem Sat.lift_iff {w : World} {p : Prop} {P : SA} : Sat w (SA.lift p * P) ↔ p ∧ Sat w P := by
  constructor
  · rintro ⟨h, hs, q⟩
    have := (SA.lift_mul p P h).1 q
    exact ⟨this.1, h, hs, this.2⟩
  · rintro ⟨q, h, hs, r⟩
    exact ⟨h, hs, (SA.lift_mul p P h).2 ⟨q, r⟩⟩
theorem Sat.ex_iff {w : World} {α : Type} {f : α → SA} : Sat w (SA.ex f) ↔ ∃ x, Sat w (f x) := by
  constructor
  · rintro ⟨h, hs, x, p⟩; exact ⟨x, h, hs, p⟩
  · rintro ⟨x, h, hs, p⟩; exact ⟨h, hs, x, p⟩
theorem Sat.ex_mul_iff {w : World} {α : Type} {f : α → SA} {P : SA} : Sat w (SA.ex f * P) ↔ ∃ x, Sat w (f x * P) := by
  rw [SA.ex_mul]; exact Sat.ex_iff
/-- The first part may be weakened under a frame. -/
theorem Sat.mono {w : World} {P Q R : SA} (s : Sat w (P * R)) (k : ∀ h, P h → Q h) : Sat w (Q * R) := by
  obtain ⟨_, hs, a, b, d, rfl, p, q⟩ := s
  exact ⟨_, hs, a, b, d, rfl, k a p, q⟩

theorem Sat.get {w : World} {b : Nat} {o : Obj} {R : SA} (s : Sat w (SA.obj b o * R)) : w.heap[b]? = some o := by
  obtain ⟨h, hs, rfl⟩ := s.left
  exact hs b o (by simp [HF.one])
theorem Sat.lt {w : World} {b : Nat} {o : Obj} {R : SA} (s : Sat w (SA.obj b o * R)) : b < w.heap.size := (Array.getElem?_eq_some_iff.1 s.get).1

theorem HF.sub_lt {h : HF} {w : World} (s : h.sub w) {b : Nat} {o : Obj} (e : h b = some o) : b < w.heap.size := (Array.getElem?_eq_some_iff.1 (s b o e)).1

/-- What a world owes to an elder one, beside memory. -/
structure Later (w w' : World) : Prop where
  os : w'.os = w.os
  tape : w'.tape = w.tape
  output : w'.output = w.output
  size : w.heap.size ≤ w'.heap.size
theorem Later.refl (w : World) : Later w w := ⟨rfl, rfl, rfl, Nat.le_refl _⟩
theorem Later.trans {a b c : World} (h : Later a b) (k : Later b c) : Later a c := ⟨k.os.trans h.os, k.tape.trans h.tape, k.output.trans h.output, Nat.le_trans h.size k.size⟩
theorem Later.alloc {a b : World} (h : Later a b) (o : Obj) : Later a (b.alloc o) := ⟨h.os, h.tape, h.output, by have := h.size; show a.heap.size ≤ (b.heap.push o).size; rw [Array.size_push]; omega⟩
theorem Later.setCell {a b : World} (h : Later a b) (p : Addr) (v : Value) : Later a (b.setCell p v) := ⟨h.os, h.tape, h.output, by simp [World.setCell]; exact h.size⟩
theorem Later.drewN {a b : World} (h : Later a b) (n : Nat) : Later a (b.drewN n) := ⟨h.os, h.tape, h.output, h.size⟩
theorem Later.drew {a b : World} (h : Later a b) : Later a b.drew := ⟨h.os, h.tape, h.output, h.size⟩
theorem Later.of_below {B : Nat} {w w' : World} (h : Below B w w') : Later w w' := ⟨h.os, h.tape, h.output, h.size⟩
theorem Later.of_grown {w w' : World} {r : Option Nat} (h : w.grownBy w' r) : Later w w' := ⟨h.os, h.tape, h.output, h.size⟩

/-- A world whose blocks, so far as they were there, are as they were keeps what held. -/
theorem Sat.kept {w w' : World} {P : SA} (s : Sat w P) (k : ∀ b, b < w.heap.size → w'.heap[b]? = w.heap[b]?) : Sat w' P := by
  obtain ⟨h, hs, p⟩ := s
  exact ⟨h, fun b o e => by rw [k b (HF.sub_lt hs e)]; exact hs b o e, p⟩
theorem Sat.below {w w' : World} {P : SA} (s : Sat w P) (k : Below w.heap.size w w') : Sat w' P := s.kept k.block
theorem Sat.drewN {w : World} {P : SA} (s : Sat w P) (n : Nat) : Sat (w.drewN n) P := s.kept fun _ _ => rfl
theorem Sat.drew {w : World} {P : SA} (s : Sat w P) : Sat w.drew P := s.kept fun _ _ => rfl

/-- A new block beside what held. -/
theorem Sat.new {w w' : World} {P : SA} {o : Obj} (b : Nat) (s : Sat w P) (hb : w.heap.size ≤ b) (hn : w'.heap[b]? = some o) (k : ∀ b, b < w.heap.size → w'.heap[b]? = w.heap[b]?) : Sat w' (SA.obj b o * P) := by
  obtain ⟨h, hs, p⟩ := s
  refine ⟨(HF.one b o).un h, HF.sub_un ?_ ?_, _, _, ?_, rfl, rfl, p⟩
  · intro i x e
    unfold HF.one at e
    split at e
    · rename_i hi; cases e; rw [hi]; exact hn
    · cases e
  · intro i x e; rw [k i (HF.sub_lt hs e)]; exact hs i x e
  · intro i
    by_cases hi : i = b
    · right
      cases e : h i with
      | none => rfl
      | some x => have := HF.sub_lt hs e; omega
    · left; simp [HF.one, hi]
theorem Sat.alloc {w : World} {P : SA} (s : Sat w P) (o : Obj) : Sat (w.alloc o) (SA.obj w.heap.size o * P) :=
  s.new _ (Nat.le_refl _) (by show (w.heap.push o)[w.heap.size]? = some o; simp) (fun b hb => by show (w.heap.push o)[b]? = _; simp [Array.getElem?_push, Nat.ne_of_lt hb])

/-- One block turned. -/
theorem Sat.turn {w w' : World} {P : SA} {b : Nat} {o o' : Obj} (s : Sat w (SA.obj b o * P)) (hn : w'.heap[b]? = some o') (k : ∀ i, i < w.heap.size → i ≠ b → w'.heap[i]? = w.heap[i]?) : Sat w' (SA.obj b o' * P) := by
  obtain ⟨_, hs, a, h, d, rfl, rfl, p⟩ := s
  refine ⟨(HF.one b o').un h, HF.sub_un ?_ ?_, _, _, ?_, rfl, rfl, p⟩
  · intro i x e
    unfold HF.one at e
    split at e
    · rename_i hi; cases e; rw [hi]; exact hn
    · cases e
  · intro i x e
    have hl := HF.sub_right d hs
    have hi : i ≠ b := by
      rintro rfl
      rcases d i with q | q
      · simp [HF.one] at q
      · rw [q] at e; cases e
    rw [k i (HF.sub_lt hl e) hi]; exact hl i x e
  · intro i
    by_cases hi : i = b
    · right
      rcases d i with q | q
      · simp [HF.one, hi] at q
      · exact q
    · left; simp [HF.one, hi]
theorem Sat.set {w : World} {P : SA} {b : Nat} {c : Array Value} {e : TypeId} {f : Nat × Nat} (s : Sat w (SA.obj b (.cells c e f) * P)) (i : Nat) (v : Value) :
    Sat (w.setCell ⟨b, i, none⟩ v) (SA.obj b (.cells (c.setIfInBounds i v) e f) * P) := by
  refine s.turn ?_ ?_
  · simp [World.setCell, Array.getElem?_modify, s.get]
  · intro j _ hj
    simp [World.setCell, Array.getElem?_modify, Ne.symm hj]
theorem Sat.drop {w : World} {P Q : SA} (s : Sat w (P * Q)) : Sat w Q := s.right

theorem Sat.cell {w : World} {P : SA} {b : Nat} {c : Array Value} {e : TypeId} {f : Nat × Nat} (s : Sat w (SA.obj b (.cells c e f) * P)) (i : Nat) : w.cell? ⟨b, i, none⟩ = c[i]? := by
  simp [World.cell?, s.get]
theorem Sat.free {w : World} {P : SA} {b : Nat} {c : Array Value} {e : TypeId} (s : Sat w (SA.obj b (.cells c e (0, 0)) * P)) (i : Nat) : w.frozen? ⟨b, i, none⟩ = false := by
  simp [World.frozen?, s.get]

/-- The n-th part to the front. -/
theorem Sat.p2 {w : World} {A B R : SA} (s : Sat w (A * (B * R))) : Sat w (B * (A * R)) := s.eq (by ac_rfl)
theorem Sat.p3 {w : World} {A B C R : SA} (s : Sat w (A * (B * (C * R)))) : Sat w (C * (A * (B * R))) := s.eq (by ac_rfl)
theorem Sat.p4 {w : World} {A B C D R : SA} (s : Sat w (A * (B * (C * (D * R))))) : Sat w (D * (A * (B * (C * R)))) := s.eq (by ac_rfl)
theorem Sat.p5 {w : World} {A B C D E R : SA} (s : Sat w (A * (B * (C * (D * (E * R)))))) : Sat w (E * (A * (B * (C * (D * R))))) := s.eq (by ac_rfl)
theorem Sat.p6 {w : World} {A B C D E F R : SA} (s : Sat w (A * (B * (C * (D * (E * (F * R))))))) : Sat w (F * (A * (B * (C * (D * (E * R)))))) := s.eq (by ac_rfl)
theorem Sat.p7 {w : World} {A B C D E F G R : SA} (s : Sat w (A * (B * (C * (D * (E * (F * (G * R)))))))) : Sat w (G * (A * (B * (C * (D * (E * (F * R))))))) := s.eq (by ac_rfl)
theorem Sat.p8 {w : World} {A B C D E F G H R : SA} (s : Sat w (A * (B * (C * (D * (E * (F * (G * (H * R))))))))) : Sat w (H * (A * (B * (C * (D * (E * (F * (G * R)))))))) := s.eq (by ac_rfl)
theorem Sat.p9 {w : World} {A B C D E F G H I R : SA} (s : Sat w (A * (B * (C * (D * (E * (F * (G * (H * (I * R)))))))))) : Sat w (I * (A * (B * (C * (D * (E * (F * (G * (H * R))))))))) := s.eq (by ac_rfl)

theorem Sat.ne {w : World} {a b : Nat} {x y : Obj} {R : SA} (s : Sat w (SA.obj a x * (SA.obj b y * R))) : a ≠ b := by
  rintro rfl
  obtain ⟨h, _, h1, h2, d, rfl, rfl, k1, k2, d2, rfl, rfl, _⟩ := s
  rcases d a with q | q
  · simp [HF.one] at q
  · rw [HF.un_none] at q
    simp [HF.one] at q
theorem Sat.x2 {w : World} {A B R : SA} (s : Sat w (A * (B * R))) : Sat w (A * R) := s.p2.right
theorem Sat.x3 {w : World} {A B C R : SA} (s : Sat w (A * (B * (C * R)))) : Sat w (A * (B * R)) := s.p3.right
theorem Sat.x4 {w : World} {A B C D R : SA} (s : Sat w (A * (B * (C * (D * R))))) : Sat w (A * (B * (C * R))) := s.p4.right

/-- What was there below the mark is as it was. -/
theorem Sat.of_old {B : Nat} {w0 w : World} {P : SA} (s : Sat w (SA.old B w0 * P)) (hB : B ≤ w0.heap.size) (k : Later w0 w) : Below B w0 w := by
  refine ⟨k.os, k.tape, k.output, k.size, fun i hi => ?_⟩
  obtain ⟨h, hs, rfl⟩ := s.left
  have hi' : i < w0.heap.size := by omega
  have e : w0.heap[i]? = some w0.heap[i] := Array.getElem?_eq_getElem hi'
  rw [e]
  exact hs i _ (by simp only [hi, if_true]; exact e)
theorem Sat.old (w : World) (B : Nat) : Sat w (SA.old B w) := by
  refine ⟨fun b => if b < B then w.heap[b]? else none, fun b o e => ?_, rfl⟩
  dsimp only at e
  split at e
  · exact e
  · cases e

end Go.Proofs.Ytbphbafmchhipaa
