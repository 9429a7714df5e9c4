/-
  Bytes in memory; rows of structs each of which leads to one slice of bytes.
-/
import Derived.Test.YtbphbafmchhipaaRep
namespace Go.Proofs.Ytbphbafmchhipaa
open Go.RowKit

/-- Bytes as cells. -/
def bts (l : List UInt8) : List Value := l.map fun b => .int .u8 (b.toNat : Int)
theorem bts_length (l : List UInt8) : (bts l).length = l.length := by simp [bts]
theorem bts_append (a b : List UInt8) : bts (a ++ b) = bts a ++ bts b := by simp [bts]
theorem bts_one (l : List UInt8) : ∀ u ∈ bts l, u.oneCell' = true := by
  intro u hu
  simp only [bts, List.mem_map] at hu
  obtain ⟨b, _, rfl⟩ := hu
  rfl
theorem bts_get (l : List UInt8) (j : Nat) : (bts l)[j]? = (l[j]?).map fun b => Value.int .u8 (b.toNat : Int) := by simp [bts]
/-- A slice of bytes that owns its row; and one that is a part of one. -/
def bytesRow (v : Value) (l : List UInt8) : SA := row 5 1 v l.length (bts l)
def bytesSeg (v : Value) (l : List UInt8) : SA := seg 5 1 v l.length (bts l)
theorem bytesRow_seg {v : Value} {l : List UInt8} : ∀ h, bytesRow v l h → bytesSeg v l h := fun h r => row_seg h r

section
variable {α : Type} (enc : α → Value → List Value) (el : α → Value → SA)
/-- The cells of some structs, each with its slice. -/
def cellsOf : List α → List Value → List Value
  | x :: xs, b :: bs => enc x b ++ cellsOf xs bs
  | _, _ => []
def bodiesOf : List α → List Value → SA
  | x :: xs, b :: bs => el x b * bodiesOf xs bs
  | _, _ => SA.one
/-- A row of structs, and what they lead to. -/
def recs (e : TypeId) (sz : Nat) (v : Value) (xs : List α) : SA :=
  SA.ex fun bs : List Value => SA.lift (bs.length = xs.length) * (row e sz v xs.length (cellsOf enc xs bs) * bodiesOf el xs bs)

theorem cellsOf_nil (bs : List Value) : cellsOf enc [] bs = [] := by cases bs <;> rfl
theorem bodiesOf_nil (bs : List Value) : bodiesOf el [] bs = SA.one := by cases bs <;> rfl
theorem cellsOf_append : ∀ (xs : List α) (bs : List Value) (ys : List α) (cs : List Value), bs.length = xs.length → cellsOf enc (xs ++ ys) (bs ++ cs) = cellsOf enc xs bs ++ cellsOf enc ys cs
  | [], [], _, _, _ => rfl
  | [], _ :: _, _, _, h => by cases h
  | _ :: _, [], _, _, h => by cases h
  | x :: xs, b :: bs, ys, cs, h => by
    simp only [List.cons_append, cellsOf, List.append_assoc]
    rw [cellsOf_append xs bs ys cs (by simpa using h)]
theorem bodiesOf_append : ∀ (xs : List α) (bs : List Value) (ys : List α) (cs : List Value), bs.length = xs.length → bodiesOf el (xs ++ ys) (bs ++ cs) = bodiesOf el xs bs * bodiesOf el ys cs
  | [], [], _, _, _ => (SA.one_mul _).symm
  | [], _ :: _, _, _, h => by cases h
  | _ :: _, [], _, _, h => by cases h
  | x :: xs, b :: bs, ys, cs, h => by
    simp only [List.cons_append, bodiesOf]
    rw [bodiesOf_append xs bs ys cs (by simpa using h), SA.mul_assoc]
theorem cellsOf_length {sz : Nat} (hsz : ∀ x b, (enc x b).length = sz) : ∀ (xs : List α) (bs : List Value), bs.length = xs.length → (cellsOf enc xs bs).length = xs.length * sz
  | [], [], _ => by simp [cellsOf]
  | [], _ :: _, h => by cases h
  | _ :: _, [], h => by cases h
  | x :: xs, b :: bs, h => by
    simp only [cellsOf, List.length_append, hsz, List.length_cons]
    rw [cellsOf_length hsz xs bs (by simpa using h), Nat.add_mul]
    omega
theorem cellsOf_get {sz : Nat} (hsz : ∀ x b, (enc x b).length = sz) : ∀ (xs : List α) (bs : List Value) (i k : Nat) (x : α) (b : Value), xs[i]? = some x → bs[i]? = some b → k < sz → (cellsOf enc xs bs)[i * sz + k]? = (enc x b)[k]?
  | [], _, i, k, x, b, h, _, _ => by simp at h
  | _ :: _, [], i, k, x, b, _, h, _ => by simp at h
  | x0 :: xs, b0 :: bs, 0, k, x, b, h1, h2, hk => by
    simp at h1 h2
    subst h1 h2
    simp only [cellsOf, Nat.zero_mul, Nat.zero_add]
    rw [List.getElem?_append_left (by rw [hsz]; exact hk)]
  | x0 :: xs, b0 :: bs, i + 1, k, x, b, h1, h2, hk => by
    simp only [cellsOf]
    rw [List.getElem?_append_right (by rw [hsz, Nat.add_mul]; omega), hsz, show (i + 1) * sz + k - sz = i * sz + k from by rw [Nat.add_mul]; omega]
    exact cellsOf_get hsz xs bs i k x b (by simpa using h1) (by simpa using h2) hk
/-- One struct's slice stands out. -/
theorem bodiesOf_split : ∀ (xs : List α) (bs : List Value) (i : Nat) (x : α) (b : Value), xs[i]? = some x → bs[i]? = some b →
    bodiesOf el xs bs = el x b * bodiesOf el (xs.eraseIdx i) (bs.eraseIdx i)
  | [], _, i, x, b, h, _ => by simp at h
  | _ :: _, [], i, x, b, _, h => by simp at h
  | x0 :: xs, b0 :: bs, 0, x, b, h1, h2 => by
    simp at h1 h2
    subst h1 h2
    rfl
  | x0 :: xs, b0 :: bs, i + 1, x, b, h1, h2 => by
    simp only [bodiesOf, List.eraseIdx_cons_succ]
    rw [bodiesOf_split xs bs i x b (by simpa using h1) (by simpa using h2), SA.mul_left_comm]
end

theorem Sat.recs_open {α : Type} {enc : α → Value → List Value} {el : α → Value → SA} {e : TypeId} {sz : Nat} {v : Value} {xs : List α} {w : World} {R : SA} :
    Sat w (recs enc el e sz v xs * R) ↔ ∃ bs : List Value, bs.length = xs.length ∧ Sat w (row e sz v xs.length (cellsOf enc xs bs) * (bodiesOf el xs bs * R)) := by
  unfold recs
  rw [Sat.ex_mul_iff]
  constructor
  · rintro ⟨bs, s⟩
    rw [SA.mul_assoc, Sat.lift_iff, SA.mul_assoc] at s
    exact ⟨bs, s⟩
  · rintro ⟨bs, s⟩
    refine ⟨bs, ?_⟩
    rw [SA.mul_assoc, Sat.lift_iff, SA.mul_assoc]
    exact s

theorem Sat.recs_snoc {α : Type} {enc : α → Value → List Value} {el : α → Value → SA} {e : TypeId} {sz : Nat} {v : Value} {xs : List α} {bs : List Value} {x : α} {b : Value} {w : World} {R : SA} (hb : bs.length = xs.length)
    (s : Sat w (row e sz v (xs.length + 1) (cellsOf enc xs bs ++ enc x b) * (bodiesOf el xs bs * (el x b * R)))) : Sat w (recs enc el e sz v (xs ++ [x]) * R) := by
  refine Sat.recs_open.2 ⟨bs ++ [b], by simp [hb], ?_⟩
  rw [cellsOf_append _ _ _ _ _ hb, bodiesOf_append _ _ _ _ _ hb, List.length_append]
  simp only [cellsOf, bodiesOf, List.append_nil, SA.mul_one]
  exact s.eq (by rw [SA.mul_assoc]; rfl)
/-- An empty row of structs, out of nothing. -/
theorem Sat.recs_none {α : Type} {enc : α → Value → List Value} {el : α → Value → SA} {e : TypeId} {sz : Nat} {w : World} {R : SA} (s : Sat w R) : Sat w (recs enc el e sz (.slice none 0 0) [] * R) := by
  refine Sat.recs_open.2 ⟨[], rfl, ?_⟩
  simp only [cellsOf, bodiesOf, List.length_nil, row_nil, SA.one_mul]
  exact s

end Go.Proofs.Ytbphbafmchhipaa
