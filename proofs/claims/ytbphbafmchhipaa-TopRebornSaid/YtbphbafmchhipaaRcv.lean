/-
  A receiver in memory; a new one; what it got.
-/
import Derived.Test.YtbphbafmchhipaaSndE
import Derived.Test.YtbphbafmchhipaaMap
import Derived.Deep.DeepCutAuto
namespace Go.Proofs.Ytbphbafmchhipaa
open Go.RowKit Sea

theorem info_early : (Try.prog.info? 102).map (fun i => (i.zero, i.size, i.bytes)) = some (some (.agg #[.slice none 0 0]), 1, 24) := by kernel_rfl
theorem zero_early (w : World) : (zeroValue 102).run Try.prog w = .ok (.agg #[.slice none 0 0]) w := by kernel_rfl

/-- What came early, as the map has it. -/
def earlyKV : List (Nat × B) → List Value → List (Value × Value)
  | x :: xs, b :: bs => (.int .u64 x.1, .agg #[b]) :: earlyKV xs bs
  | _, _ => []
def earlyEl (x : Nat × B) (b : Value) : SA := bytesRow b x.2
theorem earlyKV_nil (bs : List Value) : earlyKV [] bs = [] := by cases bs <;> rfl
theorem earlyKV_append : ∀ (xs : List (Nat × B)) (bs : List Value) (x : Nat × B) (b : Value), bs.length = xs.length → earlyKV (xs ++ [x]) (bs ++ [b]) = earlyKV xs bs ++ [(.int .u64 x.1, .agg #[b])]
  | [], [], _, _, _ => rfl
  | [], _ :: _, _, _, h => by cases h
  | _ :: _, [], _, _, h => by cases h
  | y :: xs, c :: bs, x, b, h => by
    simp only [List.cons_append, earlyKV]
    rw [earlyKV_append xs bs x b (by simpa using h)]
theorem earlyKV_get : ∀ (xs : List (Nat × B)) (bs : List Value) (i : Nat) (x : Nat × B) (b : Value), xs[i]? = some x → bs[i]? = some b → (earlyKV xs bs)[i]? = some (.int .u64 x.1, .agg #[b])
  | [], _, i, x, b, h, _ => by simp at h
  | _ :: _, [], i, x, b, _, h => by simp at h
  | y :: xs, c :: bs, 0, x, b, h1, h2 => by
    simp at h1 h2
    subst h1 h2
    rfl
  | y :: xs, c :: bs, i + 1, x, b, h1, h2 => by
    simp only [earlyKV, List.getElem?_cons_succ]
    exact earlyKV_get xs bs i x b (by simpa using h1) (by simpa using h2)
theorem earlyKV_erase : ∀ (xs : List (Nat × B)) (bs : List Value) (i : Nat), earlyKV (xs.eraseIdx i) (bs.eraseIdx i) = (earlyKV xs bs).eraseIdx i
  | [], bs, i => by simp [earlyKV_nil]
  | _ :: xs, [], i => by
    have e : ∀ l : List (Nat × B), earlyKV l [] = [] := fun l => by cases l <;> rfl
    simp [e]
  | _ :: _, _ :: _, 0 => rfl
  | y :: xs, c :: bs, i + 1 => by
    simp only [List.eraseIdx_cons_succ, earlyKV]
    rw [earlyKV_erase xs bs i]
theorem earlyKV_keys : ∀ (xs : List (Nat × B)) (bs : List Value), bs.length = xs.length → (earlyKV xs bs).map (·.1) = xs.map fun x => Value.int .u64 x.1
  | [], [], _ => rfl
  | [], _ :: _, h => by cases h
  | _ :: _, [], h => by cases h
  | y :: xs, c :: bs, h => by
    simp only [earlyKV, List.map_cons]
    rw [earlyKV_keys xs bs (by simpa using h)]
theorem earlyKV_absent {xs : List (Nat × B)} {bs : List Value} (h : bs.length = xs.length) {k : Nat} (hl : Sea.look xs k = none) : ∀ p ∈ earlyKV xs bs, p.1 ≠ .int .u64 k := by
  intro p hp e
  have : p.1 ∈ (earlyKV xs bs).map (·.1) := List.mem_map.2 ⟨p, hp, rfl⟩
  rw [earlyKV_keys xs bs h, e] at this
  obtain ⟨x, hx, hk⟩ := List.mem_map.1 this
  cases hk
  unfold Sea.look at hl
  have := List.find?_eq_none.1 (Option.map_eq_none_iff.1 hl) x hx
  simp at this
theorem look_at {xs : List (Nat × B)} {k : Nat} {b : B} (h : Sea.look xs k = some b) : ∃ j : Nat, xs[j]? = some (k, b) := List.mem_iff_getElem?.1 (look_some h)
theorem nodup_keys {xs : List (Nat × B)} {bs : List Value} (h : bs.length = xs.length) (hn : ((earlyKV xs bs).map (·.1)).Nodup) : (xs.map (·.1)).Nodup := by
  rw [earlyKV_keys xs bs h] at hn
  refine List.nodup_iff_pairwise_ne.2 ?_
  have := List.nodup_iff_pairwise_ne.1 hn
  rw [List.pairwise_map] at this ⊢
  exact this.imp fun hne e => hne (by rw [e])
theorem less_erase : ∀ {xs : List (Nat × B)} {j k : Nat} {b : B}, (xs.map (·.1)).Nodup → xs[j]? = some (k, b) → less xs k = xs.eraseIdx j
  | [], j, k, b, _, h => by simp at h
  | x :: xs, 0, k, b, hn, h => by
    simp at h
    subst h
    have hn := List.nodup_cons.1 hn
    unfold less
    rw [List.filter_cons_of_neg (by simp), List.eraseIdx_cons_zero]
    refine List.filter_eq_self.2 fun y hy => ?_
    have : y.1 ≠ k := fun e => hn.1 (List.mem_map.2 ⟨y, hy, e⟩)
    simpa using this
  | x :: xs, j + 1, k, b, hn, h => by
    have hn := List.nodup_cons.1 hn
    have hx : x.1 ≠ k := fun e => hn.1 (by
      have := List.mem_of_getElem? (show xs[j]? = some (k, b) by simpa using h)
      exact List.mem_map.2 ⟨_, this, e.symm⟩)
    have ih := less_erase hn.2 (show xs[j]? = some (k, b) by simpa using h)
    unfold less at ih ⊢
    rw [List.filter_cons_of_pos (by simpa using hx), ih, List.eraseIdx_cons_succ]

def rcvCells (y : Rcv) (mb : Nat) : Array Value := #[.int .i64 y.window, .int .u64 y.life, .int .u64 y.got, .map (some mb)]
def rcvAt (p : Nat) (y : Rcv) : SA := SA.ex fun mb : Nat => SA.ex fun bs : List Value => SA.lift (bs.length = y.m.length) *
  (SA.obj p (.cells (rcvCells y mb) 85 (0, 0)) * (mapAt (.int .u64) mb (earlyKV y.m bs) * bodiesOf earlyEl y.m bs))
theorem Sat.rcv_open {w : World} {p : Nat} {y : Rcv} {R : SA} : Sat w (rcvAt p y * R) ↔ ∃ (mb : Nat) (bs : List Value), bs.length = y.m.length ∧
    Sat w (SA.obj p (.cells (rcvCells y mb) 85 (0, 0)) * (mapAt (.int .u64) mb (earlyKV y.m bs) * (bodiesOf earlyEl y.m bs * R))) := by
  unfold rcvAt
  rw [Sat.ex_mul_iff]
  constructor
  · rintro ⟨mb, s⟩
    obtain ⟨bs, s⟩ := Sat.ex_mul_iff.1 s
    rw [SA.mul_assoc, Sat.lift_iff, SA.mul_assoc, SA.mul_assoc] at s
    exact ⟨mb, bs, s.1, s.2⟩
  · rintro ⟨mb, bs, h, s⟩
    refine ⟨mb, Sat.ex_mul_iff.2 ⟨bs, ?_⟩⟩
    rw [SA.mul_assoc, Sat.lift_iff, SA.mul_assoc, SA.mul_assoc]
    exact ⟨h, s⟩

def outEnc (_ : B) (b : Value) : List Value := [b]
def outEl (x : B) (b : Value) : SA := bytesRow b x
/-- A slice of pieces, each in memory of its own. -/
def outAt (v : Value) (l : List B) : SA := recs outEnc outEl 25 1 v l

theorem rcv_new (window : Nat) (hw1 : 1 ≤ window) (hw2 : window ≤ 64) (w : World) (R : SA) (s : Sat w R) :
    Calls Try.prog 17 #[.int .i64 window] w fun e w' => ∃ p, e = .returned (.tuple #[.pointer (some ⟨p, 0, none⟩), .int .i64 0]) ∧ Later w w' ∧ Sat w' (rcvAt p ⟨window, 0, 0, []⟩ * R) := by
  have a1 : ¬ (window : Int) < 1 := by omega
  have a2 : ¬ (64 : Int) < (window : Int) := by omega
  have hmm := @run_makeMap Try.prog
  go_enter Try.func17, Try.ntmps17
  go_wp2
  go_ret2
  refine ⟨_, rfl, ((Later.refl w).alloc _).alloc _, Sat.rcv_open.2 ⟨w.heap.size, [], rfl, ?_⟩⟩
  rw [earlyKV_nil, bodiesOf_nil, SA.one_mul]
  have s1 := (s.map_new (.int .u64)).alloc (.cells (rcvCells ⟨window, 0, 0, []⟩ w.heap.size) 85)
  rw [alloc_size] at s1
  exact s1

theorem rcv_got (p : Nat) (y : Rcv) (w : World) (R : SA) (s : Sat w (rcvAt p y * R)) :
    Calls Try.prog 30 #[.pointer (some ⟨p, 0, none⟩)] w fun e w' => e = .returned (.tuple #[.int .u64 y.life, .int .u64 y.got]) ∧ ∃ n, w' = w.drewN n := by
  obtain ⟨mb, bs, hb, s⟩ := Sat.rcv_open.1 s
  have c1 : w.cell? ⟨p, 1, none⟩ = some (.int .u64 y.life) := s.cell 1
  have c2 : w.cell? ⟨p, 2, none⟩ = some (.int .u64 y.got) := s.cell 2
  go_enter Try.func30, Try.ntmps30
  go_wp2_with fail
  go_quiet (fail)
  go_wp2
  go_ret2
  exact ⟨rfl, _, rfl⟩

end Go.Proofs.Ytbphbafmchhipaa
