/-
  Maps as parts of '*': what lookup, a store, delete and clear do to one.
-/
import Derived.Test.YtbphbafmchhipaaRep
import Derived.MapKept
namespace Go.Proofs.Ytbphbafmchhipaa
open Go.RowKit Go.MapKept

theorem Sat.x5 {w : World} {A B C D E R : SA} (s : Sat w (A * (B * (C * (D * (E * R)))))) : Sat w (A * (B * (C * (D * R)))) := s.p5.right
theorem Sat.x6 {w : World} {A B C D E F R : SA} (s : Sat w (A * (B * (C * (D * (E * (F * R))))))) : Sat w (A * (B * (C * (D * (E * R))))) := s.p6.right
/-- A map's block, by its keys and values in the order in which they lie. -/
def mapAt (d : TypeDesc) (b : Nat) (l : List (Value × Value)) : SA := SA.ex fun es : Array MapEntry => SA.ex fun clock : Nat =>
  SA.lift (es.toList.map (fun e => (e.key, e.val)) = l ∧ (∀ p ∈ l, IsKey d p.1) ∧ (l.map (·.1)).Nodup) * SA.obj b (.map es clock)
theorem Sat.map_open {w : World} {d : TypeDesc} {b : Nat} {l : List (Value × Value)} {R : SA} : Sat w (mapAt d b l * R) ↔ ∃ es clock, es.toList.map (fun e => (e.key, e.val)) = l ∧ (∀ p ∈ l, IsKey d p.1) ∧ (l.map (·.1)).Nodup ∧ Sat w (SA.obj b (.map es clock) * R) := by
  unfold mapAt
  rw [Sat.ex_mul_iff]
  constructor
  · rintro ⟨es, s⟩
    obtain ⟨clock, s⟩ := Sat.ex_mul_iff.1 s
    rw [SA.mul_assoc, Sat.lift_iff] at s
    exact ⟨es, clock, s.1.1, s.1.2.1, s.1.2.2, s.2⟩
  · rintro ⟨es, clock, h1, h2, h3, s⟩
    refine ⟨es, Sat.ex_mul_iff.2 ⟨clock, ?_⟩⟩
    rw [SA.mul_assoc, Sat.lift_iff]
    exact ⟨⟨h1, h2, h3⟩, s⟩
theorem Sat.map_new {w : World} {R : SA} (s : Sat w R) (d : TypeDesc) : Sat (w.alloc (.map #[] 0)) (mapAt d w.heap.size [] * R) :=
  Sat.map_open.2 ⟨#[], 0, rfl, (fun _ h => by cases h), List.nodup_nil, s.alloc _⟩

section
variable {P : Program} {w : World} {d : TypeDesc} {b : Nat} {l : List (Value × Value)} {R : SA} {k : Value}

theorem find_none {es : Array MapEntry} (h : es.toList.map (fun e => (e.key, e.val)) = l) (hk : IsKey d k) (hks : ∀ p ∈ l, IsKey d p.1) (ha : ∀ p ∈ l, p.1 ≠ k) : Instr.findNow d k es.toList 0 = some none := by
  rcases findNow_spec hk es.toList 0 (fun x hx => hks (x.key, x.val) (by rw [← h]; exact List.mem_map.2 ⟨x, hx, rfl⟩)) with ⟨h1, _⟩ | ⟨j, e, _, h2, h3⟩
  · exact h1
  · exact absurd h3 (ha (e.key, e.val) (by rw [← h]; exact List.mem_map.2 ⟨e, List.mem_of_getElem? h2, rfl⟩))
theorem find_some {es : Array MapEntry} (h : es.toList.map (fun e => (e.key, e.val)) = l) (hk : IsKey d k) (hks : ∀ p ∈ l, IsKey d p.1) (hn : (l.map (·.1)).Nodup) {j : Nat} {v : Value} (hj : l[j]? = some (k, v)) : Instr.findNow d k es.toList 0 = some (some (j, v)) := by
  rcases findNow_spec hk es.toList 0 (fun x hx => hks (x.key, x.val) (by rw [← h]; exact List.mem_map.2 ⟨x, hx, rfl⟩)) with ⟨_, h2⟩ | ⟨i, e, h1, h2, h3⟩
  · rw [← h, List.getElem?_map] at hj
    obtain ⟨e, he, hv⟩ := Option.map_eq_some_iff.1 hj
    cases hv
    exact absurd rfl (h2 e (List.mem_of_getElem? he))
  · have hi : l[i]? = some (k, e.val) := by rw [← h, List.getElem?_map, h2, ← h3]; rfl
    have e1 : (l.map (·.1))[i]? = some k := by rw [List.getElem?_map, hi]; rfl
    have e2 : (l.map (·.1))[j]? = some k := by rw [List.getElem?_map, hj]; rfl
    have hil := (List.getElem?_eq_some_iff.1 e1).1
    obtain rfl : i = j := (List.getElem?_inj hil hn).1 (e1.trans e2.symm)
    rw [hi] at hj
    cases hj
    rw [h1, Nat.zero_add]

theorem run_lookup_none {t kt et : TypeId} (ht : P.underlying t = some (.map kt et)) (hkt : P.underlying kt = some d) {z : Value} (hz : (zeroValue et).run P w = .ok z w) (s : Sat w (mapAt d b l * R)) (hk : IsKey d k) (ha : ∀ p ∈ l, p.1 ≠ k) (ok : Bool) :
    (Instr.lookup t (.map (some b)) k ok).run P w = .ok (if ok then .tuple #[z, .bool false] else z) w := by
  obtain ⟨es, clock, h1, h2, h3, s⟩ := Sat.map_open.1 s
  have hf := Go.MapKept.run_findKey (w := w) hkt (find_none h1 hk h2 ha)
  unfold Instr.lookup
  simp only [Sem.run_bind, run_underlying ht, Result.andThen, Go.MapKept.run_getObj_map s.get, Sem.run_pure, Go.MapKept.run_checkKey (w := w) hkt hk, hf, hz]
theorem run_lookup_some {t kt et : TypeId} (ht : P.underlying t = some (.map kt et)) (hkt : P.underlying kt = some d) (s : Sat w (mapAt d b l * R)) (hk : IsKey d k) {j : Nat} {v : Value} (hj : l[j]? = some (k, v)) (ok : Bool) :
    (Instr.lookup t (.map (some b)) k ok).run P w = .ok (if ok then .tuple #[v, .bool true] else v) w := by
  obtain ⟨es, clock, h1, h2, h3, s⟩ := Sat.map_open.1 s
  have hf := Go.MapKept.run_findKey (w := w) hkt (find_some h1 hk h2 h3 hj)
  unfold Instr.lookup
  simp only [Sem.run_bind, run_underlying ht, Result.andThen, Go.MapKept.run_getObj_map s.get, Sem.run_pure, Go.MapKept.run_checkKey (w := w) hkt hk, hf]

/-- A block that was a map is another one. -/
theorem Sat.map_set {es : Array MapEntry} {clock : Nat} (s : Sat w (SA.obj b (.map es clock) * R)) (o : Obj) : Sat { w with heap := w.heap.setIfInBounds b o } (SA.obj b o * R) ∧ Later w { w with heap := w.heap.setIfInBounds b o } := by
  have h := Go.MapKept.heap_set (o' := o) s.get
  exact ⟨s.turn h.1 (fun i _ hi => h.2 i hi), ⟨rfl, rfl, rfl, by simp⟩⟩

theorem run_update_new {t kt et : TypeId} (ht : P.underlying t = some (.map kt et)) (hkt : P.underlying kt = some d) (s : Sat w (mapAt d b l * R)) (hk : IsKey d k) (ha : ∀ p ∈ l, p.1 ≠ k) (v : Value) :
    ∃ w', (Instr.mapUpdate t (.map (some b)) k v).run P w = .ok () w' ∧ Sat w' (mapAt d b (l ++ [(k, v)]) * R) ∧ Later w w' := by
  obtain ⟨es, clock, h1, h2, h3, s⟩ := Sat.map_open.1 s
  have hf := Go.MapKept.run_findKey (w := w) hkt (find_none h1 hk h2 ha)
  obtain ⟨s', l'⟩ := s.map_set (.map (es.push { key := k, val := v, born := clock }) (clock + 1))
  refine ⟨_, ?_, Sat.map_open.2 ⟨_, _, ?_, ?_, ?_, s'⟩, l'⟩
  · unfold Instr.mapUpdate
    simp only [Sem.run_bind, run_underlying ht, Result.andThen, Go.MapKept.run_getObj_map s.get, Go.MapKept.run_checkKey (w := w) hkt hk, hf, Go.MapKept.run_setObj_map _ s.get]
  · rw [Array.toList_push, List.map_append, h1]; rfl
  · intro p hp
    rcases List.mem_append.1 hp with hp | hp
    · exact h2 p hp
    · rw [List.mem_singleton.1 hp]; exact hk
  · rw [List.map_append, List.nodup_append]
    refine ⟨h3, by simp, ?_⟩
    intro a hm c hc
    simp at hc
    obtain ⟨p, hp, rfl⟩ := List.mem_map.1 hm
    rw [hc]
    exact ha p hp

theorem map_erase {α β : Type} (f : α → β) : ∀ (l : List α) (i : Nat), (l.eraseIdx i).map f = (l.map f).eraseIdx i
  | [], _ => rfl
  | _ :: _, 0 => rfl
  | _ :: l, i + 1 => by simp only [List.eraseIdx_cons_succ, List.map_cons, map_erase f l i]
theorem run_delete_some {t kt et ty : TypeId} (ht : P.underlying t = some (.map kt et)) (hkt : P.underlying kt = some d) (s : Sat w (mapAt d b l * R)) (hk : IsKey d k) {j : Nat} {v : Value} (hj : l[j]? = some (k, v)) :
    ∃ w', (Builtin.delete_ #[t, kt] ty #[.map (some b), k]).run P w = .ok (.tuple #[]) w' ∧ Sat w' (mapAt d b (l.eraseIdx j) * R) ∧ Later w w' := by
  obtain ⟨es, clock, h1, h2, h3, s⟩ := Sat.map_open.1 s
  have hf := Go.MapKept.run_findKey (w := w) hkt (find_some h1 hk h2 h3 hj)
  obtain ⟨s', l'⟩ := s.map_set (.map (es.eraseIdxIfInBounds j) clock)
  have hsub : (l.eraseIdx j).Sublist l := List.eraseIdx_sublist _ _
  refine ⟨_, ?_, Sat.map_open.2 ⟨_, _, ?_, fun p hp => h2 p (hsub.subset hp), (hsub.map _).nodup h3, s'⟩, l'⟩
  · unfold Builtin.delete_
    simp [Sem.run_bind, run_underlying ht, Result.andThen, Go.MapKept.run_getObj_map s.get, Go.MapKept.run_checkKey (w := w) hkt hk, hf, Go.MapKept.run_setObj_map _ s.get]
  · have hjl := (List.getElem?_eq_some_iff.1 hj).1
    have hsz : j < es.size := by rw [← h1, List.length_map, Array.length_toList] at hjl; exact hjl
    unfold Array.eraseIdxIfInBounds
    rw [dif_pos hsz, Array.toList_eraseIdx, ← h1, map_erase]

theorem run_clear_map {t kt et ty : TypeId} (ht : P.underlying t = some (.map kt et)) (s : Sat w (mapAt d b l * R)) :
    ∃ w', (Builtin.clear_ #[t] ty #[.map (some b)]).run P w = .ok (.tuple #[]) w' ∧ Sat w' (mapAt d b [] * R) ∧ Later w w' := by
  obtain ⟨es, clock, h1, h2, h3, s⟩ := Sat.map_open.1 s
  obtain ⟨s', l'⟩ := s.map_set (.map #[] clock)
  refine ⟨_, ?_, Sat.map_open.2 ⟨_, _, rfl, (fun _ h => by cases h), List.nodup_nil, s'⟩, l'⟩
  unfold Builtin.clear_
  simp [Sem.run_bind, run_underlying ht, Result.andThen, Go.MapKept.run_getObj_map s.get, Go.MapKept.run_setObj_map _ s.get]

/-- delete and clear at the operation. -/
theorem step_delete {ops : Array Oper} {o : Oper} {a : Act} {K : Act → World → Prop} {Q : Exit → Act → World → Prop} {E : Prop} (hgd : o.guard = none) (m x : Operand) (t kt et : TypeId)
    (ho : o.op = .call { callee := .builtin .delete, args := #[m, x], argTypes := #[t, kt] }) (ht : P.underlying t = some (.map kt et)) (hkt : P.underlying kt = some d) (hm : a.eval m = .map (some b)) (hx : a.eval x = k)
    (s : Sat w (mapAt d b l * R)) (hk : IsKey d k) {j : Nat} {v : Value} (hj : l[j]? = some (k, v))
    (h : ∀ w', Sat w' (mapAt d b (l.eraseIdx j) * R) → Later w w' → K (a.put o.dst (.tuple #[])) w') :
    if Region.wanted o (yielded ops a.tmps) = true then Oper.wp P o a w K Q else E := by
  obtain ⟨w', hr, s', l'⟩ := run_delete_some (ty := o.type) ht hkt s hk hj
  simp only [Region.wanted, hgd, if_true]
  unfold Oper.wp execOp
  simp only [ho, resolve, invoke, builtin, Sem.run_bind, Sem.run_pure, Result.andThen_ok, List.map_toArray, List.map_cons, List.map_nil, hm, hx, hr]
  exact h w' s' l'
theorem step_clear_map {ops : Array Oper} {o : Oper} {a : Act} {K : Act → World → Prop} {Q : Exit → Act → World → Prop} {E : Prop} (hgd : o.guard = none) (m : Operand) (t kt et : TypeId)
    (ho : o.op = .call { callee := .builtin .clear, args := #[m], argTypes := #[t] }) (ht : P.underlying t = some (.map kt et)) (hm : a.eval m = .map (some b)) (s : Sat w (mapAt d b l * R))
    (h : ∀ w', Sat w' (mapAt d b [] * R) → Later w w' → K (a.put o.dst (.tuple #[])) w') :
    if Region.wanted o (yielded ops a.tmps) = true then Oper.wp P o a w K Q else E := by
  obtain ⟨w', hr, s', l'⟩ := run_clear_map (ty := o.type) ht s
  simp only [Region.wanted, hgd, if_true]
  unfold Oper.wp execOp
  simp only [ho, resolve, invoke, builtin, Sem.run_bind, Sem.run_pure, Result.andThen_ok, List.map_toArray, List.map_cons, List.map_nil, hm, hr]
  exact h w' s' l'
theorem wpList_clear_map {ops : Array Oper} {rest : List Oper} {o : Oper} {a : Act} {Q : Exit → Act → World → Prop} (hgd : o.guard = none) (m : Operand) (t kt et : TypeId)
    (ho : o.op = .call { callee := .builtin .clear, args := #[m], argTypes := #[t] }) (ht : P.underlying t = some (.map kt et)) (hm : a.eval m = .map (some b)) (s : Sat w (mapAt d b l * R))
    (h : ∀ w', Sat w' (mapAt d b [] * R) → Later w w' → wpList P ops Q rest (a.put o.dst (.tuple #[])) w') :
    wpList P ops Q (o :: rest) a w := by
  refine wpList_plain hgd fun K hK => ?_
  have := step_clear_map (ops := ops) (E := True) (K := K) (Q := Q) hgd m t kt et ho ht hm s fun w' s' l' => hK _ _ (h w' s' l')
  simpa only [Region.wanted, hgd, if_true] using this
end

end Go.Proofs.Ytbphbafmchhipaa
