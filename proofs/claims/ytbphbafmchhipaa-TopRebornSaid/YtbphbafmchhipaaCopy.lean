/-
  copy and clear, as laws of '*', whatever an element's size.
-/
import Derived.Test.YtbphbafmchhipaaRep
import Derived.Laws.CopyOwn
namespace Go.Proofs.Ytbphbafmchhipaa
open Go.RowKit

/-- Some cells of a block turned. -/
def laid (cur : Array Value) (o : Nat) (vs : List Value) : Array Value := (cur.toList.take o ++ vs ++ cur.toList.drop (o + vs.length)).toArray
theorem laid_size {cur : Array Value} {o : Nat} {vs : List Value} (h : o + vs.length ≤ cur.size) : (laid cur o vs).size = cur.size := by
  simp [laid]
  omega
theorem laid_get {cur : Array Value} {o : Nat} {vs : List Value} (h : o + vs.length ≤ cur.size) (i : Nat) : (laid cur o vs)[i]? = if i < o then cur[i]? else if i < o + vs.length then vs[i - o]? else cur[i]? := by
  unfold laid
  rw [List.getElem?_toArray, List.append_assoc]
  have hl : (cur.toList.take o).length = o := by simp; omega
  by_cases h1 : i < o
  · rw [if_pos h1, List.getElem?_append_left (by omega), List.getElem?_take_of_lt h1, Array.getElem?_toList]
  · rw [if_neg h1, List.getElem?_append_right (by omega), hl]
    by_cases h2 : i < o + vs.length
    · rw [if_pos h2, List.getElem?_append_left (by omega)]
    · rw [if_neg h2, List.getElem?_append_right (by omega), List.getElem?_drop, Array.getElem?_toList]
      congr 1
      omega
section
variable {P : Program} {w : World}
theorem run_laid {R : SA} {g : Nat} {cur : Array Value} {e : TypeId} (s : Sat w (SA.obj g (.cells cur e (0, 0)) * R)) (o : Nat) (vs : List Value) (h : o + vs.length ≤ cur.size) (h1 : ∀ u ∈ vs, u.oneCell' = true) :
    ∃ w', (storeCells ⟨g, o, none⟩ vs).run P w = .ok () w' ∧ Sat w' (SA.obj g (.cells (laid cur o vs) e (0, 0)) * R) ∧ Later w w' := by
  have hst := run_storeCells_at P g o e vs 0 cur w s.get (by simpa using h) h1
  simp only [Nat.add_zero] at hst
  refine ⟨_, hst, s.turn ?_ ?_, ⟨rfl, rfl, rfl, ?_⟩⟩
  · simp [World.setRow, Array.getElem?_modify, s.get, laid]
  · intro i _ hi
    simp [World.setRow, Array.getElem?_modify, Ne.symm hi]
  · simp [World.setRow]
/-- copy into a block that is held. -/
theorem step_copy {ops : Array Oper} {o : Oper} {a : Act} {K : Act → World → Prop} {Q : Exit → Act → World → Prop} {E : Prop} (hgd : o.guard = none) (d so : Operand) (dT sT : TypeId)
    (ho : o.op = .call { callee := .builtin .copy, args := #[d, so], argTypes := #[dT, sT] }) (e size bytes : Nat) {z : Value} (hinfo : (P.info? e).map (fun i => (i.zero, i.size, i.bytes)) = some (some z, size, bytes)) (ht : P.underlying dT = some (.slice e))
    {g off dLen dCap sLen sCap : Nat} {ad : Addr} (hd : a.eval d = .slice (some ⟨g, off, none⟩) dLen dCap) (hs : a.eval so = .slice (some ad) sLen sCap)
    {R : SA} {cur : Array Value} {t : TypeId} (s : Sat w (SA.obj g (.cells cur t (0, 0)) * R)) (n : Nat) (hn : Nat.min sLen dLen = n) (cs : List Value) (hl : cs.length = n * size)
    (hc : ∀ j v, cs[j]? = some v → w.cell? (ad.add j) = some v) (hfit : off + cs.length ≤ cur.size) (h1 : ∀ v ∈ cs, v.oneCell' = true)
    (h : ∀ w', Sat w' (SA.obj g (.cells (laid cur off cs) t (0, 0)) * R) → Later w w' → K (a.put o.dst (goInt n)) w') :
    if Region.wanted o (yielded ops a.tmps) = true then Oper.wp P o a w K Q else E := by
  obtain ⟨i, hi, hz0, hz1, hz2⟩ := info_parts hinfo
  obtain ⟨w', hr, s', l'⟩ := run_laid (P := P) s off cs hfit h1
  have hf := run_firstCells_some (P := P) w i.size n ad sLen sCap cs (by rw [hl, hz1]) hc
  have hrun : (Builtin.copy_ #[dT, sT] o.type #[.slice (some ⟨g, off, none⟩) dLen dCap, .slice (some ad) sLen sCap]).run P w = .ok (goInt n) w' := by
    simp [Builtin.copy_, run_underlying ht, Builtin.lenOf, sizeOf, typeInfo, hi, hn, hf, hr]
  simp only [Region.wanted, hgd, if_true]
  unfold Oper.wp execOp
  simp only [ho, resolve, invoke, builtin, Sem.run_bind, Sem.run_pure, Result.andThen_ok, List.map_toArray, List.map_cons, List.map_nil, hd, hs, hrun]
  exact h w' s' l'
/-- clear of a part of a block that is held. -/
theorem step_clear {ops : Array Oper} {o : Oper} {a : Act} {K : Act → World → Prop} {Q : Exit → Act → World → Prop} {E : Prop} (hgd : o.guard = none) (d : Operand) (dT : TypeId)
    (ho : o.op = .call { callee := .builtin .clear, args := #[d], argTypes := #[dT] }) (e size bytes : Nat) {z : Value} (hinfo : (P.info? e).map (fun i => (i.zero, i.size, i.bytes)) = some (some z, size, bytes)) (ht : P.underlying dT = some (.slice e))
    {g off n dCap : Nat} (hd : a.eval d = .slice (some ⟨g, off, none⟩) n dCap) (hn : 0 < n)
    {R : SA} {cur : Array Value} {t : TypeId} (s : Sat w (SA.obj g (.cells cur t (0, 0)) * R)) (cs : List Value) (hcs : (Builtin.zeroCells z.cells n).toList = cs) (hfit : off + cs.length ≤ cur.size) (h1 : ∀ v ∈ cs, v.oneCell' = true)
    (h : ∀ w', Sat w' (SA.obj g (.cells (laid cur off cs) t (0, 0)) * R) → Later w w' → K (a.put o.dst (.tuple #[])) w') :
    if Region.wanted o (yielded ops a.tmps) = true then Oper.wp P o a w K Q else E := by
  obtain ⟨i, hi, hz0, hz1, hz2⟩ := info_parts hinfo
  obtain ⟨w', hr, s', l'⟩ := run_laid (P := P) s off cs hfit h1
  obtain ⟨m, rfl⟩ : ∃ m, n = m + 1 := ⟨n - 1, by omega⟩
  have hrun : (Builtin.clear_ #[dT] o.type #[.slice (some ⟨g, off, none⟩) (m + 1) dCap]).run P w = .ok (.tuple #[]) w' := by
    simp [Builtin.clear_, run_underlying ht, zeroValue, typeInfo, hi, hz0, hcs, hr]
  simp only [Region.wanted, hgd, if_true]
  unfold Oper.wp execOp
  simp only [ho, resolve, invoke, builtin, Sem.run_bind, Sem.run_pure, Result.andThen_ok, List.map_toArray, List.map_cons, List.map_nil, hd, hrun]
  exact h w' s' l'
end
end Go.Proofs.Ytbphbafmchhipaa
