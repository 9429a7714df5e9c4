/-
  What slices read as: a row of the holder's own (append may write into it), and a part of a row (it is read alone); append as a law of '*'.
-/
import Derived.Test.YtbphbafmchhipaaSl
import Derived.Deep.AppendLies
import Derived.Laws.MakeOwn
namespace Go.Proofs.Ytbphbafmchhipaa
open Go.RowKit

/-- A slice that owns a whole row: 'n' elements of 'sz' cells each, 'xs' their cells. -/
def row (e : TypeId) (sz : Nat) (v : Value) (n : Nat) (xs : List Value) : SA := fun h =>
  xs.length = n * sz ∧ ((v = .slice none 0 0 ∧ n = 0 ∧ h = HF.emp) ∨
    ∃ g cap cur, v = .slice (some ⟨g, 0, none⟩) n cap ∧ n ≤ cap ∧ cap ≤ maxLen ∧ cur.size = cap * sz ∧ cur.toList.take (n * sz) = xs ∧ h = HF.one g (.cells cur e (0, 0)))
/-- A slice that is a part of a row. -/
def seg (e : TypeId) (sz : Nat) (v : Value) (n : Nat) (xs : List Value) : SA := fun h =>
  xs.length = n * sz ∧ ((v = .slice none 0 0 ∧ n = 0 ∧ h = HF.emp) ∨
    ∃ g off cap cur, v = .slice (some ⟨g, off, none⟩) n cap ∧ n ≤ cap ∧ cap ≤ maxLen ∧ off + cap * sz ≤ cur.size ∧ (cur.toList.drop off).take (n * sz) = xs ∧ h = HF.one g (.cells cur e (0, 0)))

theorem row_seg {e : TypeId} {sz : Nat} {v : Value} {n : Nat} {xs : List Value} (h : HF) (r : row e sz v n xs h) : seg e sz v n xs h := by
  obtain ⟨hl, r | ⟨g, cap, cur, a, b, c, d, f, k⟩⟩ := r
  · exact ⟨hl, .inl r⟩
  · exact ⟨hl, .inr ⟨g, 0, cap, cur, a, b, c, by omega, by simpa using f, k⟩⟩
theorem row_nil (e : TypeId) (sz : Nat) : row e sz (.slice none 0 0) 0 [] = SA.one := by
  funext h
  apply propext
  constructor
  · rintro ⟨_, ⟨_, _, r⟩ | ⟨g, cap, cur, a, _⟩⟩
    · exact r
    · cases a
  · intro r; exact ⟨by simp, .inl ⟨rfl, rfl, r⟩⟩
theorem row_of_obj {e : TypeId} {sz g n cap : Nat} {cur : Array Value} {xs : List Value} (h1 : n ≤ cap) (h2 : cap ≤ maxLen) (h3 : cur.size = cap * sz) (h4 : cur.toList.take (n * sz) = xs) (h : HF) (r : SA.obj g (.cells cur e (0, 0)) h) :
    row e sz (.slice (some ⟨g, 0, none⟩) n cap) n xs h := by
  refine ⟨?_, .inr ⟨g, cap, cur, rfl, h1, h2, h3, h4, r⟩⟩
  have := Nat.mul_le_mul_right sz h1
  rw [← h4, List.length_take, Array.length_toList, h3]
  omega

/-- What is known of a slice's parts. -/
theorem Sat.seg_form {w : World} {e : TypeId} {sz : Nat} {v : Value} {n : Nat} {xs : List Value} {R : SA} (s : Sat w (seg e sz v n xs * R)) :
    ∃ a cap, v = .slice a n cap ∧ n ≤ cap ∧ cap ≤ maxLen ∧ xs.length = n * sz ∧ (a = none → cap = 0) ∧ ∀ ad, a = some ad → ad.spot = none ∧ ad.block < w.heap.size ∧ ∀ j, j < n * sz → w.cell? ⟨ad.block, ad.off + j, none⟩ = xs[j]? := by
  obtain ⟨h, hs, hl, r | ⟨g, off, cap, cur, rfl, b, c, d, f, k⟩⟩ := s.left
  · obtain ⟨rfl, rfl, _⟩ := r
    exact ⟨none, 0, rfl, Nat.le_refl _, by simp [maxLen], hl, fun _ => rfl, fun _ h => by cases h⟩
  · refine ⟨_, cap, rfl, b, c, hl, (fun h => nomatch h), fun ad h => ?_⟩
    cases h
    have hb : w.heap[g]? = some (.cells cur e (0, 0)) := hs g _ (by rw [k]; simp [HF.one])
    refine ⟨rfl, (Array.getElem?_eq_some_iff.1 hb).1, fun j hj => ?_⟩
    show w.cell? ⟨g, off + j, none⟩ = _
    rw [← f, List.getElem?_take_of_lt hj, List.getElem?_drop]
    simp [World.cell?, hb]
theorem Sat.row_form {w : World} {e : TypeId} {sz : Nat} {v : Value} {n : Nat} {xs : List Value} {R : SA} (s : Sat w (row e sz v n xs * R)) :
    ∃ a cap, v = .slice a n cap ∧ n ≤ cap ∧ cap ≤ maxLen ∧ xs.length = n * sz ∧ (a = none → cap = 0) ∧ ∀ ad, a = some ad → ad.off = 0 ∧ ad.spot = none ∧ ad.block < w.heap.size ∧ ∀ j, j < n * sz → w.cell? ⟨ad.block, j, none⟩ = xs[j]? ∧ w.frozen? ⟨ad.block, j, none⟩ = false := by
  obtain ⟨h, hs, hl, r | ⟨g, cap, cur, rfl, b, c, d, f, k⟩⟩ := s.left
  · obtain ⟨rfl, rfl, _⟩ := r
    exact ⟨none, 0, rfl, Nat.le_refl _, by simp [maxLen], hl, fun _ => rfl, fun _ h => by cases h⟩
  · refine ⟨_, cap, rfl, b, c, hl, (fun h => nomatch h), fun ad h => ?_⟩
    cases h
    have hb : w.heap[g]? = some (.cells cur e (0, 0)) := hs g _ (by rw [k]; simp [HF.one])
    refine ⟨rfl, rfl, (Array.getElem?_eq_some_iff.1 hb).1, fun j hj => ⟨?_, by simp [World.frozen?, hb]⟩⟩
    rw [← f, List.getElem?_take_of_lt hj]
    simp [World.cell?, hb]
/-- A row that is not empty stands open as a block. -/
theorem Sat.row_open {w : World} {e : TypeId} {sz : Nat} {v : Value} {n : Nat} {xs : List Value} {R : SA} (s : Sat w (row e sz v n xs * R)) (hn : 0 < n) :
    ∃ g cap cur, v = .slice (some ⟨g, 0, none⟩) n cap ∧ n ≤ cap ∧ cap ≤ maxLen ∧ cur.size = cap * sz ∧ cur.toList.take (n * sz) = xs ∧ Sat w (SA.obj g (.cells cur e (0, 0)) * R) := by
  obtain ⟨_, hs, a, b, d, rfl, ⟨hl, r | ⟨g, cap, cur, rfl, h1, h2, h3, h4, k⟩⟩, q⟩ := s
  · omega
  · exact ⟨g, cap, cur, rfl, h1, h2, h3, h4, _, hs, a, b, d, rfl, k, q⟩

theorem Sat.own {w : World} {e : TypeId} {sz : Nat} {v : Value} {n : Nat} {xs : List Value} {R : SA} (s : Sat w (row e sz v n xs * R)) : w.ownsRow 0 e sz v n xs := by
  obtain ⟨h, hs, hl, ⟨rfl, rfl, _⟩ | ⟨g, cap, cur, rfl, h1, h2, h3, h4, k⟩⟩ := s.left
  · exact ⟨hl, .inl ⟨rfl, rfl⟩⟩
  · exact ⟨hl, .inr ⟨g, cap, cur, rfl, Nat.zero_le _, hs g _ (by rw [k]; simp [HF.one]), h1, h2, h3, h4⟩⟩

/-- What append gives, as a row in '*'. -/
theorem Sat.grown {w w' : World} {e : TypeId} {sz : Nat} {v : Value} {n m : Nat} {xs ys : List Value} {R : SA} (s : Sat w (row e sz v n xs * R)) {g cap : Nat}
    (ho : w'.ownsRow 0 e sz (.slice (some ⟨g, 0, none⟩) m cap) m ys) (hg : w.grownBy w' v.ownBlock) (hw : v.ownBlock = some g ∨ g = w.heap.size) :
    Sat w' (row e sz (.slice (some ⟨g, 0, none⟩) m cap) m ys * R) := by
  obtain ⟨hl, ⟨h, _⟩ | ⟨g', cap', cur', hv, _, hb, h1, h2, h3, h4⟩⟩ := ho
  · cases h
  cases hv
  obtain ⟨_, hs, a, b, d, rfl, ⟨hl', r⟩, q⟩ := s
  have hR : HF.sub b w' ∧ b g = none := by
    have hbw := HF.sub_right d hs
    have haw := HF.sub_left hs
    rcases r with ⟨rfl, _, _⟩ | ⟨g0, cap0, cur0, rfl, _, _, _, _, k⟩
    · rcases hw with hw | rfl
      · cases hw
      · refine ⟨fun i o e => ?_, ?_⟩
        · rw [hg.block i (HF.sub_lt hbw e) (by simp [Value.ownBlock])]; exact hbw i o e
        · cases e : b w.heap.size with
          | none => rfl
          | some x => have := HF.sub_lt hbw e; omega
    · have hne : b g0 = none := by
        rcases d g0 with q | q
        · rw [k] at q; simp [HF.one] at q
        · exact q
      refine ⟨fun i o e => ?_, ?_⟩
      · have hi : i ≠ g0 := by rintro rfl; rw [hne] at e; cases e
        rw [hg.block i (HF.sub_lt hbw e) (by simp [Value.ownBlock, hi])]; exact hbw i o e
      · rcases hw with hw | rfl
        · simp [Value.ownBlock] at hw; rw [← hw]; exact hne
        · cases e : b w.heap.size with
          | none => rfl
          | some x => have := HF.sub_lt hbw e; omega
  refine ⟨(HF.one g (.cells cur' e (0, 0))).un b, HF.sub_un ?_ hR.1, _, _, ?_, rfl, ⟨hl, .inr ⟨g, cap, cur', rfl, h1, h2, h3, h4, rfl⟩⟩, q⟩
  · intro i o e
    unfold HF.one at e
    split at e
    · rename_i hi; cases e; rw [hi]; exact hb
    · cases e
  · intro i
    by_cases hi : i = g
    · right; rw [hi]; exact hR.2
    · left; simp [HF.one, hi]

section
variable {P : Program} {w : World}
/-- append of at least one element to a row. -/
theorem run_append_row {R : SA} (t ty e : TypeId) (i : TypeInfo) (z : Value) (size bytes : Nat) (ht : P.underlying t = some (.slice e)) (hi : P.info? e = some i) (hz : i.zero = some z)
    (hsize : i.size = size) (hby : i.bytes = bytes) (hzs : z.cells.size = size) (hsz : 0 < size)
    (v : Value) (n : Nat) (xs : List Value) (s : Sat w (row e size v n xs * R))
    (a : Addr) (m c : Nat) (news : List Value) (hl : news.length = m * size) (hnews : ∀ j u, news[j]? = some u → w.cell? (a.add j) = some u) (h1 : ∀ u ∈ news, u.oneCell' = true)
    (hm : 0 < m) (h63 : n + m ≤ maxLen) (hbytes : (n + m) * bytes ≤ 140737488355328) :
    ∃ v' w', (Builtin.append_ #[t, t] ty #[v, .slice (some a) m c]).run P w = .ok v' w' ∧ Sat w' (row e size v' (n + m) (xs ++ news) * R) ∧ Later w w' := by
  obtain ⟨g, cap, w', hr, ho, hg, hw, _⟩ := run_append_lies (P := P) w t ty 0 e i z size bytes ht hi hz hsize hby hzs hsz v n xs s.own a m c news hl hnews h1 hm h63 hbytes (Nat.zero_le _) _ rfl
  exact ⟨_, w', hr, s.grown ho hg hw, Later.of_grown hg⟩
/-- append of nothing to a row, or of anything: the source is any part. -/
theorem run_append_seg {R : SA} (t ty e : TypeId) (i : TypeInfo) (z : Value) (size bytes : Nat) (ht : P.underlying t = some (.slice e)) (hi : P.info? e = some i) (hz : i.zero = some z)
    (hsize : i.size = size) (hby : i.bytes = bytes) (hzs : z.cells.size = size) (hsz : 0 < size)
    (v : Value) (n : Nat) (xs : List Value) (s : Sat w (row e size v n xs * R))
    (x : Value) (m : Nat) (news : List Value) (sx : Sat w (seg e size x m news)) (h1 : ∀ u ∈ news, u.oneCell' = true)
    (h63 : n + m ≤ maxLen) (hbytes : (n + m) * bytes ≤ 140737488355328) :
    ∃ v' w', (Builtin.append_ #[t, t] ty #[v, x]).run P w = .ok v' w' ∧ Sat w' (row e size v' (n + m) (xs ++ news) * R) ∧ Later w w' := by
  have sx' : Sat w (seg e size x m news * SA.one) := by rw [SA.mul_one]; exact sx
  obtain ⟨a, cap, rfl, hc1, hc2, hl, hnone, hsome⟩ := sx'.seg_form
  rcases Nat.eq_zero_or_pos m with hm | hm
  · subst hm
    have hnil : news = [] := List.length_eq_zero_iff.1 (by simpa using hl)
    subst hnil
    obtain ⟨a0, cap0, rfl, hd1, hd2, hd3, _, _⟩ := s.row_form
    refine ⟨_, w, ?_, by simpa using s, Later.refl w⟩
    have hf : (Builtin.firstCells i.size 0 (.slice a 0 cap)).run P w = .ok #[] w := by
      cases a <;> simp [Builtin.firstCells, loadCells, loadCellsFrom]
    cases a0 with
    | none => simp [Builtin.append_, run_underlying ht, sizeOf, typeInfo, hi, Builtin.lenOf, hd1, hf]
    | some a0 => simp [Builtin.append_, run_underlying ht, sizeOf, typeInfo, hi, Builtin.lenOf, hd1, hf, storeCells]
  · cases a with
    | none => have := hnone rfl; omega
    | some ad =>
      obtain ⟨hsp, _, hcell⟩ := hsome ad rfl
      refine run_append_row t ty e i z size bytes ht hi hz hsize hby hzs hsz v n xs s ad m cap news hl (fun j u hj => ?_) h1 hm h63 hbytes
      have hj' : j < m * size := by rw [← hl]; exact (List.getElem?_eq_some_iff.1 hj).1
      obtain ⟨b, off, sp⟩ := ad
      subst hsp
      rw [Addr.add_lit, hcell j hj', hj]

/-- The law at the operation, for a region of open order ('go_region_held3') and for a plain one. -/
theorem step_append {ops : Array Oper} {o : Oper} {a : Act} {K : Act → World → Prop} {Q : Exit → Act → World → Prop} {E : Prop} (hgd : o.guard = none) (so xo : Operand) (t : TypeId)
    (ho : o.op = .call { callee := .builtin .append, args := #[so, xo], argTypes := #[t, t] })
    (e : TypeId) (size bytes : Nat) {z : Value} (hinfo : (P.info? e).map (fun i => (i.zero, i.size, i.bytes)) = some (some z, size, bytes)) (ht : P.underlying t = some (.slice e)) (hzs : z.cells.size = size) (hsz : 0 < size)
    {v xv : Value} (n m : Nat) (xs news : List Value) (hs : a.eval so = v) (hx : a.eval xo = xv) {R : SA} (s : Sat w (row e size v n xs * R)) (sx : Sat w (seg e size xv m news)) (h1 : ∀ u ∈ news, u.oneCell' = true)
    (h63 : n + m ≤ maxLen) (hbytes : (n + m) * bytes ≤ 140737488355328)
    (h : ∀ a' c' w', Sat w' (row e size (.slice a' (n + m) c') (n + m) (xs ++ news) * R) → Later w w' → K (a.put o.dst (.slice a' (n + m) c')) w') :
    if Region.wanted o (yielded ops a.tmps) = true then Oper.wp P o a w K Q else E := by
  obtain ⟨i, hi, hz0, hz1, hz2⟩ := info_parts hinfo
  obtain ⟨v', w', hr, s', l'⟩ := run_append_seg t o.type e i z size bytes ht hi hz0 hz1 hz2 hzs hsz v n xs s xv m news sx h1 h63 hbytes
  obtain ⟨a', c', rfl, _⟩ := s'.row_form
  simp only [Region.wanted, hgd, if_true]
  unfold Oper.wp execOp
  simp only [ho, resolve, invoke, builtin, Sem.run_bind, Sem.run_pure, Result.andThen_ok, List.map_toArray, List.map_cons, List.map_nil, hs, hx, hr]
  exact h a' c' w' s' l'
theorem wpList_append {ops : Array Oper} {rest : List Oper} {o : Oper} {a : Act} {Q : Exit → Act → World → Prop} (hgd : o.guard = none) (so xo : Operand) (t : TypeId)
    (ho : o.op = .call { callee := .builtin .append, args := #[so, xo], argTypes := #[t, t] })
    (e : TypeId) (size bytes : Nat) {z : Value} (hinfo : (P.info? e).map (fun i => (i.zero, i.size, i.bytes)) = some (some z, size, bytes)) (ht : P.underlying t = some (.slice e)) (hzs : z.cells.size = size) (hsz : 0 < size)
    {v xv : Value} (n m : Nat) (xs news : List Value) (hs : a.eval so = v) (hx : a.eval xo = xv) {R : SA} (s : Sat w (row e size v n xs * R)) (sx : Sat w (seg e size xv m news)) (h1 : ∀ u ∈ news, u.oneCell' = true)
    (h63 : n + m ≤ maxLen) (hbytes : (n + m) * bytes ≤ 140737488355328)
    (h : ∀ a' c' w', Sat w' (row e size (.slice a' (n + m) c') (n + m) (xs ++ news) * R) → Later w w' → wpList P ops Q rest (a.put o.dst (.slice a' (n + m) c')) w') :
    wpList P ops Q (o :: rest) a w := by
  refine wpList_plain hgd fun K hK => ?_
  have := step_append (ops := ops) (E := True) (K := K) (Q := Q) hgd so xo t ho e size bytes hinfo ht hzs hsz n m xs news hs hx s sx h1 h63 hbytes fun a' c' w' s' l' => hK _ _ (h a' c' w' s' l')
  simpa only [Region.wanted, hgd, if_true] using this
end

/-- make([]T, n). -/
theorem wpList_make {P : Program} {w : World} {ops : Array Oper} {rest : List Oper} {o : Oper} {a : Act} {Q : Exit → Act → World → Prop} (hgd : o.guard = none) (l c : Operand) (t : TypeId) (hop : o.op = .makeSlice t l c)
    (e : TypeId) (size bytes : Nat) {z : Value} (hinfo : (P.info? e).map (fun i => (i.zero, i.size, i.bytes)) = some (some z, size, bytes)) (ht : P.underlying t = some (.slice e))
    {kl kc : IntKind} {L C : Int} (n : Nat) (hl : a.eval l = .int kl L) (hc : a.eval c = .int kc C) (hL : L = n) (hC : C = n) (b2 : bytes * n ≤ 281474976710656) (b3 : n ≤ maxLen)
    (hK : wpList P ops Q rest (a.put o.dst (.slice (some ⟨w.heap.size, 0, none⟩) n n)) (w.alloc (.cells (madeCells z.cells (n * size)) e))) :
    wpList P ops Q (o :: rest) a w := by
  obtain ⟨i, hi, hz0, hz1, hz2⟩ := info_parts hinfo
  subst hL
  subst hC
  refine wpList_plain hgd fun K hK' => ?_
  have hrun := run_make (P := P) w t e i z ht hi hz0 kl kc (n : Int) (n : Int) (by omega) (Int.le_refl _) (by rw [hz2]; omega) (by unfold maxLen at b3; omega)
  unfold Oper.wp execOp
  simp only [hop, hl, hc, hrun, Int.toNat_natCast, hz1, Sem.run_bind, Sem.run_pure, Result.andThen_ok]
  exact hK' _ _ hK

/-- A block just made, as a row. -/
theorem Sat.made {w : World} {e : TypeId} {sz g n : Nat} {cs : Array Value} {R : SA} (s : Sat w (SA.obj g (.cells cs e (0, 0)) * R)) (hn : cs.size = n * sz) (hm : n ≤ maxLen) :
    Sat w (row e sz (.slice (some ⟨g, 0, none⟩) n n) n cs.toList * R) :=
  s.mono (row_of_obj (Nat.le_refl _) hm hn (List.take_of_length_le (by rw [Array.length_toList, hn]; exact Nat.le_refl _)))
theorem Sat.as_seg {w : World} {e : TypeId} {sz : Nat} {v : Value} {n : Nat} {xs : List Value} {R : SA} (s : Sat w (row e sz v n xs * R)) : Sat w (seg e sz v n xs) := (s.mono row_seg).left

end Go.Proofs.Ytbphbafmchhipaa
