/-
  A line is opened: its sender is given pieces that lie in memory that is read alone.
-/
import Derived.Test.YtbphbafmchhipaaMov
namespace Go.Proofs.Ytbphbafmchhipaa
open Go.RowKit Sea

section
variable {P : Program} {w : World}
/-- append to a row of what some cells hold. -/
theorem step_append_rd {ops : Array Oper} {o : Oper} {a : Act} {K : Act → World → Prop} {Q : Exit → Act → World → Prop} {E : Prop} (hgd : o.guard = none) (so xo : Operand) (t : TypeId)
    (ho : o.op = .call { callee := .builtin .append, args := #[so, xo], argTypes := #[t, t] })
    (e : TypeId) (size bytes : Nat) {z : Value} (hinfo : (P.info? e).map (fun i => (i.zero, i.size, i.bytes)) = some (some z, size, bytes)) (ht : P.underlying t = some (.slice e)) (hzs : z.cells.size = size) (hsz : 0 < size)
    {v xv : Value} (n m : Nat) (xs news : List Value) (hs : a.eval so = v) (hx : a.eval xo = xv) {R : SA} (s : Sat w (row e size v n xs * R)) (hnl : news.length = m * size)
    (sx : ((∃ a, xv = .slice a 0 0) ∧ m = 0) ∨ ∃ ad c, xv = .slice (some ad) m c ∧ m ≤ c ∧ ∀ j u, news[j]? = some u → w.cell? (ad.add j) = some u) (h1 : ∀ u ∈ news, u.oneCell' = true)
    (h63 : n + m ≤ maxLen) (hbytes : (n + m) * bytes ≤ 140737488355328)
    (h : ∀ a' c' w', Sat w' (row e size (.slice a' (n + m) c') (n + m) (xs ++ news) * R) → Later w w' → K (a.put o.dst (.slice a' (n + m) c')) w') :
    if Region.wanted o (yielded ops a.tmps) = true then Oper.wp P o a w K Q else E := by
  obtain ⟨i, hi, hz0, hz1, hz2⟩ := info_parts hinfo
  have key : ∃ v' w', (Builtin.append_ #[t, t] o.type #[v, xv]).run P w = .ok v' w' ∧ Sat w' (row e size v' (n + m) (xs ++ news) * R) ∧ Later w w' := by
    rcases Nat.eq_zero_or_pos m with hm | hm
    · subst hm
      have hn0 : news = [] := List.length_eq_zero_iff.1 (by rw [hnl]; simp)
      subst hn0
      obtain ⟨ad, c, rfl⟩ : ∃ ad c, xv = .slice ad 0 c := by
        rcases sx with ⟨⟨a, rfl⟩, _⟩ | ⟨ad, c, rfl, _⟩
        · exact ⟨a, 0, rfl⟩
        · exact ⟨some ad, c, rfl⟩
      obtain ⟨a0, cap0, rfl, hd1, hd2, hd3, _, _⟩ := s.row_form
      refine ⟨_, w, ?_, by simpa using s, Later.refl w⟩
      have hf : (Builtin.firstCells i.size 0 (.slice ad 0 c)).run P w = .ok #[] w := by
        cases ad <;> simp [Builtin.firstCells, loadCells, loadCellsFrom]
      cases a0 with
      | none => simp [Builtin.append_, run_underlying ht, sizeOf, typeInfo, hi, Builtin.lenOf, hd1, hf]
      | some a0 => simp [Builtin.append_, run_underlying ht, sizeOf, typeInfo, hi, Builtin.lenOf, hd1, hf, storeCells]
    · rcases sx with ⟨_, h0⟩ | ⟨ad, c, rfl, _, hc⟩
      · omega
      · exact run_append_row t o.type e i z size bytes ht hi hz0 hz1 hz2 hzs hsz v n xs s ad m c news hnl hc h1 hm h63 hbytes
  obtain ⟨v', w', hr, s', l'⟩ := key
  obtain ⟨a', c', rfl, _⟩ := s'.row_form
  simp only [Region.wanted, hgd, if_true]
  unfold Oper.wp execOp
  simp only [ho, resolve, invoke, builtin, Sem.run_bind, Sem.run_pure, Result.andThen_ok, List.map_toArray, List.map_cons, List.map_nil, hs, hx, hr]
  exact h a' c' w' s' l'
end
theorem RdB.src {w : World} {v : Value} {b : B} (h : RdB w v b) : ((∃ a, v = .slice a 0 0) ∧ b.length = 0) ∨ ∃ ad c, v = .slice (some ad) b.length c ∧ b.length ≤ c ∧ ∀ j u, (bts b)[j]? = some u → w.cell? (ad.add j) = some u := by
  rcases h with ⟨⟨a, rfl⟩, rfl⟩ | ⟨g, o, cap, rfl, hcap, _, h4⟩
  · exact .inl ⟨⟨a, rfl⟩, rfl⟩
  · refine .inr ⟨_, cap, rfl, hcap, fun j u hj => ?_⟩
    rw [bts_get] at hj
    obtain ⟨x, hx, rfl⟩ := Option.map_eq_some_iff.1 hj
    obtain ⟨h5, h6⟩ := List.getElem?_eq_some_iff.1 hx
    rw [Addr.add_lit, h4 j h5, h6]

set_option maxRecDepth 100000 in
theorem snd_pushR (p : Nat) (x : Snd) (bv : Value) (body : B) (X : SA) (hX : ∀ w, Sat w X → RdB w bv body) (w : World) (R : SA) (s : Sat w (senderAt p x * (X * R))) (hb : body.length ≤ 1000) (hl : x.l.length < 128) :
    Calls Try.prog 8 #[.pointer (some ⟨p, 0, none⟩), bv] w fun e w' => e = .returned (.int .i64 0) ∧ Later w w' ∧ Sat w' (senderAt p { x with l := x.l ++ [(body, 0)] } * (X * R)) := by
  unfold senderAt at s
  obtain ⟨lv, s⟩ := Sat.ex_mul_iff.1 s
  rw [SA.mul_assoc] at s
  have s2 := s
  rw [SA.mul_left_comm] at s2
  obtain ⟨bs, hbs, s3⟩ := Sat.recs_open.1 s2
  obtain ⟨la, lc, rfl, hlc, hlc2, _, hl0, _⟩ := s3.row_form
  have c5 : w.cell? ⟨p, 5, none⟩ = some (.slice la x.l.length lc) := s3.p3.cell 5
  obtain ⟨ba, bc, rfl, hbc, hbc2⟩ : ∃ ba bc, bv = .slice ba body.length bc ∧ body.length ≤ bc ∧ bc ≤ maxLen := by
    rcases hX _ s3.p4.left with ⟨⟨a, h1⟩, h2⟩ | ⟨g, o, cap, h1, h2, h3, _⟩
    · exact ⟨a, 0, by rw [h1, h2]; rfl, by rw [h2]; simp, by simp [maxLen]⟩
    · exact ⟨_, cap, h1, h2, h3⟩
  unfold maxLen at hlc2 hbc2
  have hp : p < w.heap.size := s3.p3.lt
  clear s s2
  have hbl : (bts body).length = body.length * 1 := by rw [bts_length, Nat.mul_one]
  have hm1 : 0 + body.length ≤ maxLen := by unfold maxLen; omega
  have hm2 : (0 + body.length) * 1 ≤ 140737488355328 := by omega
  have hm3 : x.l.length + 1 ≤ maxLen := by unfold maxLen; omega
  have hm4 : (x.l.length + 1) * 32 ≤ 140737488355328 := by omega
  go_enter Try.func8, Try.ntmps8
  go_wp2_with fail
  go_region_law
    (first
      | (refine step_append_rd (by rfl) _ _ _ (by rfl) 5 1 1 info_u8 Try.underlying25 (by rfl) (by omega) 0 body.length [] (bts body) (by rfl) (by rfl) (((s3.alloc _).drew).made (n := 0) (sz := 1) rfl max0) hbl (hX _ ((s3.alloc _).drew).p5.left).src (bts_one body) hm1 hm2 ?_
         intro a1 c1 w1 s5 l5
         simp only [Nat.zero_add, List.nil_append] at s5
         have k5 : w1.cell? ⟨p, 5, none⟩ = some (.slice la x.l.length lc) := s5.p4.cell 5
         have hp1 : p < w1.heap.size := s5.p4.lt)
      | go_must (
         (refine step_append (by rfl) _ _ _ (by rfl) 64 2 32 info_piece Try.underlying55 (by rfl) (by omega) x.l.length 1 (cellsOf pieceEnc x.l bs) [.slice a1 body.length c1, .int .i64 0] (by rfl) (by rfl) ((s5.alloc _).p3) (((s5.alloc _).made (n := 1) (sz := 2) rfl max1).as_seg) (one_piece _ _ _ _) hm3 hm4 ?_
          intro a2 c2 w2 s8 l8
          have k6 : w2.cell? ⟨p, 5, none⟩ = some (.slice la x.l.length lc) := s8.p5.cell 5
          have f6 : w2.frozen? ⟨p, 5, none⟩ = false := s8.p5.free 5)))
  all_goals
    go_wp2
    go_ret
    refine ⟨rfl, (((((Later.refl w).alloc _).drew.trans l5).alloc _).trans l8).setCell _ _, ?_⟩
    have s9 := (s8.p5).set 5 (.slice a2 (x.l.length + 1) c2)
    refine Sat.ex_mul_iff.2 ⟨.slice a2 (x.l.length + 1) c2, ?_⟩
    rw [SA.mul_assoc]
    refine Sat.p2 (Sat.recs_snoc (b := .slice a1 body.length c1) hbs ?_)
    refine s9.p3.right.eq ?_
    unfold pieceEl bytesRow
    ac_rfl

end Go.Proofs.Ytbphbafmchhipaa
