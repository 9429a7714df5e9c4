/-
  A net: a packet comes twice.
-/
import Derived.Test.YtbphbafmchhipaaNetD
namespace Go.Proofs.Ytbphbafmchhipaa
open Go.RowKit Sea

theorem Sat.row_cell {w : World} {e : TypeId} {sz g c n : Nat} {xs : List Value} {R : SA} (s : Sat w (row e sz (.slice (some ⟨g, 0, none⟩) n c) n xs * R)) (j : Nat) (hj : j < n * sz) :
    w.cell? ⟨g, j, none⟩ = xs[j]? := by
  obtain ⟨a, cap, h, _, _, _, _, k⟩ := s.row_form
  cases h
  exact ((k _ rfl).2.2.2 j hj).1
theorem Sat.row_lt {w : World} {e : TypeId} {sz g c n : Nat} {xs : List Value} {R : SA} (s : Sat w (row e sz (.slice (some ⟨g, 0, none⟩) n c) n xs * R)) : g < w.heap.size := by
  obtain ⟨a, cap, h, _, _, _, _, k⟩ := s.row_form
  cases h
  exact (k _ rfl).2.2.1
theorem Sat.row_some {w : World} {e : TypeId} {sz n : Nat} {v : Value} {xs : List Value} {R : SA} (s : Sat w (row e sz v n xs * R)) (hn : 0 < n) : ∃ g c, v = .slice (some ⟨g, 0, none⟩) n c ∧ n ≤ c ∧ c ≤ maxLen := by
  obtain ⟨a, cap, h, h1, h2, _, h3, k⟩ := s.row_form
  cases a with
  | none => have := h3 rfl; omega
  | some ad =>
    obtain ⟨k0, k1, _⟩ := k _ rfl
    obtain ⟨g, o, sp⟩ := ad
    dsimp only at k0 k1
    subst k0 k1
    exact ⟨g, cap, h, h1, h2⟩

set_option maxHeartbeats 2000000 in
set_option maxRecDepth 100000 in
theorem net_twice (n : Nat) (l : List Pkt) (ap : Bool) (i : Nat) (hln : l.length ≤ 4096) (hbody : ∀ p ∈ l, p.body.length ≤ 4096) (w : World) (R : SA) (s : Sat w (netAt n l ap * R)) :
    Calls Try.prog 22 #[.pointer (some ⟨n, 0, none⟩), .int .i64 i] w fun e w' => (∃ b, e = .returned (.bool b)) ∧ Later w w' ∧ Sat w' (netAt n (if l.length < 256 then l ++ (l[i]?).toList else l) ap * R) := by
  have Ht := Lib.hid (net_there n l ap i _ _ s)
  by_cases hil : i < l.length
  · have hd : decide (i < l.length) = true := by simpa using hil
    obtain ⟨p, hp⟩ : ∃ p, l[i]? = some p := ⟨_, List.getElem?_eq_getElem hil⟩
    rw [hd] at Ht
    rw [hp]
    obtain ⟨c, lv, bs, H, hb, s⟩ := Sat.net_open.1 s
    obtain ⟨bi, hbi⟩ : ∃ b, bs[i]? = some b := ⟨bs[i]'(by omega), List.getElem?_eq_getElem (by omega)⟩
    have hpb : p.body.length ≤ 4096 := hbody p (List.mem_of_getElem? hp)
    obtain ⟨g, lc, rfl, hc1, hc2⟩ := s.p2.row_some (by omega)
    have hsplit := bodiesOf_split pktEl l bs i p bi hp hbi
    rw [hsplit, SA.mul_assoc] at s
    obtain ⟨a, bc, hbv, _⟩ := s.p3.row_form
    subst hbv
    have hget : ∀ k, k < 3 → (cellsOf pktEnc l bs)[i * 3 + k]? = (pktEnc p (.slice a p.body.length bc))[k]? := fun k hk => cellsOf_get pktEnc pktEnc_length l bs i k p _ hp hbi hk
    have n1 : w.cell? ⟨n, 1, none⟩ = some (.slice (some ⟨g, 0, none⟩) l.length lc) := (s.cell 1).trans H.2.2.1
    have g0 : w.cell? ⟨g, i * 3, none⟩ = some (.int .i64 p.src) := (s.p2.row_cell _ (by omega)).trans (hget 0 (by omega))
    have g1 : w.cell? ⟨g, i * 3 + 1, none⟩ = some (.int .i64 p.dst) := (s.p2.row_cell _ (by omega)).trans (hget 1 (by omega))
    have g2 : w.cell? ⟨g, i * 3 + 2, none⟩ = some (.slice a p.body.length bc) := (s.p2.row_cell _ (by omega)).trans (hget 2 (by omega))
    have hi1 : (i : Int) < (l.length : Int) := by omega
    have hi2 : (0 : Int) ≤ (i : Int) := Int.natCast_nonneg i
    have Ho : RowKit.Hid (∀ w' R', Sat w' (pktEl p (.slice a p.body.length bc) * R') → Calls Try.prog 34 #[.agg #[.int .i64 p.src, .int .i64 p.dst, .slice a p.body.length bc]] w' fun e w'' => ∃ a' c', e = .returned (.agg #[.int .i64 p.src, .int .i64 p.dst, .slice a' p.body.length c']) ∧ Later w' w'' ∧ Sat w'' (bytesRow (.slice a' p.body.length c') p.body * (pktEl p (.slice a p.body.length bc) * R'))) :=
      Lib.hid fun w' R' sw => net_ownX p _ (pktEl p (.slice a p.body.length bc)) (fun h hh => bytesRow_seg h hh) w' R' sw hpb
    have HH := Lib.hid H
    have Hs := Lib.hid hsplit
    have hnw : n < w.heap.size := s.lt
    have hgw : g < w.heap.size := s.p2.row_lt
    clear H hsplit hget hp hd
    by_cases hful : l.length < 256
    · rw [if_pos hful]
      have hm1 : l.length + 1 ≤ maxLen := by unfold maxLen; omega
      have hm2 : (l.length + 1) * 40 ≤ 140737488355328 := by omega
      have hful1 : (l.length : Int) < 256 := by omega
      go_enter Try.func22, Try.ntmps22
      go_wp2_with (go_at_call 32; with_reducible refine Ht.out.mono ?_; rintro e w' ⟨rfl, rfl⟩)
      go_region_law
        (first
          | (refine step_append (by rfl) _ _ _ (by rfl) 59 3 40 info_pkt Try.underlying71 (by rfl) (by omega) l.length 1 (cellsOf pktEnc l bs) [.int .i64 p.src, .int .i64 p.dst, .slice a2 p.body.length c2] (by rfl) (by rfl) ((s3.alloc _).p5) (((s3.alloc _).made (n := 1) (sz := 3) rfl max1).as_seg) (one_pkt _ _ _ _ _) hm1 hm2 ?_
             intro a4 c4 w4 s5 l5
             have k6 : w4.cell? ⟨n, 1, none⟩ = some (.slice (some ⟨g, 0, none⟩) l.length lc) := (s5.p5.cell 1).trans HH.out.2.2.1
             have f6 : w4.frozen? ⟨n, 1, none⟩ = false := s5.p5.free 1)
          | (go_simp
             go_at_call 34
             with_reducible refine (Ho.out _ _ (s.p3)).mono ?_
             rintro e w2 ⟨a2, c2, rfl, l2, s3⟩
             have k3 : w2.cell? ⟨n, 1, none⟩ = some (.slice (some ⟨g, 0, none⟩) l.length lc) := (s3.p3.cell 1).trans HH.out.2.2.1
             have hn2 : n < w2.heap.size := s3.p3.lt
             have lA := (Later.refl w).trans l2)
          | (go_simp
             go_at_call 34
             with_reducible refine (Ho.out _ _ (s.drew.p3)).mono ?_
             rintro e w2 ⟨a2, c2, rfl, l2, s3⟩
             have k3 : w2.cell? ⟨n, 1, none⟩ = some (.slice (some ⟨g, 0, none⟩) l.length lc) := (s3.p3.cell 1).trans HH.out.2.2.1
             have hn2 : n < w2.heap.size := s3.p3.lt
             have lA := (Later.refl w).drew |>.trans l2))
      all_goals
        go_wp2
        go_ret
        refine ⟨⟨_, rfl⟩, ((lA.alloc _).trans l5).setCell _ _, ?_⟩
        have s6 := (s5.p5.set 1 (.slice a4 (l.length + 1) c4)).x3
        refine Sat.net_put HH.out hb (p := p) (b := .slice a2 p.body.length c2) (V := .slice a4 (l.length + 1) c4) (s6.eq ?_)
        rw [Hs.out]
        have e1 : pktEnc p (.slice a2 p.body.length c2) = [.int .i64 p.src, .int .i64 p.dst, .slice a2 p.body.length c2] := rfl
        rw [e1]
        ac_rfl
    · rw [if_neg hful]
      have hful1 : 256 ≤ (l.length : Int) := by omega
      rw [← SA.mul_assoc (pktEl p _), ← Hs.out] at s
      go_enter Try.func22, Try.ntmps22
      go_wp2_with (go_at_call 32; with_reducible refine Ht.out.mono ?_; rintro e w' ⟨rfl, rfl⟩)
      go_ret
      exact ⟨⟨_, rfl⟩, Later.refl _, Sat.net_open.2 ⟨c, _, bs, HH.out, hb, s⟩⟩
  · have hd : decide (i < l.length) = false := by simpa using hil
    rw [List.getElem?_eq_none (by omega), Option.toList_none, List.append_nil, ite_self]
    rw [hd] at Ht
    clear hd hil
    go_enter Try.func22, Try.ntmps22
    go_wp2_with (go_at_call 32; with_reducible refine Ht.out.mono ?_; rintro e w' ⟨rfl, rfl⟩)
    go_ret
    exact ⟨⟨_, rfl⟩, Later.refl _, s⟩

end Go.Proofs.Ytbphbafmchhipaa
