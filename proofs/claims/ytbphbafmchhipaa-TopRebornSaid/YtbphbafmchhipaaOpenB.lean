/-
  A line is opened.
-/
import Derived.Test.YtbphbafmchhipaaOpen
namespace Go.Proofs.Ytbphbafmchhipaa
open Go.RowKit Sea

theorem rem_of (x : Int) (n : Nat) (hn : 0 < n) : ∃ u k : Nat, IntKind.u64.wrap x = (u : Int) ∧ u < 18446744073709551616 ∧ (u : Int) % (n : Int) = (k : Int) ∧ k < n := by
  refine ⟨(IntKind.u64.wrap x).toNat, (IntKind.u64.wrap x).toNat % n, ?_, ?_, ?_, Nat.mod_lt _ hn⟩
  · simp [IntKind.wrap, IntKind.bits, IntKind.signed]; omega
  · simp [IntKind.wrap, IntKind.bits, IntKind.signed]; omega
  · exact (Int.natCast_emod _ _).symm
/-- What is read of some part of memory that stays. -/
def RdX (X : SA) (v : Value) (L : List B) : Prop := ((∃ a, v = .slice a 0 0) ∧ L = []) ∨
  ∃ g o cap, ∃ vs : List Value, v = .slice (some ⟨g, o, none⟩) L.length cap ∧ L.length ≤ cap ∧ cap ≤ maxLen ∧ vs.length = L.length ∧ ∀ w, Sat w X → ∀ j bv b, vs[j]? = some bv → L[j]? = some b → w.cell? ⟨g, o + j, none⟩ = some bv ∧ RdB w bv b
theorem RdX.rd {X : SA} {v : Value} {L : List B} (h : RdX X v L) {w : World} (s : Sat w X) : RdL w v L := by
  rcases h with h | ⟨g, o, cap, vs, h1, h2, h3, h4, h5⟩
  · exact .inl h
  · refine .inr ⟨g, o, cap, h1, h2, h3, fun j hj => ?_⟩
    obtain ⟨bv, hbv⟩ : ∃ bv, vs[j]? = some bv := ⟨_, List.getElem?_eq_getElem (by omega)⟩
    exact ⟨bv, h5 w s j bv _ hbv (List.getElem?_eq_getElem hj)⟩
theorem RdX.at {X : SA} {a : Option Addr} {c : Nat} {L : List B} (h : RdX X (.slice a L.length c) L) {i : Nat} (hi : i < L.length) : ∃ g o cap bv, Value.slice a L.length c = .slice (some ⟨g, o, none⟩) L.length cap ∧ L.length ≤ cap ∧ cap ≤ maxLen ∧ ∀ w, Sat w X → w.cell? ⟨g, o + i, none⟩ = some bv ∧ RdB w bv L[i] := by
  rcases h with ⟨_, rfl⟩ | ⟨g, o, cap, vs, h1, h2, h3, h4, h5⟩
  · simp at hi
  · obtain ⟨bv, hbv⟩ : ∃ bv, vs[i]? = some bv := ⟨_, List.getElem?_eq_getElem (by omega)⟩
    exact ⟨g, o, cap, bv, h1, h2, h3, fun w s => h5 w s i bv _ hbv (List.getElem?_eq_getElem hi)⟩
theorem Sat.old_cell {w0 w : World} {R : SA} (s : Sat w (SA.old w0.heap.size w0 * R)) : ∀ a x, w0.cell? a = some x → w.cell? a = some x := by
  intro a x h
  obtain ⟨hf, hs, rfl⟩ := s.left
  have key : ∀ o, w0.heap[a.block]? = some o → w.heap[a.block]? = some o := fun o ho => by
    have hb := (Array.getElem?_eq_some_iff.1 ho).1
    exact hs a.block o (by simp only [hb, if_true]; exact ho)
  unfold World.cell? at h ⊢
  cases ho : w0.heap[a.block]? with
  | none => rw [ho] at h; cases h
  | some o => rw [key o ho]; rw [ho] at h; exact h
theorem RdL.old {w0 : World} {v : Value} {L : List B} (h : RdL w0 v L) : RdX (SA.old w0.heap.size w0) v L := by
  rcases h with h | ⟨g, o, cap, h1, h2, h3, h4⟩
  · exact .inl h
  · refine .inr ⟨g, o, cap, L.attach.zipIdx.map (fun x => ((w0.cell? ⟨g, o + x.2, none⟩).getD undef)), h1, h2, h3, by simp, fun w s j bv b hbv hb => ?_⟩
    obtain ⟨hj, rfl⟩ := List.getElem?_eq_some_iff.1 hb
    obtain ⟨cv, c1, c2⟩ := h4 j hj
    have e : bv = cv := by
      simp [hj, c1] at hbv
      exact hbv.symm
    subst e
    have k := Sat.old_cell (R := SA.one) (s.eq (SA.mul_one _).symm)
    exact ⟨k _ _ c1, c2.mono k⟩
theorem take_snoc {L : List B} {i : Nat} (h : i < L.length) : (L.take (i + 1)).map (fun b => (b, 0)) = (L.take i).map (fun b => (b, 0)) ++ [(L[i], 0)] := by
  rw [List.take_succ_eq_append_getElem h, List.map_append]
  rfl

set_option maxHeartbeats 1000000 in
set_option maxRecDepth 100000 in
theorem opened_calls (win spn : Int) (v : Value) (L : List B) (X : SA) (hX : RdX X v L) (hL : L.length ≤ 20) (hb : ∀ b ∈ L, b.length ≤ 1000) (w : World) (R : SA) (s : Sat w (X * R)) :
    Calls Try.prog 5 #[.int .i64 win, .int .i64 spn, v] w fun e w' => ∃ a px py pn W S : Nat, (1 ≤ W ∧ W ≤ 8 ∧ 1 ≤ S ∧ S ≤ 4 ∧ (W : Int) = 1 + IntKind.u64.wrap win % 8 ∧ (S : Int) = 1 + IntKind.u64.wrap spn % 4) ∧ e = .returned (.pointer (some ⟨a, 0, none⟩)) ∧ Later w w' ∧ Sat w' (lineAt a px py pn ⟨3, W, S, 0, 0, L.map (fun b => (b, 0))⟩ ⟨8, 0, 0, []⟩ [] false [] * (X * R)) := by
  obtain ⟨u, k, hu, hu2, hk, hk8⟩ := rem_of win 8 (by omega)
  obtain ⟨u', k', hu', hu2', hk', hk4⟩ := rem_of spn 4 (by omega)
  obtain ⟨va, vc, rfl⟩ : ∃ a c, v = .slice a L.length c := by
    rcases hX with ⟨⟨a, rfl⟩, rfl⟩ | ⟨g, o, cap, vs, rfl, _⟩
    · exact ⟨a, 0, rfl⟩
    · exact ⟨_, _, rfl⟩
  have hk : (u : Int) % 8 = (k : Int) := hk
  have hk' : (u' : Int) % 4 = (k' : Int) := hk'
  have hu0 : (0 : Int) ≤ (u : Int) := Int.natCast_nonneg _
  have hu0' : (0 : Int) ≤ (u' : Int) := Int.natCast_nonneg _
  have hu1 : (u : Int) < 18446744073709551616 := by omega
  have hu1' : (u' : Int) < 18446744073709551616 := by omega
  have hk0 : (0 : Int) ≤ (k : Int) := Int.natCast_nonneg _
  have hk0' : (0 : Int) ≤ (k' : Int) := Int.natCast_nonneg _
  have hk1 : (k : Int) < 8 := by omega
  have hk1' : (k' : Int) < 4 := by omega
  have Hn0 : Calls Try.prog 6 #[.int .u64 3, .int .i64 (1 + (k : Int)), .int .i64 (1 + (k' : Int))] w fun e w' => ∃ p, e = .returned (.tuple #[.pointer (some ⟨p, 0, none⟩), .int .i64 0]) ∧ Later w w' ∧ Sat w' (senderAt p ⟨3, 1 + k, 1 + k', 0, 0, []⟩ * (X * R)) := snd_new 3 (1 + k) (1 + k') (by omega) (by omega) (by omega) (by omega) w _ s
  have Hn := Lib.hid Hn0
  have Hr : RowKit.Hid (∀ w' R', Sat w' R' → Calls Try.prog 17 #[.int .i64 8] w' fun e w'' => ∃ p, e = .returned (.tuple #[.pointer (some ⟨p, 0, none⟩), .int .i64 0]) ∧ Later w' w'' ∧ Sat w'' (rcvAt p ⟨8, 0, 0, []⟩ * R')) := Lib.hid fun w' R' sw => rcv_new 8 (by omega) (by omega) w' R' sw
  have HL := Lib.hid (And.intro hX hb)
  have HWS : RowKit.Hid (((1 + k : Nat) : Int) = 1 + IntKind.u64.wrap win % 8 ∧ ((1 + k' : Nat) : Int) = 1 + IntKind.u64.wrap spn % 4) := Lib.hid (by rw [hu, hu', hk, hk']; exact ⟨rfl, rfl⟩)
  clear hX hb Hn0 hu2 hu2'
  go_enter Try.func5, Try.ntmps5
  go_wp2_with (first
    | (go_at_call 6
       with_reducible refine Hn.out.mono ?_
       rintro e w1 ⟨px, rfl, l1, s1⟩)
    | (go_at_call 17
       with_reducible refine (Hr.out _ _ s1).mono ?_
       rintro e w2 ⟨py, rfl, l2, s2⟩)
    | (go_at_call 18
       with_reducible refine (net_new _ _ s2).mono ?_
       rintro e w3 ⟨pn, rfl, l3, s3⟩))
  clear hu hu' hk hk'
  go_loopw [13] (fun x13 wr => ∃ i : Nat, i ≤ L.length ∧ x13 = .int .i64 i ∧ Later w wr ∧ Sat wr (senderAt px ⟨3, 1 + k, 1 + k', 0, 0, (L.take i).map (fun b => (b, 0))⟩ * (rcvAt py ⟨8, 0, 0, []⟩ * (netAt pn [] false * (X * R))))) (fun x13 _ => L.length - (intOf x13).toNat)
  case atStart => exact ⟨0, Nat.zero_le _, rfl, (l1.trans l2).trans l3, s3.eq (by rw [List.take_zero, List.map_nil]; ac_rfl)⟩
  case round =>
    obtain ⟨i, hi, rfl, lr, sr⟩ := hrel
    by_cases hlt : i < L.length
    · obtain ⟨g, o, cap, bv, hv, hc1, hc2, hat⟩ := HL.out.1.at hlt
      cases hv
      unfold maxLen at hc2
      have hcell := (hat _ sr.p4.left).1
      have Hp := Lib.hid (snd_pushR px ⟨3, 1 + k, 1 + k', 0, 0, (L.take i).map (fun b => (b, 0))⟩ bv L[i] X (fun w' sw => (hat w' sw).2) wr _ (sr.p4.p2) (HL.out.2 _ (List.getElem_mem hlt)) (by simp; omega))
      clear hat
      have hi1 : (i : Int) < (L.length : Int) := by omega
      have hi2 : (0 : Int) ≤ (i : Int) := Int.natCast_nonneg _
      go_wp2_with (go_at_call 8
                   with_reducible refine Hp.out.mono ?_
                   rintro e w4 ⟨rfl, l4, s4⟩)
      go_roundw
      case rel =>
        refine ⟨i + 1, by omega, by go_num, lr.trans l4, ?_⟩
        rw [take_snoc hlt]
        exact s4.eq (by ac_rfl)
      case measure => simp [intOf]; omega
    · obtain rfl : i = L.length := by omega
      rw [List.take_length] at sr
      go_wp2
      go_ret
      refine ⟨_, px, py, pn, 1 + k, 1 + k', ⟨by omega, by omega, by omega, by omega, HWS.out⟩, rfl, lr.alloc _, Sat.line_open.2 ⟨.slice none 0 0, ?_⟩⟩
      have s5 := sr.alloc (.cells (lineCells px py pn (.slice none 0 0)) 41)
      have s6 : Sat _ (outAt (.slice none 0 0) [] * _) := Sat.recs_none s5
      exact s6.eq (by ac_rfl)

end Go.Proofs.Ytbphbafmchhipaa
