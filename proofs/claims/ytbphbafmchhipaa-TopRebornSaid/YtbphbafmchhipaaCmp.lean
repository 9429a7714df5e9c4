/-
  Lists of bytes that are read alone; SameLists and begins.
-/
import Derived.Test.YtbphbafmchhipaaRcvB
import Derived.Laws.IdiomStrings
import Derived.Deep.QuietTactic
import Derived.BigQuiet
namespace Go.Proofs.Ytbphbafmchhipaa
open Go.RowKit Sea

/-- What a slice of bytes reads as. -/
def RdB (w : World) (v : Value) (b : B) : Prop := ((∃ a, v = .slice a 0 0) ∧ b = []) ∨
  ∃ g o cap, v = .slice (some ⟨g, o, none⟩) b.length cap ∧ b.length ≤ cap ∧ cap ≤ maxLen ∧ ∀ j (hj : j < b.length), w.cell? ⟨g, o + j, none⟩ = some (.int .u8 (b[j].toNat : Int))
/-- What a slice of slices of bytes reads as. -/
def RdL (w : World) (v : Value) (L : List B) : Prop := ((∃ a, v = .slice a 0 0) ∧ L = []) ∨
  ∃ g o cap, v = .slice (some ⟨g, o, none⟩) L.length cap ∧ L.length ≤ cap ∧ cap ≤ maxLen ∧ ∀ j (hj : j < L.length), ∃ bv, w.cell? ⟨g, o + j, none⟩ = some bv ∧ RdB w bv L[j]

theorem RdB.mono {w w' : World} {v : Value} {b : B} (k : ∀ a x, w.cell? a = some x → w'.cell? a = some x) (h : RdB w v b) : RdB w' v b := by
  rcases h with h | ⟨g, o, cap, h1, h2, h3, h4⟩
  · exact .inl h
  · exact .inr ⟨g, o, cap, h1, h2, h3, fun j hj => k _ _ (h4 j hj)⟩
theorem RdL.mono {w w' : World} {v : Value} {L : List B} (k : ∀ a x, w.cell? a = some x → w'.cell? a = some x) (h : RdL w v L) : RdL w' v L := by
  rcases h with h | ⟨g, o, cap, h1, h2, h3, h4⟩
  · exact .inl h
  · exact .inr ⟨g, o, cap, h1, h2, h3, fun j hj => by
      obtain ⟨bv, c1, c2⟩ := h4 j hj
      exact ⟨bv, k _ _ c1, c2.mono k⟩⟩
theorem drewN_add (w : World) (n m : Nat) : (w.drewN n).drewN m = w.drewN (n + m) := by simp [World.drewN, Nat.add_assoc]
theorem cells_drewN (w : World) (n : Nat) : ∀ a x, w.cell? a = some x → (w.drewN n).cell? a = some x := fun _ _ h => h
theorem RdB.conv {w : World} {v : Value} {b : B} (h : RdB w v b) : (convert 25 9 v).run Try.prog w = .ok (.string ⟨b.toArray⟩) w := by
  rcases h with ⟨⟨a, rfl⟩, rfl⟩ | ⟨g, o, cap, rfl, _, _, h4⟩
  · rw [run_convert_bytes_string w 25 9 5 a 0 0 Try.underlying25 Try.underlying5 Try.underlying9]
    cases a with
    | none => simp [Conv.bytesToString]; rfl
    | some ad => simp [Conv.bytesToString, loadCells, loadCellsFrom]; rfl
  · exact run_convert_bytes_back w 25 9 5 ⟨g, o, none⟩ cap b Try.underlying25 Try.underlying5 Try.underlying9 fun j hj => by
      rw [Addr.add_lit]
      exact h4 j hj
theorem str_ne {a b : B} : ((⟨a.toArray⟩ : ByteArray) != ⟨b.toArray⟩) = !decide (a = b) := by
  have key := MapKept.bytes_beq (⟨a.toArray⟩ : ByteArray) ⟨b.toArray⟩
  by_cases h : a = b
  · have : ((⟨a.toArray⟩ : ByteArray) == ⟨b.toArray⟩) = true := key.2 (by rw [h])
    unfold bne
    rw [this]
    simp [h]
  · have : ((⟨a.toArray⟩ : ByteArray) == ⟨b.toArray⟩) = false := by
      cases q : ((⟨a.toArray⟩ : ByteArray) == ⟨b.toArray⟩) with
      | false => rfl
      | true =>
        have := key.1 q
        exact (h (by cases this; rfl)).elim
    unfold bne
    rw [this]
    simp [h]

/-- Some cells hold what reads as bytes: a slice of such. -/
theorem Sat.bytes_rd {w : World} {v : Value} {b : B} {R : SA} (s : Sat w (bytesSeg v b * R)) : RdB w v b := by
  obtain ⟨h, hs, hl, r | ⟨g, off, cap, cur, rfl, h1, h2, h3, h4, k⟩⟩ := s.left
  · obtain ⟨rfl, hb, _⟩ := r
    exact .inl ⟨⟨none, rfl⟩, List.length_eq_zero_iff.1 hb⟩
  · refine .inr ⟨g, off, cap, rfl, h1, h2, fun j hj => ?_⟩
    have hb : w.heap[g]? = some (.cells cur 5 (0, 0)) := hs g _ (by rw [k]; simp [HF.one])
    have e : (bts b)[j]? = some (.int .u8 (b[j].toNat : Int)) := by rw [bts_get, List.getElem?_eq_getElem hj]; rfl
    rw [← h4, List.getElem?_take_of_lt (by omega), List.getElem?_drop] at e
    simp [World.cell?, hb]
    simpa using e
theorem Sat.out_rd {w : World} {v : Value} {L : List B} {R : SA} (s : Sat w (outAt v L * R)) : RdL w v L := by
  obtain ⟨bs, hb, s⟩ := Sat.recs_open.1 s
  rcases Nat.eq_zero_or_pos L.length with h0 | h0
  · obtain ⟨a, cap, rfl, h1, h2, _, h3, h4⟩ := s.row_form
    have : L = [] := List.length_eq_zero_iff.1 h0
    subst this
    cases a with
    | none => exact .inl ⟨⟨none, by rw [h3 rfl]; rfl⟩, rfl⟩
    | some ad =>
      obtain ⟨k1, k2, _⟩ := h4 ad rfl
      obtain ⟨g, o, sp⟩ := ad
      dsimp only at k1 k2
      subst k1 k2
      exact .inr ⟨g, 0, cap, rfl, h1, h2, fun j hj => by simp at hj⟩
  · obtain ⟨g, cap, rfl, h1, h2⟩ := s.row_some h0
    refine .inr ⟨g, 0, cap, rfl, h1, h2, fun j hj => ?_⟩
    obtain ⟨bv, hbv⟩ : ∃ bv, bs[j]? = some bv := ⟨_, List.getElem?_eq_getElem (by omega)⟩
    have hget := cellsOf_get outEnc (fun _ _ => rfl) L bs j 0 _ _ (List.getElem?_eq_getElem hj) hbv (Nat.zero_lt_one)
    have hc := s.row_cell j (by omega)
    rw [Nat.mul_one, Nat.add_zero] at hget
    rw [hget] at hc
    refine ⟨bv, by rw [Nat.zero_add]; exact hc, ?_⟩
    have s2 := s.right
    rw [bodiesOf_split outEl L bs j _ _ (List.getElem?_eq_getElem hj) hbv, SA.mul_assoc] at s2
    exact (s2.mono bytesRow_seg).bytes_rd

theorem RdL.at {w : World} {a : Option Addr} {c : Nat} {L : List B} (h : RdL w (.slice a L.length c) L) {i : Nat} (hi : i < L.length) : ∃ g o cap bv, Value.slice a L.length c = .slice (some ⟨g, o, none⟩) L.length cap ∧ L.length ≤ cap ∧ cap ≤ maxLen ∧ w.cell? ⟨g, o + i, none⟩ = some bv ∧ RdB w bv L[i] := by
  rcases h with ⟨_, rfl⟩ | ⟨g, o, cap, h1, h2, h3, h4⟩
  · simp at hi
  · obtain ⟨bv, c1, c2⟩ := h4 i hi
    exact ⟨g, o, cap, bv, h1, h2, h3, c1, c2⟩
theorem take_eq_succ {L M : List B} {k : Nat} (h1 : k < L.length) (h2 : k < M.length) (e : L.take k = M.take k) (f : L[k] = M[k]) : L.take (k + 1) = M.take (k + 1) := by
  rw [List.take_succ_eq_append_getElem h1, List.take_succ_eq_append_getElem h2, e, f]

set_option maxHeartbeats 700000 in
theorem same_calls (v1 v2 : Value) (L M : List B) (w : World) (h1 : RdL w v1 L) (h2 : RdL w v2 M) (hsm : L.length ≤ 4294967296) :
    Calls Try.prog 16 #[v1, v2] w fun e w' => e = .returned (.bool (decide (L = M))) ∧ ∃ n, w' = w.drewN n := by
  have f1 : ∃ a c, v1 = .slice a L.length c := by
    rcases h1 with ⟨⟨a, rfl⟩, rfl⟩ | ⟨g, o, cap, rfl, _⟩
    · exact ⟨a, 0, rfl⟩
    · exact ⟨_, _, rfl⟩
  have f2 : ∃ a c, v2 = .slice a M.length c := by
    rcases h2 with ⟨⟨a, rfl⟩, rfl⟩ | ⟨g, o, cap, rfl, _⟩
    · exact ⟨a, 0, rfl⟩
    · exact ⟨_, _, rfl⟩
  by_cases hlen : L.length = M.length
  · obtain ⟨a1, c1, rfl⟩ := f1
    obtain ⟨a2, c2, rfl⟩ := f2
    have hd : ((L.length : Int) != (M.length : Int)) = false := by simp [hlen]
    have Hlen := Lib.hid hlen
    clear hlen
    have H1 := Lib.hid h1
    have H2 := Lib.hid h2
    clear h1 h2
    go_enter Try.func16, Try.ntmps16
    go_wp2
    clear hd
    go_loopw [5] (fun x5 wr => ∃ i n : Nat, i ≤ L.length ∧ x5 = .int .i64 i ∧ L.take i = M.take i ∧ wr = w.drewN n) (fun x5 _ => L.length - (intOf x5).toNat)
    case atStart => exact ⟨0, 0, Nat.zero_le _, rfl, rfl, rfl⟩
    case round =>
      obtain ⟨i, n, hi, rfl, htk, rfl⟩ := hrel
      have Htk := Lib.hid htk
      clear htk
      by_cases hlt : i < L.length
      · have hlt2 : i < M.length := by have := Hlen.out; omega
        obtain ⟨g1, o1, k1, b1, e1, hc1, hk1, r1, R1⟩ := H1.out.at hlt
        obtain ⟨g2, o2, k2, b2, e2, hc2, hk2, r2, R2⟩ := H2.out.at hlt2
        cases e1
        cases e2
        have q1 := fun m => ((R1.mono (cells_drewN w n)).mono (cells_drewN _ m)).conv
        have q2 := fun m => ((R2.mono (cells_drewN w n)).mono (cells_drewN _ m)).conv
        have r1 := cells_drewN w n _ _ r1
        have r2 := cells_drewN w n _ _ r2
        clear R1 R2
        generalize hW : w.drewN n = W at *
        have HW := Lib.hid hW
        clear hW
        have hi1 : (i : Int) < (L.length : Int) := by omega
        have hi2 : (0 : Int) ≤ (i : Int) := Int.natCast_nonneg _
        have hi3 : (i : Int) < (M.length : Int) := by omega
        unfold maxLen at hk1 hk2
        generalize hS : (⟨L[i].toArray⟩ : ByteArray) = S1 at *
        generalize hT : (⟨M[i].toArray⟩ : ByteArray) = S2 at *
        have HST : RowKit.Hid ((S1 != S2) = !decide (L[i] = M[i])) := by
          refine Lib.hid ?_
          rw [← hS, ← hT]
          exact str_ne
        clear hS hT
        by_cases heq : L[i] = M[i]
        · have hb : (S1 != S2) = false := by rw [HST.out]; simp [heq]
          have hb2 : (S1 == S2) = true := by simpa [bne] using hb
          obtain rfl : S1 = S2 := (MapKept.bytes_beq _ _).1 hb2
          clear hb hb2
          have Heq := Lib.hid heq
          clear heq HST
          go_wp2_with fail
          go_quiet (fail)
          go_wp2_with fail
          refine ⟨⟨i + 1, n + nq, by omega, by go_num, take_eq_succ hlt hlt2 Htk.out Heq.out, by rw [← HW.out, drewN_add]⟩, ?_⟩
          simp [intOf]
          omega
        · have hb : (S1 != S2) = true := by rw [HST.out]; simp [heq]
          have hb2 : (S1 == S2) = false := by simpa [bne] using hb
          have hb3 : (S1.toList == S2.toList) = false := by
            rw [ByteArray.toList_eq, ByteArray.toList_eq, beq_eq_false_iff_ne]
            intro e
            rw [(MapKept.bytes_beq S1 S2).2 (by obtain ⟨⟨x⟩⟩ := S1; obtain ⟨⟨y⟩⟩ := S2; simpa using e)] at hb2
            cases hb2
          clear hb hb2
          have Hne : RowKit.Hid (¬ L = M) := Lib.hid fun e => heq (by subst e; rfl)
          clear heq HST
          go_wp2_with fail
          go_quiet (fail)
          go_wp2_with fail
          go_ret
          exact ⟨by simp [Hne.out], n + nq, by rw [← HW.out, drewN_add]⟩
      · have Hend : RowKit.Hid (L = M) := by
          refine Lib.hid ?_
          have h := Htk.out
          have hl := Hlen.out
          rw [List.take_of_length_le (by omega), List.take_of_length_le (by omega)] at h
          exact h
        go_wp2_with fail
        go_ret
        exact ⟨by simp [Hend.out], n, rfl⟩
  · obtain ⟨a1, c1, rfl⟩ := f1
    obtain ⟨a2, c2, rfl⟩ := f2
    have hd : ((L.length : Int) != (M.length : Int)) = true := by simp; omega
    have hne : ¬ L = M := fun e => hlen (by rw [e])
    have Hne := Lib.hid hne
    clear hne hlen
    go_enter Try.func16, Try.ntmps16
    go_wp2
    go_ret
    exact ⟨by simp [Hne.out], 0, rfl⟩

theorem begins_calls (v1 v2 : Value) (L F : List B) (w : World) (h1 : RdL w v1 L) (h2 : RdL w v2 F) (hsm : F.length ≤ 4294967296) :
    Calls Try.prog 9 #[v1, v2] w fun e w' => e = .returned (.bool (decide (F.length ≤ L.length ∧ F = L.take F.length))) ∧ ∃ n, w' = w.drewN n := by
  by_cases hlen : F.length ≤ L.length
  · obtain ⟨a1, c1, rfl, r1, k1, k2⟩ : ∃ a1 c1, v1 = .slice a1 L.length c1 ∧ RdL w (.slice a1 F.length c1) (L.take F.length) ∧ F.length ≤ c1 ∧ c1 ≤ maxLen := by
      rcases h1 with ⟨⟨a, rfl⟩, rfl⟩ | ⟨g, o, cap, rfl, q1, q2, q3⟩
      · have : F.length = 0 := by simpa using hlen
        exact ⟨a, 0, rfl, .inl ⟨⟨a, by rw [this]⟩, by simp⟩, by omega, by simp [maxLen]⟩
      · refine ⟨_, cap, rfl, .inr ⟨g, o, cap, by rw [List.length_take, Nat.min_eq_left hlen], by rw [List.length_take]; omega, q2, fun j hj => ?_⟩, by omega, q2⟩
        rw [List.length_take] at hj
        rw [List.getElem_take]
        exact q3 j (by omega)
    obtain ⟨a2, c2, rfl⟩ : ∃ a c, v2 = .slice a F.length c := by
      rcases h2 with ⟨⟨a, rfl⟩, rfl⟩ | ⟨g, o, cap, rfl, _⟩
      · exact ⟨a, 0, rfl⟩
      · exact ⟨_, _, rfl⟩
    have Hs := Lib.hid (same_calls _ _ F (L.take F.length) w h2 r1 hsm)
    have hd : decide (F.length ≤ L.length) = true := by simpa using hlen
    have hc0 : (F.length : Int) ≤ (c1 : Int) := by omega
    unfold maxLen at k2
    clear h1 h2 r1 hlen
    go_enter Try.func9, Try.ntmps9
    go_wp2_with (go_at_call 16; with_reducible refine Hs.out.mono ?_; rintro e w' ⟨rfl, n, rfl⟩)
    go_ret
    have hd2 : F.length ≤ L.length := by simpa using hd
    exact ⟨by simp [hd2], n, rfl⟩
  · have f1 : ∃ a c, v1 = .slice a L.length c := by
      rcases h1 with ⟨⟨a, rfl⟩, rfl⟩ | ⟨g, o, cap, rfl, _⟩
      · exact ⟨a, 0, rfl⟩
      · exact ⟨_, _, rfl⟩
    have f2 : ∃ a c, v2 = .slice a F.length c := by
      rcases h2 with ⟨⟨a, rfl⟩, rfl⟩ | ⟨g, o, cap, rfl, _⟩
      · exact ⟨a, 0, rfl⟩
      · exact ⟨_, _, rfl⟩
    obtain ⟨a1, c1, rfl⟩ := f1
    obtain ⟨a2, c2, rfl⟩ := f2
    have hd : decide (F.length ≤ L.length) = false := by simpa using hlen
    have Hlen := Lib.hid hlen
    clear hlen h1 h2
    go_enter Try.func9, Try.ntmps9
    go_wp2
    go_ret
    exact ⟨by simp [Hlen.out], 0, rfl⟩

end Go.Proofs.Ytbphbafmchhipaa
