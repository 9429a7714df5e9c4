/-
  TopReborn: whatever the input, it answers true and leaves what was there.
-/
import Derived.Test.YtbphbafmchhipaaFlow
import Derived.Deep.CutBlock
namespace Go.Proofs.Ytbphbafmchhipaa
open Go.RowKit Sea

/-- What a slice of moves reads as. -/
def RdM (w : World) (v : Value) (A : List (Int × Int × Int)) : Prop := ((∃ a, v = .slice a 0 0) ∧ A = []) ∨
  ∃ g o cap, v = .slice (some ⟨g, o, none⟩) A.length cap ∧ A.length ≤ cap ∧ cap ≤ maxLen ∧ ∀ j (hj : j < A.length), w.cell? ⟨g, o + j * 3, none⟩ = some (.int .i64 A[j].1) ∧ w.cell? ⟨g, o + j * 3 + 1, none⟩ = some (.int .i64 A[j].2.1) ∧ w.cell? ⟨g, o + j * 3 + 2, none⟩ = some (.int .i64 A[j].2.2)
theorem RdM.mono {w w' : World} {v : Value} {A : List (Int × Int × Int)} (k : ∀ a x, w.cell? a = some x → w'.cell? a = some x) (h : RdM w v A) : RdM w' v A := by
  rcases h with h | ⟨g, o, cap, h1, h2, h3, h4⟩
  · exact .inl h
  · exact .inr ⟨g, o, cap, h1, h2, h3, fun j hj => ⟨k _ _ (h4 j hj).1, k _ _ (h4 j hj).2.1, k _ _ (h4 j hj).2.2⟩⟩
theorem RdM.at {w : World} {a : Option Addr} {c : Nat} {A : List (Int × Int × Int)} (h : RdM w (.slice a A.length c) A) {i : Nat} (hi : i < A.length) : ∃ g o cap, Value.slice a A.length c = .slice (some ⟨g, o, none⟩) A.length cap ∧ A.length ≤ cap ∧ cap ≤ maxLen ∧
    w.cell? ⟨g, o + i * 3, none⟩ = some (.int .i64 A[i].1) ∧ w.cell? ⟨g, o + i * 3 + 1, none⟩ = some (.int .i64 A[i].2.1) ∧ w.cell? ⟨g, o + i * 3 + 2, none⟩ = some (.int .i64 A[i].2.2) := by
  rcases h with ⟨_, rfl⟩ | ⟨g, o, cap, h1, h2, h3, h4⟩
  · simp at hi
  · exact ⟨g, o, cap, h1, h2, h3, h4 i hi⟩
theorem RdL.shape {w : World} {v : Value} {L : List B} (h : RdL w v L) : ∃ a c, v = .slice a L.length c ∧ L.length ≤ maxLen := by
  rcases h with ⟨⟨a, rfl⟩, rfl⟩ | ⟨g, o, cap, rfl, h2, h3, _⟩
  · exact ⟨a, 0, rfl, by simp⟩
  · exact ⟨_, _, rfl, by omega⟩
theorem RdM.shape {w : World} {v : Value} {A : List (Int × Int × Int)} (h : RdM w v A) : ∃ a c, v = .slice a A.length c ∧ A.length ≤ maxLen := by
  rcases h with ⟨⟨a, rfl⟩, rfl⟩ | ⟨g, o, cap, rfl, h2, h3, _⟩
  · exact ⟨a, 0, rfl, by simp⟩
  · exact ⟨_, _, rfl, by omega⟩
def fitsB (a b c d : Nat) : Bool := decide (a ≤ 20) && (decide (b ≤ 20) && (decide (c ≤ 100) && decide (d ≤ 100)))
def allB (L : List B) : Bool := L.all fun b => decide (b.length ≤ 1000)
theorem allB_succ {L : List B} {i : Nat} (h : i < L.length) : allB (L.take (i + 1)) = (allB (L.take i) && decide (L[i].length ≤ 1000)) := by
  unfold allB
  rw [List.take_succ_eq_append_getElem h, List.all_append]
  simp

theorem fits_all {L1 L2 : List B} {c d : Nat} {fb fb1 : Bool} (h1 : fitsB L1.length L2.length c d = fb) (h2 : (fb && allB L1) = fb1) (h3 : (fb1 && allB L2) = true) : L1.length ≤ 20 ∧ L2.length ≤ 20 ∧ c ≤ 100 ∧ d ≤ 100 ∧ (∀ b ∈ L1, b.length ≤ 1000) ∧ (∀ b ∈ L2, b.length ≤ 1000) := by
  subst h2 h1
  simp only [fitsB, allB, Bool.and_eq_true, decide_eq_true_eq, List.all_eq_true] at h3
  exact ⟨h3.1.1.1, h3.1.1.2.1, h3.1.1.2.2.1, h3.1.1.2.2.2, h3.1.2, h3.2⟩

theorem begins_take {L o : List B} (h : ∃ g, o = L.take g) : o.length ≤ L.length ∧ o = L.take o.length := by
  obtain ⟨g, rfl⟩ := h
  rw [List.length_take]
  refine ⟨Nat.min_le_right _ _, ?_⟩
  rcases Nat.le_total g L.length with c | c
  · rw [Nat.min_eq_left c]
  · rw [Nat.min_eq_right c, List.take_of_length_le c, List.take_length]
theorem begins_o3 {L1 L2 : List B} {v : Nat} {x : Snd} {y : Rcv} {net : List Pkt} {o3 o4 : List B} (h : Inv L1 L2 v x y net o3 o4) : o3.length ≤ L1.length ∧ o3 = L1.take o3.length := by
  refine begins_take ?_
  rcases h.outs with ⟨_, _, q⟩ | ⟨q, _, q3⟩
  · exact q
  · rcases h.ylife.1 with z | z | z
    · exact ⟨0, by rw [q3, z]; simp [lof]⟩
    · exact ⟨y.got, by rw [q3, z]; rfl⟩
    · exact (q z).elim
theorem begins_o4 {L1 L2 : List B} {v : Nat} {x : Snd} {y : Rcv} {net : List Pkt} {o3 o4 : List B} (h : Inv L1 L2 v x y net o3 o4) : o4.length ≤ L2.length ∧ o4 = L2.take o4.length := by
  refine begins_take ?_
  rcases h.outs with ⟨_, q, _⟩ | ⟨_, q, _⟩
  · exact ⟨y.got, q⟩
  · exact ⟨0, by rw [q]; simp⟩

theorem begins_true {v1 v2 : Value} {L F : List B} {w : World} (h1 : RdL w v1 L) (h2 : RdL w v2 F) (h : F.length ≤ L.length ∧ F = L.take F.length) (hsm : F.length ≤ 4294967296) :
    Calls Try.prog 9 #[v1, v2] w fun e w' => e = .returned (.bool true) ∧ ∃ n, w' = w.drewN n := by
  refine (begins_calls v1 v2 L F w h1 h2 hsm).mono fun e w' hh => ?_
  rw [decide_eq_true h] at hh
  exact hh
theorem Sat.out_one {w : World} {v : Value} {L : List B} {R : SA} (s : Sat w (outAt v L * R)) : v.oneCell' = true := by
  rcases s.out_rd with ⟨⟨a, h⟩, _⟩ | ⟨g, o, cap, h, _⟩
  · rw [h]; rfl
  · rw [h]; rfl

set_option maxHeartbeats 4000000 in
set_option maxRecDepth 100000 in
theorem top_calls (win spn : Int) (v2 v3 v4 v5 : Value) (L1 L2 : List B) (A1 A2 : List (Int × Int × Int)) (w : World) (hl : RdL w v2 L1) (hm : RdL w v3 L2) (ha : RdM w v4 A1) (hs : RdM w v5 A2) :
    Calls Try.prog 3 #[.int .i64 win, .int .i64 spn, v2, v3, v4, v5] w fun e w' => e = .returned (.bool true) ∧ Later w w' ∧ Sat w' (SA.old w.heap.size w) := by
  obtain ⟨X, hX⟩ : ∃ X, X = SA.old w.heap.size w := ⟨_, rfl⟩
  have sX : Sat w X := by rw [hX]; exact Sat.old w _
  have hRd : ∀ w', Sat w' X → RdL w' v2 L1 ∧ RdL w' v3 L2 ∧ RdM w' v4 A1 ∧ RdM w' v5 A2 := fun w' s => by
    subst hX
    have k := Sat.old_cell (R := SA.one) (s.eq (SA.mul_one _).symm)
    exact ⟨hl.mono k, hm.mono k, ha.mono k, hs.mono k⟩
  have hX2 : RdX X v2 L1 := by rw [hX]; exact hl.old
  have hX3 : RdX X v3 L2 := by rw [hX]; exact hm.old
  obtain ⟨a2, c2, rfl, m2⟩ := hl.shape
  obtain ⟨a3, c3, rfl, m3⟩ := hm.shape
  obtain ⟨a4, c4, rfl, m4⟩ := ha.shape
  obtain ⟨a5, c5, rfl, m5⟩ := hs.shape
  rw [← hX]
  have HX := Lib.hid (And.intro hRd (And.intro hX2 hX3))
  clear hRd hX2 hX3 hX hl hm ha hs
  unfold maxLen at m2 m3 m4 m5
  have Hf := Lib.hid (sea_flows w X sX)
  go_enter Try.func3, Try.ntmps3
  go_upto_region 3 with (go_at_call 4
                         with_reducible refine Hf.out.mono ?_
                         rintro e w1 ⟨rfl, l1, s1⟩)
  go_cut [13] (fun x13 wx => x13 = .bool (fitsB L1.length L2.length A1.length A2.length) ∧ wx = w1)
  case first =>
    by_cases h1 : L1.length ≤ 20
    · by_cases h2 : L2.length ≤ 20
      · by_cases h3 : A1.length ≤ 100
        · have E : RowKit.Hid (fitsB L1.length L2.length A1.length A2.length = decide ((A2.length : Int) ≤ 100)) := by
            refine Lib.hid ?_
            rw [Bool.eq_iff_iff]
            simp [fitsB, h1, h2, h3]
            omega
          go_wp2_with fail
          go_meet
          exact ⟨by rw [E.out], rfl⟩
        · have E : RowKit.Hid (fitsB L1.length L2.length A1.length A2.length = false) := Lib.hid (by simp [fitsB, h1, h2, h3])
          have h3' : ¬ (A1.length : Int) ≤ 100 := by omega
          clear h3
          go_wp2_with fail
          go_meet
          exact ⟨by rw [E.out], rfl⟩
      · have E : RowKit.Hid (fitsB L1.length L2.length A1.length A2.length = false) := Lib.hid (by simp [fitsB, h1, h2])
        have h2' : ¬ (L2.length : Int) ≤ 20 := by omega
        clear h2
        go_wp2_with fail
        go_meet
        exact ⟨by rw [E.out], rfl⟩
    · have E : RowKit.Hid (fitsB L1.length L2.length A1.length A2.length = false) := Lib.hid (by simp [fitsB, h1])
      have h1' : ¬ (L1.length : Int) ≤ 20 := by omega
      clear h1
      go_wp2_with fail
      go_meet
      exact ⟨by rw [E.out], rfl⟩
  case rest =>
  obtain ⟨rfl, rfl⟩ := hcut
  obtain ⟨hb1, hb2, hb3, hb4⟩ := HX.out.1 _ s1
  have HB := Lib.hid (And.intro hb1 (And.intro hb2 (And.intro hb3 hb4)))
  clear hb1 hb2 hb3 hb4
  generalize hfb : fitsB L1.length L2.length A1.length A2.length = fb
  have Hfb := Lib.hid hfb
  clear hfb
  go_upto_block 0 with fail
  go_cut [13] (fun x13 wx => x13 = .bool (fb && allB L1) ∧ wx = wc)
  case first =>
    go_wp2_with fail
    go_loop [13, 14] (fun x13 x14 => ∃ i : Nat, i ≤ L1.length ∧ x14 = .int .i64 i ∧ x13 = .bool (fb && allB (L1.take i))) (fun _ x14 => L1.length - (intOf x14).toNat)
    case atStart => exact ⟨0, Nat.zero_le _, rfl, by simp [allB]⟩
    case round =>
      obtain ⟨i, hi, rfl, rfl⟩ := hrel
      by_cases hlt : i < L1.length
      · have hsu := allB_succ hlt
        have hi1 : (i : Int) < (L1.length : Int) := by omega
        have hi2 : (0 : Int) ≤ (i : Int) := Int.natCast_nonneg _
        cases hbi : (fb && allB (L1.take i)) with
        | false =>
          have E : RowKit.Hid ((fb && allB (L1.take (i + 1))) = false) := by
            refine Lib.hid ?_
            rw [hsu, ← Bool.and_assoc, hbi, Bool.false_and]
          clear hbi hsu
          go_wp2_with fail
          go_round
          case rel => exact ⟨i + 1, by omega, by go_num, by rw [E.out]⟩
          case measure => simp [intOf]; omega
        | true =>
          obtain ⟨g, o, cap, bv, hv, hc1, hc2, hcell, hrd⟩ := HB.out.1.at hlt
          cases hv
          unfold maxLen at hc2
          obtain ⟨ba, bc, hbv, _⟩ : ∃ a c, bv = .slice a L1[i].length c ∧ True := by
            rcases hrd with ⟨⟨a', h1⟩, h2⟩ | ⟨g', o', cap', h1, _⟩
            · exact ⟨a', 0, by rw [h1, h2]; rfl, trivial⟩
            · exact ⟨_, _, h1, trivial⟩
          subst hbv
          have E : RowKit.Hid ((fb && allB (L1.take (i + 1))) = decide ((L1[i].length : Int) ≤ 1000)) := by
            refine Lib.hid ?_
            rw [hsu, ← Bool.and_assoc, hbi, Bool.true_and, Bool.eq_iff_iff]
            simp
            omega
          generalize L1[i].length = bl at *
          clear hbi hsu hrd
          go_wp2_with fail
          go_round
          case rel => exact ⟨i + 1, by omega, by go_num, by rw [E.out]⟩
          case measure => simp [intOf]; omega
      · obtain rfl : i = L1.length := by omega
        rw [List.take_length]
        go_wp2_with fail
        go_meet
        exact ⟨rfl, rfl⟩
  case rest =>
  obtain ⟨rfl, rfl⟩ := hcut
  generalize hfb : (fb && allB L1) = fb1
  have Hfb1 := Lib.hid hfb
  clear hfb
  go_upto_block 2 with fail
  go_cut [13] (fun x13 wx => x13 = .bool (fb1 && allB L2) ∧ wx = wc)
  case first =>
    go_wp2_with fail
    go_loop [13, 15] (fun x13 x15 => ∃ i : Nat, i ≤ L2.length ∧ x15 = .int .i64 i ∧ x13 = .bool (fb1 && allB (L2.take i))) (fun _ x15 => L2.length - (intOf x15).toNat)
    case atStart => exact ⟨0, Nat.zero_le _, rfl, by simp [allB]⟩
    case round =>
      obtain ⟨i, hi, rfl, rfl⟩ := hrel
      by_cases hlt : i < L2.length
      · have hsu := allB_succ hlt
        have hi1 : (i : Int) < (L2.length : Int) := by omega
        have hi2 : (0 : Int) ≤ (i : Int) := Int.natCast_nonneg _
        cases hbi : (fb1 && allB (L2.take i)) with
        | false =>
          have E : RowKit.Hid ((fb1 && allB (L2.take (i + 1))) = false) := by
            refine Lib.hid ?_
            rw [hsu, ← Bool.and_assoc, hbi, Bool.false_and]
          clear hbi hsu
          go_wp2_with fail
          go_round
          case rel => exact ⟨i + 1, by omega, by go_num, by rw [E.out]⟩
          case measure => simp [intOf]; omega
        | true =>
          obtain ⟨g, o, cap, bv, hv, hc1, hc2, hcell, hrd⟩ := HB.out.2.1.at hlt
          cases hv
          unfold maxLen at hc2
          obtain ⟨ba, bc, hbv, _⟩ : ∃ a c, bv = .slice a L2[i].length c ∧ True := by
            rcases hrd with ⟨⟨a', h1⟩, h2⟩ | ⟨g', o', cap', h1, _⟩
            · exact ⟨a', 0, by rw [h1, h2]; rfl, trivial⟩
            · exact ⟨_, _, h1, trivial⟩
          subst hbv
          have E : RowKit.Hid ((fb1 && allB (L2.take (i + 1))) = decide ((L2[i].length : Int) ≤ 1000)) := by
            refine Lib.hid ?_
            rw [hsu, ← Bool.and_assoc, hbi, Bool.true_and, Bool.eq_iff_iff]
            simp
            omega
          generalize L2[i].length = bl at *
          clear hbi hsu hrd
          go_wp2_with fail
          go_round
          case rel => exact ⟨i + 1, by omega, by go_num, by rw [E.out]⟩
          case measure => simp [intOf]; omega
      · obtain rfl : i = L2.length := by omega
        rw [List.take_length]
        go_wp2_with fail
        go_meet
        exact ⟨rfl, rfl⟩
  case rest =>
  obtain ⟨rfl, rfl⟩ := hcut
  cases hF : (fb1 && allB L2) with
  | false =>
    go_wp2_with fail
    go_ret
    exact ⟨rfl, l1, s1⟩
  | true =>
  obtain ⟨f1, f2, f3, f4, f5, f6⟩ := fits_all Hfb.out Hfb1.out hF
  clear hF
  obtain ⟨u, k, hu, hu2, hk, hk8⟩ := rem_of win 8 (by omega)
  obtain ⟨u', k', hu', hu2', hk', hk4⟩ := rem_of spn 4 (by omega)
  have hk : (u : Int) % 8 = (k : Int) := hk
  have hk' : (u' : Int) % 4 = (k' : Int) := hk'
  have hu0 : (0 : Int) ≤ (u : Int) := Int.natCast_nonneg _
  have hu0' : (0 : Int) ≤ (u' : Int) := Int.natCast_nonneg _
  have hu1 : (u : Int) < 18446744073709551616 := by omega
  have hu1' : (u' : Int) < 18446744073709551616 := by omega
  have hk0 : (0 : Int) ≤ (k : Int) := Int.natCast_nonneg _
  have hk0' : (0 : Int) ≤ (k' : Int) := Int.natCast_nonneg _
  have hk1 : (k : Int) < 8 := by omega
  have hk1' : (k' : Int) < 4 := by omega
  have Ho := Lib.hid (opened_calls win spn _ L1 X HX.out.2.1 f1 f5 wc SA.one (s1.eq (SA.mul_one _).symm))
  have Hn : RowKit.Hid (∀ w' R', Sat w' R' → Calls Try.prog 6 #[.int .u64 4, .int .i64 (1 + (k : Int)), .int .i64 (1 + (k' : Int))] w' fun e w'' => ∃ p, e = .returned (.tuple #[.pointer (some ⟨p, 0, none⟩), .int .i64 0]) ∧ Later w' w'' ∧ Sat w'' (senderAt p ⟨4, 1 + k, 1 + k', 0, 0, []⟩ * R')) := Lib.hid fun w' R' sw => snd_new 4 (1 + k) (1 + k') (by omega) (by omega) (by omega) (by omega) w' R' sw
  clear hu2 hu2'
  go_upto_block 4 with (first
    | (go_at_call 5
       with_reducible refine Ho.out.mono ?_
       rintro e w2 ⟨a, px, py, pn, W, S, hWS, rfl, l2, s2⟩)
    | (go_at_call 6
       with_reducible refine (Hn.out _ _ s2).mono ?_
       rintro e w3 ⟨p2, rfl, l3, s3⟩))
  have hI0 := inv_start L1 L2 f1 f2 f5 f6 ⟨hWS.1, hWS.2.1⟩ ⟨hWS.2.2.1, hWS.2.2.2.1⟩
  have s4 : Sat w3 (lineAt a px py pn ⟨3, W, S, 0, 0, L1.map (fun b => (b, 0))⟩ ⟨8, 0, 0, []⟩ [] false [] * (senderAt p2 ⟨4, 1 + k, 1 + k', 0, 0, []⟩ * X)) := s3.eq (by rw [SA.mul_one]; ac_rfl)
  have l4 := (l1.trans l2).trans l3
  have H0 := Lib.hid (And.intro hI0 (And.intro l4 s4))
  clear hu hu' hk hk' hI0 l4 s4 hWS l1 l2 l3 s1 s2 s3
  go_cut [] (fun wx => Later w wx ∧ ∃ (x : Snd) (y : Rcv) (net : List Pkt) (ap : Bool) (o : List B), Inv L1 L2 3 x y net o [] ∧ net.length ≤ 256 ∧ Sat wx (lineAt a px py pn x y net ap o * (senderAt p2 ⟨4, 1 + k, 1 + k', 0, 0, []⟩ * X)))
  case first =>
    go_wp2_with fail
    go_loopw [19] (fun x19 wr => ∃ (i : Nat) (x : Snd) (y : Rcv) (net : List Pkt) (ap : Bool) (o : List B), x19 = .int .i64 i ∧ i ≤ A1.length ∧ Later w wr ∧ Inv L1 L2 3 x y net o [] ∧ net.length ≤ 256 ∧ x.now ≤ i ∧ Sat wr (lineAt a px py pn x y net ap o * (senderAt p2 ⟨4, 1 + k, 1 + k', 0, 0, []⟩ * X))) (fun x19 _ => A1.length - (intOf x19).toNat)
    case atStart => exact ⟨0, _, _, _, _, _, rfl, Nat.zero_le _, H0.out.2.1, H0.out.1, by simp, Nat.le_refl _, H0.out.2.2⟩
    case round =>
      obtain ⟨i, x, y, net, ap, o, rfl, hi, lr, hinv, hfew, hnow, sr⟩ := hrel
      by_cases hlt : i < A1.length
      · obtain ⟨g, o', cap, hv, hc1, hc2, g0, g1, g2⟩ := (HX.out.1 _ (sr.right.right)).2.2.1.at hlt
        cases hv
        unfold maxLen at hc2
        have Hm := Lib.hid (line_moves L1 L2 a px py pn x y net ap o hinv hfew (by omega) A1[i].1 A1[i].2.1 A1[i].2.2 wr _ sr)
        generalize A1[i].1 = m0 at *
        generalize A1[i].2.1 = m1 at *
        generalize A1[i].2.2 = m2 at *
        have hi1 : (i : Int) < (A1.length : Int) := by omega
        have hi2 : (0 : Int) ≤ (i : Int) := Int.natCast_nonneg _
        clear hinv sr H0
        go_wp2_with (go_at_call 7
                     with_reducible refine Hm.out.mono ?_
                     rintro e w5 ⟨rfl, hN⟩)
        go_roundw
        case rel =>
          obtain ⟨l5, x', y', net', ap', o2, r1, r2, r3, r4⟩ := hN
          exact ⟨i + 1, x', y', net', ap', o2, by go_num, by omega, lr.trans l5, r1, r2, by omega, r4⟩
        case measure => simp [intOf]; omega
      · go_wp2_with fail
        go_meet
        exact ⟨lr, x, y, net, ap, o, hinv, hfew, sr⟩
  case rest =>
  obtain ⟨l5, x, y, net, ap, o, hinv, hfew, s5⟩ := hcut
  clear H0
  have s5' : Sat wc (senderAt p2 ⟨4, 1 + k, 1 + k', 0, 0, (L2.take 0).map (fun b => (b, 0))⟩ * (X * lineAt a px py pn x y net ap o)) := by
    rw [List.take_zero, List.map_nil]
    exact s5.eq (by ac_rfl)
  have S5 := Lib.hid s5'
  clear s5 s5'
  go_upto_block 6 with fail
  go_cut [] (fun wx => Later w wx ∧ Sat wx (senderAt p2 ⟨4, 1 + k, 1 + k', 0, 0, L2.map (fun b => (b, 0))⟩ * (X * lineAt a px py pn x y net ap o)))
  case first =>
    go_wp2_with fail
    go_loopw [20] (fun x20 wr => ∃ i : Nat, i ≤ L2.length ∧ x20 = .int .i64 i ∧ Later w wr ∧ Sat wr (senderAt p2 ⟨4, 1 + k, 1 + k', 0, 0, (L2.take i).map (fun b => (b, 0))⟩ * (X * lineAt a px py pn x y net ap o))) (fun x20 _ => L2.length - (intOf x20).toNat)
    case atStart => exact ⟨0, Nat.zero_le _, rfl, l5, S5.out⟩
    case round =>
      obtain ⟨i, hi, rfl, lr, sr⟩ := hrel
      by_cases hlt : i < L2.length
      · obtain ⟨g, o', cap, bv, hv, hc1, hc2, hat⟩ := HX.out.2.2.at hlt
        cases hv
        unfold maxLen at hc2
        have hcell := (hat _ sr.right.left).1
        have Hp := Lib.hid (snd_pushR p2 ⟨4, 1 + k, 1 + k', 0, 0, (L2.take i).map (fun b => (b, 0))⟩ bv L2[i] X (fun w' sw => (hat w' sw).2) wr _ sr (f6 _ (List.getElem_mem hlt)) (by simp; omega))
        clear hat hinv
        have hi1 : (i : Int) < (L2.length : Int) := by omega
        have hi2 : (0 : Int) ≤ (i : Int) := Int.natCast_nonneg _
        go_wp2_with (go_at_call 8
                     with_reducible refine Hp.out.mono ?_
                     rintro e w6 ⟨rfl, l6, s6⟩)
        go_roundw
        case rel =>
          refine ⟨i + 1, by omega, by go_num, lr.trans l6, ?_⟩
          rw [take_snoc hlt]
          exact s6
        case measure => simp [intOf]; omega
      · obtain rfl : i = L2.length := by omega
        rw [List.take_length] at sr
        go_wp2_with fail
        go_meet
        exact ⟨lr, sr⟩
  case rest =>
  clear l5 S5
  obtain ⟨l6, s6⟩ := hcut
  obtain ⟨ov, s7⟩ := Sat.line_open.1 (show Sat wc (lineAt a px py pn x y net ap o * (senderAt p2 ⟨4, 1 + k, 1 + k', 0, 0, L2.map (fun b => (b, 0))⟩ * X)) from s6.eq (by ac_rfl))
  have b4 : wc.cell? ⟨a, 4, none⟩ = some (.bool false) := s7.cell 4
  have b3 : wc.cell? ⟨a, 3, none⟩ = some ov := s7.cell 3
  have HB1 : RowKit.Hid (Calls Try.prog 9 #[.slice a2 L1.length c2, ov] wc fun e w' => e = .returned (.bool true) ∧ ∃ n, w' = wc.drewN n) := by
    refine Lib.hid ((begins_calls _ ov L1 o wc (HX.out.1 _ s6.right.left).1 s7.p5.out_rd (by have := (outs_len hinv).1; omega)).mono fun e w' h => ?_)
    rw [decide_eq_true (begins_o3 hinv)] at h
    exact h
  have hov : ov.oneCell' = true := by
    rcases s7.p5.out_rd with ⟨⟨a', h⟩, _⟩ | ⟨g, o, cap, h, _⟩
    · rw [h]; rfl
    · rw [h]; rfl
  have hI4 := inv_turn hinv (W := 1 + k) (S := 1 + k') ⟨by omega, by omega⟩ ⟨by omega, by omega⟩
  clear hinv
  go_upto_if 143 with (go_at_call 9
                       with_reducible refine HB1.out.mono ?_
                       rintro e w' ⟨rfl, n, rfl⟩)
  have s8 := s7.drewN n
  have l8 := l6.drewN n
  clear s7 b4 b3 HB1 s6 l6
  generalize wc.drewN n = W at s8 l8 ⊢
  have f0 : W.frozen? ⟨a, 0, none⟩ = false := s8.free 0
  have c0 : W.cell? ⟨a, 0, none⟩ = some (.pointer (some ⟨px, 0, none⟩)) := s8.cell 0
  go_upto_block 8 with fail
  have s9 := (s8.set 0 (.pointer (some ⟨p2, 0, none⟩))).alloc (.cells #[.pointer (some ⟨a, 0, none⟩), .slice none 0 0] 45)
  have l9 : Later w ((W.setCell ⟨a, 0, none⟩ (.pointer (some ⟨p2, 0, none⟩))).alloc (.cells #[.pointer (some ⟨a, 0, none⟩), .slice none 0 0] 45)) := (l8.setCell _ _).alloc _
  rw [size_set] at s9
  have s10 : Sat ((W.setCell ⟨a, 0, none⟩ (.pointer (some ⟨p2, 0, none⟩))).alloc (.cells #[.pointer (some ⟨a, 0, none⟩), .slice none 0 0] 45)) (rebAt W.heap.size a p2 py pn ⟨4, 1 + k, 1 + k', 0, 0, L2.map (fun b => (b, 0))⟩ y net ap o [] * X) := by
    have s11 : Sat _ (outAt (.slice none 0 0) [] * _) := Sat.recs_none s9.x3
    exact Sat.reb_open.2 ⟨.slice none 0 0, ov, s11.eq (by unfold lineCells; ac_rfl)⟩
  clear s8 s9 l8 f0 c0 hov
  generalize (W.setCell ⟨a, 0, none⟩ (.pointer (some ⟨p2, 0, none⟩))).alloc (.cells #[.pointer (some ⟨a, 0, none⟩), .slice none 0 0] 45) = W2 at l9 s10 ⊢
  generalize W.heap.size = r at s10 ⊢
  have H9 := Lib.hid (And.intro hI4 (And.intro l9 s10))
  clear hI4 l9 s10
  go_cut [] (fun wx => Later w wx ∧ ∃ (x : Snd) (y : Rcv) (net : List Pkt) (ap : Bool) (o3 o4 : List B), Inv L1 L2 4 x y net o3 o4 ∧ net.length ≤ 256 ∧ x.now ≤ 100 ∧ Sat wx (rebAt r a p2 py pn x y net ap o3 o4 * X))
  case first =>
    go_wp2_with fail
    go_loopw [22] (fun x22 wr => ∃ (i : Nat) (x : Snd) (y : Rcv) (net : List Pkt) (ap : Bool) (o3 o4 : List B), x22 = .int .i64 i ∧ i ≤ A2.length ∧ Later w wr ∧ Inv L1 L2 4 x y net o3 o4 ∧ net.length ≤ 256 ∧ x.now ≤ i ∧ Sat wr (rebAt r a p2 py pn x y net ap o3 o4 * X)) (fun x22 _ => A2.length - (intOf x22).toNat)
    case atStart => exact ⟨0, _, _, _, _, _, _, rfl, Nat.zero_le _, H9.out.2.1, H9.out.1, hfew, Nat.le_refl _, H9.out.2.2⟩
    case round =>
      obtain ⟨i, x, y, net, ap, o3, o4, rfl, hi, lr, hinv, hfew, hnow, sr⟩ := hrel
      clear H9
      by_cases hlt : i < A2.length
      · obtain ⟨g, o', cap, hv, hc1, hc2, g0, g1, g2⟩ := (HX.out.1 _ sr.right).2.2.2.at hlt
        cases hv
        unfold maxLen at hc2
        have Hm := Lib.hid (reb_moves L1 L2 r a p2 py pn x y net ap o3 o4 hinv hfew (by omega) A2[i].1 A2[i].2.1 A2[i].2.2 wr _ sr)
        generalize A2[i].1 = m0 at *
        generalize A2[i].2.1 = m1 at *
        generalize A2[i].2.2 = m2 at *
        have hi1 : (i : Int) < (A2.length : Int) := by omega
        have hi2 : (0 : Int) ≤ (i : Int) := Int.natCast_nonneg _
        clear hinv sr
        go_wp2_with (first
          | (go_at_call 10
             with_reducible refine Hm.out.mono ?_
             rintro e w5 ⟨rfl, l5, x', y', net', ap', p3, p4, r1, r2, r3, r4⟩
             obtain ⟨ov4, ov3, s6⟩ := Sat.reb_open.1 r4
             have b4 : w5.cell? ⟨a, 4, none⟩ = some (.bool false) := s6.p2.cell 4
             have b3 : w5.cell? ⟨a, 3, none⟩ = some ov3 := s6.p2.cell 3
             have q1 : w5.cell? ⟨r, 1, none⟩ = some ov4 := s6.cell 1
             have hov3 : ov3.oneCell' = true := s6.p6.out_one
             have hov4 : ov4.oneCell' = true := s6.p7.out_one
             have HB1 := Lib.hid (begins_true (HX.out.1 _ r4.right).1 s6.p6.out_rd (begins_o3 r1) (by have := (outs_len r1).1; omega))
             have HB2 := Lib.hid fun n => begins_true (HX.out.1 _ (r4.drewN n).right).2.1 (s6.drewN n).p7.out_rd (begins_o4 r1) (by have := (outs_len r1).2; omega)
             have HR := Lib.hid (And.intro r1 (And.intro r2 (And.intro r3 r4)))
             clear r1 r2 r3 r4 s6)
          | (go_at_call 9
             with_reducible refine HB1.out.mono ?_
             rintro e w' ⟨rfl, n, rfl⟩)
          | (go_at_call 9
             with_reducible refine (HB2.out _).mono ?_
             rintro e w' ⟨rfl, n2, rfl⟩))
        go_roundw
        case rel =>
          obtain ⟨r1, r2, r3, r4⟩ := HR.out
          exact ⟨i + 1, x', y', net', ap', p3, p4, by go_num, by omega, (lr.trans l5).drewN _, r1, r2, by omega, r4.drewN _⟩
        case measure => simp [intOf]; omega
      · go_wp2_with fail
        go_meet
        exact ⟨lr, x, y, net, ap, o3, o4, hinv, hfew, by omega, sr⟩
  case rest =>
  clear H9 hfew
  obtain ⟨l9, x, y, net, ap, o3, o4, hinv, hfew, hnow, s10⟩ := hcut
  obtain ⟨ov4, ov3, s11⟩ := Sat.reb_open.1 s10
  have b2 : wc.cell? ⟨a, 2, none⟩ = some (.pointer (some ⟨pn, 0, none⟩)) := s11.p2.cell 2
  have HJ := Lib.hid (net_join pn net ap wc _ s11.p5)
  go_upto_block 10 with (go_at_call 11
                         with_reducible refine HJ.out.mono ?_
                         rintro e w7 ⟨rfl, l7, s12⟩)
  have s13 : Sat w7 (rebAt r a p2 py pn x y net false o3 o4 * X) := Sat.reb_open.2 ⟨ov4, ov3, s12.eq (by ac_rfl)⟩
  have l13 := l9.trans l7
  have H13 := Lib.hid (And.intro hinv (And.intro l13 s13))
  clear hinv l13 s13 s12 b2 s11 s10 l9 l7 HJ
  go_cut [] (fun wx => Later w wx ∧ ∃ (x : Snd) (y : Rcv) (o3 o4 : List B), Inv L1 L2 4 x y [] o3 o4 ∧ x.owed = 0 ∧ Sat wx (rebAt r a p2 py pn x y [] false o3 o4 * X))
  case first =>
    go_wp2_with fail
    go_loopw [24] (fun x24 wr => ∃ (k : Nat) (x : Snd) (y : Rcv) (net : List Pkt) (o3 o4 : List B), x24 = .int .i64 k ∧ k ≤ 4 * (L2.length + 1) ∧ Later w wr ∧ Inv L1 L2 4 x y net o3 o4 ∧ net.length ≤ 256 ∧ (k = 0 ∨ net = [] ∧ x.owed ≤ 4 * L2.length + 4 - k) ∧ x.now ≤ 100 + k ∧ Sat wr (rebAt r a p2 py pn x y net false o3 o4 * X)) (fun x24 _ => 4 * (L2.length + 1) - (intOf x24).toNat)
    case atStart => exact ⟨0, _, _, _, _, _, rfl, Nat.zero_le _, H13.out.2.1, H13.out.1, hfew, .inl rfl, by omega, H13.out.2.2⟩
    case round =>
      obtain ⟨k, x, y, net, o3, o4, rfl, hk, lr, hinv, hfew, hw, hnow, sr⟩ := hrel
      clear H13
      by_cases hlt : k < 4 * (L2.length + 1)
      · obtain ⟨T, hT⟩ : ∃ T, T = if net.length = 0 ∧ 0 < x.l.length ∧ x.wait = 0 then x.acked + 1 else 0 := ⟨_, rfl⟩
        have hR := Round.begin hinv hfew T (by
          rw [hT]
          split
          · rename_i c; exact .inr ⟨rfl, List.length_eq_zero_iff.1 c.1, c.2.1, c.2.2⟩
          · exact .inl rfl)
        obtain ⟨i1, i2, i3, i4, i5, i6⟩ := inv_now hinv
        obtain ⟨ov4, s1⟩ := sr.reb_line
        have Ht := Lib.hid (line_tick a p2 py pn x y net false o3 (by omega) (by omega) (by omega) i3 i6 wr _ s1.p2)
        have HR := Lib.hid (And.intro hinv (And.intro hT (And.intro hR (And.intro hw hnow))))
        have hk1 : (k : Int) < 4 * ((L2.length : Int) + 1) := by omega
        clear hR hT hinv hw hnow i1 i2 i3 i4 i5 i6 sr s1
        go_wp2_with (go_at_call 12
                     with_reducible refine Ht.out.mono ?_
                     rintro e w2 ⟨rfl, l2, s5⟩)
        have s6 : Sat w2 (rebAt r a p2 py pn x.tick.1 y (sendAll false net x.tick.2) false o3 o4 * X) := Sat.reb_fold s5
        clear s5
        go_loopg [] (toCome (sendAll false net x.tick.2)) (fun n wi => ∃ (x' : Snd) (y' : Rcv) (net' : List Pkt) (p3 p4 : List B), Round L1 L2 4 x.acked (x.now + 1) x.span x.window x.tick.1.l T x' y' net' p3 p4 ∧ toCome net' ≤ n ∧ Later w wi ∧ Sat wi (rebAt r a p2 py pn x' y' net' false p3 p4 * X))
        case atStart => exact ⟨_, y, _, o3, o4, HR.out.2.2.1, Nat.le_refl _, lr.trans l2, s6⟩
        case round =>
          obtain ⟨x', y', net', p3, p4, hR, htc, li, si⟩ := hrel
          obtain ⟨ov4', ov3', s7⟩ := Sat.reb_open.1 si
          have n2 : wr.cell? ⟨a, 2, none⟩ = some (.pointer (some ⟨pn, 0, none⟩)) := s7.p2.cell 2
          have Hl := Lib.hid (net_len pn net' false wr _ s7.p5)
          clear s7
          cases net' with
          | nil =>
            have Hl0 : RowKit.Hid (Calls Try.prog 13 #[.pointer (some ⟨pn, 0, none⟩)] wr fun e w' => e = .returned (.int .i64 0) ∧ wr = w') := Lib.hid Hl.out
            have HRi := Lib.hid hR
            clear hR Hl
            go_wp2_with (go_at_call 13
                         with_reducible refine Hl0.out.mono ?_
                         rintro e w' ⟨rfl, rfl⟩)
            obtain ⟨hinv, hT, _, hw, hnow⟩ := HR.out
            have hR := HRi.out
            have hn := hR.now
            have ho : x'.owed ≤ 4 * L2.length + 4 - (k + 1) := by
              rcases hw with rfl | ⟨rfl, hw⟩
              · have h := owed_le hR.inv
                have e : lof L1 L2 4 = L2 := rfl
                rw [e] at h
                omega
              · have h := Round.owed hinv (T := T) (by rw [hT]; simp) hR
                omega
            refine ⟨⟨k + 1, x', y', [], p3, p4, by go_num, by omega, li, hR.inv, by simp, .inr ⟨rfl, ho⟩, by omega, si⟩, ?_⟩
            simp [intOf]
            omega
          | cons p rest =>
            obtain ⟨g, hg⟩ := hR.inv.pk p List.mem_cons_self
            have Hc0 := reb_comes L1 L2 r a p2 py pn x' y' (p :: rest) false p3 p4 hR.inv hR.few 0 p rfl g hg wr _ si
            change Calls _ _ #[_, .int .i64 0] _ _ at Hc0
            have Hc := Lib.hid Hc0
            have hlen : 0 < (p :: rest).length := by simp
            have HRi := Lib.hid (And.intro hR (And.intro hg htc))
            clear hR hg htc Hc0
            generalize hln : (p :: rest).length = ln at *
            clear hln
            go_upto_if 209 with (go_at_call 13
                                 with_reducible refine Hl.out.mono ?_
                                 rintro e w' ⟨rfl, rfl⟩)
            go_upto_if 213 with (go_at_call 14
                                 with_reducible refine Hc.out.mono ?_
                                 rintro e w5 ⟨rfl, l5, hN⟩)
            go_wp2_with fail
            obtain ⟨x2, y2, net2, q3, q4, st, s8⟩ := hN
            obtain ⟨hR, hg, htc⟩ := HRi.out
            obtain ⟨hR2, htc2⟩ := st.round hR hg
            go_roundg (toCome net2)
            case measure => omega
            case rel => exact ⟨x2, y2, net2, q3, q4, hR2, Nat.le_refl _, li.trans l5, s8⟩
      · have hk2 : ¬ (k : Int) < 4 * ((L2.length : Int) + 1) := by omega
        have hk3 : 4 * ((L2.length : Int) + 1) ≤ (k : Int) := by omega
        clear hlt
        go_wp2_with fail
        go_meet
        rcases hw with rfl | ⟨rfl, hw⟩
        · omega
        · exact ⟨lr, x, y, o3, o4, hinv, by omega, sr⟩
  case rest =>
  clear H13 hfew hnow
  obtain ⟨l9, x, y, o3, o4, hinv, howed, s10⟩ := hcut
  obtain ⟨ov4, ov3, s11⟩ := Sat.reb_open.1 s10
  obtain ⟨hl, h4, _⟩ := hinv.all howed
  have h4 := h4 rfl
  have b4 : wc.cell? ⟨a, 4, none⟩ = some (.bool false) := s11.p2.cell 4
  have b3 : wc.cell? ⟨a, 3, none⟩ = some ov3 := s11.p2.cell 3
  have q1 : wc.cell? ⟨r, 1, none⟩ = some ov4 := s11.cell 1
  have HLf : RowKit.Hid (Calls Try.prog 15 #[.pointer (some ⟨p2, 0, none⟩)] wc fun e w' => e = .returned (.int .i64 0) ∧ wc = w') := by
    refine Lib.hid ((snd_left p2 x wc _ s11.p3).mono fun e w' h => ?_)
    rw [hl] at h
    exact h
  have HB1 := Lib.hid (begins_true (HX.out.1 _ s10.right).1 s11.p6.out_rd (begins_o3 hinv) (by have := (outs_len hinv).1; omega))
  have HS : RowKit.Hid (∀ n, Calls Try.prog 16 #[ov4, .slice a3 L2.length c3] (wc.drewN n) fun e w' => e = .returned (.bool true) ∧ ∃ n2, w' = (wc.drewN n).drewN n2) := by
    refine Lib.hid fun n => (same_calls ov4 _ o4 L2 (wc.drewN n) ((s11.drewN n).p7.out_rd) (HX.out.1 _ (s10.drewN n).right).2.1 (by have := (outs_len hinv).2; omega)).mono fun e w' h => ?_
    rw [decide_eq_true h4] at h
    exact h
  have hov3 : ov3.oneCell' = true := s11.p6.out_one
  have hov4 : ov4.oneCell' = true := s11.p7.out_one
  clear hl h4 howed hinv s11
  go_wp2_with (first
    | (go_at_call 15
       with_reducible refine HLf.out.mono ?_
       rintro e w' ⟨rfl, rfl⟩)
    | (go_at_call 9
       with_reducible refine HB1.out.mono ?_
       rintro e w' ⟨rfl, n, rfl⟩)
    | (go_at_call 16
       with_reducible refine (HS.out _).mono ?_
       rintro e w' ⟨rfl, n2, rfl⟩))
  go_ret
  exact ⟨rfl, l9.drewN _, (s10.drewN _).right⟩

end Go.Proofs.Ytbphbafmchhipaa
