/-
  What TopReborn's arguments read as: lists of bytes, moves.
-/
import Derived.Test.YtbphbafmchhipaaTop
import Derived.Deep.Slices
import Derived.Deep.Fields
import Derived.ChangeOld
import Derived.ChangeSlices
namespace Go.Proofs.Ytbphbafmchhipaa
open Go.ChangeShapes Go.WideShapes Go.RowKit Go.Deep

section
variable {H : Type} {enc : TypeId × Value → H} {w : World} {base : Nat} {held : Bool}
theorem lit_addr {a : Addr} {v : Value} (h : w.cell? a = some v) : a = ⟨a.block, a.off, none⟩ := by
  obtain ⟨b, o, sp⟩ := a
  cases sp with
  | none => rfl
  | some s =>
    unfold World.cell? at h
    split at h <;> simp at h
theorem u8_of {n : Int} (h : (Lit.int .u8 n).wf = true) : ((UInt8.ofNat n.toNat).toNat : Int) = n := by
  have hb : 0 ≤ n ∧ n ≤ 255 := by simpa [Lit.wf, IntKind.min, IntKind.max, IntKind.signed, IntKind.bits] using h
  rw [UInt8.toNat_ofNat']
  omega
/-- Bytes that can be read. -/
theorem bytes_of {fuel : Nat} {cs : List Value} {x : DataW H × List MemPlace} (h : DataW.trod enc Try.prog w base (fun _ => true) held fuel 25 cs = some x) : ∃ v l, cs = [v] ∧ RdB w v l := by
  rcases open_ints Try.underlying25 Try.underlying5 (by kernel_rfl) h with ⟨rfl, _⟩ | ⟨a, len, cap, zs, rfl, _, hl, hm, hz, _, hcell, hwf⟩
  · exact ⟨_, [], rfl, .inl ⟨⟨none, rfl⟩, rfl⟩⟩
  simp only [if_true] at hz
  rcases Nat.eq_zero_or_pos cap with h0 | h0
  · obtain rfl : len = 0 := by omega
    subst h0
    exact ⟨_, [], rfl, .inl ⟨⟨some a, rfl⟩, rfl⟩⟩
  · have ha := lit_addr (hcell 0 (by omega))
    have ha0 : a.add 0 = a := by simp [Addr.add]
    rw [ha0] at ha
    refine ⟨_, (zs.take len).map fun n => UInt8.ofNat n.toNat, rfl, .inr ⟨a.block, a.off, cap, ?_, ?_, hm, fun j hj => ?_⟩⟩
    · rw [← ha, List.length_map, List.length_take, Nat.min_eq_left (by omega)]
    · rw [List.length_map, List.length_take]; omega
    · rw [List.length_map, List.length_take] at hj
      have hc := hcell j (by omega)
      rw [ha, Addr.add_lit] at hc
      rw [hc]
      have hj2 : j < zs.length := by omega
      have e1 : zs.getD j 0 = zs[j] := by simp [List.getD, List.getElem?_eq_getElem hj2]
      have e2 : ((zs.take len).map fun n => UInt8.ofNat n.toNat)[j]'(by rw [List.length_map, List.length_take]; omega) = UInt8.ofNat zs[j].toNat := by simp
      rw [e1, e2, u8_of (hwf _ (List.getElem_mem hj2))]
theorem lists_of {fuel : Nat} {cs : List Value} {x : DataW H × List MemPlace} (h : DataW.trod enc Try.prog w base (fun _ => true) held fuel 22 cs = some x) : ∃ v L, cs = [v] ∧ RdL w v L := by
  rcases open_slice1 Try.underlying22 (by kernel_rfl) h with ⟨rfl, _⟩ | ⟨a, len, cap, m, n, V, D, Pl, rfl, _, hl, hm, hmm, _, hx⟩
  · exact ⟨_, [], rfl, .inl ⟨⟨none, rfl⟩, rfl⟩⟩
  simp only [if_true] at hmm
  subst hmm
  rcases Nat.eq_zero_or_pos m with h0 | h0
  · obtain rfl : len = 0 := by omega
    subst h0
    exact ⟨_, [], rfl, .inl ⟨⟨some a, rfl⟩, rfl⟩⟩
  · have ha := lit_addr (hx 0 h0).1
    have ha0 : a.add 0 = a := by simp [Addr.add]
    rw [ha0] at ha
    obtain ⟨G, hG⟩ := choose_lt (α := Sea.B) (p := fun i l => RdB w (V i) l) (fun i (hi : i < m) => by
      obtain ⟨v, l, e, hr⟩ := bytes_of (hx i hi).2
      cases e
      exact ⟨l, hr⟩)
    refine ⟨_, (List.range len).map G, rfl, .inr ⟨a.block, a.off, m, ?_, ?_, hm, fun j hj => ?_⟩⟩
    · rw [← ha, List.length_map, List.length_range]
    · rw [List.length_map, List.length_range]; exact hl
    · rw [List.length_map, List.length_range] at hj
      have hc := (hx j (by omega)).1
      rw [ha, Addr.add_lit] at hc
      refine ⟨V j, hc, ?_⟩
      rw [List.getElem_map, List.getElem_range]
      exact hG j (by omega)
theorem moves_of {fuel : Nat} {cs : List Value} {x : DataW H × List MemPlace} (h : DataW.trod enc Try.prog w base (fun _ => true) held fuel 23 cs = some x) : ∃ v A, cs = [v] ∧ RdM w v A := by
  rcases open_slice Try.underlying23 h with ⟨rfl, _⟩ | ⟨a, len, cap, m, n, D, Pl, rfl, _, hl, hm, hmm, _, hx⟩
  · exact ⟨_, [], rfl, .inl ⟨⟨none, rfl⟩, rfl⟩⟩
  simp only [if_true] at hmm
  subst hmm
  have c3 : Try.prog.cellsOf 36 = 3 := by kernel_rfl
  rw [c3] at hx
  rcases Nat.eq_zero_or_pos m with h0 | h0
  · obtain rfl : len = 0 := by omega
    subst h0
    exact ⟨_, [], rfl, .inl ⟨⟨some a, rfl⟩, rfl⟩⟩
  · have key : ∀ i, i < m → ∃ y : Int × Int × Int, w.cell? (a.add (i * 3)) = some (.int .i64 y.1) ∧ w.cell? (a.add (i * 3 + 1)) = some (.int .i64 y.2.1) ∧ w.cell? (a.add (i * 3 + 2)) = some (.int .i64 y.2.2) := by
      intro i hi
      obtain ⟨cs', hc, ht⟩ := hx i hi
      obtain ⟨xs, n', _, _, hlen, hxl, hf⟩ := DataW.trod_struct Try.underlying36 ht
      obtain ⟨_, hcl, hat⟩ := World.cells?_some hc
      have k : Try.prog.cellsOf 3 = 1 := by kernel_rfl
      have one : ∀ j, j < 3 → ∀ y, DataW.trod enc Try.prog w base (fun _ => true) held n' 3 ((cs'.drop j).take 1) = some y → ∃ z : Int, w.cell? (a.add (i * 3 + j)) = some (.int .i64 z) := by
        intro j hj y hy
        obtain ⟨z, hz, _⟩ := DataW.trod_int Try.underlying3 hy
        refine ⟨z, ?_⟩
        rw [← add_add, hat j hj]
        have hj' : j < cs'.length := by omega
        rw [List.drop_eq_getElem_cons hj', List.take_succ_cons, List.take_zero] at hz
        have hz := (List.cons.inj hz).1
        rw [List.getElem?_eq_getElem hj', hz]
      have h0 : DataW.trod enc Try.prog w base (fun _ => true) held n' 3 ((cs'.drop 0).take (Try.prog.cellsOf 3)) = xs[0]? := hf 0 _ rfl
      rw [k] at h0
      have h1 : DataW.trod enc Try.prog w base (fun _ => true) held n' 3 ((cs'.drop 1).take (Try.prog.cellsOf 3)) = xs[1]? := hf 1 _ rfl
      rw [k] at h1
      have h2 : DataW.trod enc Try.prog w base (fun _ => true) held n' 3 ((cs'.drop 2).take (Try.prog.cellsOf 3)) = xs[2]? := hf 2 _ rfl
      rw [k] at h2
      have hs : xs.length = 3 := hxl
      obtain ⟨z0, q0⟩ := one 0 (by omega) _ (h0.trans (List.getElem?_eq_getElem (by omega)))
      obtain ⟨z1, q1⟩ := one 1 (by omega) _ (h1.trans (List.getElem?_eq_getElem (by omega)))
      obtain ⟨z2, q2⟩ := one 2 (by omega) _ (h2.trans (List.getElem?_eq_getElem (by omega)))
      exact ⟨(z0, z1, z2), by rw [Nat.add_zero] at q0; exact q0, q1, q2⟩
    have ha : a = ⟨a.block, a.off, none⟩ := by
      obtain ⟨y, hy, _⟩ := key 0 h0
      have ha := lit_addr hy
      rw [Nat.zero_mul] at ha
      have ha0 : a.add 0 = a := by simp [Addr.add]
      rw [ha0] at ha
      exact ha
    obtain ⟨G, hG⟩ := choose_lt (α := Int × Int × Int) (p := fun i y => w.cell? (a.add (i * 3)) = some (.int .i64 y.1) ∧ w.cell? (a.add (i * 3 + 1)) = some (.int .i64 y.2.1) ∧ w.cell? (a.add (i * 3 + 2)) = some (.int .i64 y.2.2)) key
    refine ⟨_, (List.range len).map G, rfl, .inr ⟨a.block, a.off, m, ?_, ?_, hm, fun j hj => ?_⟩⟩
    · rw [← ha, List.length_map, List.length_range]
    · rw [List.length_map, List.length_range]; exact hl
    · rw [List.length_map, List.length_range] at hj
      have hc := hG j (by omega)
      rw [ha] at hc
      simp only [Addr.add_lit] at hc
      rw [List.getElem_map, List.getElem_range]
      refine ⟨hc.1, ?_, ?_⟩
      · rw [Nat.add_assoc]; exact hc.2.1
      · rw [Nat.add_assoc]; exact hc.2.2
end

end Go.Proofs.Ytbphbafmchhipaa
