/-
  The numbers' bytes in memory: package bin. (The walk of bits.Len64 is the shelf's, laid by contract.sh.)
-/
import Derived.Test.YtbphbafmchhipaaChecked
import Derived.Test.YtbphbafmchhipaaRec
import Derived.Test.YtbphbafmchhipaaLen
import Derived.Test.YtbphbafmchhipaaBits
import Derived.Lib.Hide
import Derived.Test.YtbphbafmchhipaaBytes
import Derived.WalkKit
import Derived.WalkSpells
import Derived.KernelRfl
import Derived.Deep.QuietTactic
import Derived.BigQuiet
namespace Go.Proofs.Ytbphbafmchhipaa
open Go.RowKit Sea

theorem info_u8 : (Try.prog.info? 5).map (fun i => (i.zero, i.size, i.bytes)) = some (some (.int .u8 0), 1, 1) := by kernel_rfl

theorem bitLen_digits (n : Nat) (h : n < 18446744073709551616) : max 1 ((Lib.bitLen n + 6) / 7) = digits n := by
  induction n using Nat.strongRecOn with
  | _ n ih =>
    unfold digits
    by_cases c : n < 128
    · rw [if_pos c]
      have := Lib.bitLen_le n 7 (by omega) (by omega)
      omega
    · rw [if_neg c]
      have h1 := Lib.bitLen_shift 7 n (by omega) (by omega)
      have h2 := ih (n / 128) (by omega) (by omega)
      have h3 : 0 < Lib.bitLen (n / 128) := by
        have := Lib.bitLen_half (n / 128) (by omega) (by omega)
        omega
      rw [h1]
      have e : (2 : Nat) ^ 7 = 128 := by decide
      rw [e]
      omega

/-- What the loop has laid behind k rounds. -/
def putPre (n k : Nat) : List Value := (List.range k).map fun i => .int .u8 ((n / 128 ^ i % 128 + 128 : Nat) : Int)
theorem putPre_length (n k : Nat) : (putPre n k).length = k := by simp [putPre]
theorem putPre_succ (n k : Nat) : putPre n (k + 1) = putPre n k ++ [.int .u8 ((n / 128 ^ k % 128 + 128 : Nat) : Int)] := by simp [putPre, List.range_succ]
def putCells (n k m : Nat) : Array Value := (putPre n k ++ List.replicate m (Value.int .u8 0)).toArray
theorem putCells_set (n k m : Nat) : (putCells n k (m + 1)).setIfInBounds k (.int .u8 ((n / 128 ^ k % 128 + 128 : Nat) : Int)) = putCells n (k + 1) m := by
  unfold putCells
  rw [List.setIfInBounds_toArray, List.set_append_right _ _ (by rw [putPre_length]; exact Nat.le_refl _), putPre_length, Nat.sub_self, List.replicate_succ, List.set_cons_zero, putPre_succ]
  simp

theorem last_byte (q : Nat) : bits BinOp.and IntKind.u8 ((q % 128 + 128 : Nat) : Int) 127 = ((q % 128 : Nat) : Int) := by
  rw [show (127 : Int) = ((127 : Nat) : Int) from rfl, and_u8 (by omega) (by omega), and127]
  omega
theorem putPre_cons (n k : Nat) : putPre n (k + 1) = .int .u8 ((n % 128 + 128 : Nat) : Int) :: putPre (n / 128) k := by
  unfold putPre
  rw [List.range_succ_eq_map, List.map_cons, List.map_map]
  simp only [Nat.pow_zero, Nat.div_one]
  congr 1
  apply List.map_congr_left
  intro i _
  simp only [Function.comp_apply]
  rw [Nat.pow_succ, Nat.mul_comm, ← Nat.div_div_eq_div_mul]
theorem putU_pre (n : Nat) : (putPre n (digits n)).set (digits n - 1) (.int .u8 ((n / 128 ^ (digits n - 1) % 128 : Nat) : Int)) = bts (putU n) := by
  induction n using Nat.strongRecOn with
  | _ n ih =>
    unfold digits putU
    by_cases c : n < 128
    · rw [if_pos c, if_pos c]
      simp [putPre, bts]
      omega
    · rw [if_neg c, if_neg c, putPre_cons]
      have dp := digits_pos (n / 128)
      obtain ⟨d, hd⟩ : ∃ d, digits (n / 128) = d + 1 := ⟨digits (n / 128) - 1, by omega⟩
      have h := ih (n / 128) (by omega)
      rw [hd] at h ⊢
      simp only [Nat.add_sub_cancel] at h ⊢
      rw [List.set_cons_succ, Nat.pow_succ, Nat.mul_comm, ← Nat.div_div_eq_div_mul, h]
      simp [bts]
      omega

set_option maxRecDepth 100000 in
theorem putUint_calls (n : Nat) (hn : n < 18446744073709551616) (w : World) (R : SA) (s : Sat w R) :
    Calls Try.prog 44 #[.int .u64 n] w fun e w' => ∃ g, e = .returned (.slice (some ⟨g, 0, none⟩) (digits n) (digits n)) ∧ Later w w' ∧ Sat w' (bytesRow (.slice (some ⟨g, 0, none⟩) (digits n) (digits n)) (putU n) * R) := by
  have hd1 := digits_pos n
  have hd2 := digits_u64 hn
  have hbl : Lib.bitLen n ≤ 64 := Lib.bitLen_le n 64 (by omega) (by omega)
  have hmx : max 1 ((((Lib.bitLen n : Nat) : Int) + 6) / 7) = (digits n : Int) := by have := bitLen_digits n hn; omega
  have s0 := s.alloc (.cells (madeCells #[Value.int .u8 0] (digits n)) 5)
  have hB : w.heap.size = w.heap.size := rfl
  go_enter Try.func44, Try.ntmps44
  go_wp2_with (first
    | (go_at_call 49; refine (len64' _ _ hn).mono ?_; rintro e w' ⟨rfl, rfl⟩)
    | (refine wpList_make (by rfl) _ _ _ (by rfl) 5 1 1 info_u8 Try.underlying25 (digits n) (by rfl) (by rfl) rfl rfl (by omega) (by unfold maxLen; omega) ?_))
  clear hmx hbl
  generalize hW : w.alloc (.cells (madeCells #[Value.int .u8 0] (digits n)) 5) = W0 at s0 ⊢
  have hl0 : Later w W0 := by rw [← hW]; exact (Later.refl w).alloc _
  clear hW
  generalize w.heap.size = B at s0 ⊢
  go_loopw [0, 15] (fun x0 x15 wr => ∃ k : Nat, k ≤ digits n ∧ x15 = .int .i64 k ∧ x0 = .int .u64 ((n / 128 ^ k : Nat) : Int) ∧ Later w wr ∧ Sat wr (SA.obj B (.cells (putCells n k (digits n - k)) 5 (0, 0)) * R)) (fun _ x15 _ => digits n - (intOf x15).toNat)
  case atStart =>
    refine ⟨0, Nat.zero_le _, rfl, by simp, hl0, ?_⟩
    refine s0.eq ?_
    have : madeCells #[Value.int .u8 0] (digits n) = putCells n 0 (digits n - 0) := by
      rw [← Array.toList_inj]
      simp [toList_madeCells_one, putCells, putPre]
    rw [this]
  case round =>
    obtain ⟨k, hk, rfl, rfl, hl, hs⟩ := hrel
    by_cases hlt : k < digits n
    · have c0 : wr.cell? ⟨B, k, none⟩ = some (.int .u8 0) := by
        rw [hs.cell k]
        unfold putCells
        rw [List.getElem?_toArray, List.getElem?_append_right (by rw [putPre_length]; exact Nat.le_refl _), putPre_length, Nat.sub_self, List.getElem?_replicate, if_pos (by omega)]
      have f0 : wr.frozen? ⟨B, k, none⟩ = false := hs.free k
      go_wp2
      go_roundw
      case rel =>
        refine ⟨k + 1, by omega, by go_num, ?_, hl.setCell _ _, ?_⟩
        · have : n / 128 ^ (k + 1) = n / 128 ^ k / 128 := by rw [Nat.pow_succ, Nat.div_div_eq_div_mul]
          rw [this]
          simp
        · have hq : n / 128 ^ k < 18446744073709551616 := Nat.lt_of_le_of_lt (Nat.div_le_self _ _) hn
          have e1 : bits BinOp.or IntKind.u8 (bits BinOp.and IntKind.u64 ((n : Int) / 128 ^ k) 127 % 256) 128 = ((n / 128 ^ k % 128 + 128 : Nat) : Int) := by
            have e2 : ((n : Int) / 128 ^ k) = ((n / 128 ^ k : Nat) : Int) := by simp
            rw [e2, show (127 : Int) = ((127 : Nat) : Int) from rfl, and_u64 hq (by omega), and127, show (256 : Int) = ((256 : Nat) : Int) from rfl, ← Int.natCast_emod, show (128 : Int) = ((128 : Nat) : Int) from rfl, or_u8 (by omega) (by omega), or128 (by omega)]
            omega
          rw [e1]
          have := hs.set k (.int .u8 ((n / 128 ^ k % 128 + 128 : Nat) : Int))
          rw [show digits n - k = digits n - (k + 1) + 1 from by omega, putCells_set] at this
          exact this
      case measure => simp [intOf]; omega
    · have e : k = digits n := by omega
      subst e
      rw [Nat.sub_self] at hs
      have c1 : wr.cell? ⟨B, digits n - 1, none⟩ = some (.int .u8 ((n / 128 ^ (digits n - 1) % 128 + 128 : Nat) : Int)) := by
        rw [hs.cell]
        unfold putCells
        rw [List.getElem?_toArray, List.getElem?_append_left (by rw [putPre_length]; omega)]
        unfold putPre
        rw [List.getElem?_map, List.getElem?_range (by omega)]
        rfl
      have f1 : wr.frozen? ⟨B, digits n - 1, none⟩ = false := hs.free _
      go_wp2
      go_ret
      refine ⟨B, rfl, hl.setCell _ _, ?_⟩
      have e1 : bits BinOp.and IntKind.u8 ((n : Int) / 128 ^ (digits n - 1) % 128 + 128) 127 = ((n / 128 ^ (digits n - 1) % 128 : Nat) : Int) := by
        have e2 : ((n : Int) / 128 ^ (digits n - 1) % 128 + 128) = ((n / 128 ^ (digits n - 1) % 128 + 128 : Nat) : Int) := by simp
        rw [e2]
        exact last_byte _
      rw [e1]
      unfold bytesRow
      rw [putU_length]
      refine (hs.set (digits n - 1) _).mono (row_of_obj (Nat.le_refl _) (Nat.le_trans hd2 (by simp [maxLen])) ?_ ?_)
      · simp [putCells, putPre_length]
      · rw [Nat.mul_one, List.take_of_length_le (by simp [putCells, putPre_length])]
        simp only [putCells, List.replicate_zero, List.append_nil, List.setIfInBounds_toArray]
        exact putU_pre n

end Go.Proofs.Ytbphbafmchhipaa
