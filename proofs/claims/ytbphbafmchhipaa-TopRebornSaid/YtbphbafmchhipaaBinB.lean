/-
  Package bin: four bytes; numbers read.
-/
import Derived.Test.YtbphbafmchhipaaBin
namespace Go.Proofs.Ytbphbafmchhipaa
open Go.RowKit Sea

set_option maxRecDepth 100000 in
theorem putFixed_calls (n : Nat) (hn : n < 4294967296) (w : World) (R : SA) (s : Sat w R) :
    Calls Try.prog 50 #[.int .u32 n] w fun e w' => ∃ g, e = .returned (.slice (some ⟨g, 0, none⟩) 4 4) ∧ Later w w' ∧ Sat w' (bytesRow (.slice (some ⟨g, 0, none⟩) 4 4) (fixed4 n) * R) := by
  go_enter Try.func50, Try.ntmps50
  go_wp2
  go_ret
  refine ⟨w.heap.size, rfl, (Later.refl w).alloc _, (s.alloc _).mono (row_of_obj (Nat.le_refl _) (by simp [maxLen]) rfl ?_)⟩
  simp [bts, fixed4]
  omega

theorem unfix_snoc (l : List UInt8) (c : UInt8) : unfix (l ++ [c]) = unfix l * 256 + c.toNat := by simp [unfix]
theorem unfix_lt (l : List UInt8) : unfix l < 256 ^ l.length := by
  have key : ∀ (l : List UInt8) (n k : Nat), n < 256 ^ k → l.foldl (fun n c => n * 256 + c.toNat) n < 256 ^ (k + l.length) := by
    intro l
    induction l with
    | nil => intro n k h; exact h
    | cons c l ih =>
      intro n k h
      have := c.toNat_lt
      have := ih (n * 256 + c.toNat) (k + 1) (by rw [Nat.pow_succ]; omega)
      rw [List.foldl_cons, List.length_cons, show k + (l.length + 1) = k + 1 + l.length from by omega]
      exact this
  have := key l 0 0 (by simp)
  rwa [Nat.zero_add] at this

/-- One byte of a part. -/
theorem Sat.byte {w : World} {R : SA} {b off cap : Nat} {l : List UInt8} (s : Sat w (bytesSeg (.slice (some ⟨b, off, none⟩) l.length cap) l * R)) (j : Nat) (hj : j < l.length) :
    w.cell? ⟨b, off + j, none⟩ = some (.int .u8 ((l[j].toNat : Nat) : Int)) := by
  obtain ⟨a, c, hv, _, _, _, _, h⟩ := s.seg_form
  cases hv
  have := (h _ rfl).2.2 j (by omega)
  rw [this, bts_get, List.getElem?_eq_getElem hj]
  rfl
theorem Sat.bytes_form {w : World} {R : SA} {v : Value} {l : List UInt8} (s : Sat w (bytesSeg v l * R)) (h : 0 < l.length) :
    ∃ b off cap, v = .slice (some ⟨b, off, none⟩) l.length cap ∧ l.length ≤ cap ∧ cap ≤ 9223372036854775807 ∧ b < w.heap.size := by
  obtain ⟨a, c, hv, h1, h2, _, h3, h4⟩ := s.seg_form
  cases a with
  | none => have := h3 rfl; omega
  | some ad =>
    obtain ⟨b, off, sp⟩ := ad
    obtain ⟨q1, q2, _⟩ := h4 _ rfl
    dsimp only at q1 q2
    subst q1
    exact ⟨b, off, c, hv, h1, h2, q2⟩

theorem shl8_or {n c : Nat} (hn : n < 16777216) (hc : c < 256) : bits BinOp.or IntKind.u32 ((n * 256 : Nat) : Int) (c : Int) = ((n * 256 + c : Nat) : Int) := by
  rw [or_u32 (by omega) (by omega)]
  have := Nat.two_pow_add_eq_or_of_lt (i := 8) (b := c) (by simpa using hc) n
  rw [Nat.mul_comm n 256]
  have e : (2 : Nat) ^ 8 = 256 := by decide
  rw [e] at this
  rw [this]

set_option maxRecDepth 100000 in
theorem fixed_calls (v : Value) (l : List UInt8) (at_ : Nat) (w : World) (R : SA) (s : Sat w (bytesSeg v l * R)) (h : at_ + 4 ≤ l.length) :
    Calls Try.prog 46 #[v, .int .i64 at_] w fun e w' => e = .returned (.tuple #[.int .u32 (unfix ((l.drop at_).take 4)), .int .i64 ((at_ + 4 : Nat) : Int), .int .i64 0]) ∧ w = w' := by
  obtain ⟨b, off, cap, rfl, h1, h2, _⟩ := s.bytes_form (by omega)
  have hn : ¬ cap = at_ := by omega
  have hcap : at_ + 4 ≤ cap := by omega
  go_enter Try.func46, Try.ntmps46
  go_wp2
  go_loop [7, 29] (fun x7 x29 => ∃ k : Nat, k ≤ 4 ∧ x29 = .int .i64 k ∧ x7 = .int .u32 ((unfix ((l.drop at_).take k) : Nat) : Int)) (fun _ x29 => 4 - (intOf x29).toNat)
  case atStart => exact ⟨0, by omega, rfl, rfl⟩
  case round =>
    obtain ⟨k, hk, rfl, rfl⟩ := hrel
    have hu := unfix_lt ((l.drop at_).take k)
    have hul : ((l.drop at_).take k).length = k := by simp; omega
    rw [hul] at hu
    generalize hU : unfix ((l.drop at_).take k) = u at hu ⊢
    by_cases hlt : k < 4
    · have hj : at_ + k < l.length := Nat.lt_of_lt_of_le (Nat.add_lt_add_left hlt at_) h
      have hu3 : u < 16777216 := Nat.lt_of_lt_of_le hu (by have : 256 ^ k ≤ 256 ^ 3 := Nat.pow_le_pow_right (by omega) (by omega); omega)
      have hb := s.byte (at_ + k) hj
      rw [show off + (at_ + k) = off + at_ + k from by omega] at hb
      have hsn : unfix ((l.drop at_).take (k + 1)) = u * 256 + (l[at_ + k]'hj).toNat := by
        rw [← hU, List.take_add_one, List.getElem?_drop, List.getElem?_eq_getElem hj]
        exact unfix_snoc _ _
      have Hsn := Lib.hid hsn
      clear hsn hU hu hul
      generalize l[at_ + k]'hj = c at hb Hsn
      have hc := c.toNat_lt
      go_wp2
      go_round
      case rel =>
        refine ⟨k + 1, by omega, by go_num, ?_⟩
        rw [Hsn.out]
        have := shl8_or hu3 hc
        rw [Int.natCast_mul] at this
        exact congrArg _ this
      case measure => simp [intOf]; omega
    · go_wp2
      go_ret3
      obtain rfl : k = 4 := by omega
      subst hU
      refine ⟨rfl, rfl⟩

/-- The round of Uint's loop in the text's own words. -/
theorem uint_join {n c i : Nat} (hi : i ≤ 9) (hn : n < 128 ^ i) (hc : c < 256) (h9 : i = 9 → c ≤ 1) :
    bits BinOp.or IntKind.u64 (n : Int) (((c % 128) * 128 ^ i : Nat) : Int) = ((n + (c % 128) * 128 ^ i : Nat) : Int) := by
  have hp : (128 : Nat) ^ i = 2 ^ (7 * i) := by rw [Nat.pow_mul]
  have hle : (128 : Nat) ^ i ≤ 128 ^ 9 := Nat.pow_le_pow_right (by omega) hi
  have e9 : (128 : Nat) ^ 9 = 9223372036854775808 := by decide
  have hm : (c % 128) * 128 ^ i < 18446744073709551616 := by
    rcases Nat.lt_or_ge i 9 with q | q
    · have : (128 : Nat) ^ i ≤ 128 ^ 8 := Nat.pow_le_pow_right (by omega) (by omega)
      have e8 : (128 : Nat) ^ 8 = 72057594037927936 := by decide
      have : (c % 128) * 128 ^ i ≤ 127 * 128 ^ 8 := Nat.mul_le_mul (by omega) this
      omega
    · have : i = 9 := by omega
      have hc1 := h9 this
      have : (c % 128) * 128 ^ i ≤ 1 * 128 ^ 9 := Nat.mul_le_mul (by omega) hle
      omega
  rw [or_u64 (by omega) hm]
  have := Nat.two_pow_add_eq_or_of_lt (i := 7 * i) (b := n) (by rw [← hp]; exact hn) (c % 128)
  rw [← hp] at this
  rw [Nat.or_comm, Nat.mul_comm (c % 128), ← this, Nat.add_comm]

theorem uint_val {n c k : Nat} (hk : k ≤ 9) (hn : n < 128 ^ k) (hc : c < 256) (h9 : k = 9 → c ≤ 1) :
    bits BinOp.or IntKind.u64 (n : Int) (IntKind.u64.wrap (IntKind.u64.wrap (bits BinOp.and IntKind.u8 (c : Int) 127) * 2 ^ (7 * k))) = ((n + (c % 128) * 128 ^ k : Nat) : Int) := by
  have e1 : bits BinOp.and IntKind.u8 (c : Int) 127 = ((c % 128 : Nat) : Int) := by
    rw [show (127 : Int) = ((127 : Nat) : Int) from rfl, and_u8 hc (by omega), and127]
  have hp : (2 : Int) ^ (7 * k) = ((128 ^ k : Nat) : Int) := by
    rw [Int.pow_mul]
    simp
  have hm : (c % 128) * 128 ^ k < 18446744073709551616 := by
    have e9 : (128 : Nat) ^ 9 = 9223372036854775808 := by decide
    rcases Nat.lt_or_ge k 9 with q | q
    · have : (128 : Nat) ^ k ≤ 128 ^ 8 := Nat.pow_le_pow_right (by omega) (by omega)
      have e8 : (128 : Nat) ^ 8 = 72057594037927936 := by decide
      have : (c % 128) * 128 ^ k ≤ 127 * 128 ^ 8 := Nat.mul_le_mul (by omega) this
      omega
    · have hk9 : k = 9 := by omega
      have hc1 := h9 hk9
      subst hk9
      have : (c % 128) * 128 ^ 9 ≤ 1 * 128 ^ 9 := Nat.mul_le_mul (by omega) (Nat.le_refl _)
      omega
  rw [e1, hp, wraps_u64 _ (Int.natCast_nonneg _) (by have : c % 128 < 128 := Nat.mod_lt _ (by omega); omega), ← Int.natCast_mul, wraps_u64 _ (Int.natCast_nonneg _) (by exact_mod_cast hm)]
  exact uint_join hk hn hc h9

def getUAt (l : List UInt8) (at_ : Nat) : Value :=
  match getU 0 0 (l.drop at_) with
  | .error e => .tuple #[.int .u64 0, .int .i64 0, .int .i64 ((e : Nat) : Int)]
  | .ok (n, k) => .tuple #[.int .u64 ((n : Nat) : Int), .int .i64 ((at_ + k : Nat) : Int), .int .i64 0]

theorem getUAt_err {l r : List UInt8} {at_ k n e : Nat} (h : getU 0 0 (l.drop at_) = getU k n r) (he : getU k n r = .error e) : getUAt l at_ = .tuple #[.int .u64 0, .int .i64 0, .int .i64 ((e : Nat) : Int)] := by
  unfold getUAt
  rw [h, he]
theorem getUAt_ok {l r : List UInt8} {at_ k n m j : Nat} (h : getU 0 0 (l.drop at_) = getU k n r) (he : getU k n r = .ok (m, j)) : getUAt l at_ = .tuple #[.int .u64 ((m : Nat) : Int), .int .i64 ((at_ + j : Nat) : Int), .int .i64 0] := by
  unfold getUAt
  rw [h, he]

set_option maxRecDepth 100000 in
theorem uint_calls (v : Value) (l : List UInt8) (at_ : Nat) (w : World) (R : SA) (s : Sat w (bytesSeg v l * R)) (h : at_ ≤ l.length) (hsm : l.length ≤ 4096) :
    Calls Try.prog 48 #[v, .int .i64 at_] w fun e w' => e = .returned (getUAt l at_) ∧ w = w' := by
  obtain ⟨a, cap, rfl, h1, h2, _, _, hcell⟩ := s.seg_form
  unfold maxLen at h2
  clear hcell
  go_enter Try.func48, Try.ntmps48
  go_wp2
  go_step3
  go_wp2
  go_step3
  go_wp2
  go_loop [7, 18] (fun x7 x18 => ∃ (k n : Nat), k ≤ 9 ∧ x18 = .int .i64 k ∧ x7 = .int .u64 (n : Int) ∧ n < 128 ^ k ∧ getU 0 0 (l.drop at_) = getU k n (l.drop (at_ + k))) (fun _ x18 => 10 - (intOf x18).toNat)
  case atStart => exact ⟨0, 0, by omega, rfl, rfl, by simp, rfl⟩
  case round =>
    obtain ⟨k, n, hk, rfl, rfl, hn, hg⟩ := hrel
    have Hg := Lib.hid hg
    clear hg
    by_cases hlt : at_ + k < l.length
    · obtain ⟨b, off, cap', hv, _⟩ := s.bytes_form (by omega)
      cases hv
      have hb := s.byte (at_ + k) hlt
      have hdr : l.drop (at_ + k) = l[at_ + k]'hlt :: l.drop (at_ + (k + 1)) := List.drop_eq_getElem_cons hlt
      have Hg2 := Lib.hid (Hg.out.trans (congrArg (getU k n) hdr))
      clear hdr Hg
      generalize l[at_ + k]'hlt = c at hb Hg2
      have hc := c.toNat_lt
      have hne : ¬ cap = at_ + k := by omega
      by_cases hk9 : k = 9
      · subst hk9
        by_cases hc0 : c.toNat = 0
        · have Hf : RowKit.Hid (getUAt l at_ = .tuple #[.int .u64 0, .int .i64 0, .int .i64 11]) := Lib.hid (getUAt_err Hg2.out (by simp [getU, hc0]))
          rw [hc0] at hb
          go_wp2
          go_ret3
          exact ⟨congrArg Ending.returned Hf.out.symm, rfl⟩
        · have Hc0 := Lib.hid hc0
          clear hc0
          have hc0' : (0 : Int) < (c.toNat : Int) := by have := Hc0.out; omega
          go_wp2
          · have h1 : 1 < (c.toNat : Int) := by assumption
            have Hf : RowKit.Hid (getUAt l at_ = .tuple #[.int .u64 0, .int .i64 0, .int .i64 11]) := Lib.hid (getUAt_err Hg2.out (by simp [getU]; omega))
            go_ret3
            exact ⟨congrArg Ending.returned Hf.out.symm, rfl⟩
          · have h1 : (c.toNat : Int) ≤ 1 := by assumption
            have c1 : c.toNat = 1 := by have := Hc0.out; omega
            have Hf := getUAt_ok (m := n + (c.toNat % 128) * 128 ^ 9) (j := 10) Hg2.out (by simp [getU, c1])
            go_ret3
            refine ⟨?_, rfl⟩
            rw [Hf, ← uint_val (Nat.le_refl 9) hn hc (by omega)]
            rfl
      · have hk9' : k < 9 := by omega
        have hk9b : ((k : Int) == 9) = false := by simp; omega
        clear hk9
        by_cases hc0 : c.toNat = 0
        · have Hv := Lib.hid (uint_val (c := 0) (Nat.le_of_lt hk9') hn (by omega) (by omega))
          have Hc := Lib.hid hc0
          rw [hc0] at hb
          clear hc0
          go_wp2
          · have hk0 : 0 < k := by assumption
            have Hf := getUAt_err (e := 11) Hg2.out (by simp [getU, Hc.out, hk0])
            go_ret3
            exact ⟨congrArg Ending.returned Hf.symm, rfl⟩
          · have hk0 : k = 0 := by have : ¬ 0 < k := by assumption
                                   omega
            have Hf := getUAt_ok (m := n + (c.toNat % 128) * 128 ^ k) (j := k + 1) Hg2.out (by simp [getU, Hc.out, hk0])
            go_ret3
            refine ⟨?_, rfl⟩
            rw [Hf, Hc.out, ← Hv.out]
            rfl
        · have Hv := Lib.hid (uint_val (Nat.le_of_lt hk9') hn hc (by omega))
          have Hc0 := Lib.hid hc0
          clear hc0
          have hc0' : (0 : Int) < (c.toNat : Int) := by have := Hc0.out; omega
          go_wp2
          · have h1 : (c.toNat : Int) < 128 := by assumption
            have Hf := getUAt_ok (m := n + (c.toNat % 128) * 128 ^ k) (j := k + 1) Hg2.out (by
              have := Hc0.out
              unfold getU
              rw [if_neg (by omega), if_pos (by omega)])
            go_ret3
            refine ⟨?_, rfl⟩
            rw [Hf, ← Hv.out]
            rfl
          · have h1 : 128 ≤ (c.toNat : Int) := by assumption
            go_round
            case rel =>
              have r1 := Hv.out.symm
              have r2 : n + (c.toNat % 128) * 128 ^ k < 128 ^ (k + 1) := by
                rw [Nat.pow_succ]
                have : (c.toNat % 128) * 128 ^ k ≤ 127 * 128 ^ k := Nat.mul_le_mul_right _ (by omega)
                omega
              have r3 : getU 0 0 (l.drop at_) = getU (k + 1) (n + (c.toNat % 128) * 128 ^ k) (l.drop (at_ + (k + 1))) := by
                rw [Hg2.out]
                conv => lhs; unfold getU
                rw [if_neg (by have := Hc0.out; omega), if_neg (by omega), if_neg (by omega)]
              refine ⟨_, _, _, _, _, _, _, ⟨k + 1, ?_, ?_, n + (c.toNat % 128) * 128 ^ k, ?_, r2, r3⟩, rfl, rfl, rfl, rfl, rfl, rfl, rfl⟩
              · omega
              · go_num
              · rw [r1]
            case measure => simp [intOf]; omega
    · have e : l.drop (at_ + k) = [] := List.drop_of_length_le (by omega)
      have Hf : RowKit.Hid (getUAt l at_ = .tuple #[.int .u64 0, .int .i64 0, .int .i64 10]) := by
        refine Lib.hid ?_
        unfold getUAt
        rw [Hg.out, e]
        rfl
      clear e
      go_wp2
      go_ret3
      exact ⟨congrArg Ending.returned Hf.out.symm, rfl⟩

end Go.Proofs.Ytbphbafmchhipaa
