/-
  Plain mathematics of bin and frame: numbers as bytes, the sum of 32 bits, frames; what is put is got back, and a turned bit behind the head is told.
-/
import Derived.WalkKit
namespace Go.Proofs.Ytbphbafmchhipaa.Sea

theorem xor_cr {a b c : Nat} (h : a ^^^ c = b ^^^ c) : a = b := by
  have := congrArg (· ^^^ c) h
  simpa only [Nat.xor_assoc, Nat.xor_self, Nat.xor_zero] using this
theorem xor_cl {a b c : Nat} (h : c ^^^ a = c ^^^ b) : a = b := xor_cr (c := c) (by rw [Nat.xor_comm a, Nat.xor_comm b]; exact h)

/-- One turn of the sum's register. -/
def crcStep (r : Nat) : Nat := if r % 2 = 1 then (r / 2) ^^^ 3988292384 else r / 2
def crcIter : Nat → Nat → Nat
  | 0, r => r
  | k + 1, r => crcStep (crcIter k r)
def crcByte (r : Nat) (c : UInt8) : Nat := crcIter 8 (r ^^^ c.toNat)
def crcL (r : Nat) (l : List UInt8) : Nat := l.foldl crcByte r
def crc (l : List UInt8) : Nat := 4294967295 ^^^ crcL 4294967295 l

theorem crcStep_lt {r : Nat} (h : r < 4294967296) : crcStep r < 4294967296 := by
  unfold crcStep
  split
  · exact Nat.xor_lt_two_pow (n := 32) (by omega) (by omega)
  · omega
theorem crcIter_lt {r : Nat} (h : r < 4294967296) : ∀ k, crcIter k r < 4294967296
  | 0 => h
  | k + 1 => crcStep_lt (crcIter_lt h k)
theorem crcByte_lt {r : Nat} (h : r < 4294967296) (c : UInt8) : crcByte r c < 4294967296 :=
  crcIter_lt (Nat.xor_lt_two_pow (n := 32) h (by have := c.toNat_lt; omega)) 8
theorem crcL_lt {r : Nat} (h : r < 4294967296) (l : List UInt8) : crcL r l < 4294967296 := by
  unfold crcL
  induction l generalizing r with
  | nil => exact h
  | cons c l ih => exact ih (crcByte_lt h c)
theorem crc_lt (l : List UInt8) : crc l < 4294967296 := Nat.xor_lt_two_pow (n := 32) (by omega) (crcL_lt (by omega) l)

theorem half_bit {r : Nat} (h : r < 4294967296) : (r / 2).testBit 31 = false := Nat.testBit_lt_two_pow (by omega)
theorem crcStep_inj {r s : Nat} (hr : r < 4294967296) (hs : s < 4294967296) (h : crcStep r = crcStep s) : r = s := by
  unfold crcStep at h
  have p : (3988292384 : Nat).testBit 31 = true := by decide
  have key : ∀ a b : Nat, a < 4294967296 → b < 4294967296 → (a / 2) ^^^ 3988292384 = b / 2 → False := by
    intro a b ha hb e
    have := congrArg (·.testBit 31) e
    simp only [Nat.testBit_xor, half_bit ha, half_bit hb, p] at this
    cases this
  split at h <;> split at h
  · have := xor_cr h
    omega
  · exact (key _ _ hr hs h).elim
  · exact (key _ _ hs hr h.symm).elim
  · omega
theorem crcIter_inj {r s : Nat} (hr : r < 4294967296) (hs : s < 4294967296) : ∀ k, crcIter k r = crcIter k s → r = s
  | 0, h => h
  | k + 1, h => crcIter_inj hr hs k (crcStep_inj (crcIter_lt hr k) (crcIter_lt hs k) h)
theorem crcByte_inj_left {r s : Nat} (hr : r < 4294967296) (hs : s < 4294967296) (c : UInt8) (h : crcByte r c = crcByte s c) : r = s := by
  have hc : c.toNat < 4294967296 := by have := c.toNat_lt; omega
  exact xor_cr (crcIter_inj (Nat.xor_lt_two_pow (n := 32) hr hc) (Nat.xor_lt_two_pow (n := 32) hs hc) 8 h)
theorem crcByte_inj_right {r : Nat} (hr : r < 4294967296) (c d : UInt8) (h : crcByte r c = crcByte r d) : c = d := by
  have hc : c.toNat < 4294967296 := by have := c.toNat_lt; omega
  have hd : d.toNat < 4294967296 := by have := d.toNat_lt; omega
  exact UInt8.toNat_inj.1 (xor_cl (crcIter_inj (Nat.xor_lt_two_pow (n := 32) hr hc) (Nat.xor_lt_two_pow (n := 32) hr hd) 8 h))
theorem crcL_inj {r s : Nat} (hr : r < 4294967296) (hs : s < 4294967296) (l : List UInt8) (h : crcL r l = crcL s l) : r = s := by
  induction l generalizing r s with
  | nil => exact h
  | cons c l ih => exact crcByte_inj_left hr hs c (ih (crcByte_lt hr c) (crcByte_lt hs c) h)
/-- A byte that is turned is told by the sum. -/
theorem crc_turned (a b : List UInt8) {c d : UInt8} (h : c ≠ d) : crc (a ++ c :: b) ≠ crc (a ++ d :: b) := by
  intro e
  unfold crc at e
  have e := xor_cl e
  unfold crcL at e
  rw [List.foldl_append, List.foldl_append] at e
  have ha : crcL 4294967295 a < 4294967296 := crcL_lt (by omega) a
  exact h (crcByte_inj_right ha c d (crcL_inj (crcByte_lt ha c) (crcByte_lt ha d) b e))

/-- Four bytes of a number. -/
def fixed4 (n : Nat) : List UInt8 := [UInt8.ofNat (n / 16777216), UInt8.ofNat (n / 65536), UInt8.ofNat (n / 256), UInt8.ofNat n]
def unfix (l : List UInt8) : Nat := l.foldl (fun n c => n * 256 + c.toNat) 0
theorem fixed4_length (n : Nat) : (fixed4 n).length = 4 := rfl
theorem unfix_fixed4 {n : Nat} (h : n < 4294967296) : unfix (fixed4 n) = n := by
  simp only [unfix, fixed4, List.foldl_cons, List.foldl_nil, UInt8.toNat_ofNat']
  omega
theorem unfix_inj {a b : List UInt8} (hl : a.length = b.length) (h : unfix a = unfix b) : a = b := by
  have key : ∀ (a b : List UInt8) (m n : Nat), a.length = b.length → a.foldl (fun n c => n * 256 + c.toNat) m = b.foldl (fun n c => n * 256 + c.toNat) n → m = n ∧ a = b := by
    intro a
    induction a with
    | nil =>
      intro b m n hl h
      cases b with
      | nil => exact ⟨h, rfl⟩
      | cons _ _ => cases hl
    | cons c a ih =>
      intro b m n hl h
      cases b with
      | nil => cases hl
      | cons d b =>
        obtain ⟨e, rfl⟩ := ih b _ _ (by simpa using hl) h
        dsimp only at e
        have := c.toNat_lt
        have := d.toNat_lt
        have e1 : c.toNat = d.toNat := by omega
        exact ⟨by omega, by rw [UInt8.toNat_inj.1 e1]⟩
  exact (key a b 0 0 hl h).2

def frameHead (kind : UInt8) (body : List UInt8) : List UInt8 := [167, kind] ++ fixed4 body.length ++ body
def framePut (kind : UInt8) (body : List UInt8) : List UInt8 := frameHead kind body ++ fixed4 (crc (frameHead kind body))
theorem frameHead_length (kind : UInt8) (body : List UInt8) : (frameHead kind body).length = 6 + body.length := by simp [frameHead, fixed4_length]; omega
theorem framePut_length (kind : UInt8) (body : List UInt8) : (framePut kind body).length = 10 + body.length := by simp [framePut, frameHead_length, fixed4_length]; omega

/-- The frame at the begin: kind, body, the place behind it; or an error's number. -/
def frameGet (b : List UInt8) : Except Nat (UInt8 × List UInt8 × Nat) :=
  if b.length = 0 then .error 10
  else if b.headD 0 ≠ 167 then .error 20
  else if b.length < 6 then .error 10
  else if unfix ((b.drop 2).take 4) > 1024 then .error 3
  else if b.length < 6 + unfix ((b.drop 2).take 4) + 4 then .error 10
  else if unfix ((b.drop (6 + unfix ((b.drop 2).take 4))).take 4) ≠ crc (b.take (6 + unfix ((b.drop 2).take 4))) then .error 21
  else .ok (b.getD 1 0, (b.drop 6).take (unfix ((b.drop 2).take 4)), 6 + unfix ((b.drop 2).take 4) + 4)

theorem frameHead_cut (kind : UInt8) (body t : List UInt8) : ((frameHead kind body ++ t).drop 2).take 4 = fixed4 body.length := by simp [frameHead, fixed4]

theorem frameGet_of (kind : UInt8) (body t : List UInt8) (hb : body.length ≤ 1024) (ht : t.length = 4) :
    frameGet (frameHead kind body ++ t) = if unfix t = crc (frameHead kind body) then .ok (kind, body, 10 + body.length) else .error 21 := by
  have hl : (frameHead kind body ++ t).length = 10 + body.length := by rw [List.length_append, frameHead_length, ht]; omega
  have hu : unfix (fixed4 body.length) = body.length := unfix_fixed4 (by omega)
  unfold frameGet
  rw [frameHead_cut, hu, hl, if_neg (by omega), if_neg (by simp [frameHead]), if_neg (by omega), if_neg (by omega), if_neg (by omega)]
  have e1 : (frameHead kind body ++ t).drop (6 + body.length) = t := by rw [← frameHead_length kind body, List.drop_left]
  have e2 : (frameHead kind body ++ t).take (6 + body.length) = frameHead kind body := by rw [← frameHead_length kind body, List.take_left]
  rw [e1, e2, List.take_of_length_le (by omega)]
  have e3 : ((frameHead kind body ++ t).drop 6).take body.length = body := by simp [frameHead, fixed4]
  have e4 : (frameHead kind body ++ t).getD 1 0 = kind := by simp [frameHead]
  by_cases h : unfix t = crc (frameHead kind body)
  · rw [if_neg (by simpa using h), if_pos h, e3, e4, show 6 + body.length + 4 = 10 + body.length from by omega]
  · rw [if_pos h, if_neg h]
theorem frameGet_put (kind : UInt8) (body : List UInt8) (hb : body.length ≤ 1024) : frameGet (framePut kind body) = .ok (kind, body, 10 + body.length) := by
  unfold framePut
  rw [frameGet_of kind body _ hb rfl, unfix_fixed4 (crc_lt _), if_pos rfl]

/-- A frame one of whose bytes behind the head is another one is told. -/
theorem frameGet_turned (kind : UInt8) (body : List UInt8) (hb : body.length ≤ 1024) (i : Nat) (hi : 6 ≤ i) (hl : i < 10 + body.length) (c : UInt8) (hc : c ≠ (framePut kind body).getD i 0) :
    frameGet ((framePut kind body).set i c) = .error 21 := by
  by_cases h : i < 6 + body.length
  · have e : (framePut kind body).set i c = frameHead kind (body.set (i - 6) c) ++ fixed4 (crc (frameHead kind body)) := by
      unfold framePut
      rw [List.set_append_left _ _ (by rw [frameHead_length]; omega)]
      congr 1
      unfold frameHead
      rw [List.set_append_right _ _ (by simp [fixed4_length]; omega)]
      simp [fixed4_length]
    rw [e, frameGet_of kind _ _ (by simpa using hb) rfl, if_neg]
    rw [unfix_fixed4 (crc_lt _)]
    have hx : i - 6 < body.length := by omega
    have s1 : body = body.take (i - 6) ++ body[i - 6] :: body.drop (i - 6 + 1) := by simp
    have s2 : body.set (i - 6) c = body.take (i - 6) ++ c :: body.drop (i - 6 + 1) := List.set_eq_take_append_cons_drop.trans (by rw [if_pos hx])
    have hc' : body[i - 6] ≠ c := by
      intro q
      apply hc
      unfold framePut
      rw [List.getD_eq_getElem?_getD, List.getElem?_append_left (by rw [frameHead_length]; omega)]
      unfold frameHead
      rw [List.getElem?_append_right (by simp [fixed4_length]; omega)]
      simp [fixed4_length, hx, q]
    have := crc_turned ([167, kind] ++ fixed4 body.length ++ body.take (i - 6)) (body.drop (i - 6 + 1)) hc'
    unfold frameHead
    rw [List.length_set, s2]
    intro q
    apply this
    simp only [List.append_assoc] at q ⊢
    rw [← q]
    congr 3
    exact s1.symm
  · have e : (framePut kind body).set i c = frameHead kind body ++ (fixed4 (crc (frameHead kind body))).set (i - (6 + body.length)) c := by
      unfold framePut
      rw [List.set_append_right _ _ (by rw [frameHead_length]; omega), frameHead_length]
    rw [e, frameGet_of kind _ _ hb (by simp [fixed4_length]), if_neg]
    intro q
    have q2 : unfix ((fixed4 (crc (frameHead kind body))).set (i - (6 + body.length)) c) = unfix (fixed4 (crc (frameHead kind body))) := by rw [q, unfix_fixed4 (crc_lt _)]
    have q3 := unfix_inj (by simp) q2
    apply hc
    have := congrArg (fun l => l.getD (i - (6 + body.length)) 0) q3
    simp only [List.getD_eq_getElem?_getD] at this
    rw [List.getElem?_set_self (by rw [fixed4_length]; omega)] at this
    unfold framePut
    rw [List.getD_eq_getElem?_getD, List.getElem?_append_right (by rw [frameHead_length]; omega), frameHead_length, ← this]
    rfl

/-- How many bytes a number takes. -/
def digits (n : Nat) : Nat := if n < 128 then 1 else digits (n / 128) + 1
/-- A number's bytes. -/
def putU (n : Nat) : List UInt8 := if n < 128 then [UInt8.ofNat n] else UInt8.ofNat (n % 128 + 128) :: putU (n / 128)

theorem putU_length (n : Nat) : (putU n).length = digits n := by
  induction n using Nat.strongRecOn with
  | _ n ih =>
    unfold putU digits
    split
    · rfl
    · simp [ih (n / 128) (by omega)]
theorem digits_pos (n : Nat) : 0 < digits n := by unfold digits; split <;> omega
theorem digits_le {n : Nat} : ∀ k, n < 128 ^ (k + 1) → digits n ≤ k + 1 := by
  intro k
  induction k generalizing n with
  | zero => intro h; unfold digits; rw [if_pos (by simpa using h)]; omega
  | succ k ih =>
    intro h
    unfold digits
    split
    · omega
    · have := ih (n := n / 128) (Nat.div_lt_of_lt_mul (by rw [Nat.pow_succ] at h; omega))
      omega
theorem digits_u64 {n : Nat} (h : n < 18446744073709551616) : digits n ≤ 10 := digits_le 9 (by omega)

/-- The number at the begin of bytes, from the i-th byte on: the number, and how many bytes it took; or an error's number. -/
def getU : Nat → Nat → List UInt8 → Except Nat (Nat × Nat)
  | _, _, [] => .error 10
  | i, n, c :: r =>
    if i = 9 ∧ 1 < c.toNat ∨ c.toNat = 0 ∧ 0 < i then .error 11
    else if c.toNat < 128 then .ok (n + (c.toNat % 128) * 128 ^ i, i + 1)
    else if i = 9 then .error 11
    else getU (i + 1) (n + (c.toNat % 128) * 128 ^ i) r

theorem getU_putU : ∀ (m i n : Nat) (r : List UInt8), digits m + i ≤ 10 → m * 128 ^ i < 18446744073709551616 → (0 < i → 0 < m) → getU i n (putU m ++ r) = .ok (n + m * 128 ^ i, i + digits m) := by
  intro m
  induction m using Nat.strongRecOn with
  | _ m ih =>
    intro i n r hd hm hi
    unfold putU digits
    unfold digits at hd
    by_cases h : m < 128
    · rw [if_pos h, if_pos h]
      rw [if_pos h] at hd
      have e : (UInt8.ofNat m).toNat = m := by simp; omega
      simp only [List.cons_append, List.nil_append, getU, e]
      have h9 : i = 9 → m ≤ 1 := by
        rintro rfl
        have : (128 : Nat) ^ 9 = 9223372036854775808 := by decide
        rw [this] at hm
        omega
      rw [if_neg (by omega), if_pos h, Nat.mod_eq_of_lt h]
    · rw [if_neg h, if_neg h]
      rw [if_neg h] at hd
      have e : (UInt8.ofNat (m % 128 + 128)).toNat = m % 128 + 128 := by simp; omega
      have dp := digits_pos (m / 128)
      simp only [List.cons_append, getU, e]
      rw [if_neg (by omega), if_neg (by omega), if_neg (by omega)]
      have e2 : (m % 128 + 128) % 128 = m % 128 := by omega
      have e3 : 128 ^ (i + 1) = 128 ^ i * 128 := Nat.pow_succ ..
      have e4 : m = 128 * (m / 128) + m % 128 := by omega
      have e5 : m * 128 ^ i = (m % 128) * 128 ^ i + (m / 128) * (128 ^ i * 128) := by
        conv => lhs; rw [e4]
        rw [Nat.add_mul, Nat.add_comm, Nat.mul_comm (128 ^ i) 128, ← Nat.mul_assoc, Nat.mul_comm (m / 128) 128]
      rw [e2, ih (m / 128) (by omega) (i + 1) _ r (by omega) (by rw [e3]; omega) (fun _ => by omega), e3]
      congr 1
      rw [Prod.mk.injEq]
      omega

end Go.Proofs.Ytbphbafmchhipaa.Sea
