/-
  Package bin: a reader, as far as what it reads is whole.
-/
import Derived.Test.YtbphbafmchhipaaBinB
namespace Go.Proofs.Ytbphbafmchhipaa
open Go.RowKit Sea

theorem info_rdr : (Try.prog.info? 111).map (fun i => (i.zero, i.size, i.bytes)) = some (some (.agg #[.slice none 0 0, .int .i64 0, .int .i64 0]), 3, 40) := by kernel_rfl
theorem max0 : 0 ≤ maxLen := Nat.zero_le _
theorem max1 : 1 ≤ maxLen := by simp [maxLen]

def readerAt (p : Nat) (l : List UInt8) (at_ : Nat) : SA := SA.ex fun bv : Value => SA.obj p (.cells #[bv, .int .i64 at_, .int .i64 0] 111 (0, 0)) * bytesRow bv l

set_option maxRecDepth 100000 in
theorem new_calls (v : Value) (l : List UInt8) (w : World) (R : SA) (s : Sat w (bytesSeg v l * R)) (hsm : l.length ≤ 4096) :
    Calls Try.prog 39 #[v] w fun e w' => ∃ p, e = .returned (.pointer (some ⟨p, 0, none⟩)) ∧ Later w w' ∧ Sat w' (readerAt p l 0 * (bytesSeg v l * R)) := by
  obtain ⟨a, cap, rfl, h1, h2, _⟩ := s.seg_form
  have hm1 : 0 + l.length ≤ maxLen := by unfold maxLen; omega
  have hm2 : (0 + l.length) * 1 ≤ 140737488355328 := by omega
  have s1 := (s.alloc (.cells #[] 5))
  have s2 := s1.made (n := 0) (sz := 1) rfl max0
  have s3 := s1.p2.left
  go_enter Try.func39, Try.ntmps39
  go_wp2_with (refine wpList_append (by rfl) _ _ _ (by rfl) 5 1 1 info_u8 Try.underlying25 (by rfl) (by omega) 0 l.length [] (bts l) (by rfl) (by rfl) s2 s3 (bts_one l) hm1 hm2 ?_; intro a1 c1 w1 s5 l5; simp only [Nat.zero_add, List.nil_append] at s5)
  go_ret
  refine ⟨_, rfl, (((Later.refl w).alloc _).trans l5).alloc _, Sat.ex_mul_iff.2 ⟨.slice a1 l.length c1, ?_⟩⟩
  rw [SA.mul_assoc]
  exact s5.alloc _

set_option maxRecDepth 100000 in
theorem rdrUint_calls (p : Nat) (l : List UInt8) (at_ n k : Nat) (w : World) (R : SA) (s : Sat w (readerAt p l at_ * R)) (h : at_ ≤ l.length) (hsm : l.length ≤ 4096) (hg : getU 0 0 (l.drop at_) = .ok (n, k)) :
    Calls Try.prog 40 #[.pointer (some ⟨p, 0, none⟩)] w fun e w' => e = .returned (.int .u64 n) ∧ Later w w' ∧ Sat w' (readerAt p l (at_ + k) * R) := by
  obtain ⟨bv, s⟩ := Sat.ex_mul_iff.1 s
  rw [SA.mul_assoc] at s
  have c0 : w.cell? ⟨p, 0, none⟩ = some bv := s.cell 0
  have c1 : w.cell? ⟨p, 1, none⟩ = some (.int .i64 at_) := s.cell 1
  have f1 : w.frozen? ⟨p, 1, none⟩ = false := s.free 1
  have c2 : w.cell? ⟨p, 2, none⟩ = some (.int .i64 0) := s.cell 2
  have s2 := s.p2.mono bytesRow_seg
  have hu := fun w' (sw : Sat w' (bytesSeg bv l)) => uint_calls bv l at_ w' SA.one (by rw [SA.mul_one]; exact sw) h hsm
  obtain ⟨a, cap, rfl, _⟩ := s2.seg_form
  have hv : getUAt l at_ = .tuple #[.int .u64 ((n : Nat) : Int), .int .i64 ((at_ + k : Nat) : Int), .int .i64 0] := by unfold getUAt; rw [hg]
  rw [hv] at hu
  clear hv
  have Hu := Lib.hid hu
  clear hu hg
  go_enter Try.func40, Try.ntmps40
  go_wp2_with fail
  go_quiet ((go_at_call 48; exact Calls.quiet_of_same ((Hu.out _ (s2.left.drewN _)).mono fun _ _ h => ⟨h.1, h.2.symm⟩)))
  go_wp2
  go_ret
  refine ⟨rfl, ((Later.refl w).drewN _).setCell _ _, Sat.ex_mul_iff.2 ⟨.slice a l.length cap, ?_⟩⟩
  rw [SA.mul_assoc]
  exact (s.drewN _).set 1 _

theorem rdrErr_calls (p : Nat) (l : List UInt8) (at_ : Nat) (w : World) (R : SA) (s : Sat w (readerAt p l at_ * R)) :
    Calls Try.prog 41 #[.pointer (some ⟨p, 0, none⟩)] w fun e w' => e = .returned (.int .i64 0) ∧ w = w' := by
  obtain ⟨bv, s⟩ := Sat.ex_mul_iff.1 s
  rw [SA.mul_assoc] at s
  have c2 : w.cell? ⟨p, 2, none⟩ = some (.int .i64 0) := s.cell 2
  go_enter Try.func41, Try.ntmps41
  go_wp2
  go_ret
  exact ⟨rfl, rfl⟩

set_option maxRecDepth 100000 in
theorem rdrLeft_calls (p : Nat) (l : List UInt8) (at_ : Nat) (w : World) (R : SA) (s : Sat w (readerAt p l at_ * R)) (h : at_ ≤ l.length) (hsm : l.length ≤ 4096) :
    Calls Try.prog 42 #[.pointer (some ⟨p, 0, none⟩)] w fun e w' => e = .returned (.int .i64 ((l.length - at_ : Nat) : Int)) ∧ ∃ n, w' = w.drewN n := by
  obtain ⟨bv, s⟩ := Sat.ex_mul_iff.1 s
  rw [SA.mul_assoc] at s
  have c0 : w.cell? ⟨p, 0, none⟩ = some bv := s.cell 0
  have c1 : w.cell? ⟨p, 1, none⟩ = some (.int .i64 at_) := s.cell 1
  have c2 : w.cell? ⟨p, 2, none⟩ = some (.int .i64 0) := s.cell 2
  obtain ⟨a, cap, rfl, _⟩ := s.p2.row_form
  go_enter Try.func42, Try.ntmps42
  go_wp2_with fail
  go_quiet (fail)
  go_wp2
  go_ret
  refine ⟨?_, _, rfl⟩
  rw [Int.ofNat_sub h]
  rfl

end Go.Proofs.Ytbphbafmchhipaa
