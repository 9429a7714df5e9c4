/-
  Package frame: a frame is put.
-/
import Derived.Test.YtbphbafmchhipaaFrm
namespace Go.Proofs.Ytbphbafmchhipaa
open Go.RowKit Sea

theorem info_bytes : (Try.prog.info? 25).map (fun i => (i.zero, i.size, i.bytes)) = some (some (.slice none 0 0), 1, 24) := by kernel_rfl
theorem max2 : 2 ≤ maxLen := by simp [maxLen]

theorem bytes_eq {v : Value} {n : Nat} {xs : List Value} {l : List UInt8} (h : l.length = n) (h2 : xs = bts l) : row 5 1 v n xs = bytesRow v l := by
  subst h
  subst h2
  rfl
theorem head_bts (kind : UInt8) (body : List UInt8) : [Value.int .u8 167, .int .u8 (kind.toNat : Int)] ++ bts (fixed4 body.length) ++ bts body = bts (frameHead kind body) := by simp [bts, frameHead]

set_option maxRecDepth 100000 in
theorem put_calls (kind : UInt8) (bv : Value) (body : List UInt8) (w : World) (R : SA) (s : Sat w (bytesSeg bv body * R)) (hb : body.length ≤ 1024) :
    Calls Try.prog 45 #[.int .u8 (kind.toNat : Int), bv] w fun e w' => ∃ v, e = .returned (.tuple #[v, .int .i64 0]) ∧ Later w w' ∧ Sat w' (bytesRow v (framePut kind body) * (bytesSeg bv body * R)) := by
  obtain ⟨a, cap, rfl, h1, h2, _⟩ := s.seg_form
  have hm' (n m : Nat) (hn : n ≤ 4096) (hm : m ≤ 4096) : n + m ≤ maxLen := by unfold maxLen; omega
  go_enter Try.func45, Try.ntmps45
  have s1 := s.alloc (.cells #[.int .u8 167, .int .u8 (kind.toNat : Int)] 5)
  have h4 : (fixed4 body.length).length = 4 := rfl
  have e1 : ∀ x y : List UInt8, bts x ++ bts y = bts (x ++ y) := fun x y => (bts_append x y).symm
  have e2 : [Value.int .u8 167, .int .u8 (kind.toNat : Int)] = bts [167, kind] := rfl
  have hmm (n m : Nat) (hn : n ≤ 4096) (hm : m ≤ 4096) : n + m ≤ maxLen ∧ (n + m) * 1 ≤ 140737488355328 := ⟨hm' n m hn hm, by omega⟩
  clear e1 e2
  go_wp2_with (first
    | (refine wpList_append (by rfl) _ _ _ (by rfl) 5 1 1 info_u8 Try.underlying25 (by rfl) (by omega) (6 + body.length) 4 (bts (frameHead kind body)) (bts (fixed4 (crc (frameHead kind body)))) (by rfl) (by rfl) s9'' s9' (bts_one _) (hmm _ _ (by omega) (by omega)).1 (hmm _ _ (by omega) (by omega)).2 ?_
       intro a3 c3 w5 s10 l5)
    | (refine wpList_append (by rfl) _ _ _ (by rfl) 5 1 1 info_u8 Try.underlying25 (by rfl) (by omega) 6 body.length _ (bts body) (by rfl) (by rfl) s4 s5' (bts_one _) (hmm _ _ (by omega) (by omega)).1 (hmm _ _ (by omega) (by omega)).2 ?_
       intro a2 c2 w3 s6 l3
       rw [bytes_eq (frameHead_length kind body) (head_bts kind body)] at s6
       have s7 := s6.alloc (.cells #[.slice a2 (6 + body.length) c2] 25))
    | (refine wpList_append (by rfl) _ _ _ (by rfl) 5 1 1 info_u8 Try.underlying25 (by rfl) (by omega) 2 4 _ (bts (fixed4 body.length)) (by rfl) (by rfl) s3 s3' (bts_one _) (hmm _ _ (by omega) (by omega)).1 (hmm _ _ (by omega) (by omega)).2 ?_
       intro a1 c1 w2 s4 l2
       have s5' := s4.p3.left)
    | (go_at_call 47
       refine (sum_calls _ _ _ _ (frameHead kind body) _ _ (s7.cell 0) (s7.p2.mono bytesRow_seg) (by rw [frameHead_length]; omega)).mono ?_
       rintro e w' ⟨rfl, rfl⟩)
    | (go_at_call 50
       refine (putFixed_calls (crc (frameHead kind body)) (crc_lt _) _ _ s7).mono ?_
       rintro e w4 ⟨g2, rfl, l4, s9⟩
       have s9' := s9.as_seg
       have s9'' := s9.p3
       rw [← bytes_eq (frameHead_length kind body) rfl] at s9'')
    | (go_at_call 50
       refine (putFixed_calls body.length (by omega) _ _ s1).mono ?_
       rintro e w1 ⟨g1, rfl, l1, s2⟩
       have s3 := (s2.p2.made (n := 2) (sz := 1) rfl max2)
       have s3' := s2.as_seg))
  go_ret2
  refine ⟨.slice a3 (6 + body.length + 4) c3, rfl, ?_, ?_⟩
  · exact ((((((Later.refl w).alloc _).trans l1).trans l2).trans l3).alloc _ |>.trans l4).trans l5
  · have s11 := s10.x2.x2.x2
    rw [← bts_append] at s11
    rw [bytes_eq (n := 6 + body.length + 4) (l := framePut kind body) (by rw [framePut_length]; omega) (xs := bts (frameHead kind body ++ fixed4 (crc (frameHead kind body)))) rfl] at s11
    exact s11

end Go.Proofs.Ytbphbafmchhipaa
