/-
  Package sess: segments as bytes.
-/
import Derived.Test.YtbphbafmchhipaaFrmC
import Derived.Test.YtbphbafmchhipaaSea
namespace Go.Proofs.Ytbphbafmchhipaa
open Go.RowKit Sea

/-- A segment's value; its body leads to memory. -/
def segVal (s : Seg) (bv : Value) : Value := .agg #[.int .u64 s.life, .int .u64 s.seq, .bool s.ack, bv]

set_option maxRecDepth 100000 in
theorem right_calls (x : Seg) (bv : Value) (w : World) (R : SA) (s : Sat w (bytesSeg bv x.body * R)) (hr : right x = true) :
    Calls Try.prog 43 #[segVal x bv] w fun e w' => e = .returned (.bool true) ∧ Later w w' ∧ Sat w' (bytesSeg bv x.body * R) := by
  obtain ⟨a, cap, rfl, h1, h2, _⟩ := s.seg_form
  have hr' := hr
  unfold right at hr'
  obtain ⟨life, seq, ack, body⟩ := x
  dsimp only at *
  unfold segVal
  have s1 := s.alloc (.cells #[.int .u64 life, .int .u64 seq, .bool ack, .slice a body.length cap] 70)
  cases ack with
  | true =>
    have hl : body.length = 0 := by simpa using hr'
    have hl' : ((body.length : Nat) : Int) = 0 := by omega
    clear hr hr' hl
    go_enter Try.func43, Try.ntmps43
    go_wp2
    go_ret
    exact ⟨rfl, (Later.refl w).alloc _, s1.right⟩
  | false =>
    have hl : 0 < seq ∧ body.length ≤ 1000 := by simpa using hr'
    obtain ⟨hs1, hs2⟩ := hl
    have hs3 : (0 : Int) < (seq : Int) := by omega
    have hs4 : ((body.length : Nat) : Int) ≤ 1000 := by omega
    clear hr hr'
    go_enter Try.func43, Try.ntmps43
    go_wp2
    go_ret
    exact ⟨rfl, (Later.refl w).alloc _, s1.right⟩

theorem put4_calls (bv : Value) (body : List UInt8) (w : World) (R : SA) (s : Sat w (bytesRow bv body * R)) (hb : body.length ≤ 1024) :
    Calls Try.prog 45 #[.int .u8 4, bv] w fun e w' => ∃ v, e = .returned (.tuple #[v, .int .i64 0]) ∧ Later w w' ∧ Sat w' (bytesRow v (framePut 4 body) * (bytesSeg bv body * R)) := put_calls 4 bv body w R (s.mono bytesRow_seg) hb
theorem put3_calls (bv : Value) (body : List UInt8) (w : World) (R : SA) (s : Sat w (bytesRow bv body * R)) (hb : body.length ≤ 1024) :
    Calls Try.prog 45 #[.int .u8 3, bv] w fun e w' => ∃ v, e = .returned (.tuple #[v, .int .i64 0]) ∧ Later w w' ∧ Sat w' (bytesRow v (framePut 3 body) * (bytesSeg bv body * R)) := put_calls 3 bv body w R (s.mono bytesRow_seg) hb

set_option maxRecDepth 100000 in
theorem bytes_calls (x : Seg) (bv : Value) (w : World) (R : SA) (s : Sat w (bytesSeg bv x.body * R)) (hx : Fit x) :
    Calls Try.prog 36 #[segVal x bv] w fun e w' => ∃ v, e = .returned (.tuple #[v, .int .i64 0]) ∧ Later w w' ∧ Sat w' (bytesRow v (segBytes x) * (bytesSeg bv x.body * R)) := by
  obtain ⟨a, cap, rfl, h1, h2, _⟩ := s.seg_form
  obtain ⟨hr, hlife, hseq⟩ := hx
  have hb := right_body hr
  have hd1 := digits_u64 hlife
  have hd2 := digits_u64 hseq
  have hmm (n m : Nat) (hn : n ≤ 4096) (hm : m ≤ 4096) : n + m ≤ maxLen ∧ (n + m) * 1 ≤ 140737488355328 := ⟨by unfold maxLen; omega, by omega⟩
  have hpp := hmm (putU x.life).length (putU x.seq).length (by rw [putU_length]; omega) (by rw [putU_length]; omega)
  have s1 := s.alloc (.cells #[.int .u64 x.life, .int .u64 x.seq, .bool x.ack, .slice a x.body.length cap] 70)
  have Hr := Lib.hid (fun w' sw => right_calls x (.slice a x.body.length cap) w' (SA.obj w.heap.size (.cells #[.int .u64 x.life, .int .u64 x.seq, .bool x.ack, .slice a x.body.length cap] 70 (0, 0)) * R) sw hr)
  clear hr
  unfold segVal at Hr ⊢
  have Hx : RowKit.Hid (segBytes x = framePut (if x.ack then 4 else 3) (segBody x)) := rfl
  have Hx2 : RowKit.Hid (segBody x = putU x.life ++ putU x.seq ++ x.body) := rfl
  generalize segBytes x = sb at Hx ⊢
  generalize segBody x = sbd at Hx Hx2
  obtain ⟨life, seq, ack, body⟩ := x
  dsimp only at *
  go_enter Try.func36, Try.ntmps36
  go_wp2_with (first
    | (go_at_call 43; with_reducible refine (Hr.out _ s1.p2).mono ?_; rintro e w1 ⟨rfl, l1, s2⟩
       have k0 : w1.cell? ⟨w.heap.size, 0, none⟩ = some (.int .u64 life) := s2.p2.cell 0
       have k1 : w1.cell? ⟨w.heap.size, 1, none⟩ = some (.int .u64 seq) := s2.p2.cell 1
       have k2 : w1.cell? ⟨w.heap.size, 2, none⟩ = some (.bool ack) := s2.p2.cell 2
       have k3 : w1.cell? ⟨w.heap.size, 3, none⟩ = some (.slice a body.length cap) := s2.p2.cell 3))
  all_goals
    have s3 := s2.drew
    go_region_held3 (fun w' => w'.cell? ⟨w.heap.size, 0, none⟩ = some (.int .u64 life) ∧ w'.cell? ⟨w.heap.size, 1, none⟩ = some (.int .u64 seq))
      (first | go_keep | exact ⟨k0, k1⟩ | exact ⟨kA0, kA1⟩ | exact ⟨kB0, kB1⟩ | exact ⟨kC0, kC1⟩ | exact ⟨kD0, kD1⟩)
      (first
        | (refine step_append (by rfl) _ _ _ (by rfl) 5 1 1 info_u8 Try.underlying25 (by rfl) (by omega) (putU life).length (putU seq).length (bts (putU life)) (bts (putU seq)) (by rfl) (by rfl) sC1 sC2 (bts_one _) hpp.1 hpp.2 ?_
           intro a3 c3 w4 s5 l4
           have kD0 : w4.cell? ⟨w.heap.size, 0, none⟩ = some (.int .u64 life) := s5.p4.cell 0
           have kD1 : w4.cell? ⟨w.heap.size, 1, none⟩ = some (.int .u64 seq) := s5.p4.cell 1
           have kD3 : w4.cell? ⟨w.heap.size, 3, none⟩ = some (.slice a body.length cap) := s5.p4.cell 3)
        | (go_at_call 44
           with_reducible refine (putUint_calls seq hseq _ _ sA).mono ?_
           rintro e w3 ⟨g2, rfl, l3, sC⟩
           have lC := l2.trans l3
           have sC1 := sC.p2
           have sC2 := sC.as_seg
           have kC0 : w3.cell? ⟨w.heap.size, 0, none⟩ = some (.int .u64 life) := sC.p4.cell 0
           have kC1 : w3.cell? ⟨w.heap.size, 1, none⟩ = some (.int .u64 seq) := sC.p4.cell 1)
        | (go_at_call 44
           with_reducible refine (putUint_calls life hlife _ _ sB).mono ?_
           rintro e w3 ⟨g1, rfl, l3, sC'⟩
           have lC := l2.trans l3
           have sC := sC'.p2
           have sC1 := sC'
           have sC2 := sC.as_seg
           have kC0 : w3.cell? ⟨w.heap.size, 0, none⟩ = some (.int .u64 life) := sC.p4.cell 0
           have kC1 : w3.cell? ⟨w.heap.size, 1, none⟩ = some (.int .u64 seq) := sC.p4.cell 1)
        | (go_at_call 44
           with_reducible refine (putUint_calls life hlife _ _ s3).mono ?_
           rintro e w2 ⟨g1, rfl, l2, sA⟩
           have kA0 : w2.cell? ⟨w.heap.size, 0, none⟩ = some (.int .u64 life) := sA.p3.cell 0
           have kA1 : w2.cell? ⟨w.heap.size, 1, none⟩ = some (.int .u64 seq) := sA.p3.cell 1)
        | (go_at_call 44
           with_reducible refine (putUint_calls seq hseq _ _ s3).mono ?_
           rintro e w2 ⟨g2, rfl, l2, sB⟩
           have kB0 : w2.cell? ⟨w.heap.size, 0, none⟩ = some (.int .u64 life) := sB.p3.cell 0
           have kB1 : w2.cell? ⟨w.heap.size, 1, none⟩ = some (.int .u64 seq) := sB.p3.cell 1))
  all_goals
    have hpq := hmm ((putU life).length + (putU seq).length) body.length (by rw [putU_length, putU_length]; omega) (by omega)
    have hbd : sbd.length = (putU life).length + (putU seq).length + body.length := by rw [Hx2.out, List.length_append, List.length_append]
    have hbt : bts (putU life) ++ bts (putU seq) ++ bts body = bts sbd := by rw [Hx2.out]; simp [bts]
    have hb24 : sbd.length ≤ 1024 := by rw [hbd, putU_length, putU_length]; omega
    have Hbd := Lib.hid hbd
    have Hbt := Lib.hid hbt
    clear hbd hbt
    go_wp2_with (first
      | (refine wpList_append (by rfl) _ _ _ (by rfl) 5 1 1 info_u8 Try.underlying25 (by rfl) (by omega) ((putU life).length + (putU seq).length) body.length (bts (putU life) ++ bts (putU seq)) (bts body) (by rfl) (by rfl) s5 s5.p3.left (bts_one _) hpq.1 hpq.2 ?_
         intro a4 c4 w5 s6 l5
         rw [bytes_eq Hbd.out Hbt.out] at s6)
      | (go_at_call 45
         with_reducible refine (put4_calls _ sbd _ _ s6 hb24).mono ?_
         rintro e w6 ⟨v6, rfl, l6, s7⟩)
      | (go_at_call 45
         with_reducible refine (put3_calls _ sbd _ _ s6 hb24).mono ?_
         rintro e w6 ⟨v6, rfl, l6, s7⟩))
    go_ret2
    refine ⟨v6, rfl, (((((((Later.refl w).alloc _).trans l1).drew.trans lC).trans l4).trans l5).trans l6), ?_⟩
    first
      | have ha : ack = true := by assumption
        rw [show sb = framePut 4 sbd from by rw [Hx.out, ha]; rfl]
        exact s7.x2.x2.x3
      | have ha : ack = false := by assumption
        rw [show sb = framePut 3 sbd from by rw [Hx.out, ha]; rfl]
        exact s7.x2.x2.x3

end Go.Proofs.Ytbphbafmchhipaa
