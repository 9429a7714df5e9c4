/-
  Package sess: bytes as segments.
-/
import Derived.Test.YtbphbafmchhipaaSeg
namespace Go.Proofs.Ytbphbafmchhipaa
open Go.RowKit Sea

theorem seg_uint1 {x : Seg} (h : Fit x) : getU 0 0 ((segBody x).drop 0) = .ok (x.life, digits x.life) := by
  have d1 := digits_u64 h.2.1
  have g1 := getU_putU x.life 0 0 (putU x.seq ++ x.body) (by omega) (by rw [Nat.pow_zero, Nat.mul_one]; exact h.2.1) (by omega)
  simp only [Nat.pow_zero, Nat.mul_one, Nat.zero_add] at g1
  have e1 : segBody x = putU x.life ++ (putU x.seq ++ x.body) := by simp [segBody]
  rw [List.drop_zero, e1, g1]
theorem seg_uint2 {x : Seg} (h : Fit x) : getU 0 0 ((segBody x).drop (digits x.life)) = .ok (x.seq, digits x.seq) := by
  have d2 := digits_u64 h.2.2
  have g2 := getU_putU x.seq 0 0 x.body (by omega) (by rw [Nat.pow_zero, Nat.mul_one]; exact h.2.2) (by omega)
  simp only [Nat.pow_zero, Nat.mul_one, Nat.zero_add] at g2
  have e1 : segBody x = putU x.life ++ (putU x.seq ++ x.body) := by simp [segBody]
  rw [e1, ← putU_length, List.drop_left, g2]
theorem seg_rest (x : Seg) : (segBody x).drop (digits x.life + digits x.seq) = x.body ∧ (segBody x).length = digits x.life + digits x.seq + x.body.length := by
  have e1 : segBody x = (putU x.life ++ putU x.seq) ++ x.body := by simp [segBody]
  constructor
  · rw [e1, ← putU_length x.life, ← putU_length x.seq, ← List.length_append, List.drop_left]
  · rw [e1, List.length_append, List.length_append, putU_length, putU_length]

set_option maxRecDepth 100000 in
theorem parse_bad (v : Value) (b : List UInt8) (w : World) (R : SA) (s : Sat w (bytesSeg v b * R)) (hsm : b.length ≤ 4096) (hg : frameGet b = .error 21) :
    Calls Try.prog 28 #[v] w fun e w' => e = .returned (.tuple #[.agg #[.int .u64 0, .int .u64 0, .bool false, .slice none 0 0], .int .i64 21]) ∧ Later w w' ∧ Sat w' (bytesSeg v b * R) := by
  have s1 := (s.alloc (.cells #[.int .u64 0, .int .u64 0, .bool false, .slice none 0 0] 70)).p2
  have Hg := Lib.hid hg
  clear hg
  have s0 := s
  obtain ⟨a, cap, rfl, _⟩ := s0.seg_form
  clear s0
  go_enter Try.func28, Try.ntmps28
  go_wp2_with (first
    | (go_at_call 38
       with_reducible refine (get_bad _ b _ _ s1 hsm Hg.out).mono ?_
       rintro e w1 ⟨rfl, l1, s2⟩
       have r0 : w1.cell? ⟨w.heap.size, 0, none⟩ = some (.int .u64 0) := s2.p2.cell 0
       have r1 : w1.cell? ⟨w.heap.size, 1, none⟩ = some (.int .u64 0) := s2.p2.cell 1
       have r2 : w1.cell? ⟨w.heap.size, 2, none⟩ = some (.bool false) := s2.p2.cell 2
       have r3 : w1.cell? ⟨w.heap.size, 3, none⟩ = some (.slice none 0 0) := s2.p2.cell 3
       have q0 : w1.frozen? ⟨w.heap.size, 0, none⟩ = false := s2.p2.free 0
       have q1 : w1.frozen? ⟨w.heap.size, 1, none⟩ = false := s2.p2.free 1
       have q2 : w1.frozen? ⟨w.heap.size, 2, none⟩ = false := s2.p2.free 2
       have q3 : w1.frozen? ⟨w.heap.size, 3, none⟩ = false := s2.p2.free 3
       have hz : w.heap.size < w1.heap.size := s2.p2.lt))
  refine bodyPost_ret (v := .tuple #[.agg #[.int .u64 0, .int .u64 0, .bool false, .slice none 0 0], .int .i64 21]) (by simp [results, Try.results28, go_sem, r0, r1, r2, r3, hz]) rfl ⟨rfl, ?_, ?_⟩
  · exact ((((((Later.refl w).alloc _).trans l1).setCell _ _).setCell _ _).setCell _ _).setCell _ _ |>.alloc _
  · exact (((((s2.p2.set 0 _).set 1 _).set 2 _).set 3 _).alloc _).right.right

set_option maxHeartbeats 4000000 in
set_option maxRecDepth 100000 in
theorem parse_oktrue (life seq : Nat) (body : B) (v : Value) (w : World) (R : SA) (s : Sat w (bytesSeg v (segBytes ⟨life, seq, true, body⟩) * R)) (hx : Fit ⟨life, seq, true, body⟩) :
    Calls Try.prog 28 #[v] w fun e w' => ∃ bv, e = .returned (.tuple #[.agg #[.int .u64 life, .int .u64 seq, .bool true, bv], .int .i64 0]) ∧ Later w w' ∧ Sat w' (bytesSeg bv body * (bytesSeg v (segBytes ⟨life, seq, true, body⟩) * R)) := by
  have hl := segBytes_length hx
  have hbl := segBody_length hx
  have hg : frameGet (segBytes ⟨life, seq, true, body⟩) = .ok (4, segBody ⟨life, seq, true, body⟩, 10 + (segBody ⟨life, seq, true, body⟩).length) := frameGet_put _ _ (by omega)
  have hto : (segBytes ⟨life, seq, true, body⟩).length = 10 + (segBody ⟨life, seq, true, body⟩).length := by unfold segBytes; exact framePut_length _ _
  obtain ⟨hrest, hlen⟩ := seg_rest ⟨life, seq, true, body⟩
  have hu1 := seg_uint1 hx
  have hu2 := seg_uint2 hx
  have hbd := right_body hx.1
  have hd1 := digits_u64 hx.2.1
  have hd2 := digits_u64 hx.2.2
  have hrc := fun bv w R s => right_calls ⟨life, seq, true, body⟩ bv w R s hx.1
  unfold segVal at hrc
  generalize hsb : segBytes ⟨life, seq, true, body⟩ = sb at *
  generalize hsd : segBody ⟨life, seq, true, body⟩ = sd at *
  dsimp only at *
  have s1 := (s.alloc (.cells #[.int .u64 0, .int .u64 0, .bool false, .slice none 0 0] 70)).p2
  obtain ⟨a, cap, rfl, _⟩ := s.seg_form
  have Hg := Lib.hid hg
  have Hto := Lib.hid hto
  have Hlen := Lib.hid hlen
  have Hrest := Lib.hid hrest
  have Hu1 := Lib.hid hu1
  have Hu2 := Lib.hid hu2
  have Hrc := Lib.hid hrc
  have hsm : sb.length ≤ 4096 := by omega
  have hsm2 : sd.length ≤ 4096 := by omega
  have hat1 : digits life ≤ sd.length := by omega
  have hpos : 0 < sd.length := by have := digits_pos life; omega
  have hat2 : digits life + digits seq ≤ sd.length := by omega
  have hnl : (sb.length : Int) ≤ 10 + (sd.length : Int) := by omega
  clear hg hto hlen hrest hu1 hu2 hrc hx hsb hsd hl hbl
  go_enter Try.func28, Try.ntmps28
  go_wp2_with (first
    | (go_at_call 38
       with_reducible refine (get_ok _ sb _ _ s1 hsm _ _ _ Hg.out).mono ?_
       rintro e w1 ⟨bv, rfl, l1, s2⟩
       obtain ⟨bb, bo, bc, rfl, hbc1, hbc2, _⟩ := (s2.mono bytesRow_seg).bytes_form hpos
       have hR0 : w.heap.size < w1.heap.size := s2.p3.lt)
    | (go_at_call 39
       with_reducible refine (new_calls _ sd _ _ (((s2.mono bytesRow_seg).alloc _).p2) hsm2).mono ?_
       rintro e w2 ⟨p, rfl, l2, s4⟩
       have f0 : w2.cell? ⟨w1.heap.size, 0, none⟩ = some (.int .u8 4) := s4.p3.cell 0
       have f1 : w2.cell? ⟨w1.heap.size, 1, none⟩ = some (.slice (some ⟨bb, bo, none⟩) sd.length bc) := s4.p3.cell 1
       have hF : w1.heap.size < w2.heap.size := s4.p3.lt))
  have s5 := s4.drew
  go_region_held3 (fun w' => w'.cell? ⟨w1.heap.size, 0, none⟩ = some (.int .u8 4))
    (first | go_keep | exact k5)
    (first
      | (go_at_call 40
         with_reducible refine (rdrUint_calls p sd 0 life (digits life) _ _ s5 (Nat.zero_le _) hsm2 Hu1.out).mono ?_
         rintro e w3 ⟨rfl, l3, s6⟩
         simp only [Nat.zero_add] at s6
         have k5 : w3.cell? ⟨w1.heap.size, 0, none⟩ = some (.int .u8 4) := s6.p3.cell 0
         have lA := l2.drew.trans l3)
      | (go_at_call 40
         with_reducible refine (rdrUint_calls p sd 0 life (digits life) _ _ ((s4.alloc _).drew.p2) (Nat.zero_le _) hsm2 Hu1.out).mono ?_
         rintro e w3 ⟨rfl, l3, s6'⟩
         simp only [Nat.zero_add] at s6'
         have k5 : w3.cell? ⟨w1.heap.size, 0, none⟩ = some (.int .u8 4) := s6'.p4.cell 0
         have lA := (l2.alloc _).drew.trans l3
         have b0 : w3.cell? ⟨w2.heap.size, 0, none⟩ = some (.int .u64 0) := s6'.p2.cell 0
         have b1 : w3.cell? ⟨w2.heap.size, 1, none⟩ = some (.int .u64 0) := s6'.p2.cell 1
         have b2 : w3.cell? ⟨w2.heap.size, 2, none⟩ = some (.bool false) := s6'.p2.cell 2
         have b3 : w3.cell? ⟨w2.heap.size, 3, none⟩ = some (.slice none 0 0) := s6'.p2.cell 3
         have d0 : w3.frozen? ⟨w2.heap.size, 0, none⟩ = false := s6'.p2.free 0
         have d1 : w3.frozen? ⟨w2.heap.size, 1, none⟩ = false := s6'.p2.free 1
         have d2 : w3.frozen? ⟨w2.heap.size, 2, none⟩ = false := s6'.p2.free 2
         have d3 : w3.frozen? ⟨w2.heap.size, 3, none⟩ = false := s6'.p2.free 3
         have hne1 : ¬ w1.heap.size = w2.heap.size := by omega
         have hne2 : ¬ w2.heap.size = w1.heap.size := by omega))
  all_goals
    go_wp2_with (first
      | (go_at_call 40
         with_reducible refine (rdrUint_calls p sd (digits life) seq (digits seq) _ _ ((s6.alloc _).p2) hat1 hsm2 Hu2.out).mono ?_
         rintro e w4 ⟨rfl, l4, s7⟩
         have lB := (lA.alloc _).trans l4
         generalize w3.heap.size = G at s7 ⊢
         have g0 : w4.cell? ⟨G, 0, none⟩ = some (.int .u64 life) := s7.p2.cell 0
         have g1 : w4.cell? ⟨G, 1, none⟩ = some (.int .u64 0) := s7.p2.cell 1
         have gf1 : w4.frozen? ⟨G, 1, none⟩ = false := s7.p2.free 1)
      | (go_at_call 40
         with_reducible refine (rdrUint_calls p sd (digits life) seq (digits seq) _ _ (((((s6'.p2.set 0 (.int .u64 life)).set 1 (.int .u64 0)).set 2 (.bool true)).set 3 (.slice none 0 0)).p2) hat1 hsm2 Hu2.out).mono ?_
         rintro e w4 ⟨rfl, l4, s7⟩
         have lB := ((((lA.setCell _ _).setCell _ _).setCell _ _).setCell _ _).trans l4
         clear hne1 hne2 b0 b1 b2 b3 d0 d1 d2 d3 k5 hF
         generalize w2.heap.size = G at s7 ⊢
         have g0 : w4.cell? ⟨G, 0, none⟩ = some (.int .u64 life) := s7.p2.cell 0
         have g1 : w4.cell? ⟨G, 1, none⟩ = some (.int .u64 0) := s7.p2.cell 1
         have gf1 : w4.frozen? ⟨G, 1, none⟩ = false := s7.p2.free 1)
      | (go_at_call 41
         with_reducible refine (rdrErr_calls p sd (digits life + digits seq) _ _ ((s7.p2.set 1 (.int .u64 seq)).p2)).mono ?_
         rintro e w5 ⟨rfl, rfl⟩
         have s8 := (s7.p2.set 1 (.int .u64 seq)).p2
         have lC := lB.setCell ⟨G, 1, none⟩ (.int .u64 seq)
         generalize w4.setCell ⟨G, 1, none⟩ (.int .u64 seq) = W5 at s8 lC ⊢
         have m0 : W5.cell? ⟨w1.heap.size, 0, none⟩ = some (.int .u8 4) := s8.p4.cell 0
         have m1 : W5.cell? ⟨w1.heap.size, 1, none⟩ = some (.slice (some ⟨bb, bo, none⟩) sd.length bc) := s8.p4.cell 1
         have n0 : W5.cell? ⟨G, 0, none⟩ = some (.int .u64 life) := s8.p2.cell 0
         have n1 : W5.cell? ⟨G, 1, none⟩ = some (.int .u64 seq) := s8.p2.cell 1
         have n2 : W5.cell? ⟨G, 2, none⟩ = some (.bool true) := s8.p2.cell 2
         have n3 : W5.cell? ⟨G, 3, none⟩ = some (.slice none 0 0) := s8.p2.cell 3
         have nf3 : W5.frozen? ⟨G, 3, none⟩ = false := s8.p2.free 3))
    clear g0 g1 gf1
  all_goals
    generalize hk : digits life + digits seq = k at *
    have Hk := Lib.hid hk
    clear hk
    have hlen := Hlen.out
    have hGF := s8.p4.p3.ne
    have hGF2 := Ne.symm hGF
    have hlm : ((sd.length - k : Nat) : Int) = (body.length : Int) := by omega
    have hbk : (sd.length : Int) - (body.length : Int) = (k : Int) := by omega
    have hk1 : (k : Int) ≤ (sd.length : Int) := by omega
    have hwk : IntKind.i64.wrap (k : Int) = (k : Int) := by
      rw [IntKind.wrap_i64]
      omega
    clear hlen
    have hsk : sd.length - k = body.length := by omega
    have hrest2 := Hrest.out
    have Hrest2 := Lib.hid hrest2
    clear hrest2
    by_cases hcap : bc = k
    all_goals
     go_region_held3 (fun w' => w'.cell? ⟨w1.heap.size, 1, none⟩ = some (.slice (some ⟨bb, bo, none⟩) sd.length bc))
      (go_keep)
      (first
        | (go_at_call 42
           with_reducible refine (rdrLeft_calls p sd k _ _ s8.drew hat2 hsm2).mono ?_
           rintro e w6 ⟨rfl, nd, rfl⟩))
    · have hb0 : body = [] := List.length_eq_zero_iff.1 (by omega)
      subst hb0
      subst hcap
      have s9 := ((s8.drewN (1 + nd)).p2.set 3 (.slice (some ⟨bb, bo, none⟩) 0 0)).p3.zero_bytes
      have lD := (lC.drewN (1 + nd)).setCell ⟨G, 3, none⟩ (.slice (some ⟨bb, bo, none⟩) 0 0)
      go_wp2_with (first
        | (go_at_call 43
           with_reducible refine (Hrc.out _ _ _ s9).mono ?_
           rintro e w7 ⟨rfl, l7, s10⟩
           have o0 : w7.cell? ⟨G, 0, none⟩ = some (.int .u64 life) := s10.p2.cell 0
           have o1 : w7.cell? ⟨G, 1, none⟩ = some (.int .u64 seq) := s10.p2.cell 1
           have o2 : w7.cell? ⟨G, 2, none⟩ = some (.bool true) := s10.p2.cell 2
           have o3 : w7.cell? ⟨G, 3, none⟩ = some (.slice (some ⟨bb, bo, none⟩) 0 0) := s10.p2.cell 3
           have r0 : w7.cell? ⟨w.heap.size, 0, none⟩ = some (.int .u64 0) := s10.p6.cell 0
           have r1 : w7.cell? ⟨w.heap.size, 1, none⟩ = some (.int .u64 0) := s10.p6.cell 1
           have r2 : w7.cell? ⟨w.heap.size, 2, none⟩ = some (.bool false) := s10.p6.cell 2
           have r3 : w7.cell? ⟨w.heap.size, 3, none⟩ = some (.slice none 0 0) := s10.p6.cell 3
           have q0 : w7.frozen? ⟨w.heap.size, 0, none⟩ = false := s10.p6.free 0
           have q1 : w7.frozen? ⟨w.heap.size, 1, none⟩ = false := s10.p6.free 1
           have q2 : w7.frozen? ⟨w.heap.size, 2, none⟩ = false := s10.p6.free 2
           have q3 : w7.frozen? ⟨w.heap.size, 3, none⟩ = false := s10.p6.free 3))
      refine bodyPost_ret (v := .tuple #[.agg #[.int .u64 life, .int .u64 seq, .bool true, .slice (some ⟨bb, bo, none⟩) 0 0], .int .i64 0]) (by simp [results, Try.results28, go_sem, r0, r1, r2, r3]) rfl ⟨.slice (some ⟨bb, bo, none⟩) 0 0, rfl, ((((((((Later.refl w).alloc _).trans l1).alloc _).trans (lD.trans l7)).setCell _ _).setCell _ _).setCell _ _).setCell _ _, ?_⟩
      exact ((((s10.p6.set 0 _).set 1 _).set 2 _).set 3 _).right.x2.x2.x2
    · have s9 := ((s8.drewN (1 + nd)).p2.set 3 (.slice (some ⟨bb, bo + k, none⟩) body.length (bc - k))).p3.sub_bytes k sd.length hat2 (Nat.le_refl _)
      rw [hsk, List.take_of_length_le (by rw [List.length_drop]; omega), Hrest2.out] at s9
      have lD := (lC.drewN (1 + nd)).setCell ⟨G, 3, none⟩ (.slice (some ⟨bb, bo + k, none⟩) body.length (bc - k))
      go_wp2_with (first
        | (go_at_call 43
           with_reducible refine (Hrc.out _ _ _ s9).mono ?_
           rintro e w7 ⟨rfl, l7, s10⟩
           have o0 : w7.cell? ⟨G, 0, none⟩ = some (.int .u64 life) := s10.p2.cell 0
           have o1 : w7.cell? ⟨G, 1, none⟩ = some (.int .u64 seq) := s10.p2.cell 1
           have o2 : w7.cell? ⟨G, 2, none⟩ = some (.bool true) := s10.p2.cell 2
           have o3 : w7.cell? ⟨G, 3, none⟩ = some (.slice (some ⟨bb, bo + k, none⟩) body.length (bc - k)) := s10.p2.cell 3
           have r0 : w7.cell? ⟨w.heap.size, 0, none⟩ = some (.int .u64 0) := s10.p6.cell 0
           have r1 : w7.cell? ⟨w.heap.size, 1, none⟩ = some (.int .u64 0) := s10.p6.cell 1
           have r2 : w7.cell? ⟨w.heap.size, 2, none⟩ = some (.bool false) := s10.p6.cell 2
           have r3 : w7.cell? ⟨w.heap.size, 3, none⟩ = some (.slice none 0 0) := s10.p6.cell 3
           have q0 : w7.frozen? ⟨w.heap.size, 0, none⟩ = false := s10.p6.free 0
           have q1 : w7.frozen? ⟨w.heap.size, 1, none⟩ = false := s10.p6.free 1
           have q2 : w7.frozen? ⟨w.heap.size, 2, none⟩ = false := s10.p6.free 2
           have q3 : w7.frozen? ⟨w.heap.size, 3, none⟩ = false := s10.p6.free 3))
      refine bodyPost_ret (v := .tuple #[.agg #[.int .u64 life, .int .u64 seq, .bool true, .slice (some ⟨bb, bo + k, none⟩) body.length (bc - k)], .int .i64 0]) (by simp [results, Try.results28, go_sem, r0, r1, r2, r3]) rfl ⟨.slice (some ⟨bb, bo + k, none⟩) body.length (bc - k), rfl, ((((((((Later.refl w).alloc _).trans l1).alloc _).trans (lD.trans l7)).setCell _ _).setCell _ _).setCell _ _).setCell _ _, ?_⟩
      exact ((((s10.p6.set 0 _).set 1 _).set 2 _).set 3 _).right.x2.x2.x2


end Go.Proofs.Ytbphbafmchhipaa
