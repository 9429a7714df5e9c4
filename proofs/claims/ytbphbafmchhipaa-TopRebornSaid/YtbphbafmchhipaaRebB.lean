/-
  A line whose sender has begun a new life: a piece comes.
-/
import Derived.Test.YtbphbafmchhipaaReb
namespace Go.Proofs.Ytbphbafmchhipaa
open Go.RowKit Sea

theorem Sat.q9 {w : World} {A B C D E F G H I R : SA} (s : Sat w (A * (B * (C * (D * (E * (F * (G * (H * (I * R)))))))))) : Sat w (I * (A * (B * (C * (D * (E * (F * (G * (H * R))))))))) := s.p9
theorem Sat.q10 {w : World} {A B C D E F G H I J R : SA} (s : Sat w (A * (B * (C * (D * (E * (F * (G * (H * (I * (J * R))))))))))) : Sat w (J * (A * (B * (C * (D * (E * (F * (G * (H * (I * R)))))))))) := s.eq (by ac_rfl)
theorem Sat.q11 {w : World} {A B C D E F G H I J K R : SA} (s : Sat w (A * (B * (C * (D * (E * (F * (G * (H * (I * (J * (K * R)))))))))))) : Sat w (K * (A * (B * (C * (D * (E * (F * (G * (H * (I * (J * R))))))))))) := s.eq (by ac_rfl)
theorem Sat.q7x {w : World} {A B C D E F G R : SA} (s : Sat w (A * (B * (C * (D * (E * (F * (G * R)))))))) : Sat w (A * (B * (C * (D * (E * (F * R)))))) := s.p7.right
theorem Sat.reb_fold {w : World} {r a px py pn : Nat} {x : Snd} {y : Rcv} {net : List Pkt} {ap : Bool} {o3 o4 : List B} {ov : Value} {R : SA}
    (s : Sat w (lineAt a px py pn x y net ap o3 * (SA.obj r (.cells #[.pointer (some ⟨a, 0, none⟩), ov] 45 (0, 0)) * (outAt ov o4 * R)))) : Sat w (rebAt r a px py pn x y net ap o3 o4 * R) :=
  Sat.ex_mul_iff.2 ⟨ov, s.eq (by ac_rfl)⟩

set_option maxHeartbeats 1000000 in
set_option maxRecDepth 100000 in
/-- A piece of the elder life, behind one of the new life. -/
theorem reb_old (r a px py pn : Nat) (x : Snd) (y : Rcv) (net : List Pkt) (ap : Bool) (o3 o4 : List B) (j life seq : Nat) (body : B) (hp : net[j]? = some ⟨0, 1, segBytes ⟨life, seq, false, body⟩⟩) (hn : net.length ≤ 4096) (hf : Fit ⟨life, seq, false, body⟩) (hl3 : life = 3) (hl4 : y.life = 4)
    (w : World) (R : SA) (s : Sat w (rebAt r a px py pn x y net ap o3 o4 * R)) :
    Calls Try.prog 14 #[.pointer (some ⟨r, 0, none⟩), .int .i64 j] w fun e w' => e = .returned (.bool true) ∧ Later w w' ∧ Sat w' (rebAt r a px py pn x y (net.eraseIdx j) ap o3 o4 * R) := by
  obtain ⟨ov4, ov3, s⟩ := Sat.reb_open.1 s
  have r0 : w.cell? ⟨r, 0, none⟩ = some (.pointer (some ⟨a, 0, none⟩)) := s.cell 0
  have n2 : w.cell? ⟨a, 2, none⟩ = some (.pointer (some ⟨pn, 0, none⟩)) := s.p2.cell 2
  have Ht0 := net_take pn net ap j _ hp hn w _ s.p5
  unfold pktVal at Ht0
  dsimp only at Ht0
  change Calls _ _ _ _ (fun e w' => ∃ a c, e = .returned (.tuple #[.agg #[.int .i64 0, .int .i64 1, _], _]) ∧ _) at Ht0
  have Ht := Lib.hid Ht0
  have Hp := Lib.hid fun bv' w' R' sw => parse_okfalse life seq body bv' w' R' sw hf
  generalize hbody : segBytes ⟨life, seq, false, body⟩ = pb at *
  have Hh0 := fun bv' w' R' sw => rcv_old py y ⟨life, seq, false, body⟩ bv' hf.1 rfl (by dsimp only; omega) w' R' sw
  dsimp only [segVal] at Hh0
  have Hh := Lib.hid Hh0
  clear Hh0
  have b3 : ((life : Int) == 3) = true := by rw [hl3]; rfl
  have b4 : ((y.life : Int) == 4) = true := by rw [hl4]; rfl
  clear hl3 hl4
  have Hg := Lib.hid fun w' R' sw => rcv_got py y w' R' sw
  clear Ht0 hf hbody hp
  go_enter Try.func14, Try.ntmps14
  go_wp2_with (first
    | (go_at_call 19
       with_reducible refine Ht.out.mono ?_
       rintro e w2 ⟨pa, pc, rfl, l2, s2⟩
       have s3 := (s2.mono bytesRow_seg).alloc (.cells #[.int .i64 0, .int .i64 1, .slice pa pb.length pc] 59)
       have l3 := l2.alloc (.cells #[.int .i64 0, .int .i64 1, .slice pa pb.length pc] 59))
    | (go_at_call 28
       with_reducible refine (Hp.out _ _ _ s3.p2).mono ?_
       rintro e w4 ⟨bv', rfl, l4, s4⟩
       obtain ⟨ba', bc', rfl, _⟩ := (show Sat w4 (seg _ _ _ _ _ * _) from s4).seg_form
       have m1 : w4.cell? ⟨w2.heap.size, 1, none⟩ = some (.int .i64 1) := s4.p3.cell 1
       have hlt : w2.heap.size < w4.heap.size := s4.p3.lt
       have s5 := s4.alloc (.cells #[.int .u64 life, .int .u64 seq, .bool false, .slice ba' body.length bc'] 70)
       have l5 := (l3.trans l4).alloc (.cells #[.int .u64 life, .int .u64 seq, .bool false, .slice ba' body.length bc'] 70)
       have r0 : (w4.alloc (.cells #[.int .u64 life, .int .u64 seq, .bool false, .slice ba' body.length bc'] 70)).cell? ⟨r, 0, none⟩ = some (.pointer (some ⟨a, 0, none⟩)) := s5.p6.cell 0
       have a1 : (w4.alloc (.cells #[.int .u64 life, .int .u64 seq, .bool false, .slice ba' body.length bc'] 70)).cell? ⟨a, 1, none⟩ = some (.pointer (some ⟨py, 0, none⟩)) := s5.p7.cell 1)
    | (go_at_call 30
       with_reducible refine (Hg.out _ _ s5.p9).mono ?_
       rintro e w' ⟨rfl, n, rfl⟩))
  clear m1 hlt r0 a1
  replace s5 := s5.drewN n
  replace l5 := l5.drewN n
  generalize (w4.alloc (.cells #[.int .u64 life, .int .u64 seq, .bool false, .slice ba' body.length bc'] 70)).drewN n = W at s5 l5 ⊢
  have r0 : W.cell? ⟨r, 0, none⟩ = some (.pointer (some ⟨a, 0, none⟩)) := s5.p6.cell 0
  have a1 : W.cell? ⟨a, 1, none⟩ = some (.pointer (some ⟨py, 0, none⟩)) := s5.p7.cell 1
  have m0 : W.cell? ⟨w4.heap.size, 0, none⟩ = some (.int .u64 life) := s5.cell 0
  have m1 : W.cell? ⟨w4.heap.size, 1, none⟩ = some (.int .u64 seq) := s5.cell 1
  have m2 : W.cell? ⟨w4.heap.size, 2, none⟩ = some (.bool false) := s5.cell 2
  have m3 : W.cell? ⟨w4.heap.size, 3, none⟩ = some (.slice ba' body.length bc') := s5.cell 3
  have nr0 := World.new_ne W _ r0
  have na1 := World.new_ne W _ a1
  have nm0 := World.new_ne W _ m0
  go_region_held3 (fun w' => w'.cell? ⟨r, 0, none⟩ = some (.pointer (some ⟨a, 0, none⟩)) ∧ w'.cell? ⟨a, 1, none⟩ = some (.pointer (some ⟨py, 0, none⟩)) ∧ w'.cell? ⟨w4.heap.size, 0, none⟩ = some (.int .u64 life) ∧ w'.cell? ⟨w4.heap.size, 1, none⟩ = some (.int .u64 seq) ∧ w'.cell? ⟨w4.heap.size, 2, none⟩ = some (.bool false) ∧ w'.cell? ⟨w4.heap.size, 3, none⟩ = some (.slice ba' body.length bc'))
      (first | go_keep | exact ⟨r0, a1, m0, m1, m2, m3⟩)
      (first
        | (go_at_call 31
           with_reducible refine (Hh.out _ _ _ (s5.drew.q9.p3.p2)).mono ?_
           rintro e w5 ⟨rfl, l6, s6⟩
           have r0 : w5.cell? ⟨r, 0, none⟩ = some (.pointer (some ⟨a, 0, none⟩)) := s6.p7.cell 0
           have a1 : w5.cell? ⟨a, 1, none⟩ = some (.pointer (some ⟨py, 0, none⟩)) := s6.p8.cell 1
           have m0 : w5.cell? ⟨w4.heap.size, 0, none⟩ = some (.int .u64 life) := s6.p3.cell 0
           have m1 : w5.cell? ⟨w4.heap.size, 1, none⟩ = some (.int .u64 seq) := s6.p3.cell 1
           have m2 : w5.cell? ⟨w4.heap.size, 2, none⟩ = some (.bool false) := s6.p3.cell 2
           have m3 : w5.cell? ⟨w4.heap.size, 3, none⟩ = some (.slice ba' body.length bc') := s6.p3.cell 3
           have nn2 := World.new_ne w5 _ r0
           have nn3 := World.new_ne w5 _ a1
           have nn4 := World.new_ne w5 _ m0
           have lF := ((l5.drew.trans l6).alloc (.cells #[.int .u64 0, .int .u64 0, .bool false, .slice none 0 0] 70))
           have sF := (s6.alloc (.cells #[.int .u64 0, .int .u64 0, .bool false, .slice none 0 0] 70)))
        | (go_at_call 31
           with_reducible refine (Hh.out _ _ _ ((s5.alloc _).drew.q10.p4.p2)).mono ?_
           rintro e w5 ⟨rfl, l6, s6⟩
           have r0 : w5.cell? ⟨r, 0, none⟩ = some (.pointer (some ⟨a, 0, none⟩)) := s6.p8.cell 0
           have a1 : w5.cell? ⟨a, 1, none⟩ = some (.pointer (some ⟨py, 0, none⟩)) := s6.p9.cell 1
           have m0 : w5.cell? ⟨w4.heap.size, 0, none⟩ = some (.int .u64 life) := s6.p4.cell 0
           have m1 : w5.cell? ⟨w4.heap.size, 1, none⟩ = some (.int .u64 seq) := s6.p4.cell 1
           have m2 : w5.cell? ⟨w4.heap.size, 2, none⟩ = some (.bool false) := s6.p4.cell 2
           have m3 : w5.cell? ⟨w4.heap.size, 3, none⟩ = some (.slice ba' body.length bc') := s6.p4.cell 3
           have z0 : w5.cell? ⟨W.heap.size, 0, none⟩ = some (.int .u64 0) := s6.p3.cell 0
           have z1 : w5.cell? ⟨W.heap.size, 1, none⟩ = some (.int .u64 0) := s6.p3.cell 1
           have z2 : w5.cell? ⟨W.heap.size, 2, none⟩ = some (.bool false) := s6.p3.cell 2
           have z3 : w5.cell? ⟨W.heap.size, 3, none⟩ = some (.slice none 0 0) := s6.p3.cell 3
           have zf0 : w5.frozen? ⟨W.heap.size, 0, none⟩ = false := s6.p3.free 0
           have zf1 : w5.frozen? ⟨W.heap.size, 1, none⟩ = false := s6.p3.free 1
           have zf2 : w5.frozen? ⟨W.heap.size, 2, none⟩ = false := s6.p3.free 2
           have zf3 : w5.frozen? ⟨W.heap.size, 3, none⟩ = false := s6.p3.free 3
           have zz := s6.p3.p4.ne
           have zy := s6.p3.p8.ne
           have zx := s6.p3.p9.ne
           have lF := (((((l5.alloc (.cells #[.int .u64 0, .int .u64 0, .bool false, .slice none 0 0] 70)).drew.trans l6).setCell ⟨W.heap.size, 0, none⟩ (.int .u64 0)).setCell ⟨W.heap.size, 1, none⟩ (.int .u64 0)).setCell ⟨W.heap.size, 2, none⟩ (.bool false)).setCell ⟨W.heap.size, 3, none⟩ (.slice none 0 0)
           have sF := ((((s6.p3.set 0 (.int .u64 0)).set 1 (.int .u64 0)).set 2 (.bool false)).set 3 (.slice none 0 0))))
  all_goals
    go_wp2_with fail
    go_ret
    exact ⟨rfl, lF, Sat.reb_open.2 ⟨ov4, ov3, (sF.right.x2.x2.x2.x2).eq (by ac_rfl)⟩⟩

set_option maxHeartbeats 1000000 in
set_option maxRecDepth 100000 in
/-- A piece of the new life. -/
theorem reb_new (r a px py pn : Nat) (x : Snd) (y : Rcv) (net : List Pkt) (ap : Bool) (o3 o4 : List B) (j life seq : Nat) (body : B) (hp : net[j]? = some ⟨0, 1, segBytes ⟨life, seq, false, body⟩⟩) (hn : net.length ≤ 4096) (hf : Fit ⟨life, seq, false, body⟩) (hl : life = 4) (hlife : ¬ life < y.life) (hx2 : seq < 1000000) (hy1 : y.got < 1000000) (hy2 : y.window ≤ 64) (hy3 : y.m.length ≤ 4096)
    (al aq : Nat) (hA : (y.hear ⟨life, seq, false, body⟩).2.2.1 = ⟨al, aq, true, []⟩) (hAf : Fit ⟨al, aq, true, []⟩) (hlen : o4.length + (y.hear ⟨life, seq, false, body⟩).2.1.length ≤ 4096)
    (w : World) (R : SA) (s : Sat w (rebAt r a px py pn x y net ap o3 o4 * R)) :
    Calls Try.prog 14 #[.pointer (some ⟨r, 0, none⟩), .int .i64 j] w fun e w' => e = .returned (.bool true) ∧ Later w w' ∧ Sat w' (rebAt r a px py pn x (y.hear ⟨life, seq, false, body⟩).1 (send ap (net.eraseIdx j) ⟨1, 0, segBytes ⟨al, aq, true, []⟩⟩) ap o3 (o4 ++ (y.hear ⟨life, seq, false, body⟩).2.1) * R) := by
  obtain ⟨ov4, ov3, s⟩ := Sat.reb_open.1 s
  have r0 : w.cell? ⟨r, 0, none⟩ = some (.pointer (some ⟨a, 0, none⟩)) := s.cell 0
  have n2 : w.cell? ⟨a, 2, none⟩ = some (.pointer (some ⟨pn, 0, none⟩)) := s.p2.cell 2
  have Ht0 := net_take pn net ap j _ hp hn w _ s.p5
  unfold pktVal at Ht0
  dsimp only at Ht0
  change Calls _ _ _ _ (fun e w' => ∃ a c, e = .returned (.tuple #[.agg #[.int .i64 0, .int .i64 1, _], _]) ∧ _) at Ht0
  have Ht := Lib.hid Ht0
  have Hp := Lib.hid fun bv' w' R' sw => parse_okfalse life seq body bv' w' R' sw hf
  generalize hbody : segBytes ⟨life, seq, false, body⟩ = pb at *
  have Hh0 := fun bv' w' R' sw => rcv_hear py y ⟨life, seq, false, body⟩ bv' hf.1 rfl hlife hf.2.1 hx2 hy1 hy2 hy3 w' R' sw
  rw [hA] at Hh0
  dsimp only [segVal] at Hh0
  have Hh := Lib.hid Hh0
  clear Hh0 hA hlife hx2 hy1 hy2 hy3
  generalize (y.hear ⟨life, seq, false, body⟩).1 = y' at *
  generalize (y.hear ⟨life, seq, false, body⟩).2.1 = lo at *
  have Hs : RowKit.Hid (∀ w' R', Sat w' (lineAt a px py pn x y' (net.eraseIdx j) ap o3 * R') → Calls Try.prog 27 #[.pointer (some ⟨a, 0, none⟩), .agg #[.int .u64 al, .int .u64 aq, .bool true, .slice none 0 0], .int .i64 1] w' fun e w'' => e = .returned (.tuple #[]) ∧ Later w' w'' ∧ Sat w'' (lineAt a px py pn x y' (send ap (net.eraseIdx j) ⟨1, 0, segBytes ⟨al, aq, true, []⟩⟩) ap o3 * R')) := by
    refine Lib.hid fun w' R' sw => ?_
    have h := line_sends1 a px py pn x y' (net.eraseIdx j) ap o3 ⟨al, aq, true, []⟩ (.slice none 0 0) hAf w' R' (by rw [nil_seg, SA.one_mul]; exact sw)
    dsimp only [segVal] at h
    rw [nil_seg, SA.one_mul] at h
    exact h
  clear hAf
  have b3 : ((life : Int) == 3) = false := by rw [hl]; rfl
  have b4 : ((life : Int) == 4) = true := by rw [hl]; rfl
  clear hl
  have Hg := Lib.hid fun w' R' sw => rcv_got py y w' R' sw
  clear Ht0 hf hbody hp
  go_enter Try.func14, Try.ntmps14
  go_wp2_with (first
    | (go_at_call 19
       with_reducible refine Ht.out.mono ?_
       rintro e w2 ⟨pa, pc, rfl, l2, s2⟩
       have s3 := (s2.mono bytesRow_seg).alloc (.cells #[.int .i64 0, .int .i64 1, .slice pa pb.length pc] 59)
       have l3 := l2.alloc (.cells #[.int .i64 0, .int .i64 1, .slice pa pb.length pc] 59))
    | (go_at_call 28
       with_reducible refine (Hp.out _ _ _ s3.p2).mono ?_
       rintro e w4 ⟨bv', rfl, l4, s4⟩
       obtain ⟨ba', bc', rfl, _⟩ := (show Sat w4 (seg _ _ _ _ _ * _) from s4).seg_form
       have m1 : w4.cell? ⟨w2.heap.size, 1, none⟩ = some (.int .i64 1) := s4.p3.cell 1
       have hlt : w2.heap.size < w4.heap.size := s4.p3.lt
       have s5 := s4.alloc (.cells #[.int .u64 life, .int .u64 seq, .bool false, .slice ba' body.length bc'] 70)
       have l5 := (l3.trans l4).alloc (.cells #[.int .u64 life, .int .u64 seq, .bool false, .slice ba' body.length bc'] 70)
       have r0 : (w4.alloc (.cells #[.int .u64 life, .int .u64 seq, .bool false, .slice ba' body.length bc'] 70)).cell? ⟨r, 0, none⟩ = some (.pointer (some ⟨a, 0, none⟩)) := s5.p6.cell 0
       have a1 : (w4.alloc (.cells #[.int .u64 life, .int .u64 seq, .bool false, .slice ba' body.length bc'] 70)).cell? ⟨a, 1, none⟩ = some (.pointer (some ⟨py, 0, none⟩)) := s5.p7.cell 1)
    | (go_at_call 30
       with_reducible refine (Hg.out _ _ s5.p9).mono ?_
       rintro e w' ⟨rfl, n, rfl⟩))
  clear m1 hlt r0 a1
  replace s5 := s5.drewN n
  replace l5 := l5.drewN n
  generalize (w4.alloc (.cells #[.int .u64 life, .int .u64 seq, .bool false, .slice ba' body.length bc'] 70)).drewN n = W at s5 l5 ⊢
  have r0 : W.cell? ⟨r, 0, none⟩ = some (.pointer (some ⟨a, 0, none⟩)) := s5.p6.cell 0
  have a1 : W.cell? ⟨a, 1, none⟩ = some (.pointer (some ⟨py, 0, none⟩)) := s5.p7.cell 1
  have m0 : W.cell? ⟨w4.heap.size, 0, none⟩ = some (.int .u64 life) := s5.cell 0
  have m1 : W.cell? ⟨w4.heap.size, 1, none⟩ = some (.int .u64 seq) := s5.cell 1
  have m2 : W.cell? ⟨w4.heap.size, 2, none⟩ = some (.bool false) := s5.cell 2
  have m3 : W.cell? ⟨w4.heap.size, 3, none⟩ = some (.slice ba' body.length bc') := s5.cell 3
  have nr0 := World.new_ne W _ r0
  have na1 := World.new_ne W _ a1
  have nm0 := World.new_ne W _ m0
  go_upto_region 11 with fail
  go_cut [12, 13, 14] (fun x12 x13 x14 wx => ∃ (va : Option Addr) (vc : Nat) (q : Nat), x12 = .slice va lo.length vc ∧ x13 = .pointer (some ⟨q, 0, none⟩) ∧ x14 = .int .i64 0 ∧ Later w wx ∧ Sat wx (SA.obj q (.cells #[.int .u64 al, .int .u64 aq, .bool true, .slice none 0 0] 70 (0, 0)) *
    (rcvAt py y' * (outAt (.slice va lo.length vc) lo * (SA.obj w4.heap.size (.cells #[.int .u64 life, .int .u64 seq, .bool false, .slice ba' body.length bc'] 70 (0, 0)) * (netAt pn (net.eraseIdx j) ap * (SA.obj r (.cells #[.pointer (some ⟨a, 0, none⟩), ov4] 45 (0, 0)) * (SA.obj a (.cells (lineCells px py pn ov3) 41 (0, 0)) * (senderAt px x * (outAt ov3 o3 * (outAt ov4 o4 * R)))))))))))
  case first =>
    go_region_held3 (fun w' => w'.cell? ⟨r, 0, none⟩ = some (.pointer (some ⟨a, 0, none⟩)) ∧ w'.cell? ⟨a, 1, none⟩ = some (.pointer (some ⟨py, 0, none⟩)) ∧ w'.cell? ⟨w4.heap.size, 0, none⟩ = some (.int .u64 life) ∧ w'.cell? ⟨w4.heap.size, 1, none⟩ = some (.int .u64 seq) ∧ w'.cell? ⟨w4.heap.size, 2, none⟩ = some (.bool false) ∧ w'.cell? ⟨w4.heap.size, 3, none⟩ = some (.slice ba' body.length bc'))
        (first | go_keep | exact ⟨r0, a1, m0, m1, m2, m3⟩)
        (first
          | (go_at_call 31
             with_reducible refine (Hh.out _ _ _ (s5.drew.q9.p3.p2)).mono ?_
             rintro e w5 ⟨v, rfl, l6, s6⟩
             obtain ⟨va, vc, rfl⟩ : ∃ a c, v = .slice a lo.length c := by
               rcases s6.p2.out_rd with ⟨⟨a', h⟩, h2⟩ | ⟨g, o, cap, h, _⟩
               · exact ⟨a', 0, by rw [h, h2]; rfl⟩
               · exact ⟨_, _, h⟩
             have r0 : w5.cell? ⟨r, 0, none⟩ = some (.pointer (some ⟨a, 0, none⟩)) := s6.p8.cell 0
             have a1 : w5.cell? ⟨a, 1, none⟩ = some (.pointer (some ⟨py, 0, none⟩)) := s6.p9.cell 1
             have m0 : w5.cell? ⟨w4.heap.size, 0, none⟩ = some (.int .u64 life) := s6.p4.cell 0
             have m1 : w5.cell? ⟨w4.heap.size, 1, none⟩ = some (.int .u64 seq) := s6.p4.cell 1
             have m2 : w5.cell? ⟨w4.heap.size, 2, none⟩ = some (.bool false) := s6.p4.cell 2
             have m3 : w5.cell? ⟨w4.heap.size, 3, none⟩ = some (.slice ba' body.length bc') := s6.p4.cell 3
             have nn2 := World.new_ne w5 _ r0
             have nn3 := World.new_ne w5 _ a1
             have nn4 := World.new_ne w5 _ m0
             have lF := ((l5.drew.trans l6).alloc (.cells #[.int .u64 al, .int .u64 aq, .bool true, .slice none 0 0] 70))
             have sF := (s6.alloc (.cells #[.int .u64 al, .int .u64 aq, .bool true, .slice none 0 0] 70)))
          | (go_at_call 31
             with_reducible refine (Hh.out _ _ _ ((s5.alloc _).drew.q10.p4.p2)).mono ?_
             rintro e w5 ⟨v, rfl, l6, s6⟩
             obtain ⟨va, vc, rfl⟩ : ∃ a c, v = .slice a lo.length c := by
               rcases s6.p2.out_rd with ⟨⟨a', h⟩, h2⟩ | ⟨g, o, cap, h, _⟩
               · exact ⟨a', 0, by rw [h, h2]; rfl⟩
               · exact ⟨_, _, h⟩
             have r0 : w5.cell? ⟨r, 0, none⟩ = some (.pointer (some ⟨a, 0, none⟩)) := s6.p9.cell 0
             have a1 : w5.cell? ⟨a, 1, none⟩ = some (.pointer (some ⟨py, 0, none⟩)) := s6.q10.cell 1
             have m0 : w5.cell? ⟨w4.heap.size, 0, none⟩ = some (.int .u64 life) := s6.p5.cell 0
             have m1 : w5.cell? ⟨w4.heap.size, 1, none⟩ = some (.int .u64 seq) := s6.p5.cell 1
             have m2 : w5.cell? ⟨w4.heap.size, 2, none⟩ = some (.bool false) := s6.p5.cell 2
             have m3 : w5.cell? ⟨w4.heap.size, 3, none⟩ = some (.slice ba' body.length bc') := s6.p5.cell 3
             have z0 : w5.cell? ⟨W.heap.size, 0, none⟩ = some (.int .u64 0) := s6.p4.cell 0
             have z1 : w5.cell? ⟨W.heap.size, 1, none⟩ = some (.int .u64 0) := s6.p4.cell 1
             have z2 : w5.cell? ⟨W.heap.size, 2, none⟩ = some (.bool false) := s6.p4.cell 2
             have z3 : w5.cell? ⟨W.heap.size, 3, none⟩ = some (.slice none 0 0) := s6.p4.cell 3
             have zf0 : w5.frozen? ⟨W.heap.size, 0, none⟩ = false := s6.p4.free 0
             have zf1 : w5.frozen? ⟨W.heap.size, 1, none⟩ = false := s6.p4.free 1
             have zf2 : w5.frozen? ⟨W.heap.size, 2, none⟩ = false := s6.p4.free 2
             have zf3 : w5.frozen? ⟨W.heap.size, 3, none⟩ = false := s6.p4.free 3
             have zz := s6.p4.p5.ne
             have zy := s6.p4.p9.ne
             have zx := s6.p4.q10.ne
             have lF := (((((l5.alloc (.cells #[.int .u64 0, .int .u64 0, .bool false, .slice none 0 0] 70)).drew.trans l6).setCell ⟨W.heap.size, 0, none⟩ (.int .u64 al)).setCell ⟨W.heap.size, 1, none⟩ (.int .u64 aq)).setCell ⟨W.heap.size, 2, none⟩ (.bool true)).setCell ⟨W.heap.size, 3, none⟩ (.slice none 0 0)
             have sF := ((((s6.p4.set 0 (.int .u64 al)).set 1 (.int .u64 aq)).set 2 (.bool true)).set 3 (.slice none 0 0))))
    all_goals
      go_wp2_with fail
      go_meet
      exact ⟨va, vc, _, rfl, rfl, rfl, lF, (sF.x4.x5.x5).eq (by ac_rfl)⟩
  case rest =>
    obtain ⟨va, vc, q, rfl, rfl, rfl, l5, s5⟩ := hcut
    clear r0 a1 m0 m1 m2 m3 nr0 na1 nm0
    obtain ⟨cs, hcs, s6⟩ := Sat.recs_open.1 (show Sat wc (recs _ _ _ _ _ _ * _) from s5.p3)
    obtain ⟨bs, hbs, s7⟩ := Sat.recs_open.1 (show Sat wc (recs _ _ _ _ _ _ * _) from s6.q11)
    obtain ⟨oa, oc, rfl, _⟩ := s7.row_form
    -- [row o4, bodies o4, row lo, bodies lo, q, rcv, segobj, net, robj, line, snd, out3]
    have r0 : wc.cell? ⟨r, 0, none⟩ = some (.pointer (some ⟨a, 0, none⟩)) := s7.p9.cell 0
    have r1 : wc.cell? ⟨r, 1, none⟩ = some (.slice oa o4.length oc) := s7.p9.cell 1
    have m0 : wc.cell? ⟨w4.heap.size, 0, none⟩ = some (.int .u64 life) := s7.p7.cell 0
    have Hone := Lib.hid (outCells_one hcs s7.p4)
    have hm1 : o4.length + lo.length ≤ maxLen := by unfold maxLen; omega
    have hm2 : (o4.length + lo.length) * 24 ≤ 140737488355328 := by omega
    have Hbs := Lib.hid (And.intro hbs hcs)
    clear hbs hcs s5 s6
    go_wp2_with ((refine wpList_append (by rfl) _ _ _ (by rfl) 25 1 24 info_bytes Try.underlying22 (by rfl) (by omega) o4.length lo.length (cellsOf outEnc o4 bs) (cellsOf outEnc lo cs) (by rfl) (by rfl) s7 s7.p3.as_seg Hone.out hm1 hm2 ?_
                  intro a8 c8 w8 s8 l8
                  have r0 : w8.cell? ⟨r, 0, none⟩ = some (.pointer (some ⟨a, 0, none⟩)) := s8.p9.cell 0
                  have r1 : w8.cell? ⟨r, 1, none⟩ = some (.slice oa o4.length oc) := s8.p9.cell 1
                  have f1 : w8.frozen? ⟨r, 1, none⟩ = false := s8.p9.free 1))
    have s9 := (s8.p9.set 1 (.slice a8 (o4.length + lo.length) c8))
    have l9 := (l5.trans l8).setCell ⟨r, 1, none⟩ (.slice a8 (o4.length + lo.length) c8)
    clear r0 r1 f1 m0 l8 s8
    generalize w8.setCell ⟨r, 1, none⟩ (.slice a8 (o4.length + lo.length) c8) = W8 at s9 l9 ⊢
    -- [robj', row o4', bodies o4, row lo, bodies lo, q, rcv, segobj, net, line, snd, out3]
    have r0 : W8.cell? ⟨r, 0, none⟩ = some (.pointer (some ⟨a, 0, none⟩)) := s9.cell 0
    have t0 : W8.cell? ⟨q, 0, none⟩ = some (.int .u64 al) := s9.p6.cell 0
    have t1 : W8.cell? ⟨q, 1, none⟩ = some (.int .u64 aq) := s9.p6.cell 1
    have t2 : W8.cell? ⟨q, 2, none⟩ = some (.bool true) := s9.p6.cell 2
    have t3 : W8.cell? ⟨q, 3, none⟩ = some (.slice none 0 0) := s9.p6.cell 3
    have sF : Sat W8 (lineAt a px py pn x y' (net.eraseIdx j) ap o3 * (SA.obj r (.cells #[.pointer (some ⟨a, 0, none⟩), .slice a8 (o4.length + lo.length) c8] 45 (0, 0)) * (outAt (.slice a8 (o4.length + lo.length) c8) (o4 ++ lo) * (SA.obj q (.cells #[.int .u64 al, .int .u64 aq, .bool true, .slice none 0 0] 70 (0, 0)) * R)))) := by
      have s10 := Sat.out_join Hbs.out.1 Hbs.out.2 (s9.x4.q7x.p4.p4.p4)
      exact Sat.line_open.2 ⟨ov3, s10.eq (by ac_rfl)⟩
    go_wp2_with fail
    go_region_held3 (fun w' => w'.cell? ⟨r, 0, none⟩ = some (.pointer (some ⟨a, 0, none⟩)) ∧ w'.cell? ⟨q, 0, none⟩ = some (.int .u64 al) ∧ w'.cell? ⟨q, 1, none⟩ = some (.int .u64 aq) ∧ w'.cell? ⟨q, 2, none⟩ = some (.bool true) ∧ w'.cell? ⟨q, 3, none⟩ = some (.slice none 0 0))
      (first | go_keep | exact ⟨r0, t0, t1, t2, t3⟩)
      ((go_at_call 27
        with_reducible refine (Hs.out _ _ sF.drew).mono ?_
        rintro e w9 ⟨rfl, l10, s10⟩
        have r0 : w9.cell? ⟨r, 0, none⟩ = some (.pointer (some ⟨a, 0, none⟩)) := s10.p2.cell 0
        have t0 : w9.cell? ⟨q, 0, none⟩ = some (.int .u64 al) := s10.p4.cell 0
        have t1 : w9.cell? ⟨q, 1, none⟩ = some (.int .u64 aq) := s10.p4.cell 1
        have t2 : w9.cell? ⟨q, 2, none⟩ = some (.bool true) := s10.p4.cell 2
        have t3 : w9.cell? ⟨q, 3, none⟩ = some (.slice none 0 0) := s10.p4.cell 3))
    go_wp2_with fail
    go_ret
    exact ⟨rfl, l9.drew.trans l10, Sat.reb_fold s10.x4⟩

set_option maxHeartbeats 1000000 in
set_option maxRecDepth 100000 in
/-- A piece of the elder life, and none of the new one came. -/
theorem reb_elder (r a px py pn : Nat) (x : Snd) (y : Rcv) (net : List Pkt) (ap : Bool) (o3 o4 : List B) (j life seq : Nat) (body : B) (hp : net[j]? = some ⟨0, 1, segBytes ⟨life, seq, false, body⟩⟩) (hn : net.length ≤ 4096) (hf : Fit ⟨life, seq, false, body⟩) (hl : life = 3) (hyl : ¬ y.life = 4) (hlife : ¬ life < y.life) (hx2 : seq < 1000000) (hy1 : y.got < 1000000) (hy2 : y.window ≤ 64) (hy3 : y.m.length ≤ 4096)
    (al aq : Nat) (hA : (y.hear ⟨life, seq, false, body⟩).2.2.1 = ⟨al, aq, true, []⟩) (hAf : Fit ⟨al, aq, true, []⟩) (hlen : o3.length + (y.hear ⟨life, seq, false, body⟩).2.1.length ≤ 4096)
    (w : World) (R : SA) (s : Sat w (rebAt r a px py pn x y net ap o3 o4 * R)) :
    Calls Try.prog 14 #[.pointer (some ⟨r, 0, none⟩), .int .i64 j] w fun e w' => e = .returned (.bool true) ∧ Later w w' ∧ Sat w' (rebAt r a px py pn x (y.hear ⟨life, seq, false, body⟩).1 (send ap (net.eraseIdx j) ⟨1, 0, segBytes ⟨al, aq, true, []⟩⟩) ap (o3 ++ (y.hear ⟨life, seq, false, body⟩).2.1) o4 * R) := by
  obtain ⟨ov4, ov3, s⟩ := Sat.reb_open.1 s
  have r0 : w.cell? ⟨r, 0, none⟩ = some (.pointer (some ⟨a, 0, none⟩)) := s.cell 0
  have n2 : w.cell? ⟨a, 2, none⟩ = some (.pointer (some ⟨pn, 0, none⟩)) := s.p2.cell 2
  have Ht0 := net_take pn net ap j _ hp hn w _ s.p5
  unfold pktVal at Ht0
  dsimp only at Ht0
  change Calls _ _ _ _ (fun e w' => ∃ a c, e = .returned (.tuple #[.agg #[.int .i64 0, .int .i64 1, _], _]) ∧ _) at Ht0
  have Ht := Lib.hid Ht0
  have Hp := Lib.hid fun bv' w' R' sw => parse_okfalse life seq body bv' w' R' sw hf
  generalize hbody : segBytes ⟨life, seq, false, body⟩ = pb at *
  have Hh0 := fun bv' w' R' sw => rcv_hear py y ⟨life, seq, false, body⟩ bv' hf.1 rfl hlife hf.2.1 hx2 hy1 hy2 hy3 w' R' sw
  rw [hA] at Hh0
  dsimp only [segVal] at Hh0
  have Hh := Lib.hid Hh0
  clear Hh0 hA hlife hx2 hy1 hy2 hy3
  generalize (y.hear ⟨life, seq, false, body⟩).1 = y' at *
  generalize (y.hear ⟨life, seq, false, body⟩).2.1 = lo at *
  have Hs : RowKit.Hid (∀ w' R', Sat w' (lineAt a px py pn x y' (net.eraseIdx j) ap (o3 ++ lo) * R') → Calls Try.prog 27 #[.pointer (some ⟨a, 0, none⟩), .agg #[.int .u64 al, .int .u64 aq, .bool true, .slice none 0 0], .int .i64 1] w' fun e w'' => e = .returned (.tuple #[]) ∧ Later w' w'' ∧ Sat w'' (lineAt a px py pn x y' (send ap (net.eraseIdx j) ⟨1, 0, segBytes ⟨al, aq, true, []⟩⟩) ap (o3 ++ lo) * R')) := by
    refine Lib.hid fun w' R' sw => ?_
    have h := line_sends1 a px py pn x y' (net.eraseIdx j) ap (o3 ++ lo) ⟨al, aq, true, []⟩ (.slice none 0 0) hAf w' R' (by rw [nil_seg, SA.one_mul]; exact sw)
    dsimp only [segVal] at h
    rw [nil_seg, SA.one_mul] at h
    exact h
  clear hAf
  have b3 : ((life : Int) == 3) = true := by rw [hl]; rfl
  have b4 : ((life : Int) == 4) = false := by rw [hl]; rfl
  have c4 : ((y.life : Int) == 4) = false := by simp; omega
  clear hl hyl
  have Hg := Lib.hid fun w' R' sw => rcv_got py y w' R' sw
  clear Ht0 hf hbody hp
  go_enter Try.func14, Try.ntmps14
  go_wp2_with (first
    | (go_at_call 19
       with_reducible refine Ht.out.mono ?_
       rintro e w2 ⟨pa, pc, rfl, l2, s2⟩
       have s3 := (s2.mono bytesRow_seg).alloc (.cells #[.int .i64 0, .int .i64 1, .slice pa pb.length pc] 59)
       have l3 := l2.alloc (.cells #[.int .i64 0, .int .i64 1, .slice pa pb.length pc] 59))
    | (go_at_call 28
       with_reducible refine (Hp.out _ _ _ s3.p2).mono ?_
       rintro e w4 ⟨bv', rfl, l4, s4⟩
       obtain ⟨ba', bc', rfl, _⟩ := (show Sat w4 (seg _ _ _ _ _ * _) from s4).seg_form
       have m1 : w4.cell? ⟨w2.heap.size, 1, none⟩ = some (.int .i64 1) := s4.p3.cell 1
       have hlt : w2.heap.size < w4.heap.size := s4.p3.lt
       have s5 := s4.alloc (.cells #[.int .u64 life, .int .u64 seq, .bool false, .slice ba' body.length bc'] 70)
       have l5 := (l3.trans l4).alloc (.cells #[.int .u64 life, .int .u64 seq, .bool false, .slice ba' body.length bc'] 70)
       have r0 : (w4.alloc (.cells #[.int .u64 life, .int .u64 seq, .bool false, .slice ba' body.length bc'] 70)).cell? ⟨r, 0, none⟩ = some (.pointer (some ⟨a, 0, none⟩)) := s5.p6.cell 0
       have a1 : (w4.alloc (.cells #[.int .u64 life, .int .u64 seq, .bool false, .slice ba' body.length bc'] 70)).cell? ⟨a, 1, none⟩ = some (.pointer (some ⟨py, 0, none⟩)) := s5.p7.cell 1)
    | (go_at_call 30
       with_reducible refine (Hg.out _ _ s5.p9).mono ?_
       rintro e w' ⟨rfl, n, rfl⟩))
  clear m1 hlt r0 a1
  replace s5 := s5.drewN n
  replace l5 := l5.drewN n
  generalize (w4.alloc (.cells #[.int .u64 life, .int .u64 seq, .bool false, .slice ba' body.length bc'] 70)).drewN n = W at s5 l5 ⊢
  have r0 : W.cell? ⟨r, 0, none⟩ = some (.pointer (some ⟨a, 0, none⟩)) := s5.p6.cell 0
  have a1 : W.cell? ⟨a, 1, none⟩ = some (.pointer (some ⟨py, 0, none⟩)) := s5.p7.cell 1
  have m0 : W.cell? ⟨w4.heap.size, 0, none⟩ = some (.int .u64 life) := s5.cell 0
  have m1 : W.cell? ⟨w4.heap.size, 1, none⟩ = some (.int .u64 seq) := s5.cell 1
  have m2 : W.cell? ⟨w4.heap.size, 2, none⟩ = some (.bool false) := s5.cell 2
  have m3 : W.cell? ⟨w4.heap.size, 3, none⟩ = some (.slice ba' body.length bc') := s5.cell 3
  have nr0 := World.new_ne W _ r0
  have na1 := World.new_ne W _ a1
  have nm0 := World.new_ne W _ m0
  go_upto_region 11 with fail
  go_cut [12, 13, 14] (fun x12 x13 x14 wx => ∃ (va : Option Addr) (vc : Nat) (q : Nat), x12 = .slice va lo.length vc ∧ x13 = .pointer (some ⟨q, 0, none⟩) ∧ x14 = .int .i64 0 ∧ Later w wx ∧ Sat wx (SA.obj q (.cells #[.int .u64 al, .int .u64 aq, .bool true, .slice none 0 0] 70 (0, 0)) *
    (rcvAt py y' * (outAt (.slice va lo.length vc) lo * (SA.obj w4.heap.size (.cells #[.int .u64 life, .int .u64 seq, .bool false, .slice ba' body.length bc'] 70 (0, 0)) * (netAt pn (net.eraseIdx j) ap * (SA.obj r (.cells #[.pointer (some ⟨a, 0, none⟩), ov4] 45 (0, 0)) * (SA.obj a (.cells (lineCells px py pn ov3) 41 (0, 0)) * (senderAt px x * (outAt ov3 o3 * (outAt ov4 o4 * R)))))))))))
  case first =>
    go_region_held3 (fun w' => w'.cell? ⟨r, 0, none⟩ = some (.pointer (some ⟨a, 0, none⟩)) ∧ w'.cell? ⟨a, 1, none⟩ = some (.pointer (some ⟨py, 0, none⟩)) ∧ w'.cell? ⟨w4.heap.size, 0, none⟩ = some (.int .u64 life) ∧ w'.cell? ⟨w4.heap.size, 1, none⟩ = some (.int .u64 seq) ∧ w'.cell? ⟨w4.heap.size, 2, none⟩ = some (.bool false) ∧ w'.cell? ⟨w4.heap.size, 3, none⟩ = some (.slice ba' body.length bc'))
        (first | go_keep | exact ⟨r0, a1, m0, m1, m2, m3⟩)
        (first
          | (go_at_call 31
             with_reducible refine (Hh.out _ _ _ (s5.drew.q9.p3.p2)).mono ?_
             rintro e w5 ⟨v, rfl, l6, s6⟩
             obtain ⟨va, vc, rfl⟩ : ∃ a c, v = .slice a lo.length c := by
               rcases s6.p2.out_rd with ⟨⟨a', h⟩, h2⟩ | ⟨g, o, cap, h, _⟩
               · exact ⟨a', 0, by rw [h, h2]; rfl⟩
               · exact ⟨_, _, h⟩
             have r0 : w5.cell? ⟨r, 0, none⟩ = some (.pointer (some ⟨a, 0, none⟩)) := s6.p8.cell 0
             have a1 : w5.cell? ⟨a, 1, none⟩ = some (.pointer (some ⟨py, 0, none⟩)) := s6.p9.cell 1
             have m0 : w5.cell? ⟨w4.heap.size, 0, none⟩ = some (.int .u64 life) := s6.p4.cell 0
             have m1 : w5.cell? ⟨w4.heap.size, 1, none⟩ = some (.int .u64 seq) := s6.p4.cell 1
             have m2 : w5.cell? ⟨w4.heap.size, 2, none⟩ = some (.bool false) := s6.p4.cell 2
             have m3 : w5.cell? ⟨w4.heap.size, 3, none⟩ = some (.slice ba' body.length bc') := s6.p4.cell 3
             have nn2 := World.new_ne w5 _ r0
             have nn3 := World.new_ne w5 _ a1
             have nn4 := World.new_ne w5 _ m0
             have lF := ((l5.drew.trans l6).alloc (.cells #[.int .u64 al, .int .u64 aq, .bool true, .slice none 0 0] 70))
             have sF := (s6.alloc (.cells #[.int .u64 al, .int .u64 aq, .bool true, .slice none 0 0] 70)))
          | (go_at_call 31
             with_reducible refine (Hh.out _ _ _ ((s5.alloc _).drew.q10.p4.p2)).mono ?_
             rintro e w5 ⟨v, rfl, l6, s6⟩
             obtain ⟨va, vc, rfl⟩ : ∃ a c, v = .slice a lo.length c := by
               rcases s6.p2.out_rd with ⟨⟨a', h⟩, h2⟩ | ⟨g, o, cap, h, _⟩
               · exact ⟨a', 0, by rw [h, h2]; rfl⟩
               · exact ⟨_, _, h⟩
             have r0 : w5.cell? ⟨r, 0, none⟩ = some (.pointer (some ⟨a, 0, none⟩)) := s6.p9.cell 0
             have a1 : w5.cell? ⟨a, 1, none⟩ = some (.pointer (some ⟨py, 0, none⟩)) := s6.q10.cell 1
             have m0 : w5.cell? ⟨w4.heap.size, 0, none⟩ = some (.int .u64 life) := s6.p5.cell 0
             have m1 : w5.cell? ⟨w4.heap.size, 1, none⟩ = some (.int .u64 seq) := s6.p5.cell 1
             have m2 : w5.cell? ⟨w4.heap.size, 2, none⟩ = some (.bool false) := s6.p5.cell 2
             have m3 : w5.cell? ⟨w4.heap.size, 3, none⟩ = some (.slice ba' body.length bc') := s6.p5.cell 3
             have z0 : w5.cell? ⟨W.heap.size, 0, none⟩ = some (.int .u64 0) := s6.p4.cell 0
             have z1 : w5.cell? ⟨W.heap.size, 1, none⟩ = some (.int .u64 0) := s6.p4.cell 1
             have z2 : w5.cell? ⟨W.heap.size, 2, none⟩ = some (.bool false) := s6.p4.cell 2
             have z3 : w5.cell? ⟨W.heap.size, 3, none⟩ = some (.slice none 0 0) := s6.p4.cell 3
             have zf0 : w5.frozen? ⟨W.heap.size, 0, none⟩ = false := s6.p4.free 0
             have zf1 : w5.frozen? ⟨W.heap.size, 1, none⟩ = false := s6.p4.free 1
             have zf2 : w5.frozen? ⟨W.heap.size, 2, none⟩ = false := s6.p4.free 2
             have zf3 : w5.frozen? ⟨W.heap.size, 3, none⟩ = false := s6.p4.free 3
             have zz := s6.p4.p5.ne
             have zy := s6.p4.p9.ne
             have zx := s6.p4.q10.ne
             have lF := (((((l5.alloc (.cells #[.int .u64 0, .int .u64 0, .bool false, .slice none 0 0] 70)).drew.trans l6).setCell ⟨W.heap.size, 0, none⟩ (.int .u64 al)).setCell ⟨W.heap.size, 1, none⟩ (.int .u64 aq)).setCell ⟨W.heap.size, 2, none⟩ (.bool true)).setCell ⟨W.heap.size, 3, none⟩ (.slice none 0 0)
             have sF := ((((s6.p4.set 0 (.int .u64 al)).set 1 (.int .u64 aq)).set 2 (.bool true)).set 3 (.slice none 0 0))))
    all_goals
      go_wp2_with fail
      go_meet
      exact ⟨va, vc, _, rfl, rfl, rfl, lF, (sF.x4.x5.x5).eq (by ac_rfl)⟩
  case rest =>
    obtain ⟨va, vc, q, rfl, rfl, rfl, l5, s5⟩ := hcut
    clear r0 a1 m0 m1 m2 m3 nr0 na1 nm0
    obtain ⟨cs, hcs, s6⟩ := Sat.recs_open.1 (show Sat wc (recs _ _ _ _ _ _ * _) from s5.p3)
    obtain ⟨bs, hbs, s7⟩ := Sat.recs_open.1 (show Sat wc (recs _ _ _ _ _ _ * _) from s6.q10)
    obtain ⟨oa, oc, rfl, _⟩ := s7.row_form
    -- [row o3, bodies o3, row lo, bodies lo, q, rcv, segobj, net, robj, line, snd, out4]
    have r0 : wc.cell? ⟨r, 0, none⟩ = some (.pointer (some ⟨a, 0, none⟩)) := s7.p9.cell 0
    have a3 : wc.cell? ⟨a, 3, none⟩ = some (.slice oa o3.length oc) := s7.q10.cell 3
    have m0 : wc.cell? ⟨w4.heap.size, 0, none⟩ = some (.int .u64 life) := s7.p7.cell 0
    have Hone := Lib.hid (outCells_one hcs s7.p4)
    have hm1 : o3.length + lo.length ≤ maxLen := by unfold maxLen; omega
    have hm2 : (o3.length + lo.length) * 24 ≤ 140737488355328 := by omega
    have Hbs := Lib.hid (And.intro hbs hcs)
    clear hbs hcs s5 s6
    go_wp2_with fail
    go_upto_region 16 with fail
    go_cut [] (fun wx => ∃ (a8 : Option Addr) (c8 : Nat), Later w wx ∧ Sat wx (SA.obj a (.cells (lineCells px py pn (.slice a8 (o3.length + lo.length) c8)) 41 (0, 0)) * (row 25 1 (.slice a8 (o3.length + lo.length) c8) (o3.length + lo.length) (cellsOf outEnc o3 bs ++ cellsOf outEnc lo cs) * (bodiesOf outEl o3 bs *
      (bodiesOf outEl lo cs * (SA.obj q (.cells #[.int .u64 al, .int .u64 aq, .bool true, .slice none 0 0] 70 (0, 0)) * (rcvAt py y' * (netAt pn (net.eraseIdx j) ap * (SA.obj r (.cells #[.pointer (some ⟨a, 0, none⟩), ov4] 45 (0, 0)) * (senderAt px x * (outAt ov4 o4 * R)))))))))))
    case first =>
      go_region_law
        ((refine step_append (by rfl) _ _ _ (by rfl) 25 1 24 info_bytes Try.underlying22 (by rfl) (by omega) o3.length lo.length (cellsOf outEnc o3 bs) (cellsOf outEnc lo cs) (by rfl) (by rfl) s7.drew s7.drew.p3.as_seg Hone.out hm1 hm2 ?_
          intro a8 c8 w8 s8 l8
          have r0 : w8.cell? ⟨r, 0, none⟩ = some (.pointer (some ⟨a, 0, none⟩)) := s8.p9.cell 0
          have a3 : w8.cell? ⟨a, 3, none⟩ = some (.slice oa o3.length oc) := s8.q10.cell 3
          have f3 : w8.frozen? ⟨a, 3, none⟩ = false := s8.q10.free 3))
      all_goals
        go_wp2_with fail
        go_meet
        refine ⟨a8, c8, (l5.drew.trans l8).setCell _ _, ?_⟩
        exact ((s8.q10.set 3 (.slice a8 (o3.length + lo.length) c8)).x4.q7x).eq (by unfold lineCells; ac_rfl)
    case rest =>
    obtain ⟨a8, c8, l9, s9⟩ := hcut
    clear r0 a3 m0 s7 l5 Hone
    rename_i W8
    have r0 : wc.cell? ⟨r, 0, none⟩ = some (.pointer (some ⟨a, 0, none⟩)) := s9.p8.cell 0
    have t0 : wc.cell? ⟨q, 0, none⟩ = some (.int .u64 al) := s9.p5.cell 0
    have t1 : wc.cell? ⟨q, 1, none⟩ = some (.int .u64 aq) := s9.p5.cell 1
    have t2 : wc.cell? ⟨q, 2, none⟩ = some (.bool true) := s9.p5.cell 2
    have t3 : wc.cell? ⟨q, 3, none⟩ = some (.slice none 0 0) := s9.p5.cell 3
    have sF : Sat wc (lineAt a px py pn x y' (net.eraseIdx j) ap (o3 ++ lo) * (SA.obj r (.cells #[.pointer (some ⟨a, 0, none⟩), ov4] 45 (0, 0)) * (outAt ov4 o4 * (SA.obj q (.cells #[.int .u64 al, .int .u64 aq, .bool true, .slice none 0 0] 70 (0, 0)) * R)))) := by
      have s10 := Sat.out_join Hbs.out.1 Hbs.out.2 (s9.p4.p4.p4)
      exact Sat.line_open.2 ⟨.slice a8 (o3.length + lo.length) c8, s10.eq (by ac_rfl)⟩
    go_wp2_with fail
    go_region_held3 (fun w' => w'.cell? ⟨r, 0, none⟩ = some (.pointer (some ⟨a, 0, none⟩)) ∧ w'.cell? ⟨q, 0, none⟩ = some (.int .u64 al) ∧ w'.cell? ⟨q, 1, none⟩ = some (.int .u64 aq) ∧ w'.cell? ⟨q, 2, none⟩ = some (.bool true) ∧ w'.cell? ⟨q, 3, none⟩ = some (.slice none 0 0))
      (first | go_keep | exact ⟨r0, t0, t1, t2, t3⟩)
      ((go_at_call 27
        with_reducible refine (Hs.out _ _ sF.drew).mono ?_
        rintro e w9 ⟨rfl, l10, s10⟩
        have r0 : w9.cell? ⟨r, 0, none⟩ = some (.pointer (some ⟨a, 0, none⟩)) := s10.p2.cell 0
        have t0 : w9.cell? ⟨q, 0, none⟩ = some (.int .u64 al) := s10.p4.cell 0
        have t1 : w9.cell? ⟨q, 1, none⟩ = some (.int .u64 aq) := s10.p4.cell 1
        have t2 : w9.cell? ⟨q, 2, none⟩ = some (.bool true) := s10.p4.cell 2
        have t3 : w9.cell? ⟨q, 3, none⟩ = some (.slice none 0 0) := s10.p4.cell 3))
    go_wp2_with fail
    go_ret
    exact ⟨rfl, l9.drew.trans l10, Sat.reb_fold s10.x4⟩

end Go.Proofs.Ytbphbafmchhipaa
