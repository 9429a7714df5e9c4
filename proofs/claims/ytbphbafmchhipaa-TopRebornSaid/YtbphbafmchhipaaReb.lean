/-
  A line whose sender has begun a new life: an answer comes; nothing comes.
-/
import Derived.Test.YtbphbafmchhipaaOpenB
namespace Go.Proofs.Ytbphbafmchhipaa
open Go.RowKit Sea

def rebAt (r a px py pn : Nat) (x : Snd) (y : Rcv) (net : List Pkt) (ap : Bool) (o3 o4 : List B) : SA := SA.ex fun ov : Value =>
  SA.obj r (.cells #[.pointer (some ⟨a, 0, none⟩), ov] 45 (0, 0)) * (lineAt a px py pn x y net ap o3 * outAt ov o4)
theorem Sat.reb_open {w : World} {r a px py pn : Nat} {x : Snd} {y : Rcv} {net : List Pkt} {ap : Bool} {o3 o4 : List B} {R : SA} : Sat w (rebAt r a px py pn x y net ap o3 o4 * R) ↔ ∃ ov4 ov3,
    Sat w (SA.obj r (.cells #[.pointer (some ⟨a, 0, none⟩), ov4] 45 (0, 0)) * (SA.obj a (.cells (lineCells px py pn ov3) 41 (0, 0)) * (senderAt px x * (rcvAt py y * (netAt pn net ap * (outAt ov3 o3 * (outAt ov4 o4 * R))))))) := by
  unfold rebAt lineAt
  rw [Sat.ex_mul_iff]
  constructor
  · rintro ⟨ov4, s⟩
    rw [SA.mul_assoc, SA.mul_assoc] at s
    obtain ⟨ov3, s⟩ := Sat.ex_mul_iff.1 s.p2
    exact ⟨ov4, ov3, s.eq (by ac_rfl)⟩
  · rintro ⟨ov4, ov3, s⟩
    refine ⟨ov4, ?_⟩
    rw [SA.mul_assoc, SA.mul_assoc]
    refine Sat.p2 (Sat.ex_mul_iff.2 ⟨ov3, s.eq (by ac_rfl)⟩)

set_option maxHeartbeats 1000000 in
set_option maxRecDepth 100000 in
theorem reb_none (r a px py pn : Nat) (x : Snd) (y : Rcv) (ap : Bool) (o3 o4 : List B) (w : World) (R : SA) (s : Sat w (rebAt r a px py pn x y [] ap o3 o4 * R)) :
    Calls Try.prog 14 #[.pointer (some ⟨r, 0, none⟩), .int .i64 0] w fun e w' => e = .returned (.bool true) ∧ Later w w' ∧ Sat w' (rebAt r a px py pn x y [] ap o3 o4 * R) := by
  obtain ⟨ov4, ov3, s⟩ := Sat.reb_open.1 s
  have r0 : w.cell? ⟨r, 0, none⟩ = some (.pointer (some ⟨a, 0, none⟩)) := s.cell 0
  have n2 : w.cell? ⟨a, 2, none⟩ = some (.pointer (some ⟨pn, 0, none⟩)) := s.p2.cell 2
  have Hp0 := net_take_none pn ap 0 w _ s.p5
  change Calls _ _ #[_, .int .i64 0] _ _ at Hp0
  have Hp := Lib.hid Hp0
  clear Hp0
  go_enter Try.func14, Try.ntmps14
  go_wp2_with (go_at_call 19
               with_reducible refine Hp.out.mono ?_
               rintro e w2 ⟨rfl, l2, s2⟩)
  go_ret
  exact ⟨rfl, l2.alloc _, Sat.reb_open.2 ⟨ov4, ov3, ((s2.alloc _).right).eq (by ac_rfl)⟩⟩

set_option maxHeartbeats 1000000 in
set_option maxRecDepth 100000 in
/-- An answer comes. -/
theorem reb_ack (r a px py pn : Nat) (x : Snd) (y : Rcv) (net : List Pkt) (ap : Bool) (o3 o4 : List B) (j sl sq : Nat) (hp : net[j]? = some ⟨1, 0, segBytes ⟨sl, sq, true, []⟩⟩) (hn : net.length ≤ 4096) (hf : Fit ⟨sl, sq, true, []⟩) (hl : x.l.length ≤ 4096) (hok : sl = x.life → sq ≤ x.acked + x.l.length)
    (f : Nat) (h0 : (x.hear ⟨sl, sq, true, []⟩).2 = f) (hlf : sl = 4 ∧ f = 0 ∨ sl = 3 ∧ f = 70)
    (w : World) (R : SA) (s : Sat w (rebAt r a px py pn x y net ap o3 o4 * R)) :
    Calls Try.prog 14 #[.pointer (some ⟨r, 0, none⟩), .int .i64 j] w fun e w' => e = .returned (.bool true) ∧ Later w w' ∧ Sat w' (rebAt r a px py pn (x.hear ⟨sl, sq, true, []⟩).1 y (net.eraseIdx j) ap o3 o4 * R) := by
  obtain ⟨ov4, ov3, s⟩ := Sat.reb_open.1 s
  have r0 : w.cell? ⟨r, 0, none⟩ = some (.pointer (some ⟨a, 0, none⟩)) := s.cell 0
  have n2 : w.cell? ⟨a, 2, none⟩ = some (.pointer (some ⟨pn, 0, none⟩)) := s.p2.cell 2
  have Ht0 := net_take pn net ap j _ hp hn w _ s.p5
  unfold pktVal at Ht0
  dsimp only at Ht0
  change Calls _ _ _ _ (fun e w' => ∃ a c, e = .returned (.tuple #[.agg #[.int .i64 1, .int .i64 0, _], _]) ∧ _) at Ht0
  have Ht := Lib.hid Ht0
  have Hp := Lib.hid fun bv' w' R' sw => parse_oktrue sl sq [] bv' w' R' sw hf
  generalize hbody : segBytes ⟨sl, sq, true, []⟩ = body at *
  have Hh := Lib.hid fun bv' w' R' sw => snd_hear px x sl sq bv' hf.1 hok hl hf.2.2 w' R' sw
  rw [h0] at Hh
  generalize (x.hear ⟨sl, sq, true, []⟩).1 = x' at *
  clear Ht0 h0 hok hl hf hbody hp
  rcases hlf with ⟨h4, rfl⟩ | ⟨h4, rfl⟩
  case' inl =>
    have b4 : ((sl : Int) == 4) = true := by rw [h4]; rfl
    have b3 : ((sl : Int) == 3) = false := by rw [h4]; rfl
  case' inr =>
    have b4 : ((sl : Int) == 4) = false := by rw [h4]; rfl
    have b3 : ((sl : Int) == 3) = true := by rw [h4]; rfl
  all_goals
    clear h4
    go_enter Try.func14, Try.ntmps14
    go_wp2_with (first
      | (go_at_call 19
         with_reducible refine Ht.out.mono ?_
         rintro e w2 ⟨pa, pc, rfl, l2, s2⟩
         have s3 := (s2.mono bytesRow_seg).alloc (.cells #[.int .i64 1, .int .i64 0, .slice pa body.length pc] 59)
         have l3 := l2.alloc (.cells #[.int .i64 1, .int .i64 0, .slice pa body.length pc] 59))
      | (go_at_call 28
         with_reducible refine (Hp.out _ _ _ s3.p2).mono ?_
         rintro e w4 ⟨bv', rfl, l4, s4⟩
         obtain ⟨ba', bc', rfl, _⟩ := (show Sat w4 (seg _ _ _ _ _ * _) from s4).seg_form
         simp only [List.length_nil] at s4
         have m1 : w4.cell? ⟨w2.heap.size, 1, none⟩ = some (.int .i64 0) := s4.p3.cell 1
         have hlt : w2.heap.size < w4.heap.size := s4.p3.lt))
    have s5 := s4.alloc (.cells #[.int .u64 sl, .int .u64 sq, .bool true, .slice ba' 0 bc'] 70)
    have l5 := (l3.trans l4).alloc (.cells #[.int .u64 sl, .int .u64 sq, .bool true, .slice ba' 0 bc'] 70)
    clear m1 hlt
    generalize w4.alloc (.cells #[.int .u64 sl, .int .u64 sq, .bool true, .slice ba' 0 bc'] 70) = W at s5 l5 ⊢
    have r0 : W.cell? ⟨r, 0, none⟩ = some (.pointer (some ⟨a, 0, none⟩)) := s5.p6.cell 0
    have a0 : W.cell? ⟨a, 0, none⟩ = some (.pointer (some ⟨px, 0, none⟩)) := s5.p7.cell 0
    have m0 : W.cell? ⟨w4.heap.size, 0, none⟩ = some (.int .u64 sl) := s5.cell 0
    have m1 : W.cell? ⟨w4.heap.size, 1, none⟩ = some (.int .u64 sq) := s5.cell 1
    have m2 : W.cell? ⟨w4.heap.size, 2, none⟩ = some (.bool true) := s5.cell 2
    have m3 : W.cell? ⟨w4.heap.size, 3, none⟩ = some (.slice ba' 0 bc') := s5.cell 3
    go_region_held3 (fun w' => w'.cell? ⟨r, 0, none⟩ = some (.pointer (some ⟨a, 0, none⟩)) ∧ w'.cell? ⟨a, 0, none⟩ = some (.pointer (some ⟨px, 0, none⟩)) ∧ w'.cell? ⟨w4.heap.size, 0, none⟩ = some (.int .u64 sl) ∧ w'.cell? ⟨w4.heap.size, 1, none⟩ = some (.int .u64 sq) ∧ w'.cell? ⟨w4.heap.size, 2, none⟩ = some (.bool true) ∧ w'.cell? ⟨w4.heap.size, 3, none⟩ = some (.slice ba' 0 bc'))
      (first | go_keep | exact ⟨r0, a0, m0, m1, m2, m3⟩)
      ((go_at_call 29
        with_reducible refine (Hh.out _ _ _ (s5.drew.p8.p3.p2)).mono ?_
        rintro e w5 ⟨rfl, l6, s6⟩
        have r0 : w5.cell? ⟨r, 0, none⟩ = some (.pointer (some ⟨a, 0, none⟩)) := s6.p7.cell 0
        have a0 : w5.cell? ⟨a, 0, none⟩ = some (.pointer (some ⟨px, 0, none⟩)) := s6.p8.cell 0
        have m0 : w5.cell? ⟨w4.heap.size, 0, none⟩ = some (.int .u64 sl) := s6.p3.cell 0
        have m1 : w5.cell? ⟨w4.heap.size, 1, none⟩ = some (.int .u64 sq) := s6.p3.cell 1
        have m2 : w5.cell? ⟨w4.heap.size, 2, none⟩ = some (.bool true) := s6.p3.cell 2
        have m3 : w5.cell? ⟨w4.heap.size, 3, none⟩ = some (.slice ba' 0 bc') := s6.p3.cell 3))
    go_wp2_with fail
    go_ret
    exact ⟨rfl, l5.drew.trans l6, Sat.reb_open.2 ⟨ov4, ov3, (s6.x2.x2.x2.x2).eq (by ac_rfl)⟩⟩

end Go.Proofs.Ytbphbafmchhipaa
