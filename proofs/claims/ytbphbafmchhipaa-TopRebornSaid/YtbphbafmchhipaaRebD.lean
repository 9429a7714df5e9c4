/-
  A line reborn: something happens.
-/
import Derived.Test.YtbphbafmchhipaaRebC
namespace Go.Proofs.Ytbphbafmchhipaa
open Go.RowKit Sea

/-- What a line reborn is behind something that happened. -/
def RebNow (L1 L2 : List B) (r a px py pn : Nat) (n : Nat) (R : SA) (w w' : World) : Prop := Later w w' ∧ ∃ x y net ap o3 o4, Inv L1 L2 4 x y net o3 o4 ∧ net.length ≤ 256 ∧ x.now ≤ n ∧ Sat w' (rebAt r a px py pn x y net ap o3 o4 * R)
theorem Sat.reb_line {w : World} {r a px py pn : Nat} {x : Snd} {y : Rcv} {net : List Pkt} {ap : Bool} {o3 o4 : List B} {R : SA} (s : Sat w (rebAt r a px py pn x y net ap o3 o4 * R)) : ∃ ov4,
    Sat w (SA.obj r (.cells #[.pointer (some ⟨a, 0, none⟩), ov4] 45 (0, 0)) * (lineAt a px py pn x y net ap o3 * (outAt ov4 o4 * R))) := by
  unfold rebAt at s
  obtain ⟨ov4, s⟩ := Sat.ex_mul_iff.1 s
  exact ⟨ov4, s.eq (by ac_rfl)⟩

set_option maxHeartbeats 1000000 in
set_option maxRecDepth 100000 in
theorem reb_moves (L1 L2 : List B) (r a px py pn : Nat) (x : Snd) (y : Rcv) (net : List Pkt) (ap : Bool) (o3 o4 : List B) (h : Inv L1 L2 4 x y net o3 o4) (hfew : net.length ≤ 256) (hn : x.now < 1000000) (kind att by_ : Int) (w : World) (R : SA) (s : Sat w (rebAt r a px py pn x y net ap o3 o4 * R)) :
    Calls Try.prog 10 #[.pointer (some ⟨r, 0, none⟩), .agg #[.int .i64 kind, .int .i64 att, .int .i64 by_]] w fun e w' => e = .returned (.bool true) ∧ RebNow L1 L2 r a px py pn (x.now + 1) R w w' := by
  obtain ⟨u, hu, hu2⟩ : ∃ u : Nat, IntKind.u64.wrap att = (u : Int) ∧ u < 18446744073709551616 := by
    refine ⟨(IntKind.u64.wrap att).toNat, ?_, ?_⟩
    · simp [IntKind.wrap, IntKind.bits, IntKind.signed]; omega
    · simp [IntKind.wrap, IntKind.bits, IntKind.signed]; omega
  obtain ⟨ov4, ov3, s0⟩ := Sat.reb_open.1 s
  have s1 := s.alloc (.cells #[.int .i64 kind, .int .i64 att, .int .i64 by_] 36)
  have s2 := s0.alloc (.cells #[.int .i64 kind, .int .i64 att, .int .i64 by_] 36)
  have n2 : (w.alloc (.cells #[.int .i64 kind, .int .i64 att, .int .i64 by_] 36)).cell? ⟨a, 2, none⟩ = some (.pointer (some ⟨pn, 0, none⟩)) := s2.p3.cell 2
  have r0 : (w.alloc (.cells #[.int .i64 kind, .int .i64 att, .int .i64 by_] 36)).cell? ⟨r, 0, none⟩ = some (.pointer (some ⟨a, 0, none⟩)) := s2.p2.cell 0
  have k1 : (w.alloc (.cells #[.int .i64 kind, .int .i64 att, .int .i64 by_] 36)).cell? ⟨w.heap.size, 1, none⟩ = some (.int .i64 att) := s2.cell 1
  have l1 : Later w (w.alloc (.cells #[.int .i64 kind, .int .i64 att, .int .i64 by_] 36)) := (Later.refl w).alloc _
  have Hl := Lib.hid (net_len pn net ap _ _ s2.p6)
  have Hl2 := Lib.hid (net_len pn net ap _ _ s2.drew.p6)
  have Hl3 : RowKit.Hid (∀ n, Calls Try.prog 13 #[.pointer (some ⟨pn, 0, none⟩)] ((w.alloc (.cells #[.int .i64 kind, .int .i64 att, .int .i64 by_] 36)).drewN n) fun e w' => e = .returned (.int .i64 net.length) ∧ ((w.alloc (.cells #[.int .i64 kind, .int .i64 att, .int .i64 by_] 36)).drewN n) = w') := Lib.hid fun n => net_len pn net ap _ _ (s2.drewN n).p6
  have Hinv := Lib.hid h
  clear h
  go_enter Try.func10, Try.ntmps10
  go_upto_if 14 with (go_at_call 13
                      with_reducible refine Hl.out.mono ?_
                      rintro e w' ⟨rfl, rfl⟩)
  go_cut [5] (fun x4 wx => ∃ j n : Nat, x4 = .int .i64 j ∧ (net.length = 0 ∧ j = 0 ∨ j < net.length) ∧ wx = (w.alloc (.cells #[.int .i64 kind, .int .i64 att, .int .i64 by_] 36)).drewN n)
  case first =>
    by_cases h0 : net.length = 0
    · have h0' : ((net.length : Nat) : Int) = 0 := by omega
      go_wp2_with fail
      go_meet
      exact ⟨0, 0, rfl, .inl ⟨h0, rfl⟩, rfl⟩
    · have h1 : 0 < net.length := by omega
      have hw1 : IntKind.u64.wrap ((net.length : Nat) : Int) = (net.length : Int) := by rw [wraps_u64 _ (by omega) (by omega)]
      have hw2 : IntKind.i64.wrap ((u : Int) % (net.length : Int)) = ((u % net.length : Nat) : Int) := by
        have := Nat.mod_lt u h1
        rw [IntKind.wrap_i64, ← Int.natCast_emod]
        omega
      have hlt := Nat.mod_lt u h1
      have Hlt := Lib.hid hlt
      have h2 : (0 : Int) < (net.length : Int) := by omega
      clear hlt h0
      go_wp2_with fail
      go_quiet ((go_at_call 13; exact Calls.quiet_of_same ((Hl3.out _).mono fun _ _ h => ⟨h.1, h.2.symm⟩)))
      go_wp2_with fail
      go_meet
      exact ⟨u % net.length, nq, by rw [Int.natCast_emod], .inr Hlt.out, rfl⟩
  case rest =>
    obtain ⟨j, n, rfl, hj, rfl⟩ := hcut
    clear n2 k1 r0 Hl Hl2 Hl3 hu hu2
    have s3 := s1.drewN n
    have s4 := s2.drewN n
    have l4 := l1.drewN n
    clear s1 s2 l1
    generalize (w.alloc (.cells #[.int .i64 kind, .int .i64 att, .int .i64 by_] 36)).drewN n = W at *
    have k0 : W.cell? ⟨w.heap.size, 0, none⟩ = some (.int .i64 kind) := s3.cell 0
    have r0 : W.cell? ⟨r, 0, none⟩ = some (.pointer (some ⟨a, 0, none⟩)) := s4.p2.cell 0
    have n2 : W.cell? ⟨a, 2, none⟩ = some (.pointer (some ⟨pn, 0, none⟩)) := s4.p3.cell 2
    obtain ⟨i1, i2, i3, i4, i5, i6⟩ := inv_now Hinv.out
    by_cases c0 : kind = 0
    · subst c0
      obtain ⟨ov4', s5⟩ := s3.right.reb_line
      have Ht := Lib.hid (line_tick a px py pn x y net ap o3 (by omega) (by omega) (by omega) i3 i6 W _ s5.p2)
      clear i3 i6
      go_wp2_with (go_at_call 12
                   with_reducible refine Ht.out.mono ?_
                   rintro e w2 ⟨rfl, l2, s6⟩)
      go_ret
      exact ⟨rfl, l4.trans l2, _, y, _, ap, o3, o4, Hinv.out.tick ap, sendAll_few ap _ _ hfew, Nat.le_refl _, Sat.reb_fold s6⟩
    have b0 : (kind == 0) = false := by simpa using c0
    clear i3 i6
    by_cases c7 : kind = 7
    · subst c7
      have Hp := Lib.hid (net_part pn net ap W _ s4.p6)
      clear b0
      go_wp2_with (go_at_call 24
                   with_reducible refine Hp.out.mono ?_
                   rintro e w2 ⟨rfl, l2, s5⟩)
      go_ret
      exact ⟨rfl, l4.trans l2, x, y, net, true, o3, o4, Hinv.out, hfew, by omega, Sat.reb_open.2 ⟨ov4, ov3, s5.x2.eq (by ac_rfl)⟩⟩
    have b7 : (kind == 7) = false := by simpa using c7
    by_cases c3 : kind = 3
    · subst c3
      have Hp := Lib.hid (net_drop pn net ap j (by omega) W _ s4.p6)
      clear b0 b7
      go_wp2_with (go_at_call 21
                   with_reducible refine Hp.out.mono ?_
                   rintro e w2 ⟨⟨b, rfl⟩, l2, s5⟩)
      go_ret
      exact ⟨rfl, l4.trans l2, x, y, _, ap, o3, o4, Hinv.out.sub mem_erase_sub, Nat.le_trans erase_length hfew, by omega, Sat.reb_open.2 ⟨ov4, ov3, s5.x2.eq (by ac_rfl)⟩⟩
    have b3 : (kind == 3) = false := by simpa using c3
    by_cases c6 : kind = 6
    · subst c6
      have Hp := Lib.hid (net_drop pn net ap j (by omega) W _ s4.p6)
      clear b0 b7 b3
      go_wp2_with (go_at_call 21
                   with_reducible refine Hp.out.mono ?_
                   rintro e w2 ⟨⟨b, rfl⟩, l2, s5⟩)
      go_ret
      exact ⟨rfl, l4.trans l2, x, y, _, ap, o3, o4, Hinv.out.sub mem_erase_sub, Nat.le_trans erase_length hfew, by omega, Sat.reb_open.2 ⟨ov4, ov3, s5.x2.eq (by ac_rfl)⟩⟩
    have b6 : (kind == 6) = false := by simpa using c6
    by_cases c4 : kind = 4
    · subst c4
      have Hp := Lib.hid (net_twice pn net ap j (by omega) (fun p hp => by have := pk_body Hinv.out p hp; omega) W _ s4.p6)
      clear b0 b7 b3 b6
      go_wp2_with (go_at_call 22
                   with_reducible refine Hp.out.mono ?_
                   rintro e w2 ⟨⟨b, rfl⟩, l2, s5⟩)
      go_ret
      exact ⟨rfl, l4.trans l2, x, y, _, ap, o3, o4, Hinv.out.sub mem_twice_sub, twice_length hfew, by omega, Sat.reb_open.2 ⟨ov4, ov3, s5.x2.eq (by ac_rfl)⟩⟩
    have b4 : (kind == 4) = false := by simpa using c4
    by_cases c5 : kind = 5
    · subst c5
      have Hp := Lib.hid (net_back pn net ap j (by omega) W _ s4.p6)
      clear b0 b7 b3 b6 b4
      go_wp2_with (go_at_call 23
                   with_reducible refine Hp.out.mono ?_
                   rintro e w2 ⟨⟨b, rfl⟩, l2, s5⟩)
      go_ret
      exact ⟨rfl, l4.trans l2, x, y, _, ap, o3, o4, Hinv.out.sub mem_back_sub, Nat.le_trans back_length hfew, by omega, Sat.reb_open.2 ⟨ov4, ov3, s5.x2.eq (by ac_rfl)⟩⟩
    have b5 : (kind == 5) = false := by simpa using c5
    by_cases c12 : kind = 1 ∨ kind = 2
    · clear b0 b7 b3 b4 b5 b6 c0 c7 c3 c4 c5 c6
      have Hc : RowKit.Hid (Calls Try.prog 14 #[.pointer (some ⟨r, 0, none⟩), .int .i64 j] W fun e w' => e = .returned (.bool true) ∧ RebNow L1 L2 r a px py pn (x.now + 1) R W w') := by
        refine Lib.hid ?_
        have sr := s3.right
        rcases hj with ⟨hj1, rfl⟩ | hj
        · obtain rfl : net = [] := List.length_eq_zero_iff.1 hj1
          exact (reb_none r a px py pn x y ap o3 o4 W R sr).mono fun e w' hw => ⟨hw.1, hw.2.1, x, y, [], ap, o3, o4, Hinv.out, by simp, by omega, hw.2.2⟩
        · obtain ⟨p, hp⟩ : ∃ p, net[j]? = some p := ⟨_, List.getElem?_eq_getElem hj⟩
          obtain ⟨s, hs⟩ := Hinv.out.pk p (List.mem_of_getElem? hp)
          refine (reb_comes L1 L2 r a px py pn x y net ap o3 o4 Hinv.out hfew j p hp s hs W R sr).mono fun e w' hw => ?_
          obtain ⟨e1, l1, x', y', net', o3', o4', st, s'⟩ := hw
          obtain ⟨i1, i2, i3, _, _⟩ := st.inv Hinv.out hfew hs
          exact ⟨e1, l1, x', y', net', ap, o3', o4', i1, i2, by omega, s'⟩
      rcases c12 with rfl | rfl
      all_goals
        go_wp2_with (go_at_call 14
                     with_reducible refine Hc.out.mono ?_
                     rintro e w2 ⟨rfl, hN⟩)
        go_ret
        exact ⟨rfl, l4.trans hN.1, hN.2⟩
    obtain ⟨c1, c2⟩ : ¬ kind = 1 ∧ ¬ kind = 2 := ⟨fun e => c12 (.inl e), fun e => c12 (.inr e)⟩
    have b1 : (kind == 1) = false := by simpa using c1
    have b2 : (kind == 2) = false := by simpa using c2
    have Hp := Lib.hid (net_join pn net ap W _ s4.p6)
    clear c12
    go_wp2_with (go_at_call 11
                 with_reducible refine Hp.out.mono ?_
                 rintro e w2 ⟨rfl, l2, s5⟩)
    go_ret
    exact ⟨rfl, l4.trans l2, x, y, net, false, o3, o4, Hinv.out, hfew, by omega, Sat.reb_open.2 ⟨ov4, ov3, s5.x2.eq (by ac_rfl)⟩⟩

end Go.Proofs.Ytbphbafmchhipaa
