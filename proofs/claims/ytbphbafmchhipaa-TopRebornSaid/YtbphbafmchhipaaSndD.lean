/-
  A sender hears an answer that frees pieces: all of them, the room behind them too; and both ways.
-/
import Derived.Test.YtbphbafmchhipaaSndC
namespace Go.Proofs.Ytbphbafmchhipaa
open Go.RowKit Sea

theorem size_set (w : World) (a : Addr) (v : Value) : (w.setCell a v).heap.size = w.heap.size := by simp [World.setCell]
theorem hear1_end0 {W : World} {p q B g cap d sq : Nat} {x : Snd} {bs : List Value} {bv : Value} {so : Obj} {R : SA} (hlz : x.l.length - d = 0)
    (s4 : Sat W (SA.obj p (.cells (((sndCells x (.slice (some ⟨g, 0, none⟩) x.l.length cap)).setIfInBounds 5 (.slice (some ⟨q, 0, none⟩) 0 0)).setIfInBounds 3 (.int .u64 sq)) 57 (0, 0)) * (SA.obj q (.cells #[] 64 (0, 0)) * (bytesSeg bv [] * (SA.obj B so *
      (row 64 2 (.slice (some ⟨g, 0, none⟩) x.l.length cap) x.l.length (cellsOf pieceEnc x.l bs) * (bodiesOf pieceEl x.l bs * R))))))) :
    Sat W (senderAt p { x with acked := sq, l := x.l.drop d } * (bytesSeg bv [] * R)) := by
  have hdn : x.l.drop d = [] := List.drop_of_length_le (by omega)
  rw [hdn]
  have s6 := s4.x4.x4
  have s7 := s6.p4.right
  have s8 := s7.p2.made (n := 0) (sz := 2) rfl max0
  refine Sat.sender_open.2 ⟨.slice (some ⟨q, 0, none⟩) 0 0, [], rfl, ?_⟩
  rw [cellsOf_nil, bodiesOf_nil, SA.one_mul]
  exact s8.p2

set_option maxHeartbeats 8000000 in
set_option maxRecDepth 100000 in
theorem snd_hear1A (p : Nat) (x : Snd) (sq d : Nat) (bv : Value) (hr : right ⟨x.life, sq, true, []⟩ = true) (hsq : sq = x.acked + d) (hdl : d ≤ x.l.length) (hlen : x.l.length ≤ 4096) (hd : 0 < d) (w : World) (R : SA) (g cap : Nat) (bs : List Value) (hb : bs.length = x.l.length) (hc1 : x.l.length ≤ cap)
    (s : Sat w (SA.obj p (.cells (sndCells x (.slice (some ⟨g, 0, none⟩) x.l.length cap)) 57 (0, 0)) * (row 64 2 (.slice (some ⟨g, 0, none⟩) x.l.length cap) x.l.length (cellsOf pieceEnc x.l bs) * (bodiesOf pieceEl x.l bs * (bytesSeg bv [] * R))))) (hcap : cap = d) :
    Calls Try.prog 29 #[.pointer (some ⟨p, 0, none⟩), .agg #[.int .u64 x.life, .int .u64 sq, .bool true, bv]] w fun e w' => e = .returned (.int .i64 0) ∧ Later w w' ∧ Sat w' (senderAt p { x with acked := sq, l := x.l.drop d } * (bytesSeg bv [] * R)) := by
  obtain rfl : d = cap := hcap.symm
  have hone := pieceCells_one hb s.p3
  have s1 := s.alloc (.cells #[.int .u64 x.life, .int .u64 sq, .bool true, bv] 70)
  have Hr0 := right_calls ⟨x.life, sq, true, []⟩ bv _ _ s1.p5 hr
  dsimp only [segVal] at Hr0
  have Hr := Lib.hid Hr0
  have hq1 : decide (x.acked < sq) = true := by simp; omega
  have hw1 : IntKind.u64.wrap ((sq : Int) - (x.acked : Int)) = (d : Int) := by rw [wraps_u64 _ (by omega) (by omega)]; omega
  have hw2 : IntKind.u64.wrap (x.l.length : Int) = (x.l.length : Int) := by rw [wraps_u64 _ (by omega) (by omega)]
  have hq2 : decide (x.l.length < d) = false := by simp; omega
  have hq3 : (x.acked : Int) < (sq : Int) := by omega
  have Hone : RowKit.Hid (∀ u ∈ (cellsOf pieceEnc x.l bs).drop (d * 2), u.oneCell' = true) := Lib.hid fun v hv => hone v (List.mem_of_mem_drop hv)
  have hm1 : 0 + (x.l.length - d) ≤ maxLen := by unfold maxLen; omega
  have hm2 : (0 + (x.l.length - d)) * 32 ≤ 140737488355328 := by omega
  have Hsq := Lib.hid hsq
  clear Hr0 hr hone hsq
  go_enter Try.func29, Try.ntmps29
  go_wp2_with (go_at_call 43
               with_reducible refine Hr.out.mono ?_
               rintro e w1 ⟨rfl, l1, s2⟩
               have r0 : w1.cell? ⟨w.heap.size, 0, none⟩ = some (.int .u64 x.life) := s2.p2.cell 0
               have r1 : w1.cell? ⟨w.heap.size, 1, none⟩ = some (.int .u64 sq) := s2.p2.cell 1
               have r2 : w1.cell? ⟨w.heap.size, 2, none⟩ = some (.bool true) := s2.p2.cell 2
               have n0 : w1.cell? ⟨p, 0, none⟩ = some (.int .u64 x.life) := s2.p3.cell 0
               have n3 : w1.cell? ⟨p, 3, none⟩ = some (.int .u64 x.acked) := s2.p3.cell 3
               have n5 : w1.cell? ⟨p, 5, none⟩ = some (.slice (some ⟨g, 0, none⟩) x.l.length d) := s2.p3.cell 5
               have hpw : p < w1.heap.size := s2.p3.lt
               have hww : w.heap.size < w1.heap.size := s2.p2.lt)
  go_quiet (fail)
  rename Nat => qa
  go_wp2
  go_quiet (fail)
  rename Nat => qb
  go_wp2
  go_quiet (fail)
  go_wp2
  have hd1 : (0 : Int) ≤ (d : Int) := Int.natCast_nonneg d
  have hd2 : (d : Int) ≤ (x.l.length : Int) := by omega
  have s3 := ((s2.drewN qa).drewN qb).drewN nq
  have l3 : Later w (((w1.drewN qa).drewN qb).drewN nq) := (((((Later.refl w).alloc _).trans l1).drewN _).drewN _).drewN _
  generalize (((w1.drewN qa).drewN qb).drewN nq) = W at s3 l3 ⊢
  clear r0 r1 r2 n0 n3 n5 hpw hww s2 l1 qa qb nq
  generalize w.heap.size = B at s3 ⊢
  have r1 : W.cell? ⟨B, 1, none⟩ = some (.int .u64 sq) := s3.p2.cell 1
  have n3 : W.cell? ⟨p, 3, none⟩ = some (.int .u64 x.acked) := s3.p3.cell 3
  have n5 : W.cell? ⟨p, 5, none⟩ = some (.slice (some ⟨g, 0, none⟩) x.l.length d) := s3.p3.cell 5
  have hpw : p < W.heap.size := s3.p3.lt
  have hww : B < W.heap.size := s3.p2.lt
  have hlz : x.l.length - d = 0 := by omega
  have f5 : W.frozen? ⟨p, 5, none⟩ = false := s3.p3.free 5
  have f3 : W.frozen? ⟨p, 3, none⟩ = false := s3.p3.free 3
  have hpB : ¬ p = B := Ne.symm s3.p3.p3.ne
  have s4 := (((s3.p3.set 5 (.slice (some ⟨W.heap.size, 0, none⟩) 0 0)).set 3 (.int .u64 sq)).alloc (.cells #[] 64)).drew.p2
  rw [size_set, size_set] at s4
  have E := hear1_end0 hlz s4
  clear s4
  go_region_law (fail)
  all_goals
    go_wp2
    go_ret
    exact ⟨rfl, (((l3.setCell _ _).setCell _ _).alloc _).drew, E⟩

theorem snd_hear1 (p : Nat) (x : Snd) (sq d : Nat) (bv : Value) (hr : right ⟨x.life, sq, true, []⟩ = true) (hsq : sq = x.acked + d) (hd : 0 < d) (hdl : d ≤ x.l.length) (hlen : x.l.length ≤ 4096) (hacked : sq < 18446744073709551616) (w : World) (R : SA) (s : Sat w (senderAt p x * (bytesSeg bv [] * R))) :
    Calls Try.prog 29 #[.pointer (some ⟨p, 0, none⟩), .agg #[.int .u64 x.life, .int .u64 sq, .bool true, bv]] w fun e w' => e = .returned (.int .i64 0) ∧ Later w w' ∧ Sat w' (senderAt p { x with acked := sq, l := x.l.drop d } * (bytesSeg bv [] * R)) := by
  obtain ⟨lv, bs, hb, s⟩ := Sat.sender_open.1 s
  obtain ⟨g, cap, rfl, hc1, hc2⟩ := s.p2.row_some (by omega)
  by_cases hcap : cap = d
  · exact snd_hear1A p x sq d bv hr hsq hdl hlen hd w R g cap bs hb hc1 s hcap
  · exact snd_hear1B p x sq d bv hr hsq hdl hlen hacked hd w R g cap bs hb hc1 s hcap

end Go.Proofs.Ytbphbafmchhipaa
