/-
  A net in memory, and its calls.
-/
import Derived.Test.YtbphbafmchhipaaFrmC
import Derived.Test.YtbphbafmchhipaaSeb
import Derived.Deep.RegionLaw
namespace Go.Proofs.Ytbphbafmchhipaa
open Go.RowKit Sea

theorem info_pkt : (Try.prog.info? 59).map (fun i => (i.zero, i.size, i.bytes)) = some (some (.agg #[.int .i64 0, .int .i64 0, .slice none 0 0]), 3, 40) := by kernel_rfl

def pktEnc (p : Pkt) (b : Value) : List Value := [.int .i64 p.src, .int .i64 p.dst, b]
def pktEl (p : Pkt) (b : Value) : SA := bytesRow b p.body
theorem pktEnc_length (p : Pkt) (b : Value) : (pktEnc p b).length = 3 := rfl
/-- A net of two nodes: its packets; whether the two are parted. -/
def netAt (n : Nat) (l : List Pkt) (apart : Bool) : SA := SA.ex fun c : Array Value => SA.ex fun lv : Value =>
  SA.lift (c.size = 146 ∧ c[0]? = some (.int .i64 2) ∧ c[1]? = some lv ∧ c[3]? = some (.bool apart) ∧ c[14]? = some (.bool apart)) *
    (SA.obj n (.cells c 75 (0, 0)) * recs pktEnc pktEl 59 3 lv l)
theorem Sat.net_open {w : World} {n : Nat} {l : List Pkt} {apart : Bool} {R : SA} : Sat w (netAt n l apart * R) ↔ ∃ (c : Array Value) (lv : Value) (bs : List Value),
    (c.size = 146 ∧ c[0]? = some (.int .i64 2) ∧ c[1]? = some lv ∧ c[3]? = some (.bool apart) ∧ c[14]? = some (.bool apart)) ∧ bs.length = l.length ∧
    Sat w (SA.obj n (.cells c 75 (0, 0)) * (row 59 3 lv l.length (cellsOf pktEnc l bs) * (bodiesOf pktEl l bs * R))) := by
  unfold netAt
  rw [Sat.ex_mul_iff]
  constructor
  · rintro ⟨c, s⟩
    obtain ⟨lv, s⟩ := Sat.ex_mul_iff.1 s
    rw [SA.mul_assoc, Sat.lift_iff, SA.mul_assoc] at s
    obtain ⟨bs, h, s2⟩ := Sat.recs_open.1 s.2.p2
    exact ⟨c, lv, bs, s.1, h, s2.p3⟩
  · rintro ⟨c, lv, bs, h, hb, s⟩
    refine ⟨c, Sat.ex_mul_iff.2 ⟨lv, ?_⟩⟩
    rw [SA.mul_assoc, Sat.lift_iff, SA.mul_assoc]
    exact ⟨h, (Sat.recs_open.2 ⟨bs, hb, s.p3.p3⟩).p2⟩

theorem net_len (n : Nat) (l : List Pkt) (apart : Bool) (w : World) (R : SA) (s : Sat w (netAt n l apart * R)) :
    Calls Try.prog 13 #[.pointer (some ⟨n, 0, none⟩)] w fun e w' => e = .returned (.int .i64 l.length) ∧ w = w' := by
  obtain ⟨c, lv, bs, ⟨_, _, h1, _, _⟩, hb, s⟩ := Sat.net_open.1 s
  obtain ⟨a, cap, rfl, _⟩ := s.p2.row_form
  have h1 : w.cell? ⟨n, 1, none⟩ = some (.slice a l.length cap) := (s.cell 1).trans h1
  clear s
  go_enter Try.func13, Try.ntmps13
  go_wp2
  go_ret
  exact ⟨rfl, rfl⟩

theorem net_is (n a : Nat) (ha : a = 0 ∨ a = 1) (w : World) (h0 : w.cell? ⟨n, 0, none⟩ = some (.int .i64 2)) :
    Calls Try.prog 35 #[.pointer (some ⟨n, 0, none⟩), .int .i64 a] w fun e w' => e = .returned (.bool true) ∧ w = w' := by
  have h1 : (0 : Int) ≤ (a : Int) := Int.natCast_nonneg a
  have h2 : (a : Int) < 2 := by omega
  clear ha
  go_enter Try.func35, Try.ntmps35
  go_wp2
  go_ret
  exact ⟨rfl, rfl⟩

theorem net_there (n : Nat) (l : List Pkt) (apart : Bool) (i : Nat) (w : World) (R : SA) (s : Sat w (netAt n l apart * R)) :
    Calls Try.prog 32 #[.pointer (some ⟨n, 0, none⟩), .int .i64 i] w fun e w' => e = .returned (.bool (decide (i < l.length))) ∧ w = w' := by
  obtain ⟨c, lv, bs, ⟨_, _, h1, _, _⟩, hb, s⟩ := Sat.net_open.1 s
  obtain ⟨a, cap, rfl, _⟩ := s.p2.row_form
  have h1 : w.cell? ⟨n, 1, none⟩ = some (.slice a l.length cap) := (s.cell 1).trans h1
  have h2 : (0 : Int) ≤ (i : Int) := Int.natCast_nonneg i
  clear s
  go_enter Try.func32, Try.ntmps32
  go_wp2
  go_ret
  refine ⟨?_, rfl⟩
  simp

def netZero : Array Value := #[.int .i64 0, .slice none 0 0] ++ Array.replicate 144 (.bool false)
theorem zero_net (w : World) : (zeroValue 75).run Try.prog w = .ok (.agg netZero) w := by kernel_rfl
theorem netZero_ne : ¬ netZero = #[] := fun h => by
  have := congrArg Array.size h
  simp [netZero] at this

set_option maxRecDepth 100000 in
theorem net_new (w : World) (R : SA) (s : Sat w R) :
    Calls Try.prog 18 #[.int .i64 2] w fun e w' => ∃ n, e = .returned (.tuple #[.pointer (some ⟨n, 0, none⟩), .int .i64 0]) ∧ Later w w' ∧ Sat w' (netAt n [] false * R) := by
  have hbn := zero_net
  have hne := netZero_ne
  go_enter Try.func18, Try.ntmps18
  go_wp2
  go_ret2
  refine ⟨_, rfl, (Later.refl w).alloc _, Sat.net_open.2 ⟨netZero.setIfInBounds 0 (.int .i64 2), .slice none 0 0, [], ?_, rfl, ?_⟩⟩
  rotate_left
  · rw [List.length_nil, cellsOf_nil, row_nil, SA.one_mul, bodiesOf_nil, SA.one_mul]
    exact s.alloc _
  · refine ⟨?_, ?_, ?_, ?_, ?_⟩ <;> simp [netZero]

def pktVal (p : Pkt) (b : Value) : Value := .agg #[.int .i64 p.src, .int .i64 p.dst, b]

/-- A packet in new memory. -/
theorem net_ownX (p : Pkt) (bv : Value) (X : SA) (hX : ∀ h, X h → bytesSeg bv p.body h) (w : World) (R : SA) (s : Sat w (X * R)) (hb : p.body.length ≤ 4096) :
    Calls Try.prog 34 #[pktVal p bv] w fun e w' => ∃ a c, e = .returned (pktVal p (.slice a p.body.length c)) ∧ Later w w' ∧ Sat w' (bytesRow (.slice a p.body.length c) p.body * (X * R)) := by
  obtain ⟨a, cap, rfl, h1, h2, _⟩ := (s.mono hX).seg_form
  obtain ⟨src, dst, body⟩ := p
  dsimp only at *
  unfold pktVal
  dsimp only
  have hm1 : 0 + body.length ≤ maxLen := by unfold maxLen; omega
  have hm2 : (0 + body.length) * 1 ≤ 140737488355328 := by omega
  have s1 := (s.alloc (.cells #[.int .i64 src, .int .i64 dst, .slice a body.length cap] 59)).alloc (.cells #[.int .i64 0, .int .i64 0, .slice none 0 0] 59)
  have s2 := s1.alloc (.cells #[] 5)
  rw [alloc_size, alloc_size] at s2
  go_enter Try.func34, Try.ntmps34
  go_wp2_with (first
    | (refine wpList_append (by rfl) _ _ _ (by rfl) 5 1 1 info_u8 Try.underlying25 (by rfl) (by omega) 0 body.length [] (bts body) (by rfl) (by rfl) (s2.made (n := 0) (sz := 1) rfl max0) (s2.p4.left.imp hX) (bts_one _) hm1 hm2 ?_
       intro a1 c1 w1 s3 l1
       simp only [Nat.zero_add, List.nil_append] at s3
       have r0 : w1.cell? ⟨w.heap.size, 0, none⟩ = some (.int .i64 src) := s3.p3.cell 0
       have r1 : w1.cell? ⟨w.heap.size, 1, none⟩ = some (.int .i64 dst) := s3.p3.cell 1
       have r2 : w1.cell? ⟨w.heap.size, 2, none⟩ = some (.slice a body.length cap) := s3.p3.cell 2
       have q2 : w1.frozen? ⟨w.heap.size, 2, none⟩ = false := s3.p3.free 2
       have t0 : w1.cell? ⟨w.heap.size + 1, 0, none⟩ = some (.int .i64 0) := s3.p2.cell 0
       have t1 : w1.cell? ⟨w.heap.size + 1, 1, none⟩ = some (.int .i64 0) := s3.p2.cell 1
       have t2 : w1.cell? ⟨w.heap.size + 1, 2, none⟩ = some (.slice none 0 0) := s3.p2.cell 2
       have u0 : w1.frozen? ⟨w.heap.size + 1, 0, none⟩ = false := s3.p2.free 0
       have u1 : w1.frozen? ⟨w.heap.size + 1, 1, none⟩ = false := s3.p2.free 1
       have u2 : w1.frozen? ⟨w.heap.size + 1, 2, none⟩ = false := s3.p2.free 2))
  refine bodyPost_ret (v := .agg #[.int .i64 src, .int .i64 dst, .slice a1 body.length c1]) (by simp [results, Try.results34, go_sem, t0, t1, t2]) rfl ⟨a1, c1, rfl, ((((((((Later.refl w).alloc _).alloc _).alloc _).trans l1).setCell _ _).setCell _ _).setCell _ _).setCell _ _, ?_⟩
  have s4 := ((s3.p3.set 2 (.slice a1 body.length c1)).p3.set 0 (.int .i64 src)).set 1 (.int .i64 dst)
  exact ((s4.set 2 (.slice a1 body.length c1)).right.right).eq rfl

theorem net_own (p : Pkt) (bv : Value) (w : World) (R : SA) (s : Sat w (bytesSeg bv p.body * R)) (hb : p.body.length ≤ 4096) :
    Calls Try.prog 34 #[pktVal p bv] w fun e w' => ∃ a c, e = .returned (pktVal p (.slice a p.body.length c)) ∧ Later w w' ∧ Sat w' (bytesRow (.slice a p.body.length c) p.body * (bytesSeg bv p.body * R)) :=
  net_ownX p bv _ (fun _ h => h) w R s hb

end Go.Proofs.Ytbphbafmchhipaa
