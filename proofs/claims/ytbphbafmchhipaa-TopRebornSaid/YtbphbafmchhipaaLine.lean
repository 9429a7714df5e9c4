/-
  A line in memory; a segment is sent.
-/
import Derived.Test.YtbphbafmchhipaaRcvB
namespace Go.Proofs.Ytbphbafmchhipaa
open Go.RowKit Sea

def lineCells (px py pn : Nat) (ov : Value) : Array Value := #[.pointer (some ⟨px, 0, none⟩), .pointer (some ⟨py, 0, none⟩), .pointer (some ⟨pn, 0, none⟩), ov, .bool false]
/-- A line to which nothing bad happened. -/
def lineAt (a px py pn : Nat) (x : Snd) (y : Rcv) (net : List Pkt) (ap : Bool) (o : List B) : SA := SA.ex fun ov : Value =>
  SA.obj a (.cells (lineCells px py pn ov) 41 (0, 0)) * (senderAt px x * (rcvAt py y * (netAt pn net ap * outAt ov o)))
theorem Sat.line_open {w : World} {a px py pn : Nat} {x : Snd} {y : Rcv} {net : List Pkt} {ap : Bool} {o : List B} {R : SA} : Sat w (lineAt a px py pn x y net ap o * R) ↔ ∃ ov,
    Sat w (SA.obj a (.cells (lineCells px py pn ov) 41 (0, 0)) * (senderAt px x * (rcvAt py y * (netAt pn net ap * (outAt ov o * R))))) := by
  unfold lineAt
  rw [Sat.ex_mul_iff]
  simp only [SA.mul_assoc]

set_option maxHeartbeats 700000 in
set_option maxRecDepth 100000 in
theorem line_sends0 (a px py pn : Nat) (x : Snd) (y : Rcv) (net : List Pkt) (ap : Bool) (o : List B) (g : Seg) (bv : Value) (hg : Fit g) (w : World) (R : SA) (s : Sat w (lineAt a px py pn x y net ap o * (bytesSeg bv g.body * R))) :
    Calls Try.prog 27 #[.pointer (some ⟨a, 0, none⟩), segVal g bv, .int .i64 0] w fun e w' => e = .returned (.tuple #[]) ∧ Later w w' ∧ Sat w' (lineAt a px py pn x y (send ap net ⟨0, 1, segBytes g⟩) ap o * (bytesSeg bv g.body * R)) := by
  obtain ⟨ov, s⟩ := Sat.line_open.1 s
  have hlen := segBytes_length hg
  obtain ⟨life, seq, ack, body⟩ := g
  dsimp only at *
  have s1 := s.alloc (.cells #[.int .u64 life, .int .u64 seq, .bool ack, bv] 70)
  have Hb0 := bytes_calls ⟨life, seq, ack, body⟩ bv _ _ s1.p7 hg
  dsimp only [segVal] at Hb0
  have Hb := Lib.hid Hb0
  clear Hb0 hg
  unfold segVal
  dsimp only
  go_enter Try.func27, Try.ntmps27
  go_wp2_with (first
    | (go_at_call 36
       with_reducible refine Hb.out.mono ?_
       rintro e w1 ⟨v, rfl, l1, s2⟩
       obtain ⟨va, vc, rfl, _⟩ := (show Sat w1 (row _ _ _ _ _ * _) from s2).row_form
       have n2 : w1.cell? ⟨a, 2, none⟩ = some (.pointer (some ⟨pn, 0, none⟩)) := s2.p4.cell 2
       have Hs := Lib.hid (net_send0 pn net ap (segBytes ⟨life, seq, ack, body⟩) _ w1 _ ((s2.mono bytesRow_seg).p7) (by omega)))
    | (go_at_call 37
       with_reducible refine Hs.out.mono ?_
       rintro e w2 ⟨⟨k, rfl⟩, l2, s3⟩))
  go_end0
  refine ⟨rfl, (((Later.refl w).alloc _).trans l1).trans l2, Sat.line_open.2 ⟨ov, ?_⟩⟩
  exact (s3.x2.x3).eq (by ac_rfl)

set_option maxHeartbeats 700000 in
set_option maxRecDepth 100000 in
theorem line_sends1 (a px py pn : Nat) (x : Snd) (y : Rcv) (net : List Pkt) (ap : Bool) (o : List B) (g : Seg) (bv : Value) (hg : Fit g) (w : World) (R : SA) (s : Sat w (lineAt a px py pn x y net ap o * (bytesSeg bv g.body * R))) :
    Calls Try.prog 27 #[.pointer (some ⟨a, 0, none⟩), segVal g bv, .int .i64 1] w fun e w' => e = .returned (.tuple #[]) ∧ Later w w' ∧ Sat w' (lineAt a px py pn x y (send ap net ⟨1, 0, segBytes g⟩) ap o * (bytesSeg bv g.body * R)) := by
  obtain ⟨ov, s⟩ := Sat.line_open.1 s
  have hlen := segBytes_length hg
  obtain ⟨life, seq, ack, body⟩ := g
  dsimp only at *
  have s1 := s.alloc (.cells #[.int .u64 life, .int .u64 seq, .bool ack, bv] 70)
  have Hb0 := bytes_calls ⟨life, seq, ack, body⟩ bv _ _ s1.p7 hg
  dsimp only [segVal] at Hb0
  have Hb := Lib.hid Hb0
  clear Hb0 hg
  unfold segVal
  dsimp only
  go_enter Try.func27, Try.ntmps27
  go_wp2_with (first
    | (go_at_call 36
       with_reducible refine Hb.out.mono ?_
       rintro e w1 ⟨v, rfl, l1, s2⟩
       obtain ⟨va, vc, rfl, _⟩ := (show Sat w1 (row _ _ _ _ _ * _) from s2).row_form
       have n2 : w1.cell? ⟨a, 2, none⟩ = some (.pointer (some ⟨pn, 0, none⟩)) := s2.p4.cell 2
       have Hs := Lib.hid (net_send1 pn net ap (segBytes ⟨life, seq, ack, body⟩) _ w1 _ ((s2.mono bytesRow_seg).p7) (by omega)))
    | (go_at_call 37
       with_reducible refine Hs.out.mono ?_
       rintro e w2 ⟨⟨k, rfl⟩, l2, s3⟩))
  go_end0
  refine ⟨rfl, (((Later.refl w).alloc _).trans l1).trans l2, Sat.line_open.2 ⟨ov, ?_⟩⟩
  exact (s3.x2.x3).eq (by ac_rfl)

end Go.Proofs.Ytbphbafmchhipaa
