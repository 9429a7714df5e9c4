/-
  A packet comes to a line reborn, as the plain law has it.
-/
import Derived.Test.YtbphbafmchhipaaRebB
namespace Go.Proofs.Ytbphbafmchhipaa
open Go.RowKit Sea

/-- What a line reborn is behind one packet. -/
def RebStep (x : Snd) (y : Rcv) (rest : List Pkt) (ap : Bool) (o3 o4 : List B) (s : Seg) (x' : Snd) (y' : Rcv) (net' : List Pkt) (o3' o4' : List B) : Prop :=
  if s.ack then x' = (x.hear s).1 ∧ y' = y ∧ net' = rest ∧ o3' = o3 ∧ o4' = o4
  else if s.life < y.life then x' = x ∧ y' = y ∧ net' = rest ∧ o3' = o3 ∧ o4' = o4
  else x' = x ∧ y' = (y.hear s).1 ∧ net' = send ap rest ⟨1, 0, segBytes (y.hear s).2.2.1⟩ ∧ o3' = (if s.life = 4 then o3 else o3 ++ (y.hear s).2.1) ∧ o4' = (if s.life = 4 then o4 ++ (y.hear s).2.1 else o4)

theorem outs_len {L1 L2 : List B} {v : Nat} {x : Snd} {y : Rcv} {net : List Pkt} {o3 o4 : List B} (h : Inv L1 L2 v x y net o3 o4) : o3.length ≤ 20 ∧ o4.length ≤ 20 := by
  have h1 := h.len1
  have h2 := h.len2
  have h3 := lof_len h y.life
  rcases h.outs with ⟨_, q2, g, q3⟩ | ⟨_, q2, q3⟩
  · rw [q2, q3, List.length_take, List.length_take]
    omega
  · rw [q2, q3, List.length_take]
    simp
    omega

theorem reb_comes (L1 L2 : List B) (r a px py pn : Nat) (x : Snd) (y : Rcv) (net : List Pkt) (ap : Bool) (o3 o4 : List B) (h : Inv L1 L2 4 x y net o3 o4) (hfew : net.length ≤ 256) (j : Nat) (p : Pkt) (hp : net[j]? = some p) (s : Seg) (hs : IsPiece L1 L2 4 p s ∨ IsAck y p s)
    (w : World) (R : SA) (sw : Sat w (rebAt r a px py pn x y net ap o3 o4 * R)) :
    Calls Try.prog 14 #[.pointer (some ⟨r, 0, none⟩), .int .i64 j] w fun e w' => e = .returned (.bool true) ∧ Later w w' ∧ ∃ x' y' net' o3' o4', RebStep x y (net.eraseIdx j) ap o3 o4 s x' y' net' o3' o4' ∧ Sat w' (rebAt r a px py pn x' y' net' ap o3' o4' * R) := by
  obtain ⟨q1, q2, q3, q4, q5, q6⟩ := inv_now h
  obtain ⟨ol3, ol4⟩ := outs_len h
  rcases hs with hg | hg
  · have hf := piece_fit h hg
    have hh := h.pieceHeard hg
    obtain ⟨e1, e2, e3, e4, e5, e6, e7, e8⟩ := hg
    obtain ⟨life, seq, ack, body⟩ := s
    obtain ⟨src, dst, pb⟩ := p
    dsimp only at *
    subst e1 e2 e3 e4
    have hyl := h.ylife
    have hy3 : y.m.length ≤ 4096 := by
      obtain ⟨ov4, ov3, s⟩ := Sat.reb_open.1 sw
      exact rcv_few h.rinv (by have := lof_len h y.life; omega) s.p4
    have hs8 : seq ≤ 20 := by
      have := (List.getElem?_eq_some_iff.1 e8).1
      have := lof_len h life
      omega
    rcases hh with ⟨c, _⟩ | ⟨c, y', l, A, ey, ey1, ea, ea1, ea2, inv', _, _⟩
    · refine (reb_old r a px py pn x y net ap o3 o4 j life seq body hp (by omega) hf (by omega) (by omega) w R sw).mono fun e w' hw => ⟨hw.1, hw.2.1, x, y, _, o3, o4, ?_, hw.2.2⟩
      unfold RebStep
      rw [if_neg (by simp), if_pos c]
      exact ⟨rfl, rfl, rfl, rfl, rfl⟩
    · obtain ⟨oi3, oi4⟩ := outs_len inv'
      have haf := ack_fit ea
      obtain ⟨al, aq, aa, ab⟩ := A
      obtain ⟨_, _, _, ea4, ea5, _⟩ := ea
      dsimp only at *
      subst ea4 ea5
      rcases e5 with hl | hl
      · have hlen : o3.length + (y.hear ⟨life, seq, false, body⟩).2.1.length ≤ 4096 := by
          rw [ey]
          rw [if_neg (by omega), List.length_append] at oi3
          dsimp only
          omega
        refine (reb_elder r a px py pn x y net ap o3 o4 j life seq body hp (by omega) hf hl (by omega) (by omega) (by omega) (by omega) (by omega) hy3 al aq (by rw [ey]) haf hlen w R sw).mono fun e w' hw => ⟨hw.1, hw.2.1, x, _, _, _, _, ?_, hw.2.2⟩
        unfold RebStep
        rw [if_neg (by simp), if_neg (by dsimp only; omega)]
        dsimp only
        rw [if_neg (by omega), if_neg (by omega), ey]
        exact ⟨rfl, rfl, rfl, rfl, rfl⟩
      · have hlen : o4.length + (y.hear ⟨life, seq, false, body⟩).2.1.length ≤ 4096 := by
          rw [ey]
          rw [if_pos hl, List.length_append] at oi4
          dsimp only
          omega
        refine (reb_new r a px py pn x y net ap o3 o4 j life seq body hp (by omega) hf hl (by omega) (by omega) (by omega) (by omega) hy3 al aq (by rw [ey]) haf hlen w R sw).mono fun e w' hw => ⟨hw.1, hw.2.1, x, _, _, _, _, ?_, hw.2.2⟩
        unfold RebStep
        rw [if_neg (by simp), if_neg (by dsimp only; omega)]
        dsimp only
        rw [if_pos hl, if_pos hl, ey]
        exact ⟨rfl, rfl, rfl, rfl, rfl⟩
  · have hf := ack_fit hg
    have hh := h.ackHeard hg
    obtain ⟨e1, e2, e3, e4, e5, e6, e7, e8, e9⟩ := hg
    obtain ⟨life, seq, ack, body⟩ := s
    obtain ⟨src, dst, pb⟩ := p
    dsimp only at *
    subst e1 e2 e3 e4 e5
    have hyl := h.ylife
    have hxl := h.xlife
    have hok : life = x.life → seq ≤ x.acked + x.l.length := by
      intro hl
      have := h.acked
      have hgot := h.rinv.got
      have h9 := e9 (by omega)
      rw [show y.life = 4 from by omega] at hgot
      omega
    have key : ∃ f, (x.hear ⟨life, seq, true, []⟩).2 = f ∧ (life = 4 ∧ f = 0 ∨ life = 3 ∧ f = 70) := by
      rcases hh with ⟨c, c2⟩ | ⟨c, c0, _⟩
      · exact ⟨70, by rw [c2], .inr ⟨by omega, rfl⟩⟩
      · exact ⟨0, c0, .inl ⟨c, rfl⟩⟩
    obtain ⟨f, h0, hlf⟩ := key
    refine (reb_ack r a px py pn x y net ap o3 o4 j life seq hp (by omega) hf (by omega) hok f h0 hlf w R sw).mono fun e w' hw => ⟨hw.1, hw.2.1, _, y, _, o3, o4, ?_, hw.2.2⟩
    unfold RebStep
    rw [if_pos rfl]
    exact ⟨rfl, rfl, rfl, rfl, rfl⟩

/-- .. what holds goes on holding. -/
theorem RebStep.inv {L1 L2 : List B} {x : Snd} {y : Rcv} {net : List Pkt} {ap : Bool} {o3 o4 : List B} (h : Inv L1 L2 4 x y net o3 o4) {j : Nat} {p : Pkt} (hfew : net.length ≤ 256) {s : Seg} (hs : IsPiece L1 L2 4 p s ∨ IsAck y p s) {x' : Snd} {y' : Rcv} {net' : List Pkt} {o3' o4' : List B}
    (st : RebStep x y (net.eraseIdx j) ap o3 o4 s x' y' net' o3' o4') : Inv L1 L2 4 x' y' net' o3' o4' ∧ net'.length ≤ 256 ∧ x'.now = x.now ∧ x'.span = x.span ∧ x'.window = x.window := by
  have h' := h.sub (net' := net.eraseIdx j) mem_erase_sub
  have hl : (net.eraseIdx j).length ≤ 256 := Nat.le_trans erase_length hfew
  unfold RebStep at st
  rcases hs with hg | hg
  · have hh := h'.pieceHeard hg
    rw [if_neg (by rw [hg.2.2.2.1]; simp)] at st
    rcases hh with ⟨c, _⟩ | ⟨c, y1, l, A, ey, ey1, ea, ea1, ea2, inv', _, _⟩
    · rw [if_pos c] at st
      obtain ⟨rfl, rfl, rfl, rfl, rfl⟩ := st
      exact ⟨h', hl, rfl, rfl, rfl⟩
    · rw [if_neg (by omega), ey] at st
      obtain ⟨rfl, rfl, rfl, rfl, rfl⟩ := st
      refine ⟨?_, send_few hl, rfl, rfl, rfl⟩
      unfold Sea.send
      split
      · exact inv'.sub fun q hq => List.mem_append_left _ hq
      · exact inv'
  · have hh := h'.ackHeard hg
    rw [if_pos (by rw [hg.2.2.2.1])] at st
    obtain ⟨rfl, rfl, rfl, rfl, rfl⟩ := st
    rcases hh with ⟨c, c2⟩ | ⟨c, c0, inv', _, _, c3, c4, c5⟩
    · rw [c2]; exact ⟨h', hl, rfl, rfl, rfl⟩
    · exact ⟨inv', hl, c3, c4, c5⟩

end Go.Proofs.Ytbphbafmchhipaa
