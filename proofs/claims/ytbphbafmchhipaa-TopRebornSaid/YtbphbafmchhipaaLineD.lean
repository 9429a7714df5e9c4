/-
  A packet of a line comes, as the plain law has it; turned bits.
-/
import Derived.Test.YtbphbafmchhipaaLineC
import Derived.Test.YtbphbafmchhipaaSec
namespace Go.Proofs.Ytbphbafmchhipaa
open Go.RowKit Sea

theorem inv_now {L1 L2 : List B} {v : Nat} {x : Snd} {y : Rcv} {net : List Pkt} {o3 o4 : List B} (h : Inv L1 L2 v x y net o3 o4) : x.l.length ≤ 20 ∧ x.acked ≤ 20 ∧ (∀ q ∈ x.l, q.1.length ≤ 4096 ∧ q.2 ≤ x.now) ∧ y.got ≤ 20 ∧ y.window = 8 ∧ (∀ g ∈ x.tick.2, Fit g) := by
  have hl := lof_len h v
  have ha := h.acked
  have hg := h.rinv.got
  have hl2 := lof_len h y.life
  refine ⟨by omega, by omega, fun q hq => ?_, by omega, h.ywin, fun g hg => piece_fit h (tick_pieces h hg)⟩
  obtain ⟨i, hi⟩ := List.mem_iff_getElem?.1 hq
  obtain ⟨b1, b2⟩ := h.bodies i q hi
  have := h.big v q.1 (List.mem_of_getElem? b1)
  exact ⟨by omega, b2⟩
theorem nodup_le : ∀ (n : Nat) (l : List Nat), l.Nodup → (∀ k ∈ l, 1 ≤ k ∧ k ≤ n) → l.length ≤ n
  | 0, l, _, h => by
    cases l with
    | nil => simp
    | cons k l => have := h k List.mem_cons_self; omega
  | n + 1, l, hn, h => by
    have ih := nodup_le n (l.erase (n + 1)) (hn.erase _) (fun k hk => by
      have hk' := (hn.mem_erase_iff).1 hk
      have := h k hk'.2
      omega)
    have : (l.erase (n + 1)).length ≥ l.length - 1 := by
      rw [List.length_erase]
      split <;> omega
    omega
theorem nodup_bound {L : List B} {y : Rcv} (h : RInv L y) (hn : (y.m.map (·.1)).Nodup) : y.m.length ≤ L.length := by
  have := nodup_le L.length (y.m.map (·.1)) hn fun k hk => by
    obtain ⟨⟨k', b⟩, hp, rfl⟩ := List.mem_map.1 hk
    have := h.m k' b hp
    dsimp only
    omega
  simpa using this
theorem rcv_few {w : World} {p : Nat} {y : Rcv} {L : List B} {R : SA} (h : RInv L y) (hL : L.length ≤ 4096) (s : Sat w (rcvAt p y * R)) : y.m.length ≤ 4096 := by
  obtain ⟨mb, bs, hb, s⟩ := Sat.rcv_open.1 s
  obtain ⟨_, _, _, _, hn, _⟩ := Sat.map_open.1 s.p2
  have := nodup_bound h (nodup_keys hb hn)
  omega
theorem send_few {ap : Bool} {l : List Pkt} {p : Pkt} (h : l.length ≤ 256) : (send ap l p).length ≤ 256 := by
  unfold Sea.send
  split
  · exact h
  · simp; omega

/-- What a line is behind something that happened. -/
def LineNow (L1 L2 : List B) (a px py pn : Nat) (n : Nat) (R : SA) (w w' : World) : Prop := Later w w' ∧ ∃ x y net ap o, Inv L1 L2 3 x y net o [] ∧ net.length ≤ 256 ∧ x.now ≤ n ∧ Sat w' (lineAt a px py pn x y net ap o * R)

theorem line_comes (L1 L2 : List B) (a px py pn : Nat) (x : Snd) (y : Rcv) (net net0 : List Pkt) (ap : Bool) (o : List B) (h : Inv L1 L2 3 x y net0 o []) (hsub : ∀ q ∈ net, q ∈ net0) (hfew : net.length ≤ 256) (p : Pkt) (hp : p ∈ net0) (bv : Value) (w : World) (R : SA) (s : Sat w (lineAt a px py pn x y net ap o * (bytesSeg bv p.body * R))) :
    Calls Try.prog 20 #[.pointer (some ⟨a, 0, none⟩), pktVal p bv, .bool false] w fun e w' => e = .returned (.tuple #[]) ∧ LineNow L1 L2 a px py pn x.now R w w' := by
  have h' := h.sub hsub
  obtain ⟨q1, q2, q3, q4, q5, q6⟩ := inv_now h
  obtain ⟨g, hg | hg⟩ := h.pk p hp
  · have hf := piece_fit h hg
    have hh := h'.pieceHeard hg
    obtain ⟨e1, e2, e3, e4, e5, e6, e7, e8⟩ := hg
    obtain ⟨life, seq, ack, body⟩ := g
    obtain ⟨src, dst, pb⟩ := p
    dsimp only at *
    subst e1 e2 e3 e4
    have hyl := h.ylife
    rcases hh with ⟨c, _⟩ | ⟨c, y', l, A, ey, ey1, ea, ea1, ea2, inv', _, _⟩
    · omega
    · have hlen : o.length + l.length ≤ 4096 := by
        have hi := inv'.outs
        have hl3 := lof_len h 3
        rw [if_neg (by omega), if_neg (by omega)] at hi
        rcases hi with ⟨c4, _⟩ | ⟨_, _, c5⟩
        · omega
        · have := congrArg List.length c5
          rw [List.length_append, List.length_take] at this
          have := lof_len h y'.life
          omega
      have haf := ack_fit ea
      obtain ⟨al, aq, aa, ab⟩ := A
      obtain ⟨_, _, _, ea4, ea5, _⟩ := ea
      dsimp only at *
      subst ea4 ea5
      have hy3 : y.m.length ≤ 4096 := by
        obtain ⟨ov, s⟩ := Sat.line_open.1 s
        exact rcv_few h.rinv (by have := lof_len h y.life; omega) s.p3
      have hs8 : seq ≤ 20 := by
        have := (List.getElem?_eq_some_iff.1 e8).1
        have := lof_len h life
        omega
      have hc := line_piece a px py pn x y net ap o life seq body bv hf (by omega) (by omega) (by omega) (by omega) hy3 al aq (by rw [ey]) haf (by rw [ey]; exact hlen) w R s
      rw [ey] at hc
      refine hc.mono fun e w' hw => ⟨hw.1, hw.2.1, x, y', _, ap, o ++ l, ?_, send_few hfew, Nat.le_refl _, hw.2.2⟩
      rw [if_neg (by omega), if_neg (by omega)] at inv'
      unfold Sea.send
      split
      · exact inv'.sub fun q hq => List.mem_append_left _ hq
      · exact inv'
  · have hf := ack_fit hg
    have hh := h'.ackHeard hg
    obtain ⟨e1, e2, e3, e4, e5, e6, e7, e8, e9⟩ := hg
    obtain ⟨life, seq, ack, body⟩ := g
    obtain ⟨src, dst, pb⟩ := p
    dsimp only at *
    subst e1 e2 e3 e4 e5
    have hyl := h.ylife
    rcases hh with ⟨c, _⟩ | ⟨c, c0, inv', _, _, c3, _, _⟩
    · omega
    · have hok : life = x.life → seq ≤ x.acked + x.l.length := by
        intro _
        have := h.acked
        have hgot := h.rinv.got
        have h9 := e9 (by omega)
        rw [show y.life = 3 from by omega] at hgot
        omega
      refine (line_ack a px py pn x y net ap o life seq bv hf (by omega) hok c0 w R s).mono fun e w' hw => ⟨hw.1, hw.2.1, _, y, net, ap, o, inv', hfew, by rw [c3]; exact Nat.le_refl _, hw.2.2⟩

theorem turned_21 {g : Seg} (h : Fit g) (i : Nat) (hi : 6 ≤ i) (hl : i < (segBytes g).length) (c : UInt8) (hc : c ≠ (segBytes g).getD i 0) : frameGet ((segBytes g).set i c) = .error 21 := by
  have hb := segBody_length h
  unfold segBytes at *
  rw [framePut_length] at hl
  exact frameGet_turned _ _ (by omega) i hi hl c hc
theorem Sat.bytes_set {w : World} {g n cap : Nat} {l : B} {R : SA} (s : Sat w (bytesRow (.slice (some ⟨g, 0, none⟩) n cap) l * R)) (hn : l.length = n) (j : Nat) (hj : j < l.length) (c : UInt8) :
    Sat (w.setCell ⟨g, j, none⟩ (.int .u8 (c.toNat : Int))) (bytesRow (.slice (some ⟨g, 0, none⟩) n cap) (l.set j c) * R) := by
  subst hn
  have s' := Sat.row_set s j (by omega) (.int .u8 (c.toNat : Int))
  refine s'.eq ?_
  unfold bytesRow
  have e : (bts l).set j (.int .u8 (c.toNat : Int)) = bts (l.set j c) := by unfold bts; rw [List.map_set]
  rw [e, List.length_set]

end Go.Proofs.Ytbphbafmchhipaa
