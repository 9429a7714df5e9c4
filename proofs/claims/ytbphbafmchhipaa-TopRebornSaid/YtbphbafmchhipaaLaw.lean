/-
  The plain law's ends: how a line begins, how its sender turns; a packet that comes to a line, step by step; rounds.
-/
import Derived.Test.YtbphbafmchhipaaRebD
namespace Go.Proofs.Ytbphbafmchhipaa
open Go.RowKit Sea

theorem inv_start (L1 L2 : List B) (h1 : L1.length ≤ 20) (h2 : L2.length ≤ 20) (hb1 : ∀ b ∈ L1, b.length ≤ 1000) (hb2 : ∀ b ∈ L2, b.length ≤ 1000) {W S : Nat} (hW : 1 ≤ W ∧ W ≤ 8) (hS : 1 ≤ S ∧ S ≤ 4) : Inv L1 L2 3 ⟨3, W, S, 0, 0, L1.map (fun b => (b, 0))⟩ ⟨8, 0, 0, []⟩ [] [] [] :=
  { len1 := h1
    len2 := h2
    big := fun l b hb => by
      unfold lof at hb
      split at hb
      · exact hb1 b hb
      · split at hb
        · exact hb2 b hb
        · cases hb
    v34 := .inl rfl
    xlife := rfl
    win := hW
    span := hS
    acked := by simp [lof]
    bodies := fun i p hp => by
      simp only [List.getElem?_map] at hp
      obtain ⟨b, hb, rfl⟩ := Option.map_eq_some_iff.1 hp
      refine ⟨?_, Nat.le_refl _⟩
      show L1[0 + i]? = some b
      rw [Nat.zero_add]
      exact hb
    ywin := rfl
    ylife := ⟨.inl rfl, by simp⟩
    rinv := ⟨Nat.zero_le _, fun k b hkb => by cases hkb⟩
    sync := ⟨(fun e => by simp at e), fun _ => rfl⟩
    pk := fun p hp => by cases hp
    outs := .inr ⟨by simp, rfl, by simp [lof]⟩ }
theorem inv_turn {L1 L2 : List B} {x : Snd} {y : Rcv} {net : List Pkt} {o3 : List B} (h : Inv L1 L2 3 x y net o3 []) {W S : Nat} (hW : 1 ≤ W ∧ W ≤ 8) (hS : 1 ≤ S ∧ S ≤ 4) : Inv L1 L2 4 ⟨4, W, S, 0, 0, L2.map (fun b => (b, 0))⟩ y net o3 [] := by
  have hy := h.ylife
  exact
  { len1 := h.len1
    len2 := h.len2
    big := h.big
    v34 := .inr rfl
    xlife := rfl
    win := hW
    span := hS
    acked := by simp [lof]
    bodies := fun i p hp => by
      simp only [List.getElem?_map] at hp
      obtain ⟨b, hb, rfl⟩ := Option.map_eq_some_iff.1 hp
      refine ⟨?_, Nat.le_refl _⟩
      show L2[0 + i]? = some b
      rw [Nat.zero_add]
      exact hb
    ywin := h.ywin
    ylife := ⟨hy.1, by omega⟩
    rinv := h.rinv
    sync := ⟨(fun e => by omega), fun _ => rfl⟩
    pk := fun p hp => by
      obtain ⟨s, hs | hs⟩ := h.pk p hp
      · obtain ⟨a1, a2, a3, a4, a5, a6, a7, a8⟩ := hs
        exact ⟨s, .inl ⟨a1, a2, a3, a4, a5, by omega, a7, a8⟩⟩
      · exact ⟨s, .inr hs⟩
    outs := by
      rcases h.outs with ⟨q, _⟩ | q
      · omega
      · exact .inr q }

/-- What a line is behind one packet. -/
def LineStep (x : Snd) (y : Rcv) (rest : List Pkt) (ap : Bool) (o : List B) (s : Seg) (x' : Snd) (y' : Rcv) (net' : List Pkt) (o' : List B) : Prop :=
  if s.ack then x' = (x.hear s).1 ∧ y' = y ∧ net' = rest ∧ o' = o
  else x' = x ∧ y' = (y.hear s).1 ∧ net' = send ap rest ⟨1, 0, segBytes (y.hear s).2.2.1⟩ ∧ o' = o ++ (y.hear s).2.1

theorem line_step (L1 L2 : List B) (a px py pn : Nat) (x : Snd) (y : Rcv) (net net0 : List Pkt) (ap : Bool) (o : List B) (h : Inv L1 L2 3 x y net0 o []) (hsub : ∀ q ∈ net, q ∈ net0) (p : Pkt) (g : Seg) (hg : IsPiece L1 L2 3 p g ∨ IsAck y p g) (bv : Value) (w : World) (R : SA) (s : Sat w (lineAt a px py pn x y net ap o * (bytesSeg bv p.body * R))) :
    Calls Try.prog 20 #[.pointer (some ⟨a, 0, none⟩), pktVal p bv, .bool false] w fun e w' => e = .returned (.tuple #[]) ∧ Later w w' ∧ ∃ x' y' net' o', LineStep x y net ap o g x' y' net' o' ∧ Sat w' (lineAt a px py pn x' y' net' ap o' * R) := by
  have h' := h.sub hsub
  obtain ⟨q1, q2, q3, q4, q5, q6⟩ := inv_now h
  rcases hg with hg | hg
  · have hf := piece_fit h hg
    have hh := h'.pieceHeard hg
    obtain ⟨e1, e2, e3, e4, e5, e6, e7, e8⟩ := hg
    obtain ⟨life, seq, ack, body⟩ := g
    obtain ⟨src, dst, pb⟩ := p
    dsimp only at *
    subst e1 e2 e3 e4
    have hyl := h.ylife
    rcases hh with ⟨c, _⟩ | ⟨c, y', l, A, ey, ey1, ea, ea1, ea2, inv', _, _⟩
    · omega
    · have hlen : o.length + l.length ≤ 4096 := by
        have hi := outs_len inv'
        rw [if_neg (by omega), List.length_append] at hi
        omega
      have haf := ack_fit ea
      obtain ⟨al, aq, aa, ab⟩ := A
      obtain ⟨_, _, _, ea4, ea5, _⟩ := ea
      dsimp only at *
      subst ea4 ea5
      have hy3 : y.m.length ≤ 4096 := by
        obtain ⟨ov, s⟩ := Sat.line_open.1 s
        exact rcv_few h.rinv (by have := lof_len h y.life; omega) s.p3
      have hs8 : seq ≤ 20 := by
        have := (List.getElem?_eq_some_iff.1 e8).1
        have := lof_len h life
        omega
      refine (line_piece a px py pn x y net ap o life seq body bv hf (by omega) (by omega) (by omega) (by omega) hy3 al aq (by rw [ey]) haf (by rw [ey]; exact hlen) w R s).mono fun e w' hw => ⟨hw.1, hw.2.1, x, _, _, _, ?_, hw.2.2⟩
      unfold LineStep
      rw [if_neg (by simp), ey]
      exact ⟨rfl, rfl, rfl, rfl⟩
  · have hf := ack_fit hg
    have hh := h'.ackHeard hg
    obtain ⟨e1, e2, e3, e4, e5, e6, e7, e8, e9⟩ := hg
    obtain ⟨life, seq, ack, body⟩ := g
    obtain ⟨src, dst, pb⟩ := p
    dsimp only at *
    subst e1 e2 e3 e4 e5
    have hyl := h.ylife
    rcases hh with ⟨c, _⟩ | ⟨c, c0, _⟩
    · omega
    · have hok : life = x.life → seq ≤ x.acked + x.l.length := by
        intro _
        have := h.acked
        have hgot := h.rinv.got
        have h9 := e9 (by omega)
        rw [show y.life = 3 from by omega] at hgot
        omega
      refine (line_ack a px py pn x y net ap o life seq bv hf (by omega) hok c0 w R s).mono fun e w' hw => ⟨hw.1, hw.2.1, _, y, _, o, ?_, hw.2.2⟩
      unfold LineStep
      rw [if_pos rfl]
      exact ⟨rfl, rfl, rfl, rfl⟩

theorem toCome_append (l : List Pkt) (p : Pkt) : toCome (l ++ [p]) = toCome l + (if p.dst = 1 then 2 else 1) := by simp [toCome]
theorem toCome_cons (l : List Pkt) (p : Pkt) : toCome (p :: l) = (if p.dst = 1 then 2 else 1) + toCome l := by simp [toCome]
theorem toCome_send {l : List Pkt} {b : B} {ap : Bool} : toCome (send ap l ⟨1, 0, b⟩) ≤ toCome l + 1 := by
  unfold Sea.send
  split
  · omega
  · rw [toCome_append]
    simp

/-- A packet of a round: of a line. -/
theorem LineStep.round {L1 L2 : List B} {a0 now span window T : Nat} {lt : List (B × Nat)} {x : Snd} {y : Rcv} {p : Pkt} {rest : List Pkt} {o : List B} (h : Round L1 L2 3 a0 now span window lt T x y (p :: rest) o []) {s : Seg} (hs : IsPiece L1 L2 3 p s ∨ IsAck y p s) {x' : Snd} {y' : Rcv} {net' : List Pkt} {o' : List B}
    (st : LineStep x y rest false o s x' y' net' o') : Round L1 L2 3 a0 now span window lt T x' y' net' o' [] ∧ toCome net' < toCome (p :: rest) := by
  unfold LineStep at st
  rw [toCome_cons]
  rcases hs with hg | hg
  · rw [if_neg (by rw [hg.2.2.2.1]; simp)] at st
    have hyl := h.inv.ylife
    rcases head_piece h hg with ⟨c, _⟩ | ⟨c, y1, l, A, ey, _, _, _, r⟩
    · have := hg.2.2.2.2.1
      have := hg.2.2.2.2.2.1
      omega
    · rw [ey] at st
      obtain ⟨rfl, rfl, rfl, rfl⟩ := st
      have h3 : s.life = 3 := by have := hg.2.2.2.2.1; have := hg.2.2.2.2.2.1; omega
      rw [if_neg (by omega), if_neg (by omega)] at r
      refine ⟨r, ?_⟩
      rw [if_pos hg.2.2.1]
      have := toCome_send (l := rest) (b := segBytes A) (ap := false)
      dsimp only
      omega
  · rw [if_pos (by rw [hg.2.2.2.1])] at st
    obtain ⟨rfl, rfl, rfl, rfl⟩ := st
    refine ⟨(head_ack h hg).2, ?_⟩
    split <;> omega
/-- .. of a line reborn. -/
theorem RebStep.round {L1 L2 : List B} {a0 now span window T : Nat} {lt : List (B × Nat)} {x : Snd} {y : Rcv} {p : Pkt} {rest : List Pkt} {o3 o4 : List B} (h : Round L1 L2 4 a0 now span window lt T x y (p :: rest) o3 o4) {s : Seg} (hs : IsPiece L1 L2 4 p s ∨ IsAck y p s) {x' : Snd} {y' : Rcv} {net' : List Pkt} {o3' o4' : List B}
    (st : RebStep x y rest false o3 o4 s x' y' net' o3' o4') : Round L1 L2 4 a0 now span window lt T x' y' net' o3' o4' ∧ toCome net' < toCome (p :: rest) := by
  unfold RebStep at st
  rw [toCome_cons]
  rcases hs with hg | hg
  · rw [if_neg (by rw [hg.2.2.2.1]; simp)] at st
    rw [if_pos hg.2.2.1]
    rcases head_piece h hg with ⟨c, _, r⟩ | ⟨c, y1, l, A, ey, _, _, _, r⟩
    · rw [if_pos c] at st
      obtain ⟨rfl, rfl, rfl, rfl, rfl⟩ := st
      exact ⟨r, by omega⟩
    · rw [if_neg (by omega), ey] at st
      obtain ⟨rfl, rfl, rfl, rfl, rfl⟩ := st
      refine ⟨r, ?_⟩
      have := toCome_send (l := rest) (b := segBytes A) (ap := false)
      dsimp only
      omega
  · rw [if_pos (by rw [hg.2.2.2.1])] at st
    obtain ⟨rfl, rfl, rfl, rfl, rfl⟩ := st
    refine ⟨(head_ack h hg).2, ?_⟩
    split <;> omega

end Go.Proofs.Ytbphbafmchhipaa
