/-
  The plain law of TopReborn, third part: progress: in each round in which all comes, what is owed falls.
-/
import Derived.Test.YtbphbafmchhipaaSeb
namespace Go.Proofs.Ytbphbafmchhipaa.Sea

/-- How many ticks the first piece has still to wait. -/
def Snd.wait (x : Snd) : Nat := match x.l with
  | [] => 0
  | p :: _ => if p.2 = 0 then 0 else p.2 + x.span - (x.now + 1)
/-- How many rounds are owed at most. -/
def Snd.owed (x : Snd) : Nat := if x.l.length = 0 then 0 else x.span * x.l.length + x.wait

variable {L1 L2 : List B} {v : Nat} {x : Snd} {y : Rcv} {net : List Pkt} {o3 o4 : List B}

theorem wait_lt (h : Inv L1 L2 v x y net o3 o4) : x.wait < x.span := by
  unfold Snd.wait
  have := h.span
  split
  · omega
  · rename_i p r e
    have := (h.bodies 0 p (by rw [e]; rfl)).2
    split <;> omega
theorem owed_le (h : Inv L1 L2 v x y net o3 o4) : x.owed ≤ 4 * (lof L1 L2 v).length + 3 := by
  unfold Snd.owed
  have hw := wait_lt h
  have hs := h.span
  have ha := h.acked
  split
  · omega
  · have : x.span * x.l.length ≤ 4 * x.l.length := Nat.mul_le_mul_right _ hs.2
    omega
theorem owed_zero (h : Inv L1 L2 v x y net o3 o4) (ho : x.owed = 0) : x.l = [] := by
  unfold Snd.owed at ho
  have hs := h.span
  split at ho
  · exact List.length_eq_zero_iff.1 (by assumption)
  · rename_i c
    have : 1 * 1 ≤ x.span * x.l.length := Nat.mul_le_mul hs.1 (by omega)
    omega

/-- On its way: the number 'T' comes to be known. -/
def Track (L1 L2 : List B) (v T : Nat) (x : Snd) (y : Rcv) (net : List Pkt) : Prop :=
  (∃ p s, p ∈ net ∧ IsPiece L1 L2 v p s ∧ s.life = v ∧ s.seq = T ∧ T ≤ (if y.life = v then y.got else 0) + 1) ∨
  (∃ p s, p ∈ net ∧ IsAck y p s ∧ s.life = v ∧ T ≤ s.seq) ∨ T ≤ x.acked

/-- What holds while the packets of a round come: the sender as it was behind its tick, 'lt' its pieces then, 'a0' what was known then. -/
structure Round (L1 L2 : List B) (v : Nat) (a0 now span window : Nat) (lt : List (B × Nat)) (T : Nat) (x : Snd) (y : Rcv) (net : List Pkt) (o3 o4 : List B) : Prop where
  inv : Inv L1 L2 v x y net o3 o4
  few : net.length ≤ 256
  now : x.now = now
  span : x.span = span
  window : x.window = window
  since : a0 ≤ x.acked ∧ x.l = lt.drop (x.acked - a0)
  track : T = 0 ∨ Track L1 L2 v T x y net

/-- A round's measure: what comes to the receiver brings forth one more. -/
def toCome (net : List Pkt) : Nat := (net.map fun p => if p.dst = 1 then 2 else 1).sum

theorem head_piece {a0 now span window : Nat} {lt : List (B × Nat)} {T : Nat} {p : Pkt} {rest : List Pkt} {s : Seg}
    (h : Round L1 L2 v a0 now span window lt T x y (p :: rest) o3 o4) (hp : IsPiece L1 L2 v p s) :
    (s.life < y.life ∧ y.hear s = (y, [], ⟨0, 0, false, []⟩, 70) ∧ Round L1 L2 v a0 now span window lt T x y rest o3 o4) ∨
    (y.life ≤ s.life ∧ ∃ y' l a, y.hear s = (y', l, a, 0) ∧ y'.life = s.life ∧ a.life = s.life ∧ Fit a ∧
      Round L1 L2 v a0 now span window lt T x y' (send false rest ⟨1, 0, segBytes a⟩) (if s.life = 4 then o3 else o3 ++ l) (if s.life = 4 then o4 ++ l else o4)) := by
  have hi := h.inv
  have hi' : Inv L1 L2 v x y rest o3 o4 := hi.sub (fun q hq => List.mem_cons_of_mem _ hq)
  have hf := h.few
  rcases hi'.pieceHeard hp with ⟨c, e⟩ | ⟨c, y', l, a, e, e1, ia, e2, e3, inv', e4, e5⟩
  · left
    refine ⟨c, e, { h with inv := hi', few := by simp at hf; omega, track := ?_ }⟩
    rcases h.track with t | ⟨q, t, hq, tp, tl, ts, tt⟩ | ⟨q, t, hq, tp⟩ | t
    · exact .inl t
    · rcases List.mem_cons.1 hq with rfl | hq
      · exfalso
        have : t = s := by
          have := (parse_bytes (piece_fit hi tp)).symm.trans ((congrArg parse (tp.1.symm.trans hp.1)).trans (parse_bytes (piece_fit hi hp)))
          cases this; rfl
        subst this
        have := hi.ylife.2
        omega
      · exact .inr (.inl ⟨q, t, hq, tp, tl, ts, tt⟩)
    · rcases List.mem_cons.1 hq with rfl | hq
      · exfalso
        have h1 := hp.2.1
        have h2 := tp.1.2.1
        omega
      · exact .inr (.inr (.inl ⟨q, t, hq, tp⟩))
    · exact .inr (.inr (.inr t))
  · right
    refine ⟨c, y', l, a, e, e1, e2, ack_fit ia, ?_⟩
    have hs : send false rest ⟨1, 0, segBytes a⟩ = rest ++ [⟨1, 0, segBytes a⟩] := by
      unfold Sea.send
      have := segBytes_length (ack_fit ia)
      simp at hf
      rw [if_neg]
      rintro (q | q | q)
      · dsimp only at q; omega
      · omega
      · cases q
    rw [hs]
    refine { h with inv := inv', few := by simp at hf ⊢; omega, track := ?_ }
    rcases h.track with t | ⟨q, t, hq, tp, tl, ts, tt⟩ | ⟨q, t, hq, tp, tl, tt⟩ | t
    · exact .inl t
    · rcases List.mem_cons.1 hq with rfl | hq
      · have : t = s := by
          have := (parse_bytes (piece_fit hi tp)).symm.trans ((congrArg parse (tp.1.symm.trans hp.1)).trans (parse_bytes (piece_fit hi hp)))
          cases this; rfl
        subst this
        right; right; left
        refine ⟨_, a, List.mem_append_right _ (List.mem_singleton.2 rfl), ia, by omega, ?_⟩
        rw [e3, ← ts]
        exact e5 (by rw [tl, ts]; exact tt)
      · right; left
        refine ⟨q, t, List.mem_append_left _ hq, tp, tl, ts, ?_⟩
        by_cases c1 : y.life = v
        · have : s.life = v := by have := hp.2.2.2.2.2.1; omega
          rw [if_pos c1] at tt
          rw [if_pos (by omega)]
          have := e4 (by omega)
          omega
        · rw [if_neg c1] at tt
          omega
    · rcases List.mem_cons.1 hq with rfl | hq
      · exfalso
        have h1 := hp.2.1
        have h2 := tp.2.1
        omega
      · right; right; left
        refine ⟨q, t, List.mem_append_left _ hq, ?_, tl, tt⟩
        obtain ⟨a1, a2, a3, a4, a5, a6, a7, a8, a9⟩ := tp
        refine ⟨a1, a2, a3, a4, a5, a6, by omega, a8, fun z => ?_⟩
        have z1 : y.life = s.life := by have := hi.ylife.2; have := hp.2.2.2.2.2.1; omega
        have := a9 (by omega)
        have := e4 z1
        omega
    · exact .inr (.inr (.inr t))

theorem head_ack {a0 now span window : Nat} {lt : List (B × Nat)} {T : Nat} {p : Pkt} {rest : List Pkt} {s : Seg}
    (h : Round L1 L2 v a0 now span window lt T x y (p :: rest) o3 o4) (hp : IsAck y p s) :
    ((s.life ≠ v ∧ x.hear s = (x, 70)) ∨ (s.life = v ∧ (x.hear s).2 = 0)) ∧ Round L1 L2 v a0 now span window lt T (x.hear s).1 y rest o3 o4 := by
  have hi := h.inv
  have hi' : Inv L1 L2 v x y rest o3 o4 := hi.sub (fun q hq => List.mem_cons_of_mem _ hq)
  have hf := h.few
  have tr : T = 0 ∨ Track L1 L2 v T x y rest ∨ (s.life = v ∧ T ≤ s.seq) := by
    rcases h.track with t | ⟨q, t, hq, tp, tl, ts, tt⟩ | ⟨q, t, hq, tp, tl, tt⟩ | t
    · exact .inl t
    · rcases List.mem_cons.1 hq with rfl | hq
      · exfalso
        have h1 := hp.2.1
        have h2 := tp.2.1
        omega
      · exact .inr (.inl (.inl ⟨q, t, hq, tp, tl, ts, tt⟩))
    · rcases List.mem_cons.1 hq with rfl | hq
      · have : t = s := by
          have := (parse_bytes (ack_fit tp)).symm.trans ((congrArg parse (tp.1.symm.trans hp.1)).trans (parse_bytes (ack_fit hp)))
          cases this; rfl
        subst this
        exact .inr (.inr ⟨tl, tt⟩)
      · exact .inr (.inl (.inr (.inl ⟨q, t, hq, tp, tl, tt⟩)))
    · exact .inr (.inl (.inr (.inr t)))
  rcases hi'.ackHeard hp with ⟨c, e⟩ | ⟨c, e0, inv', e1, e2, e3, e4, e5⟩
  · refine ⟨.inl ⟨c, e⟩, ?_⟩
    rw [e]
    refine { h with inv := hi', few := by simp at hf; omega, track := ?_ }
    rcases tr with t | t | t
    · exact .inl t
    · exact .inr t
    · exact (c t.1).elim
  · refine ⟨.inr ⟨c, e0⟩, ?_⟩
    have hs := h.since
    refine ⟨inv', by simp at hf; omega, by rw [e3, h.now], by rw [e4, h.span], by rw [e5, h.window], ⟨by omega, ?_⟩, ?_⟩
    · rw [e2, hs.2, List.drop_drop]
      congr 1
      omega
    · rcases tr with t | t | t
      · exact .inl t
      · right
        rcases t with t | t | t
        · exact .inl t
        · exact .inr (.inl t)
        · exact .inr (.inr (by omega))
      · exact .inr (.inr (.inr (by omega)))

/-- All packets of a round have come. -/
theorem Round.done {a0 now span window : Nat} {lt : List (B × Nat)} {T : Nat} (h : Round L1 L2 v a0 now span window lt T x y [] o3 o4) : T ≤ x.acked := by
  rcases h.track with t | ⟨q, t, hq, _⟩ | ⟨q, t, hq, _⟩ | t
  · omega
  · simp at hq
  · simp at hq
  · exact t

theorem sendAll_few (apart : Bool) : ∀ (l : List Seg) (net : List Pkt), net.length ≤ 256 → (sendAll apart net l).length ≤ 256
  | [], _, h => h
  | s :: l, net, h => sendAll_few apart l _ (by
      show (send apart net _).length ≤ 256
      unfold send
      split
      · exact h
      · simp; omega)
theorem sendAll_free : ∀ (l : List Seg) (net : List Pkt), (∀ s ∈ l, Fit s) → net.length + l.length ≤ 256 → sendAll false net l = net ++ l.map fun s => ⟨0, 1, segBytes s⟩
  | [], net, _, _ => by simp [sendAll]
  | s :: l, net, hf, h => by
    have e : sendAll false net (s :: l) = sendAll false (send false net ⟨0, 1, segBytes s⟩) l := rfl
    have hs : send false net ⟨0, 1, segBytes s⟩ = net ++ [⟨0, 1, segBytes s⟩] := by
      unfold send
      have := segBytes_length (hf s List.mem_cons_self)
      simp at h
      rw [if_neg]
      rintro (q | q | q)
      · dsimp only at q; omega
      · omega
      · cases q
    rw [e, hs, sendAll_free l _ (fun t ht => hf t (List.mem_cons_of_mem _ ht)) (by simp at h ⊢; omega)]
    simp
theorem segs_length {life acked now span : Nat} : ∀ {l : List (B × Nat)} {i : Nat}, (segs life acked now span i l).length ≤ l.length
  | [], _ => by simp [segs]
  | p :: l, i => by
    have := segs_length (life := life) (acked := acked) (now := now) (span := span) (l := l) (i := i + 1)
    simp only [segs, List.length_append, List.length_cons]
    split <;> simp <;> omega

/-- A round begins: behind the sender's tick. 'T' is 0 where the net may have been full. -/
theorem Round.begin (h : Inv L1 L2 v x y net o3 o4) (hf : net.length ≤ 256) (T : Nat) (hT : T = 0 ∨ T = x.acked + 1 ∧ net = [] ∧ 0 < x.l.length ∧ x.wait = 0) :
    Round L1 L2 v x.acked (x.now + 1) x.span x.window x.tick.1.l T x.tick.1 y (sendAll false net x.tick.2) o3 o4 := by
  refine ⟨h.tick false, sendAll_few false _ _ hf, rfl, rfl, rfl, ⟨Nat.le_refl _, ?_⟩, ?_⟩
  · show x.tick.1.l = x.tick.1.l.drop (x.acked - x.acked)
    simp
  · rcases hT with t | ⟨t1, rfl, t2, t3⟩
    · exact .inl t
    · right; left
      obtain ⟨p, r, e⟩ : ∃ p r, x.l = p :: r := by
        cases e : x.l with
        | nil => rw [e] at t2; simp at t2
        | cons p r => exact ⟨p, r, rfl⟩
      have hd : due (x.now + 1) x.span p = true := by
        unfold Snd.wait at t3
        rw [e] at t3
        dsimp only at t3
        unfold due
        by_cases c : p.2 = 0
        · simp [c]
        · rw [if_neg c] at t3
          simp
          right
          omega
      have hw := h.win
      obtain ⟨k, hk⟩ : ∃ k, x.window = k + 1 := ⟨x.window - 1, by omega⟩
      have hm : (⟨x.life, x.acked + 1, false, p.1⟩ : Seg) ∈ x.tick.2 := by
        unfold Snd.tick
        rw [e, hk]
        simp [segs, hd]
      have hp := tick_pieces h hm
      have hfit : ∀ s ∈ x.tick.2, Fit s := fun s hs => piece_fit h (tick_pieces h hs)
      have hlen : x.tick.2.length ≤ 8 := by
        refine Nat.le_trans segs_length ?_
        rw [List.length_take]
        omega
      rw [sendAll_free _ _ hfit (by simp; omega)]
      refine ⟨_, _, ?_, hp, h.xlife, t1.symm, ?_⟩
      · simp only [List.nil_append, List.mem_map]
        exact ⟨_, hm, rfl⟩
      · by_cases c : y.life = v
        · rw [if_pos c]
          have := h.sync.1 c
          omega
        · rw [if_neg c, t1, h.sync.2 c]
          omega

/-- What is owed falls in a round that began with nothing under way; and never grows beyond all. -/
theorem Round.owed {x0 : Snd} {y0 : Rcv} {p3 p4 : List B} (h0 : Inv L1 L2 v x0 y0 [] p3 p4) {T : Nat} (hT : T = if 0 < x0.l.length ∧ x0.wait = 0 then x0.acked + 1 else 0)
    (h : Round L1 L2 v x0.acked (x0.now + 1) x0.span x0.window x0.tick.1.l T x y [] o3 o4) : x.owed ≤ x0.owed - 1 := by
  have hd := h.done
  have hs := h.since
  have hlen : x.l.length = x0.l.length - (x.acked - x0.acked) := by rw [hs.2, List.length_drop, tick_length]
  have hw := wait_lt h.inv
  have hsp := h.span
  have h1 := h0.span
  unfold Snd.owed
  by_cases c : x.l.length = 0
  · rw [if_pos c]; omega
  · rw [if_neg c, if_neg (by omega)]
    by_cases d : x0.acked < x.acked
    · have : x0.span * (x.l.length + 1) ≤ x0.span * x0.l.length := Nat.mul_le_mul_left _ (by omega)
      rw [hsp] at hw ⊢
      rw [Nat.mul_add] at this
      omega
    · have e : x.acked = x0.acked := by omega
      have hl : x.l = x0.tick.1.l := by rw [hs.2, e]; simp
      rw [hsp, hlen, e]
      have hwt : x.wait ≤ x0.wait - 1 := by
        by_cases g : x0.wait = 0
        · rw [if_pos ⟨by omega, g⟩] at hT
          omega
        · obtain ⟨p, r, e1⟩ : ∃ p r, x0.l = p :: r := by
            cases e : x0.l with
            | nil => rw [e, List.length_nil] at hlen; omega
            | cons p r => exact ⟨p, r, rfl⟩
          obtain ⟨k, hk⟩ : ∃ k, x0.window = k + 1 := ⟨x0.window - 1, by have := h0.win; omega⟩
          unfold Snd.wait at g ⊢
          rw [e1] at g
          dsimp only at g
          have g0 : p.2 ≠ 0 := fun q => by rw [if_pos q] at g; exact g rfl
          rw [if_neg g0] at g
          have nd : due (x0.now + 1) x0.span p = false := by
            unfold due
            simp
            omega
          have hh : x.l = p :: ((r.take k).map (sentNow (x0.now + 1) x0.span) ++ x0.l.drop x0.window) := by
            rw [hl]
            unfold Snd.tick
            rw [e1, hk]
            simp [sentNow, nd]
          rw [hh, e1]
          dsimp only
          rw [if_neg g0, if_neg g0, h.now, hsp]
          omega
      have hw0 : 0 < x0.wait := by
        rcases Nat.eq_zero_or_pos x0.wait with g | g
        · rw [if_pos ⟨by omega, g⟩] at hT
          omega
        · exact g
      rw [Nat.sub_self, Nat.sub_zero]
      omega

/-- Nothing is owed: all pieces came. -/
theorem Inv.all (h : Inv L1 L2 v x y net o3 o4) (ho : x.owed = 0) : x.l = [] ∧ (v = 4 → o4 = L2) ∧ (v = 3 → o3 = L1) := by
  have hl := owed_zero h ho
  have ha := h.acked
  rw [hl] at ha
  simp at ha
  refine ⟨hl, fun e => ?_, fun e => ?_⟩
  · subst e
    have e2 : lof L1 L2 4 = L2 := rfl
    rw [e2] at ha
    rcases h.outs with ⟨q1, q2, _⟩ | ⟨q1, q2, _⟩
    · have := h.sync.1 q1
      rw [q2, List.take_of_length_le (by omega)]
    · have := h.sync.2 q1
      rw [q2]
      exact (List.length_eq_zero_iff.1 (by omega)).symm
  · subst e
    have e2 : lof L1 L2 3 = L1 := rfl
    rw [e2] at ha
    have hy := h.ylife
    rcases h.outs with ⟨q1, _, _⟩ | ⟨q1, _, q3⟩
    · omega
    · by_cases c : y.life = 3
      · have := h.sync.1 c
        rw [q3, c, e2, List.take_of_length_le (by omega)]
      · have := h.sync.2 c
        have z : L1 = [] := List.length_eq_zero_iff.1 (by omega)
        have : y.life = 0 := by omega
        rw [q3, this, z]
        simp [lof]

end Go.Proofs.Ytbphbafmchhipaa.Sea
