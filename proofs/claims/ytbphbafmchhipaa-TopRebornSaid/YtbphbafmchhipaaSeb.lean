/-
  The plain law of TopReborn, second part: the invariant of a line whose sender may have begun a new life, and that all comes in the end.
-/
import Derived.Test.YtbphbafmchhipaaSea
namespace Go.Proofs.Ytbphbafmchhipaa.Sea

/-- The pieces of a life. -/
def lof (L1 L2 : List B) (life : Nat) : List B := if life = 3 then L1 else if life = 4 then L2 else []

def IsPiece (L1 L2 : List B) (v : Nat) (p : Pkt) (s : Seg) : Prop :=
  p.body = segBytes s ∧ p.src = 0 ∧ p.dst = 1 ∧ s.ack = false ∧ (s.life = 3 ∨ s.life = 4) ∧ s.life ≤ v ∧ 1 ≤ s.seq ∧ (lof L1 L2 s.life)[s.seq - 1]? = some s.body
def IsAck (y : Rcv) (p : Pkt) (s : Seg) : Prop :=
  p.body = segBytes s ∧ p.src = 1 ∧ p.dst = 0 ∧ s.ack = true ∧ s.body = [] ∧ (s.life = 3 ∨ s.life = 4) ∧ s.life ≤ y.life ∧ s.seq ≤ 20 ∧ (s.life = y.life → s.seq ≤ y.got)

structure Inv (L1 L2 : List B) (v : Nat) (x : Snd) (y : Rcv) (net : List Pkt) (o3 o4 : List B) : Prop where
  len1 : L1.length ≤ 20
  len2 : L2.length ≤ 20
  big : ∀ l b, b ∈ lof L1 L2 l → b.length ≤ 1000
  v34 : v = 3 ∨ v = 4
  xlife : x.life = v
  win : 1 ≤ x.window ∧ x.window ≤ 8
  span : 1 ≤ x.span ∧ x.span ≤ 4
  acked : x.acked + x.l.length = (lof L1 L2 v).length
  bodies : ∀ i p, x.l[i]? = some p → (lof L1 L2 v)[x.acked + i]? = some p.1 ∧ p.2 ≤ x.now
  ywin : y.window = 8
  ylife : (y.life = 0 ∨ y.life = 3 ∨ y.life = 4) ∧ y.life ≤ v
  rinv : RInv (lof L1 L2 y.life) y
  sync : (y.life = v → x.acked ≤ y.got) ∧ (y.life ≠ v → x.acked = 0)
  pk : ∀ p ∈ net, ∃ s, IsPiece L1 L2 v p s ∨ IsAck y p s
  outs : (y.life = 4 ∧ o4 = L2.take y.got ∧ ∃ g, o3 = L1.take g) ∨ (y.life ≠ 4 ∧ o4 = [] ∧ o3 = (lof L1 L2 y.life).take y.got)

variable {L1 L2 : List B} {v : Nat} {x : Snd} {y : Rcv} {net net' : List Pkt} {o3 o4 : List B}

theorem lof_len (h : Inv L1 L2 v x y net o3 o4) (l : Nat) : (lof L1 L2 l).length ≤ 20 := by
  have := h.len1
  have := h.len2
  unfold lof
  split
  · assumption
  · split
    · assumption
    · simp
theorem piece_fit (h : Inv L1 L2 v x y net o3 o4) {p : Pkt} {s : Seg} (hp : IsPiece L1 L2 v p s) : Fit s := by
  obtain ⟨_, _, _, h4, h5, _, h7, h8⟩ := hp
  have hl := lof_len h s.life
  have := (List.getElem?_eq_some_iff.1 h8).1
  have hb := h.big s.life s.body (List.mem_of_getElem? h8)
  refine ⟨?_, by omega, by omega⟩
  unfold right
  simp [h4, hb]
  omega
theorem ack_fit {p : Pkt} {s : Seg} (hp : IsAck y p s) : Fit s := by
  obtain ⟨_, _, _, h4, h5, h6, _, h8, _⟩ := hp
  refine ⟨?_, by omega, by omega⟩
  unfold right
  simp [h4, h5]

/-- What is under way may be any of what was. -/
theorem Inv.sub (h : Inv L1 L2 v x y net o3 o4) (k : ∀ p ∈ net', p ∈ net) : Inv L1 L2 v x y net' o3 o4 :=
  { h with pk := fun p hp => h.pk p (k p hp) }
theorem Inv.more (h : Inv L1 L2 v x y net o3 o4) {p : Pkt} (hp : ∃ s, IsPiece L1 L2 v p s ∨ IsAck y p s) : Inv L1 L2 v x y (net ++ [p]) o3 o4 :=
  { h with
    pk := fun q hq => by
      rcases List.mem_append.1 hq with c | c
      · exact h.pk q c
      · rw [List.mem_singleton.1 c]
        exact hp }
theorem Inv.send (h : Inv L1 L2 v x y net o3 o4) (apart : Bool) {p : Pkt} (hp : ∃ s, IsPiece L1 L2 v p s ∨ IsAck y p s) : Inv L1 L2 v x y (send apart net p) o3 o4 := by
  unfold Sea.send
  split
  · exact h
  · exact h.more hp

theorem segs_mem {life acked now span : Nat} : ∀ {l : List (B × Nat)} {i : Nat} {s : Seg}, s ∈ segs life acked now span i l → ∃ j p, l[j]? = some p ∧ s = ⟨life, acked + (i + j) + 1, false, p.1⟩
  | [], _, _, h => by simp [segs] at h
  | p :: l, i, s, h => by
    simp only [segs, List.mem_append] at h
    rcases h with h | h
    · split at h
      · exact ⟨0, p, rfl, by simpa using h⟩
      · simp at h
    · obtain ⟨j, q, h1, h2⟩ := segs_mem h
      exact ⟨j + 1, q, by simpa using h1, by rw [h2]; congr 1; omega⟩

theorem tick_bodies (h : Inv L1 L2 v x y net o3 o4) (i : Nat) (p : B × Nat) (hp : x.tick.1.l[i]? = some p) : (lof L1 L2 v)[x.acked + i]? = some p.1 ∧ p.2 ≤ x.now + 1 := by
  have key : ∃ q, x.l[i]? = some q ∧ q.1 = p.1 ∧ (p.2 = q.2 ∨ p.2 = x.now + 1) := by
    have hp : ((x.l.take x.window).map (sentNow (x.now + 1) x.span) ++ x.l.drop x.window)[i]? = some p := hp
    by_cases c : i < (x.l.take x.window).length
    · rw [List.getElem?_append_left (by simpa using c), List.getElem?_map, List.getElem?_take_of_lt (by simp at c; omega)] at hp
      obtain ⟨q, h1, h2⟩ := Option.map_eq_some_iff.1 hp
      refine ⟨q, h1, ?_⟩
      rw [← h2]
      unfold sentNow
      split
      · exact ⟨rfl, .inr rfl⟩
      · exact ⟨rfl, .inl rfl⟩
    · rw [List.getElem?_append_right (by simpa using c)] at hp
      simp only [List.length_map, List.getElem?_drop, List.length_take] at hp
      refine ⟨p, ?_, rfl, .inl rfl⟩
      rw [← hp]
      congr 1
      simp only [List.length_take] at c ⊢
      rcases Nat.lt_or_ge x.window x.l.length with d | d
      · omega
      · have e : x.l[x.window + (i - min x.window x.l.length)]? = none := List.getElem?_eq_none (by omega)
        rw [e] at hp; cases hp
  obtain ⟨q, h1, h2, h3⟩ := key
  have := h.bodies i q h1
  rw [← h2]
  exact ⟨this.1, by omega⟩
theorem tick_length (x : Snd) : x.tick.1.l.length = x.l.length := by
  simp only [Snd.tick, List.length_append, List.length_map, List.length_take, List.length_drop]
  omega
theorem tick_pieces (h : Inv L1 L2 v x y net o3 o4) {s : Seg} (hs : s ∈ x.tick.2) : IsPiece L1 L2 v ⟨0, 1, segBytes s⟩ s := by
  obtain ⟨j, p, h1, h2⟩ := segs_mem hs
  have h1' : x.l[j]? = some p := by
    rw [List.getElem?_take] at h1
    split at h1
    · exact h1
    · cases h1
  have := (h.bodies j p h1').1
  have hv := h.v34
  rw [h.xlife] at h2
  subst h2
  exact ⟨rfl, rfl, rfl, rfl, by simpa using hv, Nat.le_refl _, by simp, by simpa [Nat.zero_add] using this⟩
def sendAll (apart : Bool) (net : List Pkt) (l : List Seg) : List Pkt := l.foldl (fun n s => send apart n ⟨0, 1, segBytes s⟩) net
theorem Inv.ticked (h : Inv L1 L2 v x y net o3 o4) : Inv L1 L2 v x.tick.1 y net o3 o4 :=
  { h with
    xlife := h.xlife
    win := h.win
    span := h.span
    acked := by rw [tick_length]; exact h.acked
    bodies := fun i p hp => tick_bodies h i p hp
    sync := h.sync }
theorem Inv.sendAll (apart : Bool) : ∀ (l : List Seg), (∀ s ∈ l, IsPiece L1 L2 v ⟨0, 1, segBytes s⟩ s) → ∀ net, Inv L1 L2 v x y net o3 o4 → Inv L1 L2 v x y (Sea.sendAll apart net l) o3 o4
  | [], _, _, h => h
  | s :: l, hl, _, h => Inv.sendAll apart l (fun s hs => hl s (List.mem_cons_of_mem _ hs)) _ (h.send apart ⟨s, .inl (hl s List.mem_cons_self)⟩)
theorem Inv.tick (h : Inv L1 L2 v x y net o3 o4) (apart : Bool) : Inv L1 L2 v x.tick.1 y (Sea.sendAll apart net x.tick.2) o3 o4 :=
  Inv.sendAll apart x.tick.2 (fun _ hs => tick_pieces h hs) net h.ticked

/-- An answer is heard. -/
theorem Inv.ackHeard (h : Inv L1 L2 v x y net o3 o4) {p : Pkt} {s : Seg} (hp : IsAck y p s) :
    (s.life ≠ v ∧ x.hear s = (x, 70)) ∨ (s.life = v ∧ (x.hear s).2 = 0 ∧ Inv L1 L2 v (x.hear s).1 y net o3 o4 ∧ (x.hear s).1.acked = max x.acked s.seq ∧
      (x.hear s).1.l = x.l.drop ((x.hear s).1.acked - x.acked) ∧ (x.hear s).1.now = x.now ∧ (x.hear s).1.span = x.span ∧ (x.hear s).1.window = x.window) := by
  have hf := (ack_fit hp).1
  obtain ⟨_, _, _, h4, h5, h6, h7, h8, h9⟩ := hp
  unfold Snd.hear
  rw [hf, h4]
  simp only [Bool.not_true, Bool.false_eq_true, if_false]
  by_cases c : s.life = v
  · right
    have hy : y.life = v := by have := h.ylife.2; omega
    have h9 := h9 (by omega)
    have hg := h.rinv.got
    rw [hy] at hg
    have ha := h.acked
    have hs := h.sync.1 hy
    rw [if_neg (by rw [h.xlife]; exact fun q => q c), if_neg (by omega)]
    refine ⟨c, ?_⟩
    by_cases d : x.acked < s.seq
    · rw [if_pos d]
      refine ⟨rfl, ?_, (Nat.max_eq_right (Nat.le_of_lt d)).symm, rfl, rfl, rfl, rfl⟩
      exact { h with
        xlife := h.xlife
        win := h.win
        span := h.span
        acked := by simp only [List.length_drop]; omega
        bodies := fun i p hp => by
          simp only [List.getElem?_drop] at hp
          have := h.bodies _ p hp
          rw [show s.seq + i = x.acked + (s.seq - x.acked + i) from by omega]
          exact this
        sync := ⟨fun _ => h9, fun q => (q hy).elim⟩ }
    · rw [if_neg d]
      exact ⟨rfl, h, (Nat.max_eq_left (Nat.not_lt.1 d)).symm, by simp, rfl, rfl, rfl⟩
  · left
    rw [if_pos (by rw [h.xlife]; exact c)]
    exact ⟨c, rfl⟩

theorem fresh_life {y : Rcv} {l : Nat} (h : y.life ≤ l) : (y.fresh l).life = l := by
  unfold Rcv.fresh
  split
  · rfl
  · omega

/-- A piece is heard. -/
theorem Inv.pieceHeard (h : Inv L1 L2 v x y net o3 o4) {p : Pkt} {s : Seg} (hp : IsPiece L1 L2 v p s) :
    (s.life < y.life ∧ y.hear s = (y, [], ⟨0, 0, false, []⟩, 70)) ∨
    (y.life ≤ s.life ∧ ∃ y' l a, y.hear s = (y', l, a, 0) ∧ y'.life = s.life ∧ IsAck y' ⟨1, 0, segBytes a⟩ a ∧ a.life = s.life ∧ a.seq = y'.got ∧
      Inv L1 L2 v x y' (net ++ [⟨1, 0, segBytes a⟩]) (if s.life = 4 then o3 else o3 ++ l) (if s.life = 4 then o4 ++ l else o4) ∧
      (y.life = s.life → y.got ≤ y'.got) ∧ (s.seq ≤ (if y.life = s.life then y.got else 0) + 1 → s.seq ≤ y'.got)) := by
  have hf := (piece_fit h hp).1
  have hl := lof_len h s.life
  obtain ⟨_, _, _, h4, h5, h6, h7, h8⟩ := hp
  unfold Rcv.hear
  rw [hf, h4]
  simp only [Bool.not_true, Bool.false_eq_true, if_false]
  by_cases c : s.life < y.life
  · left
    rw [if_pos c]
    exact ⟨c, rfl⟩
  · right
    rw [if_neg c]
    refine ⟨by omega, _, _, _, rfl, ?_⟩
    have hlen : s.seq ≤ (lof L1 L2 s.life).length := by have := (List.getElem?_eq_some_iff.1 h8).1; omega
    have hlife : (y.fresh s.life).life = s.life := fresh_life (by omega)
    have hwin : (y.fresh s.life).window = 8 := by unfold Rcv.fresh; split <;> exact h.ywin
    have hgot : (y.fresh s.life).got = if y.life = s.life then y.got else 0 := by
      unfold Rcv.fresh
      split
      · rw [if_neg (by omega)]
      · rw [if_pos (by omega)]
    have hr : RInv (lof L1 L2 s.life) (y.fresh s.life) := by
      unfold Rcv.fresh
      split
      · exact ⟨Nat.zero_le _, fun k b hkb => by simp at hkb⟩
      · have := h.rinv
        rw [show y.life = s.life from by omega] at this
        exact this
    obtain ⟨i1, i2, i3, i4⟩ := hear_inv hr hlen h8 (by omega)
    have kl : ((y.fresh s.life).keep s).flushed.life = s.life := by
      show ((y.fresh s.life).keep s).life = s.life
      unfold Rcv.keep
      split <;> exact hlife
    have kw : ((y.fresh s.life).keep s).flushed.window = 8 := by
      show ((y.fresh s.life).keep s).window = 8
      unfold Rcv.keep
      split <;> exact hwin
    generalize hy' : ((y.fresh s.life).keep s).flushed = y' at *
    generalize hcm : ((y.fresh s.life).keep s).came = l at *
    have ia : IsAck y' ⟨1, 0, segBytes ⟨y'.life, y'.got, true, []⟩⟩ ⟨y'.life, y'.got, true, []⟩ := by
      refine ⟨rfl, rfl, rfl, rfl, rfl, ?_, Nat.le_refl _, ?_, fun _ => Nat.le_refl _⟩
      · dsimp only; rw [kl]; exact h5
      · dsimp only; have := i1.got; omega
    refine ⟨kl, ia, kl, rfl, ?_, fun q => ?_, fun q => i4 (by rw [hgot]; exact q)⟩
    · refine Inv.more ?_ ⟨_, .inr ia⟩
      exact { h with
        ywin := kw
        ylife := ⟨by omega, by omega⟩
        rinv := by rw [kl]; exact i1
        sync := by
          constructor
          · intro q
            by_cases e : y.life = v
            · have := h.sync.1 e
              rw [hgot, if_pos (by omega)] at i2
              omega
            · rw [h.sync.2 e]; omega
          · intro q
            refine h.sync.2 fun e => ?_
            omega
        pk := fun q hq => by
          obtain ⟨t, ht | ht⟩ := h.pk q hq
          · exact ⟨t, .inl ht⟩
          · refine ⟨t, .inr ?_⟩
            obtain ⟨a1, a2, a3, a4, a5, a6, a7, a8, a9⟩ := ht
            refine ⟨a1, a2, a3, a4, a5, a6, by omega, a8, fun e => ?_⟩
            have := a9 (by omega)
            rw [hgot, if_pos (by omega)] at i2
            omega
        outs := by
          rcases h.outs with ⟨q1, q2, q3⟩ | ⟨q1, q2, q3⟩
          · left
            have e : s.life = 4 := by omega
            rw [if_pos e, if_pos e]
            refine ⟨by omega, ?_, q3⟩
            rw [hgot, if_pos (by omega), e] at i3
            have : lof L1 L2 4 = L2 := rfl
            rw [this] at i3
            rw [q2, i3]
          · by_cases e : s.life = 4
            · left
              rw [if_pos e, if_pos e]
              refine ⟨by omega, ?_, ?_⟩
              · rw [hgot, if_neg (by omega), e] at i3
                have : lof L1 L2 4 = L2 := rfl
                rw [this] at i3
                rw [q2, i3]
                simp
              · rcases h.ylife.1 with z | z | z
                · exact ⟨0, by rw [q3, z]; simp [lof]⟩
                · exact ⟨y.got, by rw [q3, z]; rfl⟩
                · exact (q1 z).elim
            · right
              rw [if_neg e, if_neg e]
              refine ⟨by omega, q2, ?_⟩
              rw [kl, i3, q3]
              congr 1
              rw [hgot]
              by_cases f : y.life = s.life
              · rw [if_pos f, f]
              · rw [if_neg f]
                have := h.ylife.1
                have : y.life = 0 := by omega
                rw [this]
                simp [lof] }
    · rw [hgot, if_pos q] at i2
      exact i2

end Go.Proofs.Ytbphbafmchhipaa.Sea
