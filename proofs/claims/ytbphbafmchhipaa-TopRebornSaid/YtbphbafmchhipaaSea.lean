/-
  The plain law of TopReborn: segments, a sender, a receiver and a net as plain values, and what holds of them whatever happens.
-/
import Derived.Test.YtbphbafmchhipaaBytes
namespace Go.Proofs.Ytbphbafmchhipaa.Sea

abbrev B := List UInt8
structure Seg where
  life : Nat
  seq : Nat
  ack : Bool
  body : B
deriving DecidableEq

def right (s : Seg) : Bool := (s.ack && s.body.length == 0) || (!s.ack && (decide (0 < s.seq) && decide (s.body.length ≤ 1000)))
def segBody (s : Seg) : B := putU s.life ++ putU s.seq ++ s.body
def segBytes (s : Seg) : B := framePut (if s.ack then 4 else 3) (segBody s)

/-- The segment of a frame's kind and body. -/
def segOf (kind : UInt8) (body : B) : Except Nat Seg :=
  match getU 0 0 body with
  | .error _ => .error 11
  | .ok (life, a) => match getU 0 0 (body.drop a) with
    | .error _ => .error 11
    | .ok (seq, c) =>
      if right ⟨life, seq, kind == 4, body.drop (a + c)⟩ then .ok ⟨life, seq, kind == 4, body.drop (a + c)⟩ else .error 11
def parse (b : B) : Except Nat Seg :=
  match frameGet b with
  | .error e => .error e
  | .ok (kind, body, to) =>
    if to < b.length ∨ (kind ≠ 3 ∧ kind ≠ 4) then .error 11 else segOf kind body

def Fit (s : Seg) : Prop := right s = true ∧ s.life < 18446744073709551616 ∧ s.seq < 18446744073709551616

theorem right_body {s : Seg} (h : right s = true) : s.body.length ≤ 1000 := by
  unfold right at h
  simp only [Bool.or_eq_true, Bool.and_eq_true, beq_iff_eq, decide_eq_true_eq] at h
  rcases h with ⟨_, h⟩ | ⟨_, _, h⟩ <;> omega
theorem segBody_length {s : Seg} (h : Fit s) : (segBody s).length ≤ 1020 := by
  have := digits_u64 h.2.1
  have := digits_u64 h.2.2
  have := right_body h.1
  simp only [segBody, List.length_append, putU_length]
  omega
theorem segOf_body {s : Seg} (h : Fit s) : segOf (if s.ack then 4 else 3) (segBody s) = .ok s := by
  have d1 := digits_u64 h.2.1
  have d2 := digits_u64 h.2.2
  have g1 := getU_putU s.life 0 0 (putU s.seq ++ s.body) (by omega) (by rw [Nat.pow_zero, Nat.mul_one]; exact h.2.1) (by omega)
  have g2 := getU_putU s.seq 0 0 s.body (by omega) (by rw [Nat.pow_zero, Nat.mul_one]; exact h.2.2) (by omega)
  simp only [Nat.pow_zero, Nat.mul_one, Nat.zero_add] at g1 g2
  have e1 : segBody s = putU s.life ++ (putU s.seq ++ s.body) := by simp [segBody]
  have e2 : (putU s.life ++ (putU s.seq ++ s.body)).drop (digits s.life) = putU s.seq ++ s.body := by rw [← putU_length, List.drop_left]
  have e3 : (putU s.life ++ (putU s.seq ++ s.body)).drop (digits s.life + digits s.seq) = s.body := by rw [← List.drop_drop, e2, ← putU_length, List.drop_left]
  have e4 : ((if s.ack then 4 else 3 : UInt8) == 4) = s.ack := by cases s.ack <;> rfl
  unfold segOf
  rw [e1, g1]
  dsimp only
  rw [e2, g2]
  dsimp only
  rw [e3, e4, if_pos h.1]
theorem parse_bytes {s : Seg} (h : Fit s) : parse (segBytes s) = .ok s := by
  unfold parse segBytes
  have hb := segBody_length h
  rw [frameGet_put _ _ (by omega)]
  dsimp only
  rw [if_neg, segOf_body h]
  rw [framePut_length]
  cases s.ack <;> simp
theorem parse_turned {s : Seg} (h : Fit s) (i : Nat) (hi : 6 ≤ i) (hl : i < (segBytes s).length) (c : UInt8) (hc : c ≠ (segBytes s).getD i 0) : parse ((segBytes s).set i c) = .error 21 := by
  unfold parse
  have hb := segBody_length h
  unfold segBytes at *
  rw [framePut_length] at hl
  rw [frameGet_turned _ _ (by omega) i hi hl c hc]
theorem segBytes_length {s : Seg} (h : Fit s) : 10 ≤ (segBytes s).length ∧ (segBytes s).length ≤ 1030 := by
  have := segBody_length h
  unfold segBytes
  rw [framePut_length]
  omega

/-- A sender: of each piece that isn't known to have come, when it went last. -/
structure Snd where
  life : Nat
  window : Nat
  span : Nat
  acked : Nat
  now : Nat
  l : List (B × Nat)
def due (now span : Nat) (p : B × Nat) : Bool := !(decide (0 < p.2) && decide (now - p.2 < span))
def sentNow (now span : Nat) (p : B × Nat) : B × Nat := if due now span p then (p.1, now) else p
def segs (life acked now span : Nat) : Nat → List (B × Nat) → List Seg
  | _, [] => []
  | i, p :: r => (if due now span p then [⟨life, acked + i + 1, false, p.1⟩] else []) ++ segs life acked now span (i + 1) r
def Snd.tick (x : Snd) : Snd × List Seg :=
  ({ x with now := x.now + 1, l := (x.l.take x.window).map (sentNow (x.now + 1) x.span) ++ x.l.drop x.window }, segs x.life x.acked (x.now + 1) x.span 0 (x.l.take x.window))
/-- What a sender hears; the error's number. -/
def Snd.hear (x : Snd) (s : Seg) : Snd × Nat :=
  if !right s then (x, 2)
  else if !s.ack then (x, 71)
  else if s.life ≠ x.life then (x, 70)
  else if x.acked < s.seq ∧ x.l.length < s.seq - x.acked then (x, 11)
  else if x.acked < s.seq then ({ x with acked := s.seq, l := x.l.drop (s.seq - x.acked) }, 0)
  else (x, 0)

structure Rcv where
  window : Nat
  life : Nat
  got : Nat
  m : List (Nat × B)
def look (m : List (Nat × B)) (k : Nat) : Option B := (m.find? (·.1 == k)).map (·.2)
def less (m : List (Nat × B)) (k : Nat) : List (Nat × B) := m.filter (·.1 != k)
/-- What came behind what came, as far as it is kept. -/
def flush : Nat → Nat → List (Nat × B) → List B × Nat × List (Nat × B)
  | 0, g, m => ([], g, m)
  | f + 1, g, m => match look m (g + 1) with
    | none => ([], g, m)
    | some b => (b :: (flush f (g + 1) (less m (g + 1))).1, (flush f (g + 1) (less m (g + 1))).2)
def Rcv.fresh (y : Rcv) (life : Nat) : Rcv := if y.life < life then { y with life := life, got := 0, m := [] } else y
def Rcv.keep (y : Rcv) (s : Seg) : Rcv := if (look y.m s.seq).isNone ∧ y.got < s.seq ∧ s.seq - y.got ≤ y.window then { y with m := y.m ++ [(s.seq, s.body)] } else y
def Rcv.flushed (y : Rcv) : Rcv := { y with got := (flush (y.m.length + 1) y.got y.m).2.1, m := (flush (y.m.length + 1) y.got y.m).2.2 }
def Rcv.came (y : Rcv) : List B := (flush (y.m.length + 1) y.got y.m).1
/-- What a receiver hears: pieces that came, an answer, an error's number. -/
def Rcv.hear (y : Rcv) (s : Seg) : Rcv × List B × Seg × Nat :=
  if !right s then (y, [], ⟨0, 0, false, []⟩, 2)
  else if s.ack then (y, [], ⟨0, 0, false, []⟩, 71)
  else if s.life < y.life then (y, [], ⟨0, 0, false, []⟩, 70)
  else (((y.fresh s.life).keep s).flushed, ((y.fresh s.life).keep s).came, ⟨((y.fresh s.life).keep s).flushed.life, ((y.fresh s.life).keep s).flushed.got, true, []⟩, 0)

structure Pkt where
  src : Nat
  dst : Nat
  body : B
def send (apart : Bool) (l : List Pkt) (p : Pkt) : List Pkt := if 1200 < p.body.length ∨ 256 ≤ l.length ∨ apart = true then l else l ++ [p]

/-! ### What holds -/

/-- What a receiver keeps is of the pieces 'L'. -/
structure RInv (L : List B) (y : Rcv) : Prop where
  got : y.got ≤ L.length
  m : ∀ k b, (k, b) ∈ y.m → y.got < k ∧ k ≤ L.length ∧ L[k - 1]? = some b

theorem look_some {m : List (Nat × B)} {k : Nat} {b : B} (h : look m k = some b) : (k, b) ∈ m := by
  unfold look at h
  obtain ⟨⟨k', b'⟩, h1, h2⟩ := Option.map_eq_some_iff.1 h
  have := List.find?_some h1
  have e : k' = k := by simpa using this
  dsimp only at h2
  subst e h2
  exact List.mem_of_find?_eq_some h1
theorem less_length {m : List (Nat × B)} {k : Nat} {b : B} (h : (k, b) ∈ m) : (less m k).length < m.length := by
  unfold less
  rcases Nat.lt_or_eq_of_le (List.length_filter_le (fun x : Nat × B => x.1 != k) m) with h' | h'
  · exact h'
  · have := List.length_filter_eq_length_iff.1 h' (k, b) h
    simp at this

theorem flush_inv (L : List B) : ∀ (f g : Nat) (m : List (Nat × B)), g ≤ L.length → (∀ k b, (k, b) ∈ m → g < k ∧ k ≤ L.length ∧ L[k - 1]? = some b) →
    g ≤ (flush f g m).2.1 ∧ (flush f g m).2.1 ≤ L.length ∧ L.take (flush f g m).2.1 = L.take g ++ (flush f g m).1 ∧
    (∀ k b, (k, b) ∈ (flush f g m).2.2 → (flush f g m).2.1 < k ∨ f ≤ m.length ∧ g < k) ∧ (∀ k b, (k, b) ∈ (flush f g m).2.2 → k ≤ L.length ∧ L[k - 1]? = some b ∧ (flush f g m).2.1 < k) := by
  intro f
  induction f with
  | zero => intro g m hg hm; exact ⟨Nat.le_refl _, hg, by simp [flush], fun k b h => .inl (hm k b h).1, fun k b h => ⟨(hm k b h).2.1, (hm k b h).2.2, (hm k b h).1⟩⟩
  | succ f ih =>
    intro g m hg hm
    unfold flush
    cases e : look m (g + 1) with
    | none => exact ⟨Nat.le_refl _, hg, by simp, fun k b h => .inl (hm k b h).1, fun k b h => ⟨(hm k b h).2.1, (hm k b h).2.2, (hm k b h).1⟩⟩
    | some b =>
      dsimp only
      have hb := look_some e
      obtain ⟨_, h2, h3⟩ := hm _ _ hb
      have hm' : ∀ k c, (k, c) ∈ less m (g + 1) → g + 1 < k ∧ k ≤ L.length ∧ L[k - 1]? = some c := by
        intro k c hk
        unfold less at hk
        obtain ⟨hk1, hk2⟩ := List.mem_filter.1 hk
        have := hm k c hk1
        have hne : k ≠ g + 1 := by simpa using hk2
        exact ⟨by omega, this.2⟩
      obtain ⟨i1, i2, i3, i4, i5⟩ := ih (g + 1) (less m (g + 1)) h2 hm'
      refine ⟨by omega, i2, ?_, fun k c h => .inl (i5 k c h).2.2, i5⟩
      rw [i3]
      have : L.take (g + 1) = L.take g ++ [b] := by
        rw [List.take_add_one]
        simp only [Nat.add_sub_cancel] at h3
        rw [h3]; rfl
      rw [this]
      simp

/-- A piece of 'L' is heard. -/
theorem hear_inv {L : List B} {y : Rcv} (h : RInv L y) {s : Seg} (h2 : s.seq ≤ L.length) (h3 : L[s.seq - 1]? = some s.body) (hw : 1 ≤ y.window) :
    RInv L (y.keep s).flushed ∧ y.got ≤ (y.keep s).flushed.got ∧ L.take (y.keep s).flushed.got = L.take y.got ++ (y.keep s).came ∧ (s.seq ≤ y.got + 1 → s.seq ≤ (y.keep s).flushed.got) := by
  have hk : RInv L (y.keep s) := by
    unfold Rcv.keep
    split
    · rename_i c
      refine ⟨h.got, fun k b hkb => ?_⟩
      rcases List.mem_append.1 hkb with q | q
      · exact h.m k b q
      · simp at q
        obtain ⟨rfl, rfl⟩ := q
        exact ⟨c.2.1, h2, h3⟩
    · exact h
  have hg : (y.keep s).got = y.got := by unfold Rcv.keep; split <;> rfl
  obtain ⟨i1, i2, i3, i4, i5⟩ := flush_inv L ((y.keep s).m.length + 1) (y.keep s).got (y.keep s).m hk.got hk.m
  refine ⟨⟨i2, fun k b hkb => ⟨(i5 k b hkb).2.2, (i5 k b hkb).1, (i5 k b hkb).2.1⟩⟩, by rw [← hg]; exact i1, by rw [← hg]; exact i3, fun hq => ?_⟩
  rcases Nat.lt_or_ge y.got s.seq with c | c
  · -- it is the next one: it is kept now, and comes
    have e : s.seq = y.got + 1 := by omega
    have hl : ∃ b, look (y.keep s).m (y.got + 1) = some b := by
      unfold Rcv.keep
      split
      · rename_i c'
        rw [← e]
        unfold look
        rw [List.find?_append]
        have : y.m.find? (fun x => x.1 == s.seq) = none := by
          have c1 := c'.1
          unfold look at c1
          simpa using c1
        rw [this]
        exact ⟨s.body, by simp⟩
      · rename_i c'
        rw [← e]
        cases q : look y.m s.seq with
        | none => exact (c' ⟨by simp [q], c, by omega⟩).elim
        | some b => exact ⟨b, rfl⟩
    obtain ⟨b, hb⟩ := hl
    show s.seq ≤ (flush ((y.keep s).m.length + 1) (y.keep s).got (y.keep s).m).2.1
    unfold flush
    rw [hg, hb]
    dsimp only
    have hb' := look_some hb
    rw [← hg] at hb'
    have hm' : ∀ k c, (k, c) ∈ less (y.keep s).m (y.got + 1) → y.got + 1 < k ∧ k ≤ L.length ∧ L[k - 1]? = some c := by
      intro k c hk'
      unfold less at hk'
      obtain ⟨hk1, hk2⟩ := List.mem_filter.1 hk'
      have := hk.m k c hk1
      rw [hg] at this
      have hne : k ≠ y.got + 1 := by simpa using hk2
      exact ⟨by omega, this.2⟩
    have := (flush_inv L (y.keep s).m.length (y.got + 1) (less (y.keep s).m (y.got + 1)) (by omega) hm').1
    omega
  · have : y.got ≤ (y.keep s).flushed.got := by rw [← hg]; exact i1
    omega

end Go.Proofs.Ytbphbafmchhipaa.Sea
