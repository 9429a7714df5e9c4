/-
  A line's tick.
-/
import Derived.Test.YtbphbafmchhipaaLine
namespace Go.Proofs.Ytbphbafmchhipaa
open Go.RowKit Sea

def segElS (s : Seg) (b : Value) : SA := bytesSeg b s.body
theorem bodies_weak {α : Type} {el el' : α → Value → SA} (k : ∀ x b h, el x b h → el' x b h) : ∀ (xs : List α) (bs : List Value) (h : HF), bodiesOf el xs bs h → bodiesOf el' xs bs h
  | [], _, h, p => by rw [bodiesOf_nil] at p ⊢; exact p
  | _ :: _, [], h, p => p
  | x :: xs, b :: bs, h, p => by
    obtain ⟨h1, h2, d, e, p1, p2⟩ := p
    exact ⟨h1, h2, d, e, k _ _ _ p1, bodies_weak k xs bs h2 p2⟩
def segsS (v : Value) (l : List Seg) : SA := recs segEnc segElS 70 4 v l
theorem segsAt_S {w : World} {v : Value} {l : List Seg} {R : SA} (s : Sat w (segsAt v l * R)) : Sat w (segsS v l * R) := by
  obtain ⟨bs, hb, s⟩ := Sat.recs_open.1 (show Sat w (recs _ _ _ _ _ _ * _) from s)
  refine Sat.recs_open.2 ⟨bs, hb, ?_⟩
  exact ((s.p2.mono (bodies_weak (el' := segElS) (fun x b h p => bytesRow_seg h p) l bs))).p2
theorem segEnc_length (s : Seg) (b : Value) : (segEnc s b).length = 4 := rfl
theorem sendAll_succ {ap : Bool} {net : List Pkt} {l : List Seg} {i : Nat} {g : Seg} (h : l[i]? = some g) : sendAll ap net (l.take (i + 1)) = send ap (sendAll ap net (l.take i)) ⟨0, 1, segBytes g⟩ := by
  rw [List.take_add_one, h]
  simp [sendAll]

set_option maxHeartbeats 700000 in
set_option maxRecDepth 100000 in
theorem line_tick (a px py pn : Nat) (x : Snd) (y : Rcv) (net : List Pkt) (ap : Bool) (o : List B) (hn : x.now < 1152921504606846976) (hl : x.l.length ≤ 4096) (ha : x.acked < 1152921504606846976) (hbo : ∀ q ∈ x.l, q.1.length ≤ 4096 ∧ q.2 ≤ x.now) (hfit : ∀ g ∈ x.tick.2, Fit g)
    (w : World) (R : SA) (s : Sat w (lineAt a px py pn x y net ap o * R)) :
    Calls Try.prog 12 #[.pointer (some ⟨a, 0, none⟩)] w fun e w' => e = .returned (.tuple #[]) ∧ Later w w' ∧ Sat w' (lineAt a px py pn x.tick.1 y (sendAll ap net x.tick.2) ap o * R) := by
  obtain ⟨ov, s⟩ := Sat.line_open.1 s
  have n0 : w.cell? ⟨a, 0, none⟩ = some (.pointer (some ⟨px, 0, none⟩)) := s.cell 0
  have Ht := Lib.hid (snd_tick px x hn hl ha hbo w _ s.p2)
  have hseg : x.tick.2.length ≤ 4096 := by
    refine Nat.le_trans segs_length ?_
    rw [List.length_take]
    omega
  clear hn hl ha hbo
  generalize x.tick.2 = l at *
  generalize x.tick.1 = x1 at *
  go_enter Try.func12, Try.ntmps12
  go_wp2_with (go_at_call 26
               with_reducible refine Ht.out.mono ?_
               rintro e w1 ⟨v, rfl, l1, s2⟩
               obtain ⟨_, _, s2'⟩ := Sat.recs_open.1 (show Sat w1 (recs _ _ _ _ _ _ * _) from s2.p2)
               obtain ⟨va, vc, rfl, _⟩ := s2'.row_form
               clear s2')
  have s3 : Sat w1 (lineAt a px py pn x1 y net ap o * (segsS (.slice va l.length vc) l * R)) := Sat.line_open.2 ⟨ov, (segsAt_S s2.p2).eq (by ac_rfl)⟩
  clear s2 n0
  go_loopw [3] (fun x3 wr => ∃ i : Nat, i ≤ l.length ∧ x3 = .int .i64 i ∧ Later w wr ∧ Sat wr (lineAt a px py pn x1 y (sendAll ap net (l.take i)) ap o * (segsS (.slice va l.length vc) l * R))) (fun x3 _ => l.length - (intOf x3).toNat)
  case atStart => exact ⟨0, Nat.zero_le _, rfl, l1, s3⟩
  case round =>
    obtain ⟨i, hi, rfl, lr, sr⟩ := hrel
    by_cases hlt : i < l.length
    · obtain ⟨g, hg⟩ : ∃ g, l[i]? = some g := ⟨_, List.getElem?_eq_getElem hlt⟩
      obtain ⟨bs, hb, s4⟩ := Sat.recs_open.1 (show Sat wr (recs _ _ _ _ _ _ * _) from sr.p2)
      obtain ⟨bv, hbv⟩ : ∃ bv, bs[i]? = some bv := ⟨_, List.getElem?_eq_getElem (by omega)⟩
      obtain ⟨gb, cap', hv, hc1, hc2⟩ := s4.row_some (by omega)
      cases hv
      unfold maxLen at hc2
      have hget : ∀ k, k < 4 → (cellsOf segEnc l bs)[i * 4 + k]? = (segEnc g bv)[k]? := fun k hk => cellsOf_get segEnc segEnc_length l bs i k _ _ hg hbv hk
      have g0 : wr.cell? ⟨gb, i * 4, none⟩ = some (.int .u64 g.life) := (s4.row_cell _ (by omega)).trans (hget 0 (by omega))
      have g1 : wr.cell? ⟨gb, i * 4 + 1, none⟩ = some (.int .u64 g.seq) := (s4.row_cell _ (by omega)).trans (hget 1 (by omega))
      have g2 : wr.cell? ⟨gb, i * 4 + 2, none⟩ = some (.bool g.ack) := (s4.row_cell _ (by omega)).trans (hget 2 (by omega))
      have g3 : wr.cell? ⟨gb, i * 4 + 3, none⟩ = some bv := (s4.row_cell _ (by omega)).trans (hget 3 (by omega))
      have hsplit := bodiesOf_split segElS l bs i _ _ hg hbv
      have s5 := s4
      rw [hsplit, SA.mul_assoc] at s5
      have Hs := line_sends0 a px py pn x1 y (sendAll ap net (l.take i)) ap o g bv (hfit g (List.mem_of_getElem? hg)) wr _ (s5.p4.p3.p2)
      have hbs1 : bv.oneCell' = true := by
        obtain ⟨a', c', h, _⟩ := (show Sat wr (seg _ _ _ _ _ * _) from s5.p2).seg_form
        rw [h]; rfl
      dsimp only [segVal] at Hs
      have HS := Lib.hid Hs
      have Hsp := Lib.hid (And.intro hsplit (And.intro hg hb))
      have hi1 : (i : Int) < (l.length : Int) := by omega
      have hi2 : (0 : Int) ≤ (i : Int) := Int.natCast_nonneg _
      clear Hs hsplit hget hg hbv s4 s5 hb
      go_wp2_with (go_at_call 27
                   with_reducible refine HS.out.mono ?_
                   rintro e w2 ⟨rfl, l2, s6⟩)
      go_roundw
      case rel =>
        obtain ⟨hsplit, hg, hb⟩ := Hsp.out
        refine ⟨i + 1, by omega, by go_num, lr.trans l2, ?_⟩
        rw [sendAll_succ hg]
        refine Sat.p2 (Sat.recs_open.2 ⟨bs, hb, ?_⟩)
        rw [hsplit]
        refine s6.eq ?_
        unfold segElS
        ac_rfl
      case measure => simp [intOf]; omega
    · obtain rfl : i = l.length := by omega
      rw [List.take_length] at sr
      go_wp2
      go_end0
      exact ⟨rfl, lr, sr.x2⟩

end Go.Proofs.Ytbphbafmchhipaa
