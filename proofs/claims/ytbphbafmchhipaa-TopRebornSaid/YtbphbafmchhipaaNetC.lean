/-
  A net: a packet is taken out of the row.
-/
import Derived.Test.YtbphbafmchhipaaNetB
import Derived.Test.YtbphbafmchhipaaCopy
namespace Go.Proofs.Ytbphbafmchhipaa
open Go.RowKit Sea

theorem cellsOf_erase {α : Type} {enc : α → Value → List Value} {sz : Nat} (hsz : ∀ x b, (enc x b).length = sz) : ∀ (xs : List α) (bs : List Value) (i : Nat), bs.length = xs.length → i < xs.length →
    cellsOf enc (xs.eraseIdx i) (bs.eraseIdx i) = (cellsOf enc xs bs).take (i * sz) ++ (cellsOf enc xs bs).drop ((i + 1) * sz)
  | [], _, i, _, h => by simp at h
  | _ :: _, [], _, h, _ => by cases h
  | x :: xs, b :: bs, 0, _, _ => by
    simp only [List.eraseIdx_cons_zero, cellsOf, Nat.zero_mul, List.take_zero, List.nil_append, Nat.zero_add, Nat.one_mul]
    rw [← hsz x b, List.drop_left]
  | x :: xs, b :: bs, i + 1, h, hi => by
    simp only [List.eraseIdx_cons_succ, cellsOf]
    rw [cellsOf_erase hsz xs bs i (by simpa using h) (by simpa using hi)]
    have hA := hsz x b
    generalize enc x b = A at hA ⊢
    generalize cellsOf enc xs bs = L
    have e1 : (i + 1) * sz = A.length + i * sz := by rw [hA, Nat.add_mul]; omega
    have e2 : (i + 1 + 1) * sz = A.length + (i + 1) * sz := by rw [hA, Nat.add_mul (i + 1) 1]; omega
    have t1 : (A ++ L).take (A.length + i * sz) = A ++ L.take (i * sz) := by
      rw [List.take_append, List.take_of_length_le (by omega), Nat.add_sub_cancel_left]
    have t2 : (A ++ L).drop (A.length + (i + 1) * sz) = L.drop ((i + 1) * sz) := by
      rw [List.drop_append, List.drop_of_length_le (by omega), Nat.add_sub_cancel_left, List.nil_append]
    rw [e2, t2, e1, t1, ← e1, List.append_assoc]
theorem pktCells_one {l : List Pkt} {bs : List Value} (h : ∀ b ∈ bs, b.oneCell' = true) : ∀ u ∈ cellsOf pktEnc l bs, u.oneCell' = true := by
  induction l generalizing bs with
  | nil => intro u hu; rw [cellsOf_nil] at hu; cases hu
  | cons x l ih =>
    cases bs with
    | nil => intro u hu; cases hu
    | cons b bs =>
      intro u hu
      simp only [cellsOf, List.mem_append] at hu
      rcases hu with hu | hu
      · simp only [pktEnc, List.mem_cons, List.not_mem_nil, or_false] at hu
        rcases hu with rfl | rfl | rfl
        · rfl
        · rfl
        · exact h _ List.mem_cons_self
      · exact ih (fun b hb => h b (List.mem_cons_of_mem _ hb)) u hu
theorem bodies_slices {w : World} {l : List Pkt} {bs : List Value} {R : SA} (hb : bs.length = l.length) (s : Sat w (bodiesOf pktEl l bs * R)) : ∀ b ∈ bs, b.oneCell' = true := by
  intro b hbm
  obtain ⟨i, hi, rfl⟩ := List.getElem_of_mem hbm
  have hi' : i < l.length := by omega
  rw [bodiesOf_split pktEl l bs i l[i] bs[i] (List.getElem?_eq_getElem hi') (List.getElem?_eq_getElem hi), SA.mul_assoc] at s
  obtain ⟨a, c, h, _⟩ := s.row_form
  rw [h]
  rfl

theorem zero_pkt_cells : (Builtin.zeroCells (Value.agg #[.int .i64 0, .int .i64 0, .slice none 0 0]).cells 1).toList = [.int .i64 0, .int .i64 0, .slice none 0 0] := by kernel_rfl

theorem laid_take {cur : Array Value} {o : Nat} {vs : List Value} (h : o ≤ cur.size) : (laid cur o vs).toList.take o = cur.toList.take o := by
  unfold laid
  rw [List.append_assoc, List.take_append, List.take_of_length_le (by simp; omega)]
  simp
  left
  omega
theorem cut_cells {cur : Array Value} {C z : List Value} {i m : Nat} (hC : cur.toList.take ((m + 1) * 3) = C) (hl : C.length = (m + 1) * 3) (hi : i ≤ m) (hs : (m + 1) * 3 ≤ cur.size) :
    (laid (laid cur (i * 3) (C.drop ((i + 1) * 3))) (m * 3) z).toList.take (m * 3) = C.take (i * 3) ++ C.drop ((i + 1) * 3) := by
  have hD : (C.drop ((i + 1) * 3)).length = m * 3 - i * 3 := by rw [List.length_drop, hl]; omega
  rw [laid_take (by rw [laid_size (by rw [hD]; omega)]; omega)]
  unfold laid
  have hq : (cur.toList.take (i * 3)).length = i * 3 := by simp; omega
  simp only
  rw [List.take_append, List.take_of_length_le (by rw [List.length_append, hq, hD]; omega), List.length_append, hq, hD, show m * 3 - (i * 3 + (m * 3 - i * 3)) = 0 from by omega, List.take_zero, List.append_nil]
  congr 1
  rw [← hC, List.take_take, Nat.min_eq_left (by omega)]

set_option maxHeartbeats 4000000 in
set_option maxRecDepth 100000 in
theorem net_cut (n : Nat) (l : List Pkt) (ap : Bool) (i : Nat) (p : Pkt) (hp : l[i]? = some p) (hln : l.length ≤ 4096) (w : World) (R : SA) (s : Sat w (netAt n l ap * R)) :
    Calls Try.prog 33 #[.pointer (some ⟨n, 0, none⟩), .int .i64 i] w fun e w' => ∃ a c, e = .returned (pktVal p (.slice a p.body.length c)) ∧ Later w w' ∧ Sat w' (bytesRow (.slice a p.body.length c) p.body * (netAt n (l.eraseIdx i) ap * R)) := by
  obtain ⟨c, lv, bs, H, hb, s⟩ := Sat.net_open.1 s
  have hil : i < l.length := (List.getElem?_eq_some_iff.1 hp).1
  obtain ⟨bi, hbi⟩ : ∃ b, bs[i]? = some b := ⟨bs[i]'(by omega), List.getElem?_eq_getElem (by omega)⟩
  have hone := pktCells_one (l := l) (bodies_slices hb s.p3)
  obtain ⟨g, cap, cur, rfl, hc1, hc2, hcs, hct, s⟩ := s.p2.row_open (by omega)
  have hCl := cellsOf_length pktEnc pktEnc_length l bs hb
  generalize hC : cellsOf pktEnc l bs = C at hct hone hCl
  have hcell : ∀ j, j < l.length * 3 → cur[j]? = C[j]? := by
    intro j hj
    rw [← hct, List.getElem?_take_of_lt hj, Array.getElem?_toList]
  have hei : ∀ k, k < 3 → cur[i * 3 + k]? = (pktEnc p bi)[k]? := by
    intro k hk
    rw [hcell _ (by omega), ← hC]
    exact cellsOf_get pktEnc pktEnc_length l bs i k p bi hp hbi hk
  have hsplit := bodiesOf_split pktEl l bs i p bi hp hbi
  rw [hsplit, SA.mul_assoc] at s
  obtain ⟨a, bc, hbv, _⟩ := s.p3.row_form
  subst hbv
  have n1 : w.cell? ⟨n, 1, none⟩ = some (.slice (some ⟨g, 0, none⟩) l.length cap) := (s.p2.cell 1).trans H.2.2.1
  have g0 : w.cell? ⟨g, i * 3, none⟩ = some (.int .i64 p.src) := (s.cell _).trans (hei 0 (by omega))
  have g1 : w.cell? ⟨g, i * 3 + 1, none⟩ = some (.int .i64 p.dst) := (s.cell _).trans (hei 1 (by omega))
  have g2 : w.cell? ⟨g, i * 3 + 2, none⟩ = some (.slice a p.body.length bc) := (s.cell _).trans (hei 2 (by omega))
  have hgw : g < w.heap.size := s.lt
  have hnw : n < w.heap.size := s.p2.lt
  obtain ⟨m, hm⟩ : ∃ m, l.length = m + 1 := ⟨l.length - 1, by omega⟩
  have Hm := Lib.hid hm
  have hi1 : (i : Int) < (l.length : Int) := by omega
  have hi2 : (0 : Int) ≤ (i : Int) := Int.natCast_nonneg i
  unfold maxLen at hc2
  have Hi := Lib.hid hcell
  have Hei := Lib.hid hei
  clear hcell hei hm hsplit
  have s1 := (s.alloc (.cells #[.int .i64 0, .int .i64 0, .slice none 0 0] 59)).alloc (.cells #[.int .i64 p.src, .int .i64 p.dst, .slice a p.body.length bc] 59)
  rw [alloc_size] at s1
  go_enter Try.func33, Try.ntmps33
  go_wp2
  have lW : Later w ((w.alloc (.cells #[.int .i64 0, .int .i64 0, .slice none 0 0] 59)).alloc (.cells #[.int .i64 p.src, .int .i64 p.dst, .slice a p.body.length bc] 59)) := ((Later.refl w).alloc _).alloc _
  generalize (w.alloc (.cells #[.int .i64 0, .int .i64 0, .slice none 0 0] 59)).alloc (.cells #[.int .i64 p.src, .int .i64 p.dst, .slice a p.body.length bc] 59) = W at s1 lW ⊢
  clear n1 g0 g1 g2 hgw hnw
  generalize w.heap.size = B at s1 ⊢
  have n1 : W.cell? ⟨n, 1, none⟩ = some (.slice (some ⟨g, 0, none⟩) l.length cap) := (s1.p4.cell 1).trans H.2.2.1
  have hw1 : IntKind.i64.wrap ((i : Int) + 1) = (i : Int) + 1 := by rw [IntKind.wrap_i64]; omega
  have ht1 : ((i : Int) + 1).toNat = i + 1 := by omega
  have hb1 : (0 : Int) ≤ (i : Int) + 1 := by omega
  have hb2 : (i : Int) + 1 ≤ (l.length : Int) := by omega
  have hci : ¬ cap = i := by omega
  have hile : (i : Int) ≤ (l.length : Int) := by omega
  have hmin : Nat.min (l.length - (i + 1)) (l.length - i) = l.length - (i + 1) := Nat.min_eq_left (by omega)
  have Hmin := Lib.hid hmin
  clear hmin
  have hcsl : (C.drop ((i + 1) * 3)).length = (l.length - (i + 1)) * 3 := by rw [List.length_drop, hCl, Nat.sub_mul]
  have Hcsl := Lib.hid hcsl
  have hfit : i * 3 + (C.drop ((i + 1) * 3)).length ≤ cur.size := by rw [hcsl, hcs, Nat.sub_mul]; omega
  have Hfit := Lib.hid hfit
  have Hone : RowKit.Hid (∀ v ∈ C.drop ((i + 1) * 3), v.oneCell' = true) := Lib.hid fun v hv => hone v (List.mem_of_mem_drop hv)
  have HCl := Lib.hid hCl
  have Hcs := Lib.hid hcs
  have Hct := Lib.hid hct
  have Hsrc : RowKit.Hid (∀ (W' : World) (R' : SA), Sat W' (SA.obj g (.cells cur 59 (0, 0)) * R') → ∀ j v, (C.drop ((i + 1) * 3))[j]? = some v → W'.cell? ((⟨g, (i + 1) * 3, none⟩ : Addr).add j) = some v) := by
    refine Lib.hid fun W' R' sw j v hj => ?_
    have hjl : j < (l.length - (i + 1)) * 3 := by rw [← hcsl]; exact (List.getElem?_eq_some_iff.1 hj).1
    rw [Addr.add_lit, sw.cell, Hi.out _ (by rw [Nat.sub_mul] at hjl; omega), ← hj, List.getElem?_drop]
  have Hsrc0 : RowKit.Hid (cap = i + 1 → ∀ (W' : World) (j : Nat) (v : Value), (C.drop ((i + 1) * 3))[j]? = some v → W'.cell? ((⟨g, 0, none⟩ : Addr).add j) = some v) := by
    refine Lib.hid fun hq W' j v hj => ?_
    have hjl : j < (l.length - (i + 1)) * 3 := by rw [← hcsl]; exact (List.getElem?_eq_some_iff.1 hj).1
    have : l.length - (i + 1) = 0 := by omega
    rw [this] at hjl
    omega
  clear hcsl hfit hCl hone hcs hct
  have hcapB : cap = i + 1 ∨ ¬ cap = i + 1 := Decidable.em _
  rcases hcapB with rfl | hcap
  · have E0 : RowKit.Hid (C.drop ((i + 1) * 3) = []) := Lib.hid (List.drop_of_length_le (by rw [HCl.out]; omega))
    have E1 : RowKit.Hid (laid cur (i * 3) [] = laid cur (i * 3) (C.drop ((i + 1) * 3))) := Lib.hid (by rw [E0.out])
    have Hfit0 : RowKit.Hid (i * 3 + ([] : List Value).length ≤ cur.size) := Lib.hid (by have := Hfit.out; rw [E0.out] at this; exact this)
    go_region_held3 (fun w' => w'.cell? ⟨n, 1, none⟩ = some (.slice (some ⟨g, 0, none⟩) l.length (i + 1)))
      (first | go_keep | exact k1)
      (first
        | (refine step_copy (by rfl) _ _ _ _ (by rfl) 59 3 40 info_pkt Try.underlying71 (g := g) (off := i * 3) (by rfl) (by rfl) (s1.drew.p3) 0 (Nat.zero_min _) [] (by rfl) (fun j v hj => by cases hj) Hfit0.out (fun v hv => by cases hv) ?_
           intro w2 s2 l2
           rw [E1.out] at s2
           have k1 : w2.cell? ⟨n, 1, none⟩ = some (.slice (some ⟨g, 0, none⟩) l.length (i + 1)) := (s2.p4.cell 1).trans H.2.2.1))
    have hm := Hm.out
    have hfit2 : m * 3 + 3 ≤ (laid cur (i * 3) (C.drop ((i + 1) * 3))).size := by rw [laid_size Hfit.out, Hcs.out]; omega
    have hlm : (l.length : Int) - 1 = (m : Int) := by omega
    have hwm : IntKind.i64.wrap (m : Int) = (m : Int) := by rw [IntKind.wrap_i64]; omega
    have hm1 : (m : Int) ≤ (l.length : Int) := by omega
    have hm2 : ¬ i + 1 = m := by omega
    have hlm1 : l.length - m = 1 := by omega
    have hm3 : (m : Int) ≤ ((i + 1 : Nat) : Int) := by omega
    clear hm hw1 ht1 hb1 hb2
    go_wp2
    go_region_held3 (fun w' => w'.cell? ⟨n, 1, none⟩ = some (.slice (some ⟨g, 0, none⟩) l.length (i + 1)))
      (first | go_keep | exact k2)
      (first
        | (refine step_clear (by rfl) _ _ (by rfl) 59 3 40 info_pkt Try.underlying71 (g := g) (off := m * 3) (n := 1) (by rfl) (by omega) s2.drew [.int .i64 0, .int .i64 0, .slice none 0 0] zero_pkt_cells hfit2 (one_pkt _ _ _ _ _) ?_
           intro w3 s3 l3
           have k2 : w3.cell? ⟨n, 1, none⟩ = some (.slice (some ⟨g, 0, none⟩) l.length (i + 1)) := (s3.p4.cell 1).trans H.2.2.1
           have f2 : w3.frozen? ⟨n, 1, none⟩ = false := s3.p4.free 1
           have r0 : w3.cell? ⟨B, 0, none⟩ = some (.int .i64 0) := s3.p3.cell 0
           have r1 : w3.cell? ⟨B, 1, none⟩ = some (.int .i64 0) := s3.p3.cell 1
           have r2 : w3.cell? ⟨B, 2, none⟩ = some (.slice none 0 0) := s3.p3.cell 2
           have q0 : w3.frozen? ⟨B, 0, none⟩ = false := s3.p3.free 0
           have q1 : w3.frozen? ⟨B, 1, none⟩ = false := s3.p3.free 1
           have q2 : w3.frozen? ⟨B, 2, none⟩ = false := s3.p3.free 2
           have t0 : w3.cell? ⟨B + 1, 0, none⟩ = some (.int .i64 p.src) := s3.p2.cell 0
           have t1 : w3.cell? ⟨B + 1, 1, none⟩ = some (.int .i64 p.dst) := s3.p2.cell 1
           have t2 : w3.cell? ⟨B + 1, 2, none⟩ = some (.slice a p.body.length bc) := s3.p2.cell 2
           have hnB : ¬ n = B := Ne.symm s3.p4.p4.ne
           have hnB1 : ¬ n = B + 1 := Ne.symm s3.p4.p3.ne))
    go_wp2
    go_region
    go_wp2
    refine bodyPost_ret (v := .agg #[.int .i64 p.src, .int .i64 p.dst, .slice a p.body.length bc]) (by simp [results, Try.results33, go_sem, r0, r1, r2]) rfl ⟨a, bc, rfl, ?_, ?_⟩
    · exact ((((((lW.drew.trans l2).drew.trans l3).drew.setCell _ _).setCell _ _).setCell _ _).setCell _ _)
    · have s4 := ((((s3.p4.set 1 (.slice (some ⟨g, 0, none⟩) m (i + 1))).drew.p4.set 0 (.int .i64 p.src)).set 1 (.int .i64 p.dst)).set 2 (.slice a p.body.length bc)).right.x3
      have hm := Hm.out
      have hcs := Hcs.out
      have hCl := HCl.out
      have hct := Hct.out
      have hle : (l.eraseIdx i).length = m := by rw [List.length_eraseIdx, if_pos (by omega)]; omega
      obtain ⟨h5, h0, h1, h3, h14⟩ := H
      refine Sat.p2 (Sat.net_open.2 ⟨c.setIfInBounds 1 (.slice (some ⟨g, 0, none⟩) m (i + 1)), .slice (some ⟨g, 0, none⟩) m (i + 1), bs.eraseIdx i, ⟨by simp [h5], ?_, ?_, ?_, ?_⟩, by rw [List.length_eraseIdx, List.length_eraseIdx, hb], ?_⟩)
      · rw [set_at, if_neg (by omega), h0]
      · rw [set_at, if_pos rfl, if_pos (by omega)]
      · rw [set_at, if_neg (by omega), h3]
      · rw [set_at, if_neg (by omega), h14]
      · rw [hle, cellsOf_erase pktEnc_length l bs i hb hil, hC]
        have s5 := s4.p2.mono (row_of_obj (n := m) (cap := i + 1) (sz := 3) (xs := C.take (i * 3) ++ C.drop ((i + 1) * 3)) (by omega) (by unfold maxLen; omega) (by rw [laid_size hfit2, laid_size Hfit.out, hcs]) (cut_cells (by rw [← hm]; exact hct) (by rw [hCl, hm]) (by omega) (by rw [hcs]; omega)))
        refine s5.p2.eq ?_
        unfold pktEl
        ac_rfl
  · go_region_held3 (fun w' => w'.cell? ⟨n, 1, none⟩ = some (.slice (some ⟨g, 0, none⟩) l.length cap))
      (first | go_keep | exact k1)
      (first
        | (refine step_copy (by rfl) _ _ _ _ (by rfl) 59 3 40 info_pkt Try.underlying71 (g := g) (off := i * 3) (by rfl) (by rfl) (s1.drew.p3) (l.length - (i + 1)) Hmin.out (C.drop ((i + 1) * 3)) Hcsl.out (Hsrc.out _ _ (s1.drew.p3)) Hfit.out Hone.out ?_
           intro w2 s2 l2
           have k1 : w2.cell? ⟨n, 1, none⟩ = some (.slice (some ⟨g, 0, none⟩) l.length cap) := (s2.p4.cell 1).trans H.2.2.1))
    have hm := Hm.out
    have hfit2 : m * 3 + 3 ≤ (laid cur (i * 3) (C.drop ((i + 1) * 3))).size := by rw [laid_size Hfit.out, Hcs.out]; omega
    have hlm : (l.length : Int) - 1 = (m : Int) := by omega
    have hwm : IntKind.i64.wrap (m : Int) = (m : Int) := by rw [IntKind.wrap_i64]; omega
    have hm1 : (m : Int) ≤ (l.length : Int) := by omega
    have hm2 : ¬ cap = m := by omega
    have hlm1 : l.length - m = 1 := by omega
    have hm3 : (m : Int) ≤ (cap : Int) := by omega
    clear hm hw1 ht1 hb1 hb2
    go_wp2
    go_region_held3 (fun w' => w'.cell? ⟨n, 1, none⟩ = some (.slice (some ⟨g, 0, none⟩) l.length cap))
      (first | go_keep | exact k2)
      (first
        | (refine step_clear (by rfl) _ _ (by rfl) 59 3 40 info_pkt Try.underlying71 (g := g) (off := m * 3) (n := 1) (by rfl) (by omega) s2.drew [.int .i64 0, .int .i64 0, .slice none 0 0] zero_pkt_cells hfit2 (one_pkt _ _ _ _ _) ?_
           intro w3 s3 l3
           have k2 : w3.cell? ⟨n, 1, none⟩ = some (.slice (some ⟨g, 0, none⟩) l.length cap) := (s3.p4.cell 1).trans H.2.2.1
           have f2 : w3.frozen? ⟨n, 1, none⟩ = false := s3.p4.free 1
           have r0 : w3.cell? ⟨B, 0, none⟩ = some (.int .i64 0) := s3.p3.cell 0
           have r1 : w3.cell? ⟨B, 1, none⟩ = some (.int .i64 0) := s3.p3.cell 1
           have r2 : w3.cell? ⟨B, 2, none⟩ = some (.slice none 0 0) := s3.p3.cell 2
           have q0 : w3.frozen? ⟨B, 0, none⟩ = false := s3.p3.free 0
           have q1 : w3.frozen? ⟨B, 1, none⟩ = false := s3.p3.free 1
           have q2 : w3.frozen? ⟨B, 2, none⟩ = false := s3.p3.free 2
           have t0 : w3.cell? ⟨B + 1, 0, none⟩ = some (.int .i64 p.src) := s3.p2.cell 0
           have t1 : w3.cell? ⟨B + 1, 1, none⟩ = some (.int .i64 p.dst) := s3.p2.cell 1
           have t2 : w3.cell? ⟨B + 1, 2, none⟩ = some (.slice a p.body.length bc) := s3.p2.cell 2
           have hnB : ¬ n = B := Ne.symm s3.p4.p4.ne
           have hnB1 : ¬ n = B + 1 := Ne.symm s3.p4.p3.ne))
    go_wp2
    go_region
    go_wp2
    refine bodyPost_ret (v := .agg #[.int .i64 p.src, .int .i64 p.dst, .slice a p.body.length bc]) (by simp [results, Try.results33, go_sem, r0, r1, r2]) rfl ⟨a, bc, rfl, ?_, ?_⟩
    · exact ((((((lW.drew.trans l2).drew.trans l3).drew.setCell _ _).setCell _ _).setCell _ _).setCell _ _)
    · have s4 := ((((s3.p4.set 1 (.slice (some ⟨g, 0, none⟩) m (cap))).drew.p4.set 0 (.int .i64 p.src)).set 1 (.int .i64 p.dst)).set 2 (.slice a p.body.length bc)).right.x3
      have hm := Hm.out
      have hcs := Hcs.out
      have hCl := HCl.out
      have hct := Hct.out
      have hle : (l.eraseIdx i).length = m := by rw [List.length_eraseIdx, if_pos (by omega)]; omega
      obtain ⟨h5, h0, h1, h3, h14⟩ := H
      refine Sat.p2 (Sat.net_open.2 ⟨c.setIfInBounds 1 (.slice (some ⟨g, 0, none⟩) m (cap)), .slice (some ⟨g, 0, none⟩) m (cap), bs.eraseIdx i, ⟨by simp [h5], ?_, ?_, ?_, ?_⟩, by rw [List.length_eraseIdx, List.length_eraseIdx, hb], ?_⟩)
      · rw [set_at, if_neg (by omega), h0]
      · rw [set_at, if_pos rfl, if_pos (by omega)]
      · rw [set_at, if_neg (by omega), h3]
      · rw [set_at, if_neg (by omega), h14]
      · rw [hle, cellsOf_erase pktEnc_length l bs i hb hil, hC]
        have s5 := s4.p2.mono (row_of_obj (n := m) (cap := cap) (sz := 3) (xs := C.take (i * 3) ++ C.drop ((i + 1) * 3)) (by omega) (by unfold maxLen; omega) (by rw [laid_size hfit2, laid_size Hfit.out, hcs]) (cut_cells (by rw [← hm]; exact hct) (by rw [hCl, hm]) (by omega) (by rw [hcs]; omega)))
        refine s5.p2.eq ?_
        unfold pktEl
        ac_rfl

end Go.Proofs.Ytbphbafmchhipaa
