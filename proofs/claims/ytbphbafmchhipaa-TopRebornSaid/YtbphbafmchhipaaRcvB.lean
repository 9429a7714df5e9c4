/-
  A receiver hears a piece.
-/
import Derived.Test.YtbphbafmchhipaaRcv
namespace Go.Proofs.Ytbphbafmchhipaa
open Go.RowKit Sea

set_option maxHeartbeats 8000000 in
set_option maxRecDepth 100000 in
/-- Of a life that is over. -/
theorem rcv_old (p : Nat) (y : Rcv) (x : Seg) (bv : Value) (hr : right x = true) (ha : x.ack = false) (hlife : x.life < y.life) (w : World) (R : SA) (s : Sat w (rcvAt p y * (bytesSeg bv x.body * R))) :
    Calls Try.prog 31 #[.pointer (some ⟨p, 0, none⟩), segVal x bv] w fun e w' => e = .returned (.tuple #[.slice none 0 0, .agg #[.int .u64 0, .int .u64 0, .bool false, .slice none 0 0], .int .i64 70]) ∧ Later w w' ∧ Sat w' (rcvAt p y * (bytesSeg bv x.body * R)) := by
  obtain ⟨mb, bs, hb, s⟩ := Sat.rcv_open.1 s
  obtain ⟨life, seq, ack, body⟩ := x
  dsimp only at *
  subst ha
  have s1 := (s.alloc (.cells #[.int .u64 life, .int .u64 seq, .bool false, bv] 70)).alloc (.cells #[.int .u64 0, .int .u64 0, .bool false, .slice none 0 0] 70)
  rw [alloc_size] at s1
  have Hr0 := right_calls ⟨life, seq, false, body⟩ bv _ _ s1.p6 hr
  dsimp only [segVal] at Hr0
  have Hr := Lib.hid Hr0
  clear Hr0 hr
  have hl1 : decide (life < y.life) = true := by simpa using hlife
  unfold segVal
  dsimp only
  go_enter Try.func31, Try.ntmps31
  go_wp2_with (go_at_call 43
               with_reducible refine Hr.out.mono ?_
               rintro e w1 ⟨rfl, l1, s2⟩
               have r0 : w1.cell? ⟨w.heap.size, 0, none⟩ = some (.int .u64 life) := s2.p3.cell 0
               have r2 : w1.cell? ⟨w.heap.size, 2, none⟩ = some (.bool false) := s2.p3.cell 2
               have n1 : w1.cell? ⟨p, 1, none⟩ = some (.int .u64 y.life) := s2.p4.cell 1
               have t0 : w1.cell? ⟨w.heap.size + 1, 0, none⟩ = some (.int .u64 0) := s2.p2.cell 0
               have t1 : w1.cell? ⟨w.heap.size + 1, 1, none⟩ = some (.int .u64 0) := s2.p2.cell 1
               have t2 : w1.cell? ⟨w.heap.size + 1, 2, none⟩ = some (.bool false) := s2.p2.cell 2
               have t3 : w1.cell? ⟨w.heap.size + 1, 3, none⟩ = some (.slice none 0 0) := s2.p2.cell 3
               have q0 : w1.frozen? ⟨w.heap.size + 1, 0, none⟩ = false := s2.p2.free 0
               have q1 : w1.frozen? ⟨w.heap.size + 1, 1, none⟩ = false := s2.p2.free 1
               have q2 : w1.frozen? ⟨w.heap.size + 1, 2, none⟩ = false := s2.p2.free 2
               have q3 : w1.frozen? ⟨w.heap.size + 1, 3, none⟩ = false := s2.p2.free 3)
  go_quiet (fail)
  go_wp2
  refine bodyPost_ret (v := .tuple #[.slice none 0 0, .agg #[.int .u64 0, .int .u64 0, .bool false, .slice none 0 0], .int .i64 70]) (by simp [results, Try.results31, go_sem, t0, t1, t2, t3]) rfl ⟨rfl, ?_, ?_⟩
  · exact (((((((Later.refl w).alloc _).alloc _).trans l1).drewN _).setCell _ _).setCell _ _).setCell _ _ |>.setCell _ _
  · have s3 := (((((s2.drewN nq).p2.set 0 (.int .u64 0)).set 1 (.int .u64 0)).set 2 (.bool false)).set 3 (.slice none 0 0)).right.x2
    exact Sat.rcv_open.2 ⟨mb, bs, hb, s3.eq (by ac_rfl)⟩

theorem early_lookup {mb : Nat} {m : List (Nat × B)} {bs : List Value} (hb : bs.length = m.length) {w : World} {R : SA} (s : Sat w (bodiesOf earlyEl m bs * R)) (k : Nat) : ∃ a n c has, has = (Sea.look m k).isSome ∧
    ∀ w' R', Sat w' (mapAt (.int .u64) mb (earlyKV m bs) * R') → (Instr.lookup 83 (.map (some mb)) (.int .u64 k) true).run Try.prog w' = .ok (.tuple #[.agg #[.slice a n c], .bool has]) w' := by
  cases h : Sea.look m k with
  | none =>
    exact ⟨none, 0, 0, false, rfl, fun w' R' s => run_lookup_none Try.underlying83 Try.underlying32 (zero_early w') s (show MapKept.IsKey (.int .u64) (.int .u64 k) from rfl) (earlyKV_absent hb h) true⟩
  | some b =>
    obtain ⟨j, hj⟩ := look_at h
    obtain ⟨V, hV⟩ : ∃ V, bs[j]? = some V := ⟨_, List.getElem?_eq_getElem (by have := (List.getElem?_eq_some_iff.1 hj).1; omega)⟩
    rw [bodiesOf_split earlyEl m bs j _ _ hj hV, SA.mul_assoc] at s
    obtain ⟨a, c, rfl, _⟩ := (show Sat w (row _ _ _ _ _ * _) from s).row_form
    exact ⟨a, _, c, true, rfl, fun w' R' s => run_lookup_some Try.underlying83 Try.underlying32 s (show MapKept.IsKey (.int .u64) (.int .u64 k) from rfl) (earlyKV_get m bs j _ _ hj hV) true⟩
theorem early_none {mb : Nat} {m : List (Nat × B)} {bs : List Value} (hb : bs.length = m.length) {k : Nat} (h : Sea.look m k = none) {w' : World} {R' : SA} (s : Sat w' (mapAt (.int .u64) mb (earlyKV m bs) * R')) :
    (Instr.lookup 83 (.map (some mb)) (.int .u64 k) true).run Try.prog w' = .ok (.tuple #[.agg #[.slice none 0 0], .bool false]) w' :=
  run_lookup_none Try.underlying83 Try.underlying32 (zero_early w') s (show MapKept.IsKey (.int .u64) (.int .u64 k) from rfl) (earlyKV_absent hb h) true
theorem early_some {mb : Nat} {m : List (Nat × B)} {bs : List Value} {k : Nat} {b : B} {j : Nat} (hj : m[j]? = some (k, b)) {V : Value} (hV : bs[j]? = some V) {w' : World} {R' : SA} (s : Sat w' (mapAt (.int .u64) mb (earlyKV m bs) * R')) :
    (Instr.lookup 83 (.map (some mb)) (.int .u64 k) true).run Try.prog w' = .ok (.tuple #[.agg #[V], .bool true]) w' :=
  run_lookup_some Try.underlying83 Try.underlying32 s (show MapKept.IsKey (.int .u64) (.int .u64 k) from rfl) (earlyKV_get m bs j _ _ hj hV) true
theorem one_slice (a : Option Addr) (n c : Nat) : ∀ u ∈ [Value.slice a n c], u.oneCell' = true := by
  intro u hu
  simp only [List.mem_cons, List.not_mem_nil, or_false] at hu
  rcases hu with rfl
  rfl
def lenV : Value → Nat
  | .slice _ n _ => n
  | _ => 0
theorem keep4 {W : World} {p b o : Nat} {v0 v1 v2 v3 : Value} (h : ¬ p = b) : ((((W.setCell ⟨b, 0, none⟩ v0).setCell ⟨b, 1, none⟩ v1).setCell ⟨b, 2, none⟩ v2).setCell ⟨b, 3, none⟩ v3).drew.cell? ⟨p, o, none⟩ = W.cell? ⟨p, o, none⟩ := by
  have h' : ¬ b = p := fun e => h e.symm
  show ((((W.setCell ⟨b, 0, none⟩ v0).setCell ⟨b, 1, none⟩ v1).setCell ⟨b, 2, none⟩ v2).setCell ⟨b, 3, none⟩ v3).cell? ⟨p, o, none⟩ = _
  simp [World.cell?, World.setCell, Array.getElem?_modify, h']
theorem flush_none {f g : Nat} {m : List (Nat × B)} (h : Sea.look m (g + 1) = none) : flush (f + 1) g m = ([], g, m) := by
  rw [flush, h]
theorem flush_some {f g : Nat} {m : List (Nat × B)} {b : B} (h : Sea.look m (g + 1) = some b) : flush (f + 1) g m = (b :: (flush f (g + 1) (less m (g + 1))).1, (flush f (g + 1) (less m (g + 1))).2) := by
  rw [flush, h]
theorem hear_done {zk : Rcv} {f g : Nat} {m : List (Nat × B)} {L : List B} (h1 : flush (zk.m.length + 1) zk.got zk.m = (L ++ (flush (f + 1) g m).1, (flush (f + 1) g m).2)) (hlk : Sea.look m (g + 1) = none) : zk.flushed = ⟨zk.window, zk.life, g, m⟩ ∧ zk.came = L := by
  rw [flush_none hlk, List.append_nil] at h1
  unfold Rcv.flushed Rcv.came
  rw [h1]
  exact ⟨rfl, rfl⟩
theorem hear_last {zk zz : Rcv} {g p : Nat} {m : List (Nat × B)} {L : List B} {v : Value} {w W : World} {R : SA} (hz : zk = zz) (hd : zk.flushed = ⟨zk.window, zk.life, g, m⟩ ∧ zk.came = L) (l : Later w W) (s : Sat W (rcvAt p ⟨zk.window, zk.life, g, m⟩ * (outAt v L * R))) :
    ∃ u, Ending.returned (.tuple #[v, .agg #[.int .u64 zk.life, .int .u64 g, .bool true, .slice none 0 0], .int .i64 0]) = Ending.returned (.tuple #[u, .agg #[.int .u64 zz.flushed.life, .int .u64 zz.flushed.got, .bool true, .slice none 0 0], .int .i64 0]) ∧ Later w W ∧ Sat W (rcvAt p zz.flushed * (outAt u zz.came * R)) := by
  subst hz
  rw [hd.1, hd.2]
  exact ⟨v, rfl, l, s⟩
def keepB (z : Rcv) (seq : Nat) (has : Bool) : Bool := !has && (decide (z.got < seq) && decide (seq - z.got ≤ z.window))
theorem Sat.rcv_fold {w : World} {p mb : Nat} {bs : List Value} {y : Rcv} {R : SA} (hb : bs.length = y.m.length)
    (s : Sat w (SA.obj p (.cells (rcvCells y mb) 85 (0, 0)) * (mapAt (.int .u64) mb (earlyKV y.m bs) * (bodiesOf earlyEl y.m bs * R)))) : Sat w (rcvAt p y * R) := Sat.rcv_open.2 ⟨mb, bs, hb, s⟩

theorem hear_round {zk : Rcv} {f g p mb j bl Bn : Nat} {m : List (Nat × B)} {L : List B} {b : B} {bs obs : List Value} {Va a6 : Option Addr} {Vc c6 : Nat} {w w6 : World} {on oe : Obj} {R : SA} (hn : (m.map (·.1)).Nodup) (hb : bs.length = m.length) (hobs : obs.length = L.length)
    (hj : m[j]? = some (g + 1, b)) (hsplit : bodiesOf earlyEl m bs = earlyEl (g + 1, b) (.slice Va b.length Vc) * bodiesOf earlyEl (m.eraseIdx j) (bs.eraseIdx j)) (hlk : Sea.look m (g + 1) = some b)
    (h1 : flush (zk.m.length + 1) zk.got zk.m = (L ++ (flush (f + 1) g m).1, (flush (f + 1) g m).2)) (h2 : L.length + m.length = zk.m.length) (h3 : g + m.length = zk.got + zk.m.length) (h4 : m.length < f + 1) (l : Later w w6)
    (s : Sat w6 (row 25 1 (.slice a6 (L.length + 1) c6) (L.length + 1) (cellsOf outEnc L obs ++ [.slice Va b.length Vc]) * (SA.obj Bn on * (bodiesOf outEl L obs * (mapAt (.int .u64) mb ((earlyKV m bs).eraseIdx j) *
      (SA.obj p (.cells #[.int .i64 zk.window, .int .u64 zk.life, .int .u64 ((g : Int) + 1), .map (some mb)] 85 (0, 0)) * (SA.obj bl oe * (bodiesOf earlyEl m bs * R)))))))) :
    ∃ (f' g' : Nat) (m' : List (Nat × B)) (L' : List B) (oa' : Option Addr) (oc' : Nat), Value.slice a6 (L.length + 1) c6 = .slice oa' L'.length oc' ∧ flush (zk.m.length + 1) zk.got zk.m = (L' ++ (flush f' g' m').1, (flush f' g' m').2) ∧ L'.length + m'.length = zk.m.length ∧ m'.length < f' ∧ g' + m'.length = zk.got + zk.m.length ∧ Later w w6 ∧
      Sat w6 (rcvAt p ⟨zk.window, zk.life, g', m'⟩ * (outAt (.slice a6 (L.length + 1) c6) L' * R)) := by
  have hl := less_erase hn hj
  have hjl := (List.getElem?_eq_some_iff.1 hj).1
  have he : (m.eraseIdx j).length = m.length - 1 := List.length_eraseIdx_of_lt hjl
  refine ⟨f, g + 1, m.eraseIdx j, L ++ [b], a6, c6, by simp, ?_, by simp; omega, by omega, by omega, l, ?_⟩
  · rw [h1, flush_some hlk, hl]
    simp
  · have s2 := s.x2.x5
    rw [hsplit, SA.mul_assoc, ← earlyKV_erase] at s2
    have s3 : Sat w6 (outAt (.slice a6 (L.length + 1) c6) (L ++ [b]) * (mapAt (.int .u64) mb (earlyKV (m.eraseIdx j) (bs.eraseIdx j)) * (SA.obj p (.cells #[.int .i64 zk.window, .int .u64 zk.life, .int .u64 ((g : Int) + 1), .map (some mb)] 85 (0, 0)) * (bodiesOf earlyEl (m.eraseIdx j) (bs.eraseIdx j) * R)))) := by
      refine Sat.recs_snoc (b := .slice Va b.length Vc) hobs (s2.eq ?_)
      unfold earlyEl outEl outEnc
      dsimp only
      ac_rfl
    refine Sat.rcv_fold (y := ⟨zk.window, zk.life, g + 1, m.eraseIdx j⟩) (bs := bs.eraseIdx j) (mb := mb) (by simp only; rw [he, List.length_eraseIdx_of_lt (by omega), hb]) (s3.eq ?_)
    unfold rcvCells
    dsimp only
    ac_rfl

set_option maxHeartbeats 700000 in
set_option maxRecDepth 100000 in
theorem rcv_hear' (p : Nat) (y : Rcv) (x : Seg) (bv : Value) (hr : right x = true) (ha : x.ack = false) (hlife : ¬ x.life < y.life) (hx1 : x.life < 18446744073709551616) (hx2 : x.seq < 1000000) (hy1 : y.got < 1000000) (hy2 : y.window ≤ 64) (hy3 : y.m.length ≤ 4096) (w : World) (R : SA) (s : Sat w (rcvAt p y * (bytesSeg bv x.body * R))) :
    Calls Try.prog 31 #[.pointer (some ⟨p, 0, none⟩), segVal x bv] w fun e w' => ∃ v, e = .returned (.tuple #[v, .agg #[.int .u64 ((y.fresh x.life).keep x).flushed.life, .int .u64 ((y.fresh x.life).keep x).flushed.got, .bool true, .slice none 0 0], .int .i64 0]) ∧ Later w w' ∧ Sat w' (rcvAt p ((y.fresh x.life).keep x).flushed * (outAt v ((y.fresh x.life).keep x).came * (bytesSeg bv x.body * R))) := by
  obtain ⟨ba, bc, rfl, _⟩ := (show Sat w (seg _ _ _ _ _ * _) from s.p2).seg_form
  obtain ⟨mb, bs, hb, s⟩ := Sat.rcv_open.1 s
  obtain ⟨life, seq, ack, body⟩ := x
  dsimp only at *
  subst ha
  have s1 := (s.alloc (.cells #[.int .u64 life, .int .u64 seq, .bool false, .slice ba body.length bc] 70)).alloc (.cells #[.int .u64 0, .int .u64 0, .bool false, .slice none 0 0] 70)
  rw [alloc_size] at s1
  have Hr0 := right_calls ⟨life, seq, false, body⟩ (.slice ba body.length bc) _ _ s1.p6 hr
  dsimp only [segVal] at Hr0
  have Hr := Lib.hid Hr0
  have hbody := right_body hr
  dsimp only at hbody
  clear Hr0 hr
  have hl1 : decide (life < y.life) = false := by simpa using hlife
  have Hlife := Lib.hid hlife
  clear hlife
  unfold segVal
  dsimp only
  go_enter Try.func31, Try.ntmps31
  go_wp2_with (go_at_call 43
               with_reducible refine Hr.out.mono ?_
               rintro e w1 ⟨rfl, l1, s2⟩
               have r0 : w1.cell? ⟨w.heap.size, 0, none⟩ = some (.int .u64 life) := s2.p3.cell 0
               have r2 : w1.cell? ⟨w.heap.size, 2, none⟩ = some (.bool false) := s2.p3.cell 2
               have n1 : w1.cell? ⟨p, 1, none⟩ = some (.int .u64 y.life) := s2.p4.cell 1)
  go_quiet (fail)
  rename Nat => qa
  go_wp2
  clear hl1
  go_quiet (fail)
  rename Nat => qb
  have s3 := (s2.drewN qa).drewN qb
  have l3 : Later w ((w1.drewN qa).drewN qb) := (((((Later.refl w).alloc _).alloc _).trans l1).drewN _).drewN _
  have r0' : ((w1.drewN qa).drewN qb).cell? ⟨w.heap.size, 0, none⟩ = some (.int .u64 life) := r0
  clear r0 r2 n1 s2 l1
  generalize ((w1.drewN qa).drewN qb) = W at s3 l3 r0' ⊢
  clear w1 qa qb
  go_upto_if 40 with fail
  go_cut [] (fun wx => Later w wx ∧ Sat wx (rcvAt p (y.fresh life) * (SA.obj w.heap.size (.cells #[.int .u64 life, .int .u64 seq, .bool false, .slice ba body.length bc] 70 (0, 0)) * (SA.obj (w.heap.size + 1) (.cells #[.int .u64 0, .int .u64 0, .bool false, .slice none 0 0] 70 (0, 0)) * (bytesSeg (.slice ba body.length bc) body * R)))))
  case first =>
    by_cases hf : y.life < life
    · have hd : decide (y.life < life) = true := by simpa using hf
      have n3 : W.cell? ⟨p, 3, none⟩ = some (.map (some mb)) := s3.p4.cell 3
      go_wp2_with (refine wpList_clear_map (by rfl) _ _ _ _ (by rfl) Try.underlying83 (by rfl) s3.p5 ?_
                   intro w4 s4 l4
                   have k0 : w4.cell? ⟨w.heap.size, 0, none⟩ = some (.int .u64 life) := s4.p4.cell 0
                   have f1 : w4.frozen? ⟨p, 1, none⟩ = false := s4.p5.free 1
                   have f2 : w4.frozen? ⟨p, 2, none⟩ = false := s4.p5.free 2
                   have g1 : w4.cell? ⟨p, 1, none⟩ = some (.int .u64 y.life) := s4.p5.cell 1
                   have g2 : w4.cell? ⟨p, 2, none⟩ = some (.int .u64 y.got) := s4.p5.cell 2)
      go_meet
      have s5 := ((s4.p5.set 1 (.int .u64 life)).set 2 (.int .u64 0))
      have e : y.fresh life = ⟨y.window, life, 0, []⟩ := by unfold Rcv.fresh; rw [if_pos hf]
      refine ⟨((l3.trans l4).setCell _ _).setCell _ _, ?_⟩
      rw [e]
      refine Sat.rcv_fold (bs := []) (mb := mb) rfl ?_
      rw [earlyKV_nil, bodiesOf_nil, SA.one_mul]
      exact (s5.x6).eq (by unfold rcvCells; ac_rfl)
    · have hd : decide (y.life < life) = false := by simpa using hf
      go_wp2_with fail
      go_meet
      have e : y.fresh life = y := by unfold Rcv.fresh; rw [if_neg hf]
      rw [e]
      exact ⟨l3, Sat.rcv_fold hb (s3.eq (by ac_rfl))⟩
  case rest =>
    clear s3 l3 r0' W
    obtain ⟨l3, s3⟩ := hcut
    have Y0 : (y.fresh life).life = life ∧ (y.fresh life).got < 1000000 ∧ (y.fresh life).window = y.window := by
      unfold Rcv.fresh
      have := Hlife.out
      split
      · exact ⟨rfl, by simp, rfl⟩
      · exact ⟨by omega, hy1, rfl⟩
    obtain ⟨z, hz⟩ : ∃ z, z = y.fresh life := ⟨_, rfl⟩
    rw [← hz] at s3 Y0
    have Hz := Lib.hid hz
    clear hz
    obtain ⟨hz1, hz2, hz3⟩ := Y0
    have hzw : z.window ≤ 64 := by omega
    have Hz3 := Lib.hid hz3
    clear hz3
    obtain ⟨mb, bs, hb, s4⟩ := Sat.rcv_open.1 s3
    obtain ⟨Va, Vn, Vc, has, hhas, hlook⟩ := early_lookup (mb := mb) hb s4.p3 seq
    have s5 := s4.alloc (.cells #[.slice none 0 0] 102)
    have E1 := hlook _ _ s4.drew.p2
    have E2 := hlook _ _ s5.drew.p3
    have n3 : wc.cell? ⟨p, 3, none⟩ = some (.map (some mb)) := s4.cell 3
    have k1 : wc.cell? ⟨w.heap.size, 1, none⟩ = some (.int .u64 seq) := s4.p4.cell 1
    have nn := World.new_ne wc _ n3
    have nk := World.new_ne wc _ k1
    have Hhas := Lib.hid hhas
    clear hhas hlook
    go_upto_region 12 with fail
    go_cut [8] (fun x8 wx => x8 = .bool has ∧ Later w wx ∧ Sat wx (SA.obj p (.cells (rcvCells z mb) 85 (0, 0)) * (mapAt (.int .u64) mb (earlyKV z.m bs) * (bodiesOf earlyEl z.m bs * (SA.obj w.heap.size (.cells #[.int .u64 life, .int .u64 seq, .bool false, .slice ba body.length bc] 70 (0, 0)) * (SA.obj (w.heap.size + 1) (.cells #[.int .u64 0, .int .u64 0, .bool false, .slice none 0 0] 70 (0, 0)) * (bytesSeg (.slice ba body.length bc) body * R)))))))
    case first =>
      go_region_held3 (fun w' => w'.cell? ⟨p, 3, none⟩ = some (.map (some mb)) ∧ w'.cell? ⟨w.heap.size, 1, none⟩ = some (.int .u64 seq)) (go_keep) (fail)
      all_goals
        go_wp2_with fail
        go_meet
        exact ⟨rfl, (l3.alloc _).drew, (s4.alloc _).drew.right⟩
    case rest =>
      obtain ⟨rfl, l4, s6⟩ := hcut
      clear s3 l3 s4 s5 E1 E2 n3 k1 nn nk
      have n0 : wc.cell? ⟨p, 0, none⟩ = some (.int .i64 z.window) := s6.cell 0
      have n2 : wc.cell? ⟨p, 2, none⟩ = some (.int .u64 z.got) := s6.cell 2
      have n3 : wc.cell? ⟨p, 3, none⟩ = some (.map (some mb)) := s6.cell 3
      have k1 : wc.cell? ⟨w.heap.size, 1, none⟩ = some (.int .u64 seq) := s6.p4.cell 1
      have k3 : wc.cell? ⟨w.heap.size, 3, none⟩ = some (.slice ba body.length bc) := s6.p4.cell 3
      go_upto_region 13 with fail
      go_cut [88] (fun x88 wx => x88 = .bool (keepB z seq has) ∧ ∃ n, wx = wc.drewN n)
      case first =>
        by_cases h1 : has = true
        · subst h1
          go_quiet (fail)
          go_wp2_with fail
          go_meet
          exact ⟨rfl, _, rfl⟩
        · have h1 : has = false := by simpa using h1
          subst h1
          by_cases h2 : z.got < seq
          · have hd : decide (z.got < seq) = true := by simpa using h2
            have hw : IntKind.u64.wrap ((seq : Int) - (z.got : Int)) = ((seq - z.got : Nat) : Int) := by rw [wraps_u64 _ (by omega) (by omega)]; omega
            have hw2 : IntKind.u64.wrap (z.window : Int) = (z.window : Int) := by rw [wraps_u64 _ (by omega) (by omega)]
            go_quiet (fail)
            go_wp2_with fail
            go_meet
            exact ⟨by unfold keepB; simp [h2], _, rfl⟩
          · have hd : decide (z.got < seq) = false := by simpa using h2
            go_quiet (fail)
            go_wp2_with fail
            go_meet
            exact ⟨by unfold keepB; simp [h2], _, rfl⟩
      case rest =>
        obtain ⟨rfl, nn, rfl⟩ := hcut
        go_upto_if 88 with fail
        go_cut [] (fun wx => Later w wx ∧ Sat wx (rcvAt p (z.keep ⟨life, seq, false, body⟩) * (SA.obj w.heap.size (.cells #[.int .u64 life, .int .u64 seq, .bool false, .slice ba body.length bc] 70 (0, 0)) * (SA.obj (w.heap.size + 1) (.cells #[.int .u64 0, .int .u64 0, .bool false, .slice none 0 0] 70 (0, 0)) * (bytesSeg (.slice ba body.length bc) body * R)))))
        case first =>
          by_cases hk : keepB z seq has = true
          · have hk2 : has = false ∧ z.got < seq ∧ seq - z.got ≤ z.window := by simpa [keepB] using hk
            have hlk : Sea.look z.m seq = none := by
              have := Hhas.out
              rw [hk2.1] at this
              cases q : Sea.look z.m seq with
              | none => rfl
              | some b => rw [q] at this; cases this
            have Hkeep : RowKit.Hid (z.keep ⟨life, seq, false, body⟩ = { z with m := z.m ++ [(seq, body)] }) := by
              refine Lib.hid ?_
              unfold Rcv.keep
              rw [if_pos ⟨by rw [hlk]; rfl, hk2.2.1, hk2.2.2⟩]
            have Habs := Lib.hid (earlyKV_absent hb hlk)
            have hm1 : 0 + body.length ≤ maxLen := by unfold maxLen; omega
            have hm2 : (0 + body.length) * 1 ≤ 140737488355328 := by omega
            have s7 := s6.drewN nn
            have l7 := l4.drewN nn
            have m3 : (wc.drewN nn).cell? ⟨p, 3, none⟩ = some (.map (some mb)) := n3
            have m1 : (wc.drewN nn).cell? ⟨w.heap.size, 1, none⟩ = some (.int .u64 seq) := k1
            have m2 : (wc.drewN nn).cell? ⟨w.heap.size, 3, none⟩ = some (.slice ba body.length bc) := k3
            clear n0 n2 n3 k1 k3 s6 l4 hlk hk2
            generalize wc.drewN nn = W at s7 l7 m3 m1 m2 ⊢
            clear wc nn
            rw [hk]
            go_wp2_with fail
            go_region_held3 (fun w' => w'.cell? ⟨p, 3, none⟩ = some (.map (some mb)) ∧ w'.cell? ⟨w.heap.size, 1, none⟩ = some (.int .u64 seq) ∧ w'.cell? ⟨w.heap.size, 3, none⟩ = some (.slice ba body.length bc))
              (first | go_keep | exact ⟨m3, m1, m2⟩ | exact ⟨q3, q1, q2⟩)
              (first
                | (refine step_append (by rfl) _ _ _ (by rfl) 5 1 1 info_u8 Try.underlying25 (by rfl) (by omega) 0 body.length [] (bts body) (by rfl) (by rfl) (((s7.alloc _).drew).made (n := 0) (sz := 1) rfl max0) ((s7.alloc _).drew.p7.left) (bts_one body) hm1 hm2 ?_
                   intro a1 c1 w1 s8 l8
                   simp only [Nat.zero_add, List.nil_append] at s8
                   have m3 : w1.cell? ⟨p, 3, none⟩ = some (.map (some mb)) := s8.p2.cell 3
                   have m1 : w1.cell? ⟨w.heap.size, 1, none⟩ = some (.int .u64 seq) := s8.p5.cell 1
                   have m2 : w1.cell? ⟨w.heap.size, 3, none⟩ = some (.slice ba body.length bc) := s8.p5.cell 3
                   obtain ⟨w2, hmu, s9, l9⟩ := run_update_new Try.underlying83 Try.underlying32 s8.p3 (show MapKept.IsKey (.int .u64) (.int .u64 seq) from rfl) Habs.out (.agg #[.slice a1 body.length c1])
                   have q3 : w2.cell? ⟨p, 3, none⟩ = some (.map (some mb)) := s9.p3.cell 3
                   have q1 : w2.cell? ⟨w.heap.size, 1, none⟩ = some (.int .u64 seq) := s9.p5.cell 1
                   have q2 : w2.cell? ⟨w.heap.size, 3, none⟩ = some (.slice ba body.length bc) := s9.p5.cell 3))
            go_wp2_with fail
            go_meet
            refine ⟨((l7.alloc _).drew.trans l8).trans l9, ?_⟩
            rw [Hkeep.out]
            refine Sat.rcv_fold (mb := mb) (bs := bs ++ [.slice a1 body.length c1]) (by simp [hb]) ?_
            dsimp only
            rw [earlyKV_append _ _ _ _ hb, bodiesOf_append _ _ _ _ _ hb]
            simp only [bodiesOf, SA.mul_one]
            refine s9.eq ?_
            unfold earlyEl bytesRow
            dsimp only
            unfold rcvCells
            dsimp only
            ac_rfl
          · have hk : keepB z seq has = false := by simpa using hk
            have hk2 : ¬ ((Sea.look z.m seq).isNone ∧ z.got < seq ∧ seq - z.got ≤ z.window) := by
              intro q
              have e := Hhas.out
              rw [Option.isNone_iff_eq_none.1 q.1] at e
              unfold keepB at hk
              simp [e, q.2.1, q.2.2] at hk
            have Hkeep : RowKit.Hid (z.keep ⟨life, seq, false, body⟩ = z) := by
              refine Lib.hid ?_
              unfold Rcv.keep
              rw [if_neg hk2]
            clear hk2
            go_wp2_with fail
            go_meet
            rw [Hkeep.out]
            exact ⟨l4.drewN _, Sat.rcv_fold hb (s6.drewN _)⟩
        case rest =>
          clear l4 s6 n0 n2 n3 k1 k3
          obtain ⟨l5, s7⟩ := hcut
          obtain ⟨zk, hzk⟩ : ∃ zk, zk = z.keep ⟨life, seq, false, body⟩ := ⟨_, rfl⟩
          have hk1 : zk.got < 1000000 ∧ zk.window = y.window ∧ zk.life = life := by
            have e := Hz3.out
            rw [hzk]
            unfold Rcv.keep
            split
            · exact ⟨hz2, e, hz1⟩
            · exact ⟨hz2, e, hz1⟩
          have hkm : zk.m.length ≤ 4097 := by
            have e : z.m.length ≤ 4096 := by
              rw [Hz.out]
              unfold Rcv.fresh
              split
              · simp
              · exact hy3
            rw [hzk]
            unfold Rcv.keep
            split
            · simp; omega
            · omega
          rw [← hzk] at s7
          have Hzk := Lib.hid hzk
          clear hzk hb
          obtain ⟨hg0, hkw, hkl⟩ := hk1
          have Hkl := Lib.hid (And.intro hkw hkl)
          clear hkw hkl
          go_wp2_with fail
          go_loopw [9] (fun x9 wr => ∃ (f g : Nat) (m : List (Nat × B)) (L : List B) (oa : Option Addr) (oc : Nat), x9 = .slice oa L.length oc ∧ flush (zk.m.length + 1) zk.got zk.m = (L ++ (flush f g m).1, (flush f g m).2) ∧ L.length + m.length = zk.m.length ∧ m.length < f ∧ g + m.length = zk.got + zk.m.length ∧ Later w wr ∧
            Sat wr (rcvAt p ⟨zk.window, zk.life, g, m⟩ * (outAt x9 L * (SA.obj (w.heap.size + 1) (.cells #[.int .u64 0, .int .u64 0, .bool false, .slice none 0 0] 70 (0, 0)) * (bytesSeg (.slice ba body.length bc) body * R))))) (fun x9 _ => zk.m.length - lenV x9)
          case atStart =>
            refine ⟨zk.m.length + 1, zk.got, zk.m, [], none, 0, rfl, by simp, by simp, by omega, by omega, l5, ?_⟩
            have s8 : Sat wc (outAt (.slice none 0 0) [] * _) := Sat.recs_none s7.x2
            exact s8.p2
          case round =>
            obtain ⟨f, g, m, L, oa, oc, rfl, hfl, hLm, hmf, hgm, lr, sr⟩ := hrel
            obtain ⟨mb, bs, hb, s8⟩ := Sat.rcv_open.1 sr
            have hb : bs.length = m.length := hb
            have Hn : RowKit.Hid ((m.map (·.1)).Nodup) := by
              obtain ⟨_, _, _, _, q, _⟩ := Sat.map_open.1 s8.p2
              exact Lib.hid (nodup_keys hb q)
            have n3 : wr.cell? ⟨p, 3, none⟩ = some (.map (some mb)) := s8.cell 3
            have n2 : wr.cell? ⟨p, 2, none⟩ = some (.int .u64 g) := s8.cell 2
            have nn3 := World.new_ne wr _ n3
            have nn2 := World.new_ne wr _ n2
            have hwg : IntKind.u64.wrap ((g : Int) + 1) = (g : Int) + 1 := by rw [wraps_u64 _ (by omega) (by omega)]
            have Hfl := Lib.hid (And.intro hfl (And.intro hLm hgm))
            clear hfl hLm hgm
            cases hlk : Sea.look m (g + 1) with
            | none =>
              have E1 : (Instr.lookup 83 (.map (some mb)) (.int .u64 ((g : Int) + 1)) true).run Try.prog wr.drew = .ok (.tuple #[.agg #[.slice none 0 0], .bool false]) wr.drew := early_none hb hlk s8.drew.p2
              have E2 : (Instr.lookup 83 (.map (some mb)) (.int .u64 ((g : Int) + 1)) true).run Try.prog (wr.alloc (.cells #[.slice none 0 0] 102)).drew = .ok (.tuple #[.agg #[.slice none 0 0], .bool false]) (wr.alloc (.cells #[.slice none 0 0] 102)).drew := early_none hb hlk (s8.alloc _).drew.p3
              obtain ⟨f, rfl⟩ : ∃ f', f = f' + 1 := ⟨f - 1, by omega⟩
              have Hlk := Lib.hid hlk
              have s9 := ((s8.alloc (.cells #[.slice none 0 0] 102)).drew).right
              have l9 := (lr.alloc (.cells #[.slice none 0 0] 102)).drew
              have n1 : (wr.alloc (.cells #[.slice none 0 0] 102)).drew.cell? ⟨p, 1, none⟩ = some (.int .u64 zk.life) := s9.cell 1
              have n2 : (wr.alloc (.cells #[.slice none 0 0] 102)).drew.cell? ⟨p, 2, none⟩ = some (.int .u64 g) := s9.cell 2
              have t0 : (wr.alloc (.cells #[.slice none 0 0] 102)).drew.cell? ⟨w.heap.size + 1, 0, none⟩ = some (.int .u64 0) := s9.p5.cell 0
              have t1 : (wr.alloc (.cells #[.slice none 0 0] 102)).drew.cell? ⟨w.heap.size + 1, 1, none⟩ = some (.int .u64 0) := s9.p5.cell 1
              have t2 : (wr.alloc (.cells #[.slice none 0 0] 102)).drew.cell? ⟨w.heap.size + 1, 2, none⟩ = some (.bool false) := s9.p5.cell 2
              have t3 : (wr.alloc (.cells #[.slice none 0 0] 102)).drew.cell? ⟨w.heap.size + 1, 3, none⟩ = some (.slice none 0 0) := s9.p5.cell 3
              have q0 : (wr.alloc (.cells #[.slice none 0 0] 102)).drew.frozen? ⟨w.heap.size + 1, 0, none⟩ = false := s9.p5.free 0
              have q1 : (wr.alloc (.cells #[.slice none 0 0] 102)).drew.frozen? ⟨w.heap.size + 1, 1, none⟩ = false := s9.p5.free 1
              have q2 : (wr.alloc (.cells #[.slice none 0 0] 102)).drew.frozen? ⟨w.heap.size + 1, 2, none⟩ = false := s9.p5.free 2
              have q3 : (wr.alloc (.cells #[.slice none 0 0] 102)).drew.frozen? ⟨w.heap.size + 1, 3, none⟩ = false := s9.p5.free 3
              have hne : ¬ p = w.heap.size + 1 := Ne.symm s9.p5.ne
              go_wp2_with fail
              go_region_held3 (fun w' => w'.cell? ⟨p, 3, none⟩ = some (.map (some mb)) ∧ w'.cell? ⟨p, 2, none⟩ = some (.int .u64 g)) (go_keep) (fail)
              all_goals
                go_wp2_with fail
                clear E1 E2 n3 nn3 nn2 s8 lr
                generalize (wr.alloc (.cells #[.slice none 0 0] 102)).drew = W at *
                have nn1 := World.new_ne W _ n1
                have hk4 : ((((W.setCell ⟨w.heap.size + 1, 0, none⟩ (.int .u64 zk.life)).setCell ⟨w.heap.size + 1, 1, none⟩ (.int .u64 g)).setCell ⟨w.heap.size + 1, 2, none⟩ (.bool true)).setCell ⟨w.heap.size + 1, 3, none⟩ (.slice none 0 0)).drew.cell? ⟨p, 1, none⟩ = some (.int .u64 zk.life) := (keep4 hne).trans n1
                have hk5 : ((((W.setCell ⟨w.heap.size + 1, 0, none⟩ (.int .u64 zk.life)).setCell ⟨w.heap.size + 1, 1, none⟩ (.int .u64 g)).setCell ⟨w.heap.size + 1, 2, none⟩ (.bool true)).setCell ⟨w.heap.size + 1, 3, none⟩ (.slice none 0 0)).drew.cell? ⟨p, 2, none⟩ = some (.int .u64 g) := (keep4 hne).trans n2
                go_region_held3 (fun w' => w'.cell? ⟨p, 1, none⟩ = some (.int .u64 zk.life) ∧ w'.cell? ⟨p, 2, none⟩ = some (.int .u64 g)) (go_keep) (fail)
              all_goals
                go_wp2_with fail
                have hfin := hear_done Hfl.out.1 Hlk.out
                have s10 := Sat.rcv_fold (y := ⟨zk.window, zk.life, g, m⟩) hb (((((s9.p5.set 0 (.int .u64 zk.life)).set 1 (.int .u64 g)).set 2 (.bool true)).set 3 (.slice none 0 0)).drew).right
                have l10 := ((((l9.setCell ⟨w.heap.size + 1, 0, none⟩ (.int .u64 zk.life)).setCell ⟨w.heap.size + 1, 1, none⟩ (.int .u64 g)).setCell ⟨w.heap.size + 1, 2, none⟩ (.bool true)).setCell ⟨w.heap.size + 1, 3, none⟩ (.slice none 0 0)).drew
                have hlast := hear_last (Hzk.out.trans (congrArg (fun z => Rcv.keep z ⟨life, seq, false, body⟩) Hz.out)) hfin l10 s10
                clear s10 l10 hfin
                exact bodyPost_ret (v := .tuple #[.slice oa L.length oc, .agg #[.int .u64 zk.life, .int .u64 g, .bool true, .slice none 0 0], .int .i64 0]) (by simp [results, Try.results31, go_sem, t0, t1, t2, t3]) rfl hlast
            | some b =>
              obtain ⟨j, hj⟩ := look_at hlk
              obtain ⟨V, hV⟩ : ∃ V, bs[j]? = some V := ⟨_, List.getElem?_eq_getElem (by have := (List.getElem?_eq_some_iff.1 hj).1; omega)⟩
              have hsplit := bodiesOf_split earlyEl m bs j _ _ hj hV
              have s8' := s8
              rw [hsplit, SA.mul_assoc] at s8'
              obtain ⟨Va, Vc, rfl, _⟩ := (show Sat wr (row _ _ _ _ _ * _) from s8'.p3).row_form
              dsimp only at hV
              have E1 : (Instr.lookup 83 (.map (some mb)) (.int .u64 ((g : Int) + 1)) true).run Try.prog wr.drew = .ok (.tuple #[.agg #[.slice Va b.length Vc], .bool true]) wr.drew := early_some hj hV s8.drew.p2
              have E2 : (Instr.lookup 83 (.map (some mb)) (.int .u64 ((g : Int) + 1)) true).run Try.prog (wr.alloc (.cells #[.slice none 0 0] 102)).drew = .ok (.tuple #[.agg #[.slice Va b.length Vc], .bool true]) (wr.alloc (.cells #[.slice none 0 0] 102)).drew := early_some hj hV (s8.alloc _).drew.p3
              obtain ⟨f, rfl⟩ : ∃ f', f = f' + 1 := ⟨f - 1, by omega⟩
              have Hlk := Lib.hid (And.intro hlk (And.intro hj (And.intro hV hsplit)))
              clear hlk hj hV hsplit s8'
              have s9 := (s8.alloc (.cells #[.slice Va b.length Vc] 102)).drew
              have l9 := (lr.alloc (.cells #[.slice Va b.length Vc] 102)).drew
              have n3 : (wr.alloc (.cells #[.slice Va b.length Vc] 102)).drew.cell? ⟨p, 3, none⟩ = some (.map (some mb)) := s9.p2.cell 3
              have n2 : (wr.alloc (.cells #[.slice Va b.length Vc] 102)).drew.cell? ⟨p, 2, none⟩ = some (.int .u64 g) := s9.p2.cell 2
              have f2 : (wr.alloc (.cells #[.slice Va b.length Vc] 102)).drew.frozen? ⟨p, 2, none⟩ = false := s9.p2.free 2
              go_wp2_with fail
              go_region_held3 (fun w' => w'.cell? ⟨p, 3, none⟩ = some (.map (some mb)) ∧ w'.cell? ⟨p, 2, none⟩ = some (.int .u64 g)) (go_keep) (fail)
              all_goals
                clear E1 E2 nn3 nn2
                go_wp2_with fail
                have s10 := s9.p2.set 2 (.int .u64 ((g : Int) + 1))
                have l10 := l9.setCell ⟨p, 2, none⟩ (.int .u64 ((g : Int) + 1))
                clear n3 n2 f2
                generalize hW : (wr.alloc (.cells #[.slice Va b.length Vc] 102)).drew.setCell ⟨p, 2, none⟩ (.int .u64 ((g : Int) + 1)) = W at s10 l10
                have hW' : ((wr.alloc (.cells #[.slice Va b.length Vc] 102)).setCell ⟨p, 2, none⟩ (.int .u64 ((g : Int) + 1))).drew = W := hW
                rw [hW']
                clear hW hW' s9 l9 s8
                have n3 : W.cell? ⟨p, 3, none⟩ = some (.map (some mb)) := s10.cell 3
                have n2 : W.cell? ⟨p, 2, none⟩ = some (.int .u64 ((g : Int) + 1)) := s10.cell 2
                have Hkey : RowKit.Hid ((earlyKV m bs)[j]? = some (.int .u64 ((g : Int) + 1), .agg #[.slice Va b.length Vc])) := Lib.hid (earlyKV_get m bs j _ _ Hlk.out.2.1 Hlk.out.2.2.1)
                go_region_held3 (fun w' => w'.cell? ⟨p, 3, none⟩ = some (.map (some mb)) ∧ w'.cell? ⟨p, 2, none⟩ = some (.int .u64 ((g : Int) + 1)))
                  (first | go_keep | exact ⟨n3, n2⟩)
                  ((refine step_delete (by rfl) _ _ _ _ _ (by rfl) Try.underlying83 Try.underlying32 (by rfl) (by rfl) s10.drew.p3 (show MapKept.IsKey (.int .u64) (.int .u64 ((g : Int) + 1)) from rfl) Hkey.out ?_
                    intro w5 s11 l11
                    have n3 : w5.cell? ⟨p, 3, none⟩ = some (.map (some mb)) := s11.p2.cell 3
                    have n2 : w5.cell? ⟨p, 2, none⟩ = some (.int .u64 ((g : Int) + 1)) := s11.p2.cell 2
                    have e0 : w5.cell? ⟨wr.heap.size, 0, none⟩ = some (.slice Va b.length Vc) := s11.p3.cell 0))
                clear n3 n2
                obtain ⟨obs, hobs, s12⟩ := Sat.recs_open.1 (show Sat w5 (recs _ _ _ _ _ _ * _) from s11.p5)
                have hL : L.length ≤ 4097 := by have := Hfl.out.2.1; omega
                have hm3 : L.length + 1 ≤ maxLen := by unfold maxLen; omega
                have hm4 : (L.length + 1) * 24 ≤ 140737488355328 := by omega
                have Hobs := Lib.hid hobs
                clear hobs
                go_wp2_with (refine wpList_append (by rfl) _ _ _ (by rfl) 25 1 24 info_bytes Try.underlying22 (by rfl) (by omega) L.length 1 (cellsOf outEnc L obs) [.slice Va b.length Vc] (by rfl) (by rfl) ((s12.alloc _).p2) (((s12.alloc _).made (n := 1) (sz := 1) rfl max1).as_seg) (one_slice _ _ _) hm3 hm4 ?_
                             intro a6 c6 w6 s13 l13)
                go_roundw
                case rel =>
                  obtain ⟨hf1, hf2, hf3⟩ := Hfl.out
                  obtain ⟨hlk, hj, _, hsplit⟩ := Hlk.out
                  have l14 := ((l10.drew.trans l11).alloc (.cells #[.slice Va b.length Vc] 25)).trans l13
                  exact hear_round Hn.out hb Hobs.out hj hsplit hlk hf1 hf2 hf3 hmf l14 s13
                case measure =>
                  have := Hfl.out.2.1
                  obtain ⟨hlk, hj, _⟩ := Hlk.out
                  have := (List.getElem?_eq_some_iff.1 hj).1
                  simp [lenV]
                  omega

theorem rcv_hear (p : Nat) (y : Rcv) (x : Seg) (bv : Value) (hr : right x = true) (ha : x.ack = false) (hlife : ¬ x.life < y.life) (hx1 : x.life < 18446744073709551616) (hx2 : x.seq < 1000000) (hy1 : y.got < 1000000) (hy2 : y.window ≤ 64) (hy3 : y.m.length ≤ 4096) (w : World) (R : SA) (s : Sat w (rcvAt p y * (bytesSeg bv x.body * R))) :
    Calls Try.prog 31 #[.pointer (some ⟨p, 0, none⟩), segVal x bv] w fun e w' => ∃ v, e = .returned (.tuple #[v, segVal (y.hear x).2.2.1 (.slice none 0 0), .int .i64 0]) ∧ Later w w' ∧ Sat w' (rcvAt p (y.hear x).1 * (outAt v (y.hear x).2.1 * (bytesSeg bv x.body * R))) := by
  have e : y.hear x = (((y.fresh x.life).keep x).flushed, ((y.fresh x.life).keep x).came, ⟨((y.fresh x.life).keep x).flushed.life, ((y.fresh x.life).keep x).flushed.got, true, []⟩, 0) := by
    unfold Rcv.hear
    rw [hr, ha, if_neg (by simp), if_neg (by simp), if_neg hlife]
  rw [e]
  exact rcv_hear' p y x bv hr ha hlife hx1 hx2 hy1 hy2 hy3 w R s

end Go.Proofs.Ytbphbafmchhipaa
