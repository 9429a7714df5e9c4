/-
  Package frame: a frame is got.
-/
import Derived.Test.YtbphbafmchhipaaFrmB
import Derived.Deep.RegionHeld3
namespace Go.Proofs.Ytbphbafmchhipaa
open Go.RowKit Sea

/-- A part of a part. -/
theorem Sat.sub_bytes {w : World} {R : SA} {g off cap : Nat} {l : List UInt8} (s : Sat w (bytesSeg (.slice (some ⟨g, off, none⟩) l.length cap) l * R)) (lo hi : Nat) (h1 : lo ≤ hi) (h2 : hi ≤ l.length) :
    Sat w (bytesSeg (.slice (some ⟨g, off + lo, none⟩) (hi - lo) (cap - lo)) ((l.drop lo).take (hi - lo)) * R) := by
  refine s.mono fun h r => ?_
  have hl : ((l.drop lo).take (hi - lo)).length = hi - lo := by simp; omega
  obtain ⟨_, ⟨hv, _⟩ | ⟨g', off', cap', cur, hv, q1, q2, q3, q4, q5⟩⟩ := r
  · cases hv
  cases hv
  unfold bytesSeg
  rw [hl]
  refine ⟨by simp [bts]; omega, .inr ⟨g, off + lo, cap - lo, cur, rfl, by omega, by omega, by omega, ?_, q5⟩⟩
  simp only [Nat.mul_one] at q4 ⊢
  have : bts ((l.drop lo).take (hi - lo)) = ((bts l).drop lo).take (hi - lo) := by simp [bts]
  rw [this, ← q4, List.drop_take, List.take_take, List.drop_drop, Nat.min_eq_left (by omega)]

theorem Sat.take_bytes {w : World} {R : SA} {g off cap : Nat} {l : List UInt8} (s : Sat w (bytesSeg (.slice (some ⟨g, off, none⟩) l.length cap) l * R)) (n : Nat) (h : n ≤ l.length) :
    Sat w (bytesSeg (.slice (some ⟨g, off, none⟩) n cap) (l.take n) * R) := by
  have := s.sub_bytes 0 n (Nat.zero_le _) h
  simpa using this
theorem Sat.zero_bytes {w : World} {R : SA} {g off cap : Nat} {l : List UInt8} (s : Sat w (bytesSeg (.slice (some ⟨g, off, none⟩) l.length cap) l * R)) :
    Sat w (bytesSeg (.slice (some ⟨g, off, none⟩) 0 0) [] * R) := by
  refine s.mono fun h r => ?_
  obtain ⟨_, ⟨hv, _⟩ | ⟨g', off', cap', cur, hv, q1, q2, q3, q4, q5⟩⟩ := r
  · cases hv
  cases hv
  exact ⟨rfl, .inr ⟨g, off, 0, cur, rfl, Nat.le_refl _, Nat.zero_le _, by omega, by simp [bts], q5⟩⟩
theorem alloc_size (w : World) (o : Obj) : (w.alloc o).heap.size = w.heap.size + 1 := by
  show (w.heap.push o).size = _
  rw [Array.size_push]

/-- What a frame's head says. -/
structure Framed (b : List UInt8) (n : Nat) : Prop where
  six : 6 ≤ b.length
  mark : b[0]? = some 167
  num : unfix ((b.drop 2).take 4) = n
  small : n ≤ 1024
  long : 6 + n + 4 ≤ b.length
theorem framed_of {b : List UInt8} (h : frameGet b = .error 21 ∨ ∃ x, frameGet b = .ok x) : Framed b (unfix ((b.drop 2).take 4)) := by
  unfold frameGet at h
  split at h
  · simp at h
  split at h
  · simp at h
  split at h
  · simp at h
  split at h
  · simp at h
  split at h
  · simp at h
  rename_i h1 h2 h3 h4 h5
  refine ⟨by omega, ?_, rfl, by omega, by omega⟩
  cases b with
  | nil => simp at h1
  | cons c b => simpa using h2
theorem frameGet_framed {b : List UInt8} {n : Nat} (h : Framed b n) : frameGet b = if unfix ((b.drop (6 + n)).take 4) ≠ crc (b.take (6 + n)) then .error 21 else .ok (b.getD 1 0, (b.drop 6).take n, 6 + n + 4) := by
  have h6 := h.six
  have hm : b.headD 0 = 167 := by
    have := h.mark
    cases b with
    | nil => simp at this
    | cons c b => simpa using this
  unfold frameGet
  rw [h.num, if_neg (by omega), if_neg (by simpa using hm), if_neg (by omega), if_neg (by have := h.small; omega), if_neg (by have := h.long; omega)]

set_option maxRecDepth 100000 in
theorem get_bad (v : Value) (b : List UInt8) (w : World) (R : SA) (s : Sat w (bytesSeg v b * R)) (hsm : b.length ≤ 4096) (hg : frameGet b = .error 21) :
    Calls Try.prog 38 #[v, .int .i64 0] w fun e w' => e = .returned (.tuple #[.agg #[.int .u8 0, .slice none 0 0], .int .i64 0, .int .i64 21]) ∧ Later w w' ∧ Sat w' (bytesSeg v b * R) := by
  have hF := framed_of (.inl hg)
  generalize unfix ((b.drop 2).take 4) = n at hF
  have hne : unfix ((b.drop (6 + n)).take 4) ≠ crc (b.take (6 + n)) := by
    intro q
    rw [frameGet_framed hF, if_neg (by simpa using q)] at hg
    cases hg
  obtain ⟨h6, hm, hn, hs, hl⟩ := hF
  obtain ⟨g, off, cap, rfl, h1, h2, hgw⟩ := s.bytes_form (by omega)
  have c0 : w.cell? ⟨g, off, none⟩ = some (.int .u8 167) := by
    have := s.byte 0 (by omega)
    rw [List.getElem?_eq_getElem (by omega)] at hm
    have : b[0]'(by omega) = 167 := by simpa using hm
    rename_i q
    rw [this] at q
    exact q
  have Hne := Lib.hid hne
  have Hn := Lib.hid hn
  clear hne hn hg hm
  have F1 : RowKit.Hid (∀ w', Sat w' (bytesSeg (.slice (some ⟨g, off, none⟩) b.length cap) b) → Calls Try.prog 46 #[.slice (some ⟨g, off, none⟩) b.length cap, .int .i64 2] w' fun e w'' => e = .returned (.tuple #[.int .u32 (n : Int), .int .i64 6, .int .i64 0]) ∧ w' = w'') := by
    refine Lib.hid fun w' sw => ?_
    have := fixed_calls (.slice (some ⟨g, off, none⟩) b.length cap) b 2 w' SA.one (by rw [SA.mul_one]; exact sw) (by omega)
    rw [Hn.out] at this
    exact this
  have F2 : RowKit.Hid (∀ w', Sat w' (bytesSeg (.slice (some ⟨g, off, none⟩) b.length cap) b) → Calls Try.prog 46 #[.slice (some ⟨g, off, none⟩) b.length cap, .int .i64 (6 + (n : Int))] w' fun e w'' => e = .returned (.tuple #[.int .u32 (unfix ((b.drop (6 + n)).take 4) : Nat), .int .i64 ((6 + n + 4 : Nat) : Int), .int .i64 0]) ∧ w' = w'') := by
    refine Lib.hid fun w' sw => ?_
    have := fixed_calls (.slice (some ⟨g, off, none⟩) b.length cap) b (6 + n) w' SA.one (by rw [SA.mul_one]; exact sw) (by omega)
    rw [Int.natCast_add] at this
    exact this
  have hc0 : ¬ cap = 0 := by omega
  have Hs : RowKit.Hid (∀ w', Sat w' (SA.obj (w.heap.size + 1) (.cells #[.slice (some ⟨g, off, none⟩) (6 + n) cap] 25 (0, 0)) * (bytesSeg (.slice (some ⟨g, off, none⟩) b.length cap) b * SA.one)) → Calls Try.prog 47 #[.slice (some ⟨w.heap.size + 1, 0, none⟩) 1 1] w' fun e w'' => e = .returned (.int .u32 (crc (b.take (6 + n)) : Nat)) ∧ w' = w'') :=
    Lib.hid fun w' sw => sum_calls _ _ 1 _ (b.take (6 + n)) w' SA.one (sw.cell 0) (sw.right.take_bytes (6 + n) (by omega)) (by rw [List.length_take]; omega)
  have hq : ((((unfix ((b.drop (6 + n)).take 4) : Nat) : Int)) == ((crc (b.take (6 + n)) : Nat) : Int)) = false := by
    have := Hne.out
    simp
    omega
  have s1 := s.alloc (.cells #[.int .u8 0, .slice none 0 0] 93)
  have s2 := s1.alloc (.cells #[.slice (some ⟨g, off, none⟩) (6 + n) cap] 25)
  rw [alloc_size] at s2
  have s4 := ((s2.x2.p2.p2).eq (SA.mul_assoc _ _ _).symm).left
  rw [← SA.mul_one (bytesSeg _ _)] at s4
  go_enter Try.func38, Try.ntmps38
  go_wp2_with (first
    | (go_at_call 46; with_reducible refine (F1.out _ s1.p2.left).mono ?_; rintro e w' ⟨rfl, rfl⟩)
    | (go_at_call 46; with_reducible refine (F2.out _ s1.p2.left).mono ?_; rintro e w' ⟨rfl, rfl⟩)
    | (go_at_call 47; with_reducible refine (Hs.out _ (s4)).mono ?_; rintro e w' ⟨rfl, rfl⟩))
  refine bodyPost_ret (v := .tuple #[.agg #[.int .u8 0, .slice none 0 0], .int .i64 0, .int .i64 21]) (by simp [results, Try.results38, go_sem]) rfl ⟨rfl, ?_, ?_⟩
  · exact ((Later.refl w).alloc _).alloc _
  · exact s2.right.right

set_option maxRecDepth 100000 in
theorem get_ok (v : Value) (b : List UInt8) (w : World) (R : SA) (s : Sat w (bytesSeg v b * R)) (hsm : b.length ≤ 4096) (kind : UInt8) (body : List UInt8) (to : Nat) (hg : frameGet b = .ok (kind, body, to)) :
    Calls Try.prog 38 #[v, .int .i64 0] w fun e w' => ∃ bv, e = .returned (.tuple #[.agg #[.int .u8 (kind.toNat : Int), bv], .int .i64 (to : Int), .int .i64 0]) ∧ Later w w' ∧ Sat w' (bytesRow bv body * (bytesSeg v b * R)) := by
  have hF := framed_of (.inr ⟨_, hg⟩)
  generalize unfix ((b.drop 2).take 4) = n at hF
  have hne : unfix ((b.drop (6 + n)).take 4) = crc (b.take (6 + n)) := by
    rw [frameGet_framed hF] at hg
    split at hg
    · cases hg
    · rename_i q; simpa using q
  have hto : to = 6 + n + 4 ∧ body = (b.drop 6).take n ∧ kind = b.getD 1 0 := by
    rw [frameGet_framed hF, if_neg (by simpa using hne)] at hg
    cases hg
    exact ⟨rfl, rfl, rfl⟩
  obtain ⟨rfl, rfl, hk⟩ := hto
  obtain ⟨h6, hm, hn, hs, hl⟩ := hF
  obtain ⟨g, off, cap, rfl, h1, h2, hgw⟩ := s.bytes_form (by omega)
  have c0 : w.cell? ⟨g, off, none⟩ = some (.int .u8 167) := by
    have := s.byte 0 (by omega)
    rw [List.getElem?_eq_getElem (by omega)] at hm
    have : b[0]'(by omega) = 167 := by simpa using hm
    rename_i q
    rw [this] at q
    exact q
  have hkb : b[1]'(by omega) = kind := by rw [hk, List.getD_eq_getElem?_getD, List.getElem?_eq_getElem (by omega)]; rfl
  have ck : w.cell? ⟨g, off + 1, none⟩ = some (.int .u8 (kind.toNat : Int)) := by
    have q := s.byte 1 (by omega)
    rw [hkb] at q
    exact q
  clear hk
  have Hne := Lib.hid hne
  have Hn := Lib.hid hn
  clear hne hn hg hm
  have F1 : RowKit.Hid (∀ w', Sat w' (bytesSeg (.slice (some ⟨g, off, none⟩) b.length cap) b) → Calls Try.prog 46 #[.slice (some ⟨g, off, none⟩) b.length cap, .int .i64 2] w' fun e w'' => e = .returned (.tuple #[.int .u32 (n : Int), .int .i64 6, .int .i64 0]) ∧ w' = w'') := by
    refine Lib.hid fun w' sw => ?_
    have := fixed_calls (.slice (some ⟨g, off, none⟩) b.length cap) b 2 w' SA.one (by rw [SA.mul_one]; exact sw) (by omega)
    rw [Hn.out] at this
    exact this
  have F2 : RowKit.Hid (∀ w', Sat w' (bytesSeg (.slice (some ⟨g, off, none⟩) b.length cap) b) → Calls Try.prog 46 #[.slice (some ⟨g, off, none⟩) b.length cap, .int .i64 (6 + (n : Int))] w' fun e w'' => e = .returned (.tuple #[.int .u32 (unfix ((b.drop (6 + n)).take 4) : Nat), .int .i64 ((6 + n + 4 : Nat) : Int), .int .i64 0]) ∧ w' = w'') := by
    refine Lib.hid fun w' sw => ?_
    have := fixed_calls (.slice (some ⟨g, off, none⟩) b.length cap) b (6 + n) w' SA.one (by rw [SA.mul_one]; exact sw) (by omega)
    rw [Int.natCast_add] at this
    exact this
  have hc0 : ¬ cap = 0 := by omega
  have Hs : RowKit.Hid (∀ w', Sat w' (SA.obj (w.heap.size + 1) (.cells #[.slice (some ⟨g, off, none⟩) (6 + n) cap] 25 (0, 0)) * (bytesSeg (.slice (some ⟨g, off, none⟩) b.length cap) b * SA.one)) → Calls Try.prog 47 #[.slice (some ⟨w.heap.size + 1, 0, none⟩) 1 1] w' fun e w'' => e = .returned (.int .u32 (crc (b.take (6 + n)) : Nat)) ∧ w' = w'') :=
    Lib.hid fun w' sw => sum_calls _ _ 1 _ (b.take (6 + n)) w' SA.one (sw.cell 0) (sw.right.take_bytes (6 + n) (by omega)) (by rw [List.length_take]; omega)
  have hq : ((((unfix ((b.drop (6 + n)).take 4) : Nat) : Int)) != ((crc (b.take (6 + n)) : Nat) : Int)) = false := by
    have := Hne.out
    simp
    omega
  have s1 := s.alloc (.cells #[.int .u8 0, .slice none 0 0] 93)
  have s2 := s1.alloc (.cells #[.slice (some ⟨g, off, none⟩) (6 + n) cap] 25)
  rw [alloc_size] at s2
  have s4 := ((s2.x2.p2.p2).eq (SA.mul_assoc _ _ _).symm).left
  rw [← SA.mul_one (bytesSeg _ _)] at s4
  go_enter Try.func38, Try.ntmps38
  go_wp2_with (first
    | (go_at_call 46; with_reducible refine (F1.out _ s1.p2.left).mono ?_; rintro e w' ⟨rfl, rfl⟩)
    | (go_at_call 46; with_reducible refine (F2.out _ s1.p2.left).mono ?_; rintro e w' ⟨rfl, rfl⟩)
    | (go_at_call 47; with_reducible refine (Hs.out _ (s4)).mono ?_; rintro e w' ⟨rfl, rfl⟩))
  clear F1 F2 Hs hq ck s1 s4
  have lW : Later w ((w.alloc (.cells #[.int .u8 0, .slice none 0 0] 93)).alloc (.cells #[.slice (some ⟨g, off, none⟩) (6 + n) cap] 25)) := ((Later.refl w).alloc _).alloc _
  generalize (w.alloc (.cells #[.int .u8 0, .slice none 0 0] 93)).alloc (.cells #[.slice (some ⟨g, off, none⟩) (6 + n) cap] 25) = W at s2 lW ⊢
  have hgB1 : ¬ g = w.heap.size := by omega
  have hgB2 : ¬ w.heap.size = g := by omega
  generalize w.heap.size = B at s2 hgB1 hgB2 ⊢
  have s3 := s2.right.p2
  have ck : W.cell? ⟨g, off + 1, none⟩ = some (.int .u8 (kind.toNat : Int)) := by
    have q := s3.byte 1 (by omega)
    rw [hkb] at q
    exact q
  have s4 := s3.sub_bytes 6 (6 + n) (by omega) (by omega)
  have hln : ((b.drop 6).take (6 + n - 6)).length = 6 + n - 6 := by simp; omega
  have hm1 : 0 + (6 + n - 6) ≤ maxLen := by unfold maxLen; omega
  have hm2 : (0 + (6 + n - 6)) * 1 ≤ 140737488355328 := by omega
  have s5 := ((s2.right.alloc (.cells #[] 5)).drew).made (n := 0) (sz := 1) rfl max0
  have s6 := ((s4.alloc (.cells #[] 5)).drew).right.left
  unfold bytesSeg at s6
  rw [hln] at s6
  have Hln := Lib.hid hln
  clear hln
  have hi1 : (1 : Int) < (b.length : Int) := by omega
  have hi2 : (6 : Int) ≤ 6 + (n : Int) := by omega
  have hi3 : (6 : Int) + (n : Int) ≤ (cap : Int) := by omega
  have hi4 : (0 : Int) ≤ 6 + (n : Int) := by omega
  have hi5 : ¬ cap = 6 := by omega
  go_region_held3 (fun w' => w'.cell? ⟨g, off + 1, none⟩ = some (.int .u8 (kind.toNat : Int)))
    (first | go_keep | exact k5)
    (first
      | go_must (
         (refine step_append (by rfl) _ _ _ (by rfl) 5 1 1 info_u8 Try.underlying25 (by rfl) (by omega) 0 (6 + n - 6) [] (bts ((b.drop 6).take (6 + n - 6))) (by rfl) (by rfl) s5 s6 (bts_one _) hm1 hm2 ?_
          intro a1 c1 w1 s7 l7
          simp only [Nat.zero_add, List.nil_append, Nat.add_sub_cancel_left] at s7
          have k5 : w1.cell? ⟨g, off + 1, none⟩ = some (.int .u8 (kind.toNat : Int)) := by
            have q := s7.p3.byte 1 (by omega)
            rw [hkb] at q
            exact q
          have r0 : w1.cell? ⟨B, 0, none⟩ = some (.int .u8 0) := s7.p2.cell 0
          have r1 : w1.cell? ⟨B, 1, none⟩ = some (.slice none 0 0) := s7.p2.cell 1
          have q0 : w1.frozen? ⟨B, 0, none⟩ = false := s7.p2.free 0
          have q1 : w1.frozen? ⟨B, 1, none⟩ = false := s7.p2.free 1)))
  go_wp2
  have ew : IntKind.i64.wrap (IntKind.i64.wrap (6 + (n : Int)) + 4) = 6 + (n : Int) + 4 := by
    rw [IntKind.wrap_i64, IntKind.wrap_i64]
    omega
  refine bodyPost_ret (v := .tuple #[.agg #[.int .u8 (kind.toNat : Int), .slice a1 n c1], .int .i64 (6 + (n : Int) + 4), .int .i64 0]) (by simp [results, Try.results38, go_sem, r0, r1, ew]) rfl ⟨.slice a1 n c1, rfl, (((lW.alloc _).drew.trans l7).setCell _ _).setCell _ _, ?_⟩
  have s8 := (((s7.p2).set 0 (.int .u8 (kind.toNat : Int))).set 1 (.slice a1 n c1)).right
  rw [bytes_eq (l := (b.drop 6).take n) (by simp; omega) rfl] at s8
  exact s8

end Go.Proofs.Ytbphbafmchhipaa
