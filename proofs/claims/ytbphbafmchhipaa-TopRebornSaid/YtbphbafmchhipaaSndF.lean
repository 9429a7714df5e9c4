/-
  A sender hears an answer: all ways joined.
-/
import Derived.Test.YtbphbafmchhipaaSndD
namespace Go.Proofs.Ytbphbafmchhipaa
open Go.RowKit Sea

theorem snd_hear (p : Nat) (x : Snd) (sl sq : Nat) (bv : Value) (hr : right ⟨sl, sq, true, []⟩ = true) (hok : sl = x.life → sq ≤ x.acked + x.l.length) (hlen : x.l.length ≤ 4096) (hsq : sq < 18446744073709551616) (w : World) (R : SA) (s : Sat w (senderAt p x * (bytesSeg bv [] * R))) :
    Calls Try.prog 29 #[.pointer (some ⟨p, 0, none⟩), .agg #[.int .u64 sl, .int .u64 sq, .bool true, bv]] w fun e w' => e = .returned (.int .i64 ((x.hear ⟨sl, sq, true, []⟩).2 : Nat)) ∧ Later w w' ∧ Sat w' (senderAt p (x.hear ⟨sl, sq, true, []⟩).1 * (bytesSeg bv [] * R)) := by
  by_cases hl : sl = x.life
  · subst hl
    have hok := hok rfl
    by_cases hq : sq ≤ x.acked
    · have e : x.hear ⟨x.life, sq, true, []⟩ = (x, 0) := by
        unfold Snd.hear
        rw [hr]
        simp only [Bool.not_true, Bool.false_eq_true, if_false, ne_eq, not_true_eq_false]
        rw [if_neg (by omega), if_neg (by omega)]
      rw [e]
      refine (snd_hear0 p x x.life sq bv hr (.inr hq) w R s).mono fun e w' h => ?_
      rw [if_neg (by simp)] at h
      exact h
    · have e : x.hear ⟨x.life, sq, true, []⟩ = ({ x with acked := sq, l := x.l.drop (sq - x.acked) }, 0) := by
        unfold Snd.hear
        rw [hr]
        simp only [Bool.not_true, Bool.false_eq_true, if_false, ne_eq, not_true_eq_false]
        rw [if_neg (by omega), if_pos (by omega)]
      rw [e]
      exact snd_hear1 p x sq (sq - x.acked) bv hr (by omega) (by omega) (by omega) hlen hsq w R s
  · have e : x.hear ⟨sl, sq, true, []⟩ = (x, 70) := by
      unfold Snd.hear
      rw [hr]
      simp only [Bool.not_true, Bool.false_eq_true, if_false, ne_eq]
      rw [if_pos hl]
    rw [e]
    refine (snd_hear0 p x sl sq bv hr (.inl hl) w R s).mono fun e w' h => ?_
    rw [if_pos hl] at h
    exact h

end Go.Proofs.Ytbphbafmchhipaa
