/-
  Package frame: the sum of one part.
-/
import Derived.Test.YtbphbafmchhipaaRdr
namespace Go.Proofs.Ytbphbafmchhipaa
open Go.RowKit Sea

theorem crcL_snoc (r : Nat) (l : List UInt8) (c : UInt8) : crcL r (l ++ [c]) = crcByte (crcL r l) c := by simp [crcL]

set_option maxRecDepth 100000 in
theorem sum_calls (g off pc : Nat) (v : Value) (l : List UInt8) (w : World) (R : SA) (hc : w.cell? ⟨g, off, none⟩ = some v) (s : Sat w (bytesSeg v l * R)) (hsm : l.length ≤ 4096) :
    Calls Try.prog 47 #[.slice (some ⟨g, off, none⟩) 1 pc] w fun e w' => e = .returned (.int .u32 (crc l)) ∧ w = w' := by
  obtain ⟨a, cap, rfl, h1, h2, _⟩ := s.seg_form
  go_enter Try.func47, Try.ntmps47
  go_wp2
  go_loop [3, 11] (fun x3 x11 => (x11 = .int .i64 0 ∧ x3 = .int .u32 4294967295) ∨ (x11 = .int .i64 1 ∧ x3 = .int .u32 ((crcL 4294967295 l : Nat) : Int))) (fun _ x11 => 1 - (intOf x11).toNat)
  case atStart => exact .inl ⟨rfl, rfl⟩
  case round =>
    rcases hrel with ⟨rfl, rfl⟩ | ⟨rfl, rfl⟩
    · go_wp2
      go_loop [3, 17] (fun x3 x17 => ∃ j : Nat, j ≤ l.length ∧ x17 = .int .i64 j ∧ x3 = .int .u32 ((crcL 4294967295 (l.take j) : Nat) : Int)) (fun _ x17 => l.length - (intOf x17).toNat)
      case atStart => exact ⟨0, Nat.zero_le _, rfl, by simp [crcL]⟩
      case round =>
        obtain ⟨j, hj, rfl, rfl⟩ := hrel
        have hr := crcL_lt (r := 4294967295) (by omega) (l.take j)
        by_cases hlt : j < l.length
        · obtain ⟨b, o, cap', hv, _⟩ := s.bytes_form (by omega)
          cases hv
          have hb := s.byte j hlt
          have hsn : crcL 4294967295 (l.take (j + 1)) = crcByte (crcL 4294967295 (l.take j)) l[j] := by
            rw [List.take_add_one, List.getElem?_eq_getElem hlt]
            exact crcL_snoc _ _ _
          have Hsn := Lib.hid hsn
          clear hsn
          generalize l[j] = c at hb Hsn
          have hcl := c.toNat_lt
          generalize hR : crcL 4294967295 (l.take j) = r at hr Hsn ⊢
          clear hR
          have hx : r ^^^ c.toNat < 4294967296 := Nat.xor_lt_two_pow (n := 32) hr (by omega)
          have ex : bits BinOp.xor IntKind.u32 (r : Int) (c.toNat : Int) = ((r ^^^ c.toNat : Nat) : Int) := xor_u32 hr (by omega)
          go_wp2
          clear ex
          generalize hX : r ^^^ c.toNat = x at hx ⊢
          go_loop [3, 25] (fun x3 x25 => ∃ i : Nat, i ≤ 8 ∧ x25 = .int .i64 i ∧ x3 = .int .u32 ((crcIter i x : Nat) : Int)) (fun _ x25 => 8 - (intOf x25).toNat)
          case atStart => exact ⟨0, by omega, rfl, rfl⟩
          case round =>
            obtain ⟨i, hi, rfl, rfl⟩ := hrel
            have hy := crcIter_lt hx i
            have Hn : RowKit.Hid (crcIter (i + 1) x = crcStep (crcIter i x)) := rfl
            generalize hY : crcIter i x = y at hy Hn ⊢
            have Hy0 := Lib.hid hY.symm
            clear hY
            by_cases hlt8 : i < 8
            · have ea : bits BinOp.and IntKind.u32 (y : Int) 1 = ((y % 2 : Nat) : Int) := by
                rw [show (1 : Int) = ((1 : Nat) : Int) from rfl, and_u32 hy (by omega), Nat.and_one_is_mod]
              by_cases ho : y % 2 = 1
              · have ho' : (y : Int) % 2 = 1 := by omega
                have Ho := Lib.hid ho
                clear ho
                go_wp2
                go_round
                case rel =>
                  refine ⟨i + 1, by omega, by go_num, ?_⟩
                  rw [Hn.out, crcStep, if_pos Ho.out, show ((y : Int) / 2) = ((y / 2 : Nat) : Int) from by omega, show (3988292384 : Int) = ((3988292384 : Nat) : Int) from rfl, xor_u32 (by omega) (by omega)]
                case measure => simp [intOf]; omega
              · have ho' : (y : Int) % 2 = 0 := by omega
                have Ho := Lib.hid ho
                clear ho
                go_wp2
                go_round
                case rel =>
                  refine ⟨i + 1, by omega, by go_num, ?_⟩
                  rw [Hn.out, crcStep, if_neg Ho.out]
                  rfl
                case measure => simp [intOf]; omega
            · have Hy : RowKit.Hid (y = crcByte r c) := by
                obtain rfl : i = 8 := by omega
                have : crcIter 8 x = crcByte r c := by rw [← hX]; rfl
                exact Hy0.out.trans this
              go_wp2
              go_round
              case rel => exact ⟨j + 1, by omega, by go_num, by rw [Hsn.out, Hy.out]⟩
              case measure => simp [intOf]; omega
        · obtain rfl : j = l.length := by omega
          rw [List.take_length]
          go_wp2
          go_round
          case rel => exact .inr ⟨rfl, rfl⟩
          case measure => simp [intOf]
    · go_wp2
      go_ret
      refine ⟨?_, rfl⟩
      show Ending.returned (Value.int IntKind.u32 (bits BinOp.xor IntKind.u32 IntKind.u32.max ((crcL 4294967295 l : Nat) : Int))) = _
      have e : IntKind.u32.max = ((4294967295 : Nat) : Int) := rfl
      rw [e, xor_u32 (by omega) (crcL_lt (by omega) l)]
      rfl

end Go.Proofs.Ytbphbafmchhipaa
