/- The lexer: digits, how far a word and a number go. -/
import Derived.Test.YtlmcdbegnjikdaaDoorLx4
import Derived.Test.YtlmcdbegnjikdaaDoorShl
namespace Go.Proofs.YtlmcdbegnjikdaaDoor
set_option linter.unusedVariables false
set_option linter.unusedSimpArgs false
open Go.RowKit
attribute [local go_sem ↓] Go.wp_at_zero Go.wp_at_succ

abbrev hexs : ByteArray := ⟨#[48, 49, 50, 51, 52, 53, 54, 55, 56, 57, 97, 98, 99, 100, 101, 102]⟩
theorem all_bytes {p : UInt8 → Prop} (h : ∀ n : Fin 256, p (UInt8.ofNat n.val)) (b : UInt8) : p b := by
  have := h ⟨b.toNat, b.toNat_lt⟩
  simpa using this
theorem index10 (b : UInt8) : Lib.indexByte (hexs.extract 0 10).data.toList b = if dig b < 10 then (dig b : Int) else -1 :=
  all_bytes (p := fun b => Lib.indexByte (hexs.extract 0 10).data.toList b = if dig b < 10 then (dig b : Int) else -1) (by decide +kernel) b
theorem index16 (b : UInt8) : Lib.indexByte (hexs.extract 0 16).data.toList b = if dig b < 16 then (dig b : Int) else -1 :=
  all_bytes (p := fun b => Lib.indexByte (hexs.extract 0 16).data.toList b = if dig b < 16 then (dig b : Int) else -1) (by decide +kernel) b
theorem byte_back (b : UInt8) : ((b.toNat : Int).toNat).toUInt8 = b := by simp
theorem indexByte_eq (s : ByteArray) (b : UInt8) (w : World) (i : Int) (h : Lib.indexByte s.data.toList b = i) : Calls Tryd.prog 53 #[.string s, .int .u8 b.toNat] w fun e w' => e = .returned (.int .i64 i) ∧ w = w' := by
  refine (Any.strings_IndexByte Tryd.lays137 s b.toNat w).mono fun e w' ⟨h1, h2⟩ => ⟨?_, h2.symm⟩
  rw [h1, byte_back, h]
/-- A digit, and no digit. -/
theorem digit_yes (b : UInt8) (base : Int) (hb : base = 10 ∨ base = 16) (h : (dig b : Int) < base) (w : World) : Calls Tryd.prog 37 #[.int .u8 b.toNat, .int .i64 base] w fun e w' => e = .returned (.tuple #[.int .i64 (dig b), .bool true]) ∧ w = w' := by
  rcases hb with rfl | rfl
  · have I := fun w => indexByte_eq (hexs.extract 0 10) b w _ ((index10 b).trans (if_pos (by omega)))
    go_enter Tryd.func37, Tryd.ntmps37
    go_wp2_with (go_at_call 53; (with_reducible refine (I _).mono ?_); rintro e w' ⟨rfl, rfl⟩)
    go_ret2
    exact ⟨rfl, rfl⟩
  · have I := fun w => indexByte_eq (hexs.extract 0 16) b w _ ((index16 b).trans (if_pos (by omega)))
    go_enter Tryd.func37, Tryd.ntmps37
    go_wp2_with (go_at_call 53; (with_reducible refine (I _).mono ?_); rintro e w' ⟨rfl, rfl⟩)
    go_ret2
    exact ⟨rfl, rfl⟩
theorem digit_no (b : UInt8) (base : Int) (hb : base = 10 ∨ base = 16) (h : base ≤ (dig b : Int)) (w : World) : Calls Tryd.prog 37 #[.int .u8 b.toNat, .int .i64 base] w fun e w' => e = .returned (.tuple #[.int .i64 (-1), .bool false]) ∧ w = w' := by
  rcases hb with rfl | rfl
  · have I := fun w => indexByte_eq (hexs.extract 0 10) b w _ ((index10 b).trans (if_neg (by omega)))
    go_enter Tryd.func37, Tryd.ntmps37
    go_wp2_with (go_at_call 53; (with_reducible refine (I _).mono ?_); rintro e w' ⟨rfl, rfl⟩)
    go_ret2
    exact ⟨rfl, rfl⟩
  · have I := fun w => indexByte_eq (hexs.extract 0 16) b w _ ((index16 b).trans (if_neg (by omega)))
    go_enter Tryd.func37, Tryd.ntmps37
    go_wp2_with (go_at_call 53; (with_reducible refine (I _).mono ?_); rintro e w' ⟨rfl, rfl⟩)
    go_ret2
    exact ⟨rfl, rfl⟩
end Go.Proofs.YtlmcdbegnjikdaaDoor
