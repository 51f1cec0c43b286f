/- Alarms: padded hexadecimal text. (printed by gen/wt4.py) -/
import Derived.Test.YtndjicomgdcfkaaDoorWt3
namespace Go.Proofs.YtndjicomgdcfkaaDoor
set_option linter.unusedVariables false
set_option linter.unusedSimpArgs false
open Go.RowKit
attribute [local go_sem ↓] Go.wp_at_zero Go.wp_at_succ
attribute [local go_sem high] cat_ok

theorem hexA_zero : ∀ (k : Nat) (out : By), hexA k 0 out = List.replicate k 48 ++ out
  | 0, _ => rfl
  | k + 1, out => by
    rw [hexA, hexA_zero k, show hd (0 % 16) = 48 by decide, List.replicate_succ']
    simp
theorem hexN_pad : ∀ (k m u : Nat) (out : By), u < 16 ^ m → m ≤ k + 1 → 1 ≤ m → (hexN k u out).length ≤ m + out.length ∧ hexA m u out = List.replicate (m + out.length - (hexN k u out).length) 48 ++ hexN k u out
  | 0, m, u, out, h1, h2, h3 => by
    have : m = 1 := by omega
    subst this
    refine ⟨by simp [hexN]; omega, ?_⟩
    simp [hexN, hexA, Nat.add_comm]
  | k + 1, m, u, out, h1, h2, h3 => by
    obtain ⟨n, rfl⟩ : ∃ n, m = n + 1 := ⟨m - 1, by omega⟩
    by_cases h : u < 16
    · rw [hexN, if_pos h]
      refine ⟨by simp; omega, ?_⟩
      rw [hexA, show u / 16 = 0 by omega, hexA_zero, Nat.mod_eq_of_lt h, show n + 1 + out.length - (hd u :: out).length = n by simp; omega]
    · rw [hexN, if_neg h]
      have hn : 1 ≤ n := by
        rcases Nat.lt_or_ge n 1 with h4 | h4
        · have : n = 0 := by omega
          subst this
          simp at h1
          omega
        · exact h4
      have hq : u / 16 < 16 ^ n := by rw [Nat.pow_succ] at h1; omega
      have ih := hexN_pad k n (u / 16) (hd (u % 16) :: out) hq (by omega) hn
      rw [List.length_cons] at ih
      refine ⟨by omega, ?_⟩
      rw [hexA, ih.2, show n + (out.length + 1) = n + 1 + out.length by omega]
set_option maxRecDepth 100000 in
set_option maxHeartbeats 1600000 in
theorem htext_eq (w : World) (u m : Nat) (hu : u ≤ 65535) (hm : u < 16 ^ m) (h1 : 1 ≤ m) (h4 : m ≤ 4) (hT : TZ w) : Calls Tryd.prog 39 #[.int .i64 (u : Int), .int .i64 (m : Int)] w fun e w' => e = .returned (.string (str (32 :: 36 :: hexA m u []))) ∧ Below w.heap.size w w' := by
  have FB := sfmt16_eq w u hu hT
  have HP := Lib.hid (hexN_pad 3 m u [] hm (by omega) h1)
  go_enter Tryd.func39, Tryd.ntmps39
  go_wp2_with (go_at_call 40; (with_reducible refine FB.mono ?_); rintro e w1 ⟨rfl, hb1⟩)
  go_loop [5] (fun s => ∃ (l : By), s = .string (str l) ∧ l.length ≤ m ∧ Hid (hexA m u [] = List.replicate (m - l.length) 48 ++ l)) (fun s => m - (match s with | .string b => b.size | _ => 0))
  case atStart => exact ⟨_, rfl, by have := HP.out.1; simpa using this, Lib.hid (by have := HP.out.2; simpa using this)⟩
  case round =>
    obtain ⟨l, rfl, hl, HL⟩ := hrel
    have hz : (str l).size = l.length := str_size l
    have hs1 : (str l).size ≤ 1000000 := by omega
    have HE := Lib.hid (show ByteArray.mk #[48] ++ str l = str (48 :: l) from str_app [48] l)
    have HE2 := Lib.hid (show ByteArray.mk #[32, 36] ++ str l = str (32 :: 36 :: l) from str_app [32, 36] l)
    by_cases hlt : l.length < m
    · have hi : ((str l).size : Int) < (m : Int) := by omega
      clear hz
      go_wp2_with fail
      go_round
      case rel =>
        refine ⟨48 :: l, by rw [HE.out], by simp; omega, Lib.hid ?_⟩
        rw [HL.out, show m - l.length = (m - (48 :: l).length) + 1 by simp; omega, List.replicate_succ']
        simp
      case measure =>
        show m - (ByteArray.mk #[48] ++ str l).size < m - (str l).size
        rw [HE.out, str_size, str_size, List.length_cons]
        omega
    · have hi : ¬ ((str l).size : Int) < (m : Int) := by omega
      have hx : hexA m u [] = l := by rw [HL.out, show m - l.length = 0 by omega]; rfl
      have HX := Lib.hid hx
      clear hz hx
      go_wp2_with fail
      go_ret
      exact ⟨by rw [HX.out, ← HE2.out]; rfl, hb1⟩
end Go.Proofs.YtndjicomgdcfkaaDoor
