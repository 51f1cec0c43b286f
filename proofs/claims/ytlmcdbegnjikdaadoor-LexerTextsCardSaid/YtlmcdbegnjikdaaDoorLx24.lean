/- The lexer: a token's text: hexadecimal digits, letters. (printed by gen/lx24.py) -/
import Derived.Test.YtlmcdbegnjikdaaDoorLx16
import Derived.Test.YtlmcdbegnjikdaaDoorShr
import Derived.Laws.RangeAny
namespace Go.Proofs.YtlmcdbegnjikdaaDoor
set_option linter.unusedVariables false
set_option linter.unusedSimpArgs false
open Go.RowKit
attribute [local go_sem ↓] Go.wp_at_zero Go.wp_at_succ

/-- A digit's byte; the last digits of a number. -/
def hd (d : Nat) : UInt8 := if d < 10 then UInt8.ofNat (48 + d) else UInt8.ofNat (87 + d)
def hexA : Nat → Nat → By → By
  | 0, _, out => out
  | k + 1, n, out => hexA k (n / 16) (hd (n % 16) :: out)
theorem hexA_len : ∀ (k n : Nat) (out : By), (hexA k n out).length = k + out.length
  | 0, _, out => by simp [hexA]
  | k + 1, n, out => by rw [hexA, hexA_len]; simp; omega
/-- A token's text, and what is wrong with it. -/
def txt (t : Tok) : By × Int :=
  if t.kind = 1 then (if t.text = [] ∨ (t.text.any fun b => !isLet b) = true then ([], 11) else (t.text, 0))
  else if t.kind = 2 then (if t.n < 0 ∨ 65535 < t.n then ([], 10) else if t.n < 256 then (36 :: hexA 2 t.n.toNat [], 0) else (36 :: hexA 4 t.n.toNat [], 0))
  else if t.kind = 3 then ([46, 46], 0)
  else if t.kind = 4 then ([10], 0)
  else ([], 15)
attribute [local go_sem high] cat_ok
theorem hex_digit (d : Nat) (h : d < 16) : (hexs.extract d 16).extract 0 1 = str [hd d] := by
  have key : ∀ d : Fin 16, (hexs.extract d.val 16).extract 0 1 = str [hd d.val] := by decide +kernel
  exact key ⟨d, h⟩
theorem hex_size (d : Nat) (h : d < 16) : 1 ≤ (hexs.extract d 16).size := by
  have key : ∀ d : Fin 16, 1 ≤ (hexs.extract d.val 16).size := by decide +kernel
  exact key ⟨d, h⟩
set_option maxHeartbeats 1600000 in
theorem hex_eq (w : World) (n mm : Nat) (hn : n ≤ 65535) (hm : mm ≤ 4) : Calls Tryd.prog 21 #[.int .i64 n, .int .i64 mm] w fun e w' => e = .returned (.string (str (hexA mm n []))) ∧ w = w' := by
  go_enter Tryd.func21, Tryd.ntmps21
  go_wp2_with fail
  go_loop [0, 5, 7] (fun x0 x5 x7 => ∃ (j n' : Nat) (ob : ByteArray) (out : By), j ≤ mm ∧ n' ≤ 65535 ∧ x0 = .int .i64 (n' : Int) ∧ x5 = .string ob ∧ x7 = .int .i64 (j : Int) ∧ ob.size ≤ 100 ∧ Hid (ob = str out ∧ out.length = j ∧ hexA (mm - j) n' out = hexA mm n [])) (fun _ _ i => mm - (intOf i).toNat)
  case atStart => exact ⟨0, n, ⟨#[]⟩, [], Nat.zero_le _, hn, rfl, rfl, rfl, by decide, Lib.hid ⟨rfl, rfl, rfl⟩⟩
  case round =>
    obtain ⟨j, n', ob, out, hj, hn', rfl, rfl, rfl, hob, HH⟩ := hrel
    by_cases hlt : j < mm
    · have hlti : (j : Int) < (mm : Int) := by omega
      obtain ⟨d, hd0⟩ : ∃ d, d = n' % 16 := ⟨_, rfl⟩
      obtain ⟨q, hq0⟩ : ∃ q, q = n' / 16 := ⟨_, rfl⟩
      have e1 : (n' : Int) % 16 = (d : Int) := by omega
      have e2 : (n' : Int) / 16 = (q : Int) := by omega
      have hd1 : d ≤ 16 := by omega
      have hd2 : (d : Int) ≤ 16 := by omega
      have hdl : d < 16 := by omega
      have hn0 : (0 : Int) ≤ (n' : Int) := by omega
      have HX := Lib.hid (hex_digit d hdl)
      have hx1 := hex_size d hdl
      have hx2 : (1 : Int) ≤ ((hexs.extract d 16).size : Int) := by omega
      have hx3 : ((hexs.extract d 16).extract 0 1).size ≤ 1000000 := by rw [HX.out, str_size]; simp
      have hob2 : ob.size ≤ 1000000 := by omega
      have HN := Lib.hid (show hexA (mm - (j + 1)) q (hd d :: out) = hexA mm n [] from by
        have h := HH.out.2.2
        rw [show mm - j = (mm - (j + 1)) + 1 by omega, hexA, ← hd0, ← hq0] at h
        exact h)
      have hql : q ≤ 65535 := by omega
      have HE := Lib.hid (show (hexs.extract d 16).extract 0 1 ++ ob = str (hd d :: out) from by rw [HX.out, HH.out.1, str_app]; rfl)
      clear hd0 hq0
      go_wp2_with fail
      go_round
      case rel => exact ⟨j + 1, q, _, hd d :: out, by omega, hql, by first | rfl | (rw [e2]), rfl, by go_num, by rw [HE.out, str_size, List.length_cons, HH.out.2.1]; omega, Lib.hid ⟨HE.out, by rw [List.length_cons, HH.out.2.1], HN.out⟩⟩
      case measure => simp [intOf]; omega
    · have hlti : ¬ (j : Int) < (mm : Int) := by omega
      go_wp2_with fail
      go_ret
      refine ⟨?_, rfl⟩
      obtain ⟨h1, h2, h3⟩ := HH.out
      rw [show mm - j = 0 by omega, hexA] at h3
      rw [h1, h3]
      rfl
end Go.Proofs.YtlmcdbegnjikdaaDoor
