/- Verdicts: numbers' texts. (printed by gen/cp2.py) -/
import Derived.Test.YtggnkkmlabhofaaDoorCp1
import Derived.Test.YtggnkkmlabhofaaDoorShi
import Derived.Lib.AppendIntMem
namespace Go.Proofs.YtggnkkmlabhofaaDoor
set_option linter.unusedVariables false
set_option linter.unusedSimpArgs false
open Go.RowKit
attribute [local go_sem ↓] Go.wp_at_zero Go.wp_at_succ
attribute [local go_sem high] cat_ok

/-- The library's table is laid. -/
def TB (w : World) : Prop := Lib.TabIs Tryd.prog w "internal/strconv.uint64pow10" .u64 Lib.pow10Tab
theorem TB.on {w V : World} (h : TB w) (hb : Below w.heap.size w V) : TB V := Lib.tabBelow_of_tabIs h V hb
theorem itoa_eq (w : World) (n : Int) (h0 : -9223372036854775808 ≤ n) (h1 : n ≤ 9223372036854775807) (hT : TB w) :
    Calls Tryd.prog 45 #[.int .i64 n] w fun e w' => e = .returned (.string (str (Lib.itoa n))) ∧ Below w.heap.size w w' :=
  Calls.mono (Any.strconv_Itoa Tryd.laysM171 n h0 h1 w hT) (by
    rintro e w' ⟨rfl, k, os, rfl⟩
    exact ⟨rfl, rfl, rfl, rfl, by show w.heap.size ≤ (w.heap ++ os).size; rw [Array.size_append]; omega, fun _ hj => by show (w.heap ++ os)[_]? = _; rw [Array.getElem?_append_left hj]⟩)
/-- A place's text. -/
def numT (n : Int) : By := if n = -1 then [45] else Lib.itoa n
theorem number_eq (w : World) (n : Int) (h0 : -9223372036854775808 ≤ n) (h1 : n ≤ 9223372036854775807) (hT : TB w) :
    Calls Tryd.prog 48 #[.int .i64 n] w fun e w' => e = .returned (.string (str (numT n))) ∧ Below w.heap.size w w' := by
  by_cases h : n = -1
  · subst h
    go_enter Tryd.func48, Tryd.ntmps48
    go_wp2_with fail
    go_ret
    exact ⟨rfl, Below.refl _ _⟩
  · have hb : (n == -1) = false := by simp [h]
    have HN := Lib.hid (show numT n = Lib.itoa n from if_neg h)
    have IT := itoa_eq w n h0 h1 hT
    go_enter Tryd.func48, Tryd.ntmps48
    go_wp2_with (go_at_call 45; (with_reducible refine IT.mono ?_); rintro e w1 ⟨rfl, hb1⟩)
    go_ret
    exact ⟨by rw [HN.out]; rfl, hb1⟩
abbrev dgs : ByteArray := ⟨#[48, 49, 50, 51, 52, 53, 54, 55, 56, 57]⟩
theorem dgs_one (d : Nat) (h : d < 10) : dgs.extract d (d + 1) = str [UInt8.ofNat (48 + d)] := by
  have key : ∀ d : Fin 10, dgs.extract d.val (d.val + 1) = str [UInt8.ofNat (48 + d.val)] := by decide +kernel
  exact key ⟨d, h⟩
theorem dec_len (n : Nat) (h : n ≤ 9223372036854775807) : (Lib.decDigits n).length ≤ 20 := by
  rw [Lib.decDigits_length]
  exact Lib.nDigits_le20 n (by omega)
set_option maxRecDepth 100000 in
set_option maxHeartbeats 1600000 in
theorem dec_eq (n : Nat) : n ≤ 9223372036854775807 → ∀ w : World, Calls Tryd.prog 46 #[.int .i64 (n : Int)] w fun e w' => e = .returned (.string (str (Lib.decDigits n))) ∧ Below w.heap.size w w' := by
  induction n using Nat.strongRecOn with
  | _ n ih =>
    intro hn w
    by_cases h : n < 10
    · have hi : (n : Int) < 10 := by omega
      have h1 : (n : Int) ≤ (n : Int) + 1 := by omega
      have h2 : (n : Int) + 1 ≤ 10 := by omega
      have h3 : n + 1 ≤ 10 := by omega
      have h4 : ((n : Int) + 1).toNat = n + 1 := by omega
      have HE := Lib.hid (show dgs.extract n (n + 1) = str (Lib.decDigits n) from by rw [dgs_one n h, Lib.decDigits_one h])
      go_enter Tryd.func46, Tryd.ntmps46
      go_wp2_with fail
      go_ret
      exact ⟨by rw [← HE.out]; rfl, Below.refl _ _⟩
    · have hi : ¬ (n : Int) < 10 := by omega
      obtain ⟨q, hq⟩ : ∃ q, q = n / 10 := ⟨_, rfl⟩
      obtain ⟨d, hd⟩ : ∃ d, d = n % 10 := ⟨_, rfl⟩
      have e1 : (n : Int) / 10 = (q : Int) := by omega
      have e2 : (n : Int) % 10 = (d : Int) := by omega
      have hdl : d < 10 := by omega
      have h1 : (d : Int) ≤ (d : Int) + 1 := by omega
      have h2 : (d : Int) + 1 ≤ 10 := by omega
      have h3 : d + 1 ≤ 10 := by omega
      have h4 : ((d : Int) + 1).toNat = d + 1 := by omega
      have hn0 : (0 : Int) ≤ (n : Int) := by omega
      have IH := fun V => ih q (by omega) (by omega) V
      have IH2 : ∀ V : World, Calls Tryd.prog 46 #[.int .i64 ((n : Int) / 10)] V fun e w' => e = .returned (.string (str (Lib.decDigits q))) ∧ Below V.heap.size V w' := by rw [e1]; exact IH
      have hs1 : (str (Lib.decDigits q)).size ≤ 1000000 := by rw [str_size]; have := dec_len q (by omega); omega
      have hs2 : (dgs.extract d (d + 1)).size ≤ 1000000 := by rw [dgs_one d hdl, str_size]; simp
      have HE := Lib.hid (show str (Lib.decDigits q) ++ dgs.extract d (d + 1) = str (Lib.decDigits n) from by rw [dgs_one d hdl, str_app, hd, hq]; conv => rhs; rw [Lib.decDigits, dif_neg h])
      clear ih hq hd
      go_enter Tryd.func46, Tryd.ntmps46
      go_wp2_with fail
      refine wp_region_below (by kernel_rfl) (by kernel_rfl) ?_
      repeat (go_big_quiet_step ((go_at_call 46; first | exact calls_bw (IH _) | exact calls_bw (IH2 _))))
      refine wpQuiet_nil ?_
      intro w9 hw9
      obtain ⟨y9, rfl⟩ := hw9
      go_wp2_with fail
      go_ret
      exact ⟨by rw [← HE.out]; rfl, y9.has⟩
/-- A number's text behind a blank. -/
def plT (n : Int) : By := if n < 0 then [32, 45] else 32 :: Lib.decDigits n.toNat
theorem place_eq (w : World) (n : Int) (h1 : n ≤ 9223372036854775807) :
    Calls Tryd.prog 50 #[.int .i64 n] w fun e w' => e = .returned (.string (str (plT n))) ∧ Below w.heap.size w w' := by
  by_cases h : n < 0
  · have HN := Lib.hid (show plT n = [32, 45] from if_pos h)
    go_enter Tryd.func50, Tryd.ntmps50
    go_wp2_with fail
    go_ret
    exact ⟨by rw [HN.out]; rfl, Below.refl _ _⟩
  · have HN := Lib.hid (show plT n = 32 :: Lib.decDigits n.toNat from if_neg h)
    have IT := dec_eq n.toNat (by omega) w
    have hs1 : (str (Lib.decDigits n.toNat)).size ≤ 1000000 := by rw [str_size]; have := dec_len n.toNat (by omega); omega
    rw [show ((n.toNat : Nat) : Int) = n by omega] at IT
    have HE := Lib.hid (show ByteArray.mk #[32] ++ str (Lib.decDigits n.toNat) = str (plT n) from by rw [HN.out]; exact str_app [32] _)
    go_enter Tryd.func50, Tryd.ntmps50
    go_wp2_with (go_at_call 46; (with_reducible refine IT.mono ?_); rintro e w1 ⟨rfl, hb1⟩)
    go_ret
    exact ⟨by rw [← HE.out]; rfl, hb1⟩
end Go.Proofs.YtggnkkmlabhofaaDoor
