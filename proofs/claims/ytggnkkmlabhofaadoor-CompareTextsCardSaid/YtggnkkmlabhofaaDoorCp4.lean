/- Verdicts: the document's text. (printed by gen/cp4.py) -/
import Derived.Test.YtggnkkmlabhofaaDoorCp3
namespace Go.Proofs.YtggnkkmlabhofaaDoor
set_option linter.unusedVariables false
set_option linter.unusedSimpArgs false
open Go.RowKit
attribute [local go_sem ↓] Go.wp_at_zero Go.wp_at_succ
attribute [local go_sem high] cat_ok

set_option maxRecDepth 100000 in
set_option maxHeartbeats 3200000 in
theorem rfits_eq (w : World) (lw : Bool) (c0 c1 y0 y1 ap ou lo wh : Int) (B : Bool) (hB : B = fit c0 c1 y0 y1 ap ou lo wh) : Calls Tryd.prog 21 #[.agg #[.bool lw, .int .i64 c0, .int .i64 c1, .int .i64 y0, .int .i64 y1, .int .i64 ap, .int .i64 ou, .int .i64 lo, .int .i64 wh]] w fun e w' => e = .returned (.bool B) ∧ Below w.heap.size w w' := by
  have HB := Lib.hid hB
  clear hB
  go_enter Tryd.func21, Tryd.ntmps21
  go_wp2_with fail
  go_loop [3] (fun i => (i = .int .i64 0) ∨ (i = .int .i64 1 ∧ okc c0 y0 = true) ∨ (i = .int .i64 2 ∧ okc c0 y0 = true ∧ okc c1 y1 = true)) (fun i => 2 - (intOf i).toNat)
  case atStart => exact .inl rfl
  case round =>
    rcases hrel with e1 | ⟨e1, e2⟩ | ⟨e1, e2, e3⟩
    · subst e1
      by_cases h0 : c0 < 0
      · have HE := Lib.hid (HB.out.trans (fit_no0 (okc_neg (.inl h0))))
        go_wp2_with fail
        go_ret
        exact ⟨bool_eq HE.out.symm, Q.alloc (Below.refl _ _) _⟩
      by_cases h1 : 3 < c0
      · have HE := Lib.hid (HB.out.trans (fit_no0 (okc_neg (.inr (.inl h1)))))
        go_wp2_with fail
        go_ret
        exact ⟨bool_eq HE.out.symm, Q.alloc (Below.refl _ _) _⟩
      by_cases h2 : y0 < 0
      · have HE := Lib.hid (HB.out.trans (fit_no0 (okc_neg (.inr (.inr h2)))))
        go_wp2_with fail
        go_ret
        exact ⟨bool_eq HE.out.symm, Q.alloc (Below.refl _ _) _⟩
      have HK := Lib.hid (okc_yes h0 h1 h2)
      go_wp2_with fail
      go_round
      case rel => exact .inr (.inl ⟨rfl, HK.out⟩)
      case measure => simp [intOf]
    · subst e1
      have K0 := Lib.hid e2
      clear e2
      by_cases h0 : c1 < 0
      · have HE := Lib.hid (HB.out.trans (fit_no1 (okc_neg (.inl h0))))
        go_wp2_with fail
        go_ret
        exact ⟨bool_eq HE.out.symm, Q.alloc (Below.refl _ _) _⟩
      by_cases h1 : 3 < c1
      · have HE := Lib.hid (HB.out.trans (fit_no1 (okc_neg (.inr (.inl h1)))))
        go_wp2_with fail
        go_ret
        exact ⟨bool_eq HE.out.symm, Q.alloc (Below.refl _ _) _⟩
      by_cases h2 : y1 < 0
      · have HE := Lib.hid (HB.out.trans (fit_no1 (okc_neg (.inr (.inr h2)))))
        go_wp2_with fail
        go_ret
        exact ⟨bool_eq HE.out.symm, Q.alloc (Below.refl _ _) _⟩
      have HK := Lib.hid (okc_yes h0 h1 h2)
      go_wp2_with fail
      go_round
      case rel => exact .inr (.inr ⟨rfl, K0.out, HK.out⟩)
      case measure => simp [intOf]
    · subst e1
      have K0 := Lib.hid e2
      have K1 := Lib.hid e3
      clear e2 e3
      by_cases hap : -1 ≤ ap
      rotate_left
      · have HE := Lib.hid (HB.out.trans (show fit c0 c1 y0 y1 ap ou lo wh = false from by simp [fit, okn, hap]))
        go_wp2_with fail
        go_ret
        exact ⟨bool_eq HE.out.symm, Q.alloc (Below.refl _ _) _⟩
      by_cases hou : -1 ≤ ou
      rotate_left
      · have HE := Lib.hid (HB.out.trans (show fit c0 c1 y0 y1 ap ou lo wh = false from by simp [fit, okn, hou]))
        go_wp2_with fail
        go_ret
        exact ⟨bool_eq HE.out.symm, Q.alloc (Below.refl _ _) _⟩
      by_cases hlo : -1 ≤ lo
      rotate_left
      · have HE := Lib.hid (HB.out.trans (show fit c0 c1 y0 y1 ap ou lo wh = false from by simp [fit, okn, hlo]))
        go_wp2_with fail
        go_ret
        exact ⟨bool_eq HE.out.symm, Q.alloc (Below.refl _ _) _⟩
      by_cases hwh : -1 ≤ wh
      rotate_left
      · have HE := Lib.hid (HB.out.trans (show fit c0 c1 y0 y1 ap ou lo wh = false from by simp [fit, okn, hwh]))
        go_wp2_with fail
        go_ret
        exact ⟨bool_eq HE.out.symm, Q.alloc (Below.refl _ _) _⟩
      have HE := Lib.hid (HB.out.trans (show fit c0 c1 y0 y1 ap ou lo wh = true from by simp [fit, okn, K0.out, K1.out, hap, hou, hlo, hwh]))
      go_wp2_with fail
      go_ret
      exact ⟨bool_eq HE.out.symm, Q.alloc (Below.refl _ _) _⟩
/-- What the document tells. -/
def rpc (lw : Bool) (c0 c1 y0 y1 ap ou lo wh : Int) : By := (((((baseT lw ++ [32] ++ wordT c0 ++ [32] ++ Lib.decDigits y0.toNat) ++ [32] ++ wordT c1 ++ [32] ++ Lib.decDigits y1.toNat) ++ plT ap) ++ plT ou) ++ plT lo) ++ plT wh
theorem pl_num {n : Int} (h : -1 ≤ n) : plT n = 32 :: numT n := by
  unfold plT numT Lib.itoa
  by_cases h1 : n = -1
  · subst h1; rfl
  · rw [if_neg (by omega), if_neg h1, if_neg (by omega)]
theorem rpc_join (lw : Bool) (c0 c1 y0 y1 ap ou lo wh : Int) (h : fit c0 c1 y0 y1 ap ou lo wh = true) : rpc lw c0 c1 y0 y1 ap ou lo wh = Lib.join (pcs lw c0 c1 y0 y1 ap ou lo wh) [32] := by
  simp only [fit, okc, okn, Bool.and_eq_true, decide_eq_true_eq] at h
  obtain ⟨⟨⟨⟨⟨⟨_, _, h0⟩, _, _, h1⟩, h2⟩, h3⟩, h4⟩, h5⟩ := h
  unfold rpc pcs
  rw [pl_num h2, pl_num h3, pl_num h4, pl_num h5, Lib.join_cons, show Lib.itoa y0 = Lib.decDigits y0.toNat from if_neg (by omega), show Lib.itoa y1 = Lib.decDigits y1.toNat from if_neg (by omega)]
  simp [Lib.joinTail]
end Go.Proofs.YtggnkkmlabhofaaDoor
