/- The law PortsLow: for every input the call returns true, and the input reads as it did. It rests on the walk and on nothing else. -/
import Derived.Test.YteciicojnodibaaOpen
import Derived.Test.YteciicojnodibaaPo15
import Derived.Test.YteciicojnodibaaPoOpen
namespace Go.Proofs.Yteciicojnodibaa.portsLow
set_option linter.unusedSimpArgs false
open Go.ChangeShapes Go.WideShapes Go.ChangeAt Go.RowKit
open Go.ChangeMaps (open_string shut_string)
set_option linter.unusedVariables false

theorem own : ownKnob Try.prog.godebug = none := by kernel_rfl
theorem laidOut : laidOutB Try.prog = true := by kernel_rfl
theorem flat0 : flat Try.prog 6 41 = some [29, 29] := by kernel_rfl
theorem flat1 : flat Try.prog 6 41 = some [29, 29] := by kernel_rfl
theorem flat2 : flat Try.prog 6 37 = some [3, 3, 5, 5, 3] := by kernel_rfl
set_option maxRecDepth 100000 in
theorem lifted (os : Os) (started : os.Started) (H : Type) (enc : TypeId × Value → H) :
    ReturnsInHanded {} Try.checked os 5 .any (Rows.portsLowSpec.pre6 enc Try.prog Try.f5 Rows.portsLowRow.domain false) (Rows.portsLowSpec.post enc Try.prog Try.f5 false true false false) := by
  refine returnsInHanded_of_change (C := Try.checked) own started (by kernel_rfl) Try.func5
    (ChangeSpec.witness6 (enc := enc) (C := Try.checked) false ⟨#[], #[.agg #[.slice none 0 0, .slice none 0 0], .agg #[.slice none 0 0, .slice none 0 0], .slice none 0 0], []⟩ 8 (by kernel_rfl) (by kernel_rfl) (by kernel_rfl) (by kernel_rfl)) ?_
  intro W base args ds gs before hval0 hW hcnd _
  have hval : ∀ (j : Nat) t v, Try.f5.params[j]? = some t → args[j]? = some v → Value.okWide Try.prog W .any base t v := hval0
  have hW' := hW
  obtain ⟨p, q, hA0, hV, rfl, hfz, hnd⟩ := hW
  have hA : DataW.TrodAll enc Try.prog W 0 (fun _ => true) true Try.f5.params.toList args.toList ds p := hA0
  rw [Try.params5] at hA hval
  obtain ⟨v0, vs0, d0, ds0, p0, q0, hargs, rfl, rfl, h0, r0⟩ := trodAll_cons hA
  obtain ⟨v1, vs1, d1, ds1, p1, q1, rfl, rfl, rfl, h1, r1⟩ := trodAll_cons r0
  obtain ⟨v2, vs2, d2, ds2, p2, q2, rfl, rfl, rfl, h2, r2⟩ := trodAll_cons r1
  obtain ⟨rfl, rfl, rfl⟩ := trodAll_nil r2
  obtain rfl : args = #[v0, v1, v2] := by cases args; simp_all
  obtain ⟨rfl, rfl⟩ := trodVars_none hV
  have k0 := h0
  have lt0 : ∀ x ∈ p0, x.block < W.heap.size := by obtain ⟨m, hm⟩ := k0; exact DataW.trod_lt m _ _ _ hm
  obtain ⟨cs0, rfl, hs0, hc0⟩ := open_flat Try.underlying41 rfl flat0 (by kernel_rfl) (hval 0 41 v0 rfl rfl) h0
  obtain ⟨c0_0, m0_0, y0_0, e0_0, t0_0⟩ := hc0 0 _ rfl
  obtain ⟨c0_1, m0_1, y0_1, e0_1, t0_1⟩ := hc0 1 _ rfl
  obtain rfl : cs0 = #[c0_0, c0_1] := by
    apply Array.ext_getElem?
    intro i
    rcases i with _ | _ | i
    · exact e0_0
    · exact e0_1
    · rw [Array.getElem?_eq_none (by simp at hs0; omega), Array.getElem?_eq_none (by simp)]
  have k1 := h1
  have lt1 : ∀ x ∈ p1, x.block < W.heap.size := by obtain ⟨m, hm⟩ := k1; exact DataW.trod_lt m _ _ _ hm
  obtain ⟨cs1, rfl, hs1, hc1⟩ := open_flat Try.underlying41 rfl flat1 (by kernel_rfl) (hval 1 41 v1 rfl rfl) h1
  obtain ⟨c1_0, m1_0, y1_0, e1_0, t1_0⟩ := hc1 0 _ rfl
  obtain ⟨c1_1, m1_1, y1_1, e1_1, t1_1⟩ := hc1 1 _ rfl
  obtain rfl : cs1 = #[c1_0, c1_1] := by
    apply Array.ext_getElem?
    intro i
    rcases i with _ | _ | i
    · exact e1_0
    · exact e1_1
    · rw [Array.getElem?_eq_none (by simp at hs1; omega), Array.getElem?_eq_none (by simp)]
  have k2 := h2
  have lt2 : ∀ x ∈ p2, x.block < W.heap.size := by obtain ⟨m, hm⟩ := k2; exact DataW.trod_lt m _ _ _ hm
  obtain ⟨a2, len2, cap2, rfl⟩ := okWide_slice Try.underlying42 (hval 2 42 v2 rfl rfl)
  have w2 := open_rows Try.underlying42 flat2 (by kernel_rfl) h2
  clear hA0 hval0
  refine (portsLow_all t0_0 t0_1 t1_0 t1_1 (readsP_of_rows w2).1.choose_spec).mono fun e W' ⟨he, bel⟩ => ?_
  subst he
  exact ⟨_, rfl, _, _, _, [], _, [], hW', trodAll_mk1 (shut_bool Try.underlying4 _), (trodAll_cons_mk (Below.trod laidOut (by kernel_rfl) (of_decide_eq_true (by kernel_rfl)) k0 bel lt0) (trodAll_cons_mk (Below.trod laidOut (by kernel_rfl) (of_decide_eq_true (by kernel_rfl)) k1 bel lt1) (trodAll_cons_mk (Below.trod laidOut (by kernel_rfl) (of_decide_eq_true (by kernel_rfl)) k2 bel lt2) trodAll_mk0))), rfl, bel.frame _, fun h => by cases h⟩

theorem holds : Rows.PortsLowSaid :=
  OpenClaim.holds_of_wide 5 Try.f5 rfl rfl rfl rfl rfl rfl rfl ⟨rfl, rfl, rfl, rfl, rfl⟩ rfl rfl rfl rfl rfl (by kernel_rfl) Try.func5 (by kernel_rfl)
    (of_decide_eq_true (by kernel_rfl)) (by unfold Func.isWrapper; first | (rw [if_pos (by decide +kernel)]; kernel_rfl) | (rw [if_neg (by decide +kernel)]; exact ⟨rfl, rfl⟩))
    (fun os started H enc _ => lifted os started H enc)
#print axioms holds
end Go.Proofs.Yteciicojnodibaa.portsLow
