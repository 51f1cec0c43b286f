/- The law LabelsAll: for every input the call returns true, and the input reads as it did. It rests on the walk and on nothing else. -/
import Derived.Test.YtggnkkmlabhofaaOpen
import Derived.Test.YtggnkkmlabhofaaAlOpen
namespace Go.Proofs.Ytggnkkmlabhofaa.labelsAll
set_option linter.unusedSimpArgs false
open Go.ChangeShapes Go.WideShapes Go.ChangeAt Go.RowKit
open Go.ChangeMaps (open_string shut_string)
set_option linter.unusedVariables false

theorem own : ownKnob Try.prog.godebug = none := by kernel_rfl
theorem laidOut : laidOutB Try.prog = true := by kernel_rfl
theorem flat0 : flat Try.prog 6 24 = some [22, 22, 3, 3] := by kernel_rfl
set_option maxRecDepth 100000 in
theorem lifted (os : Os) (started : os.Started) (H : Type) (enc : TypeId × Value → H) :
    ReturnsInHanded {} Try.checked os 3 .any (Rows.labelsAllSpec.pre6 enc Try.prog Try.f3 Rows.labelsAllRow.domain false) (Rows.labelsAllSpec.post enc Try.prog Try.f3 false true false false) := by
  refine returnsInHanded_of_change (C := Try.checked) own started (by kernel_rfl) Try.func3
    (ChangeSpec.witness6 (enc := enc) (C := Try.checked) false ⟨#[], #[.agg #[.slice none 0 0, .slice none 0 0, .int .i64 0, .int .i64 0], .int .i64 0], []⟩ 8 (by kernel_rfl) (by kernel_rfl) (by kernel_rfl) (by kernel_rfl)) ?_
  intro W base args ds gs before hval0 hW hcnd _
  have hval : ∀ (j : Nat) t v, Try.f3.params[j]? = some t → args[j]? = some v → Value.okWide Try.prog W .any base t v := hval0
  have hW' := hW
  obtain ⟨p, q, hA0, hV, rfl, hfz, hnd⟩ := hW
  have hA : DataW.TrodAll enc Try.prog W 0 (fun _ => true) true Try.f3.params.toList args.toList ds p := hA0
  rw [Try.params3] at hA hval
  obtain ⟨v0, vs0, d0, ds0, p0, q0, hargs, rfl, rfl, h0, r0⟩ := trodAll_cons hA
  obtain ⟨v1, vs1, d1, ds1, p1, q1, rfl, rfl, rfl, h1, r1⟩ := trodAll_cons r0
  obtain ⟨rfl, rfl, rfl⟩ := trodAll_nil r1
  obtain rfl : args = #[v0, v1] := by cases args; simp_all
  obtain ⟨rfl, rfl⟩ := trodVars_none hV
  have k0 := h0
  have lt0 : ∀ x ∈ p0, x.block < W.heap.size := by obtain ⟨m, hm⟩ := k0; exact DataW.trod_lt m _ _ _ hm
  obtain ⟨cs0, rfl, hs0, hc0⟩ := open_flat Try.underlying24 rfl flat0 (by kernel_rfl) (hval 0 24 v0 rfl rfl) h0
  obtain ⟨c0_0, m0_0, y0_0, e0_0, t0_0⟩ := hc0 0 _ rfl
  obtain ⟨c0_1, m0_1, y0_1, e0_1, t0_1⟩ := hc0 1 _ rfl
  obtain ⟨c0_2, m0_2, y0_2, e0_2, t0_2⟩ := hc0 2 _ rfl
  obtain ⟨a0_2, rfl, w0_2⟩ := leaf_int Try.underlying3 t0_2
  obtain ⟨c0_3, m0_3, y0_3, e0_3, t0_3⟩ := hc0 3 _ rfl
  obtain ⟨a0_3, rfl, w0_3⟩ := leaf_int Try.underlying3 t0_3
  obtain rfl : cs0 = #[c0_0, c0_1, .int .i64 a0_2, .int .i64 a0_3] := by
    apply Array.ext_getElem?
    intro i
    rcases i with _ | _ | _ | _ | i
    · exact e0_0
    · exact e0_1
    · exact e0_2
    · exact e0_3
    · rw [Array.getElem?_eq_none (by simp at hs0; omega), Array.getElem?_eq_none (by simp)]
  obtain ⟨a1, rfl, rfl, rfl, w1⟩ := open_int Try.underlying3 (hval 1 3 v1 rfl rfl) h1
  clear hA0 hval0
  refine (labelsAll_open a0_2 a0_3 a1 t0_0 t0_1).mono fun e W' ⟨he, bel⟩ => ?_
  subst he
  exact ⟨_, rfl, _, _, _, [], _, [], hW', trodAll_mk1 (shut_bool Try.underlying4 _), (trodAll_cons_mk (Below.trod laidOut (by kernel_rfl) (of_decide_eq_true (by kernel_rfl)) k0 bel lt0) (trodAll_cons_mk (shut_int Try.underlying3 w1) trodAll_mk0)), rfl, bel.frame _, fun h => by cases h⟩

theorem holds : Rows.LabelsAllSaid :=
  OpenClaim.holds_of_wide 3 Try.f3 rfl rfl rfl rfl rfl rfl rfl ⟨rfl, rfl, rfl, rfl, rfl⟩ rfl rfl rfl rfl rfl (by kernel_rfl) Try.func3 (by kernel_rfl)
    (of_decide_eq_true (by kernel_rfl)) (by unfold Func.isWrapper; first | (rw [if_pos (by decide +kernel)]; kernel_rfl) | (rw [if_neg (by decide +kernel)]; exact ⟨rfl, rfl⟩))
    (fun os started H enc _ => lifted os started H enc)
#print axioms holds
end Go.Proofs.Ytggnkkmlabhofaa.labelsAll
