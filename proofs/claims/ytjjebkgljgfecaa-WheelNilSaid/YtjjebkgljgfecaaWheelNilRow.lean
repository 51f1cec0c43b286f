/- The law WheelNil: for every input the call returns true, and the input reads as it did. It rests on the walk and on nothing else. -/
import Derived.Test.YtjjebkgljgfecaaOpen
import Derived.Test.YtjjebkgljgfecaaWhOpen2
namespace Go.Proofs.Ytjjebkgljgfecaa.wheelNil
set_option linter.unusedSimpArgs false
open Go.ChangeShapes Go.WideShapes Go.ChangeAt Go.RowKit
open Go.ChangeMaps (open_string shut_string)
set_option linter.unusedVariables false

theorem own : ownKnob Try.prog.godebug = none := by kernel_rfl
theorem laidOut : laidOutB Try.prog = true := by kernel_rfl
theorem flat0 : flat Try.prog 6 39 = some [3, 5, 5] := by kernel_rfl
theorem flat1 : flat Try.prog 6 51 = some [30, 30] := by kernel_rfl
set_option maxRecDepth 100000 in
theorem lifted (os : Os) (started : os.Started) (H : Type) (enc : TypeId × Value → H) :
    ReturnsInHanded {} Try.checked os 6 .any (Rows.wheelNilSpec.pre6 enc Try.prog Try.f6 Rows.wheelNilRow.domain false) (Rows.wheelNilSpec.post enc Try.prog Try.f6 false true false false) := by
  refine returnsInHanded_of_change (C := Try.checked) own started (by kernel_rfl) Try.func6
    (ChangeSpec.witness6 (enc := enc) (C := Try.checked) false ⟨#[], #[.agg #[.int .i64 0, .int .u8 0, .int .u8 0], .agg #[.slice none 0 0, .slice none 0 0]], []⟩ 8 (by kernel_rfl) (by kernel_rfl) (by kernel_rfl) (by kernel_rfl)) ?_
  intro W base args ds gs before hval0 hW hcnd _
  have hval : ∀ (j : Nat) t v, Try.f6.params[j]? = some t → args[j]? = some v → Value.okWide Try.prog W .any base t v := hval0
  have hW' := hW
  obtain ⟨p, q, hA0, hV, rfl, hfz, hnd⟩ := hW
  have hA : DataW.TrodAll enc Try.prog W 0 (fun _ => true) true Try.f6.params.toList args.toList ds p := hA0
  rw [Try.params6] at hA hval
  obtain ⟨v0, vs0, d0, ds0, p0, q0, hargs, rfl, rfl, h0, r0⟩ := trodAll_cons hA
  obtain ⟨v1, vs1, d1, ds1, p1, q1, rfl, rfl, rfl, h1, r1⟩ := trodAll_cons r0
  obtain ⟨rfl, rfl, rfl⟩ := trodAll_nil r1
  obtain rfl : args = #[v0, v1] := by cases args; simp_all
  obtain ⟨rfl, rfl⟩ := trodVars_none hV
  have k0 := h0
  have lt0 : ∀ x ∈ p0, x.block < W.heap.size := by obtain ⟨m, hm⟩ := k0; exact DataW.trod_lt m _ _ _ hm
  obtain ⟨cs0, rfl, hs0, hc0⟩ := open_flat Try.underlying39 rfl flat0 (by kernel_rfl) (hval 0 39 v0 rfl rfl) h0
  obtain ⟨c0_0, m0_0, y0_0, e0_0, t0_0⟩ := hc0 0 _ rfl
  obtain ⟨a0_0, rfl, w0_0⟩ := leaf_int Try.underlying3 t0_0
  obtain ⟨c0_1, m0_1, y0_1, e0_1, t0_1⟩ := hc0 1 _ rfl
  obtain ⟨a0_1, rfl, w0_1⟩ := leaf_int Try.underlying5 t0_1
  obtain ⟨c0_2, m0_2, y0_2, e0_2, t0_2⟩ := hc0 2 _ rfl
  obtain ⟨a0_2, rfl, w0_2⟩ := leaf_int Try.underlying5 t0_2
  obtain rfl : cs0 = #[.int .i64 a0_0, .int .u8 a0_1, .int .u8 a0_2] := by
    apply Array.ext_getElem?
    intro i
    rcases i with _ | _ | _ | i
    · exact e0_0
    · exact e0_1
    · exact e0_2
    · rw [Array.getElem?_eq_none (by simp at hs0; omega), Array.getElem?_eq_none (by simp)]
  have k1 := h1
  have lt1 : ∀ x ∈ p1, x.block < W.heap.size := by obtain ⟨m, hm⟩ := k1; exact DataW.trod_lt m _ _ _ hm
  obtain ⟨cs1, rfl, hs1, hc1⟩ := open_flat Try.underlying51 rfl flat1 (by kernel_rfl) (hval 1 51 v1 rfl rfl) h1
  obtain ⟨c1_0, m1_0, y1_0, e1_0, t1_0⟩ := hc1 0 _ rfl
  obtain ⟨c1_1, m1_1, y1_1, e1_1, t1_1⟩ := hc1 1 _ rfl
  obtain rfl : cs1 = #[c1_0, c1_1] := by
    apply Array.ext_getElem?
    intro i
    rcases i with _ | _ | i
    · exact e1_0
    · exact e1_1
    · rw [Array.getElem?_eq_none (by simp at hs1; omega), Array.getElem?_eq_none (by simp)]
  clear hA0 hval0
  refine (wheelNil_all a0_0 a0_1 a0_2 t1_0 t1_1).mono fun e W' ⟨he, bel⟩ => ?_
  subst he
  exact ⟨_, rfl, _, _, _, [], _, [], hW', trodAll_mk1 (shut_bool Try.underlying4 _), (trodAll_cons_mk (Below.trod laidOut (by kernel_rfl) (of_decide_eq_true (by kernel_rfl)) k0 bel lt0) (trodAll_cons_mk (Below.trod laidOut (by kernel_rfl) (of_decide_eq_true (by kernel_rfl)) k1 bel lt1) trodAll_mk0)), rfl, bel.frame _, fun h => by cases h⟩

theorem holds : Rows.WheelNilSaid :=
  OpenClaim.holds_of_wide 6 Try.f6 rfl rfl rfl rfl rfl rfl rfl ⟨rfl, rfl, rfl, rfl, rfl⟩ rfl rfl rfl rfl rfl (by kernel_rfl) Try.func6 (by kernel_rfl)
    (of_decide_eq_true (by kernel_rfl)) (by unfold Func.isWrapper; first | (rw [if_pos (by decide +kernel)]; kernel_rfl) | (rw [if_neg (by decide +kernel)]; exact ⟨rfl, rfl⟩))
    (fun os started H enc _ => lifted os started H enc)
#print axioms holds
end Go.Proofs.Ytjjebkgljgfecaa.wheelNil
