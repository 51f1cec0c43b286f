/- The law TimerBytes: for every input the call returns true, and the input reads as it did. It rests on the walk and on nothing else. -/
import Derived.Test.YtijlmdpcbclmaaaOpen
import Derived.Test.YtijlmdpcbclmaaaTimer9
namespace Go.Proofs.Ytijlmdpcbclmaaa.timerBytes
set_option linter.unusedSimpArgs false
open Go.ChangeShapes Go.WideShapes Go.ChangeAt Go.RowKit
open Go.ChangeMaps (open_string shut_string)
set_option linter.unusedVariables false

theorem own : ownKnob Try.prog.godebug = none := by kernel_rfl
theorem laidOut : laidOutB Try.prog = true := by kernel_rfl
theorem flat0 : flat Try.prog 6 38 = some [3, 3, 4, 4, 4, 4] := by kernel_rfl
theorem flat1 : flat Try.prog 6 75 = some [5, 5, 5, 5] := by kernel_rfl
set_option maxRecDepth 100000 in
theorem lifted (os : Os) (started : os.Started) (H : Type) (enc : TypeId × Value → H) :
    ReturnsInHanded {} Try.checked os 12 .any (Rows.timerBytesSpec.pre6 enc Try.prog Try.f12 Rows.timerBytesRow.domain false) (Rows.timerBytesSpec.post enc Try.prog Try.f12 false true false false) := by
  refine returnsInHanded_of_change (C := Try.checked) own started (by kernel_rfl) Try.func12
    (ChangeSpec.witness6 (enc := enc) (C := Try.checked) false ⟨#[], #[.agg #[.int .i64 0, .int .i64 0, .bool false, .bool false, .bool false, .bool false], .agg #[.int .u8 0, .int .u8 0, .int .u8 0, .int .u8 0]], []⟩ 8 (by kernel_rfl) (by kernel_rfl) (by kernel_rfl) (by kernel_rfl)) ?_
  intro W base args ds gs before hval0 hW hcnd _
  have hval : ∀ (j : Nat) t v, Try.f12.params[j]? = some t → args[j]? = some v → Value.okWide Try.prog W .any base t v := hval0
  have hW' := hW
  obtain ⟨p, q, hA0, hV, rfl, hfz, hnd⟩ := hW
  have hA : DataW.TrodAll enc Try.prog W 0 (fun _ => true) true Try.f12.params.toList args.toList ds p := hA0
  rw [Try.params12] at hA hval
  obtain ⟨v0, vs0, d0, ds0, p0, q0, hargs, rfl, rfl, h0, r0⟩ := trodAll_cons hA
  obtain ⟨v1, vs1, d1, ds1, p1, q1, rfl, rfl, rfl, h1, r1⟩ := trodAll_cons r0
  obtain ⟨rfl, rfl, rfl⟩ := trodAll_nil r1
  obtain rfl : args = #[v0, v1] := by cases args; simp_all
  obtain ⟨rfl, rfl⟩ := trodVars_none hV
  have k0 := h0
  have lt0 : ∀ x ∈ p0, x.block < W.heap.size := by obtain ⟨m, hm⟩ := k0; exact DataW.trod_lt m _ _ _ hm
  obtain ⟨cs0, rfl, hs0, hc0⟩ := open_flat Try.underlying38 rfl flat0 (by kernel_rfl) (hval 0 38 v0 rfl rfl) h0
  obtain ⟨c0_0, m0_0, y0_0, e0_0, t0_0⟩ := hc0 0 _ rfl
  obtain ⟨a0_0, rfl, w0_0⟩ := leaf_int Try.underlying3 t0_0
  obtain ⟨c0_1, m0_1, y0_1, e0_1, t0_1⟩ := hc0 1 _ rfl
  obtain ⟨a0_1, rfl, w0_1⟩ := leaf_int Try.underlying3 t0_1
  obtain ⟨c0_2, m0_2, y0_2, e0_2, t0_2⟩ := hc0 2 _ rfl
  obtain ⟨a0_2, rfl⟩ := leaf_bool Try.underlying4 t0_2
  obtain ⟨c0_3, m0_3, y0_3, e0_3, t0_3⟩ := hc0 3 _ rfl
  obtain ⟨a0_3, rfl⟩ := leaf_bool Try.underlying4 t0_3
  obtain ⟨c0_4, m0_4, y0_4, e0_4, t0_4⟩ := hc0 4 _ rfl
  obtain ⟨a0_4, rfl⟩ := leaf_bool Try.underlying4 t0_4
  obtain ⟨c0_5, m0_5, y0_5, e0_5, t0_5⟩ := hc0 5 _ rfl
  obtain ⟨a0_5, rfl⟩ := leaf_bool Try.underlying4 t0_5
  obtain rfl : cs0 = #[.int .i64 a0_0, .int .i64 a0_1, .bool a0_2, .bool a0_3, .bool a0_4, .bool a0_5] := by
    apply Array.ext_getElem?
    intro i
    rcases i with _ | _ | _ | _ | _ | _ | i
    · exact e0_0
    · exact e0_1
    · exact e0_2
    · exact e0_3
    · exact e0_4
    · exact e0_5
    · rw [Array.getElem?_eq_none (by simp at hs0; omega), Array.getElem?_eq_none (by simp)]
  have k1 := h1
  have lt1 : ∀ x ∈ p1, x.block < W.heap.size := by obtain ⟨m, hm⟩ := k1; exact DataW.trod_lt m _ _ _ hm
  obtain ⟨cs1, rfl, hs1, hc1⟩ := open_flat Try.underlying75 rfl flat1 (by kernel_rfl) (hval 1 75 v1 rfl rfl) h1
  obtain ⟨c1_0, m1_0, y1_0, e1_0, t1_0⟩ := hc1 0 _ rfl
  obtain ⟨a1_0, rfl, w1_0⟩ := leaf_int Try.underlying5 t1_0
  obtain ⟨c1_1, m1_1, y1_1, e1_1, t1_1⟩ := hc1 1 _ rfl
  obtain ⟨a1_1, rfl, w1_1⟩ := leaf_int Try.underlying5 t1_1
  obtain ⟨c1_2, m1_2, y1_2, e1_2, t1_2⟩ := hc1 2 _ rfl
  obtain ⟨a1_2, rfl, w1_2⟩ := leaf_int Try.underlying5 t1_2
  obtain ⟨c1_3, m1_3, y1_3, e1_3, t1_3⟩ := hc1 3 _ rfl
  obtain ⟨a1_3, rfl, w1_3⟩ := leaf_int Try.underlying5 t1_3
  obtain rfl : cs1 = #[.int .u8 a1_0, .int .u8 a1_1, .int .u8 a1_2, .int .u8 a1_3] := by
    apply Array.ext_getElem?
    intro i
    rcases i with _ | _ | _ | _ | i
    · exact e1_0
    · exact e1_1
    · exact e1_2
    · exact e1_3
    · rw [Array.getElem?_eq_none (by simp at hs1; omega), Array.getElem?_eq_none (by simp)]
  clear hA0 hval0
  refine (timerBytes_walk ⟨a0_0, a0_1, a0_2, a0_3, a0_4, a0_5⟩ a1_0 a1_1 a1_2 a1_3 (by have h := w1_0; simp [Lit.wf, IntKind.min, IntKind.max, IntKind.signed, IntKind.bits] at h; omega) (by have h := w1_1; simp [Lit.wf, IntKind.min, IntKind.max, IntKind.signed, IntKind.bits] at h; omega) (by have h := w1_2; simp [Lit.wf, IntKind.min, IntKind.max, IntKind.signed, IntKind.bits] at h; omega) (by have h := w1_3; simp [Lit.wf, IntKind.min, IntKind.max, IntKind.signed, IntKind.bits] at h; omega) W).mono fun e W' ⟨he, bel⟩ => ?_
  subst he
  exact ⟨_, rfl, _, _, _, [], _, [], hW', trodAll_mk1 (shut_bool Try.underlying4 _), (trodAll_cons_mk (Below.trod laidOut (by kernel_rfl) (of_decide_eq_true (by kernel_rfl)) k0 bel lt0) (trodAll_cons_mk (Below.trod laidOut (by kernel_rfl) (of_decide_eq_true (by kernel_rfl)) k1 bel lt1) trodAll_mk0)), rfl, bel.frame _, fun h => by cases h⟩

theorem holds : Rows.TimerBytesSaid :=
  OpenClaim.holds_of_wide 12 Try.f12 rfl rfl rfl rfl rfl rfl rfl ⟨rfl, rfl, rfl, rfl, rfl⟩ rfl rfl rfl rfl rfl (by kernel_rfl) Try.func12 (by kernel_rfl)
    (of_decide_eq_true (by kernel_rfl)) (by unfold Func.isWrapper; first | (rw [if_pos (by decide +kernel)]; kernel_rfl) | (rw [if_neg (by decide +kernel)]; exact ⟨rfl, rfl⟩))
    (fun os started H enc _ => lifted os started H enc)
#print axioms holds
end Go.Proofs.Ytijlmdpcbclmaaa.timerBytes
