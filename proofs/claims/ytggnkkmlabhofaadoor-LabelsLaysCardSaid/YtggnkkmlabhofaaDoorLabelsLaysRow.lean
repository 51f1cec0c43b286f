/- The law LabelsLays: for every input the call returns true, and the input reads as it did. It rests on the walk and on nothing else. -/
import Derived.Test.YtggnkkmlabhofaaDoorOpen
import Derived.Test.YtggnkkmlabhofaaDoorLsOpen
namespace Go.Proofs.YtggnkkmlabhofaaDoor.labelsLays
set_option linter.unusedSimpArgs false
open Go.ChangeShapes Go.WideShapes Go.ChangeAt Go.RowKit
open Go.ChangeMaps (open_string shut_string)
set_option linter.unusedVariables false

theorem laidOut : laidOutB Tryd.prog = true := by kernel_rfl
theorem flat0 : flat Tryd.prog 6 44 = some [42, 42, 3, 3] := by kernel_rfl
theorem flat1 : flat Tryd.prog 6 89 = some [3, 63] := by kernel_rfl
set_option maxRecDepth 100000 in
theorem lifted (os : Os) (started : os.Started) (H : Type) (enc : TypeId × Value → H) :
    ReturnsInHanded {} Tryd.checked os 7 .any (fun w args => (Rows.labelsLaysSpec.pre enc Tryd.prog Tryd.f7 [] false w args ∧ laidMetH Tryd.prog [("cochineal/memory.kinds", Rows.laid_cochineal_memory_kinds)] w) ∧ sizedMet enc Tryd.prog Tryd.f7 (OpenSpec.ofChange Rows.labelsLaysSpec) false w args) (Rows.labelsLaysSpec.post enc Tryd.prog Tryd.f7 false true false false) := by
  refine returnsInHanded_of_change_and (C := Tryd.checked) (X := fun w _ => laidMetH Tryd.prog [("cochineal/memory.kinds", Rows.laid_cochineal_memory_kinds)] w) (fun _ _ _ hh h => h.of_heap hh) own started (by kernel_rfl) Tryd.func7
    (ChangeSpec.witness_shaped (enc := enc) (C := Tryd.checked) (os := os) (X := fun w _ => laidMetH Tryd.prog [("cochineal/memory.kinds", Rows.laid_cochineal_memory_kinds)] w) false (World.doorLaid Tryd.prog 400 os) #[.agg #[.slice none 0 0, .slice none 0 0, .int .i64 0, .int .i64 0], .slice none 0 0] 8 rfl (World.shaped_of_RefB (by kernel_rfl) (by kernel_rfl)) (by kernel_rfl) (by kernel_rfl) (by kernel_rfl) (door_met os _)) ?_
  intro W base args ds gs before hval0 hW _ _ hL _
  have hK := of_laid hL
  have hval : ∀ (j : Nat) t v, Tryd.f7.params[j]? = some t → args[j]? = some v → Value.okWide Tryd.prog W .any base t v := hval0
  have hW' := hW
  obtain ⟨p, q, hA0, hV, rfl, hfz, hnd⟩ := hW
  have hA : DataW.TrodAll enc Tryd.prog W 0 (fun _ => true) true Tryd.f7.params.toList args.toList ds p := hA0
  rw [Tryd.params7] at hA hval
  obtain ⟨v0, vs0, d0, ds0, p0, q0, hargs, rfl, rfl, h0, r0⟩ := trodAll_cons hA
  obtain ⟨v1, vs1, d1, ds1, p1, q1, rfl, rfl, rfl, h1, r1⟩ := trodAll_cons r0
  obtain ⟨rfl, rfl, rfl⟩ := trodAll_nil r1
  obtain rfl : args = #[v0, v1] := by cases args; simp_all
  obtain ⟨rfl, rfl⟩ := trodVars_none hV
  have k0 := h0
  have lt0 : ∀ x ∈ p0, x.block < W.heap.size := by obtain ⟨m, hm⟩ := k0; exact DataW.trod_lt m _ _ _ hm
  obtain ⟨cs0, rfl, hs0, hc0⟩ := open_flat Tryd.underlying44 rfl flat0 (by kernel_rfl) (hval 0 44 v0 rfl rfl) h0
  obtain ⟨c0_0, m0_0, y0_0, e0_0, t0_0⟩ := hc0 0 _ rfl
  obtain ⟨c0_1, m0_1, y0_1, e0_1, t0_1⟩ := hc0 1 _ rfl
  obtain ⟨c0_2, m0_2, y0_2, e0_2, t0_2⟩ := hc0 2 _ rfl
  obtain ⟨a0_2, rfl, w0_2⟩ := leaf_int Tryd.underlying3 t0_2
  obtain ⟨c0_3, m0_3, y0_3, e0_3, t0_3⟩ := hc0 3 _ rfl
  obtain ⟨a0_3, rfl, w0_3⟩ := leaf_int Tryd.underlying3 t0_3
  obtain rfl : cs0 = #[c0_0, c0_1, .int .i64 a0_2, .int .i64 a0_3] := by
    apply Array.ext_getElem?
    intro i
    rcases i with _ | _ | _ | _ | i
    · exact e0_0
    · exact e0_1
    · exact e0_2
    · exact e0_3
    · rw [Array.getElem?_eq_none (by simp at hs0; omega), Array.getElem?_eq_none (by simp)]
  have k1 := h1
  have lt1 : ∀ x ∈ p1, x.block < W.heap.size := by obtain ⟨m, hm⟩ := k1; exact DataW.trod_lt m _ _ _ hm
  obtain ⟨a1, len1, cap1, rfl⟩ := okWide_slice Tryd.underlying45 (hval 1 45 v1 rfl rfl)
  have w1 := open_rows Tryd.underlying45 flat1 (by kernel_rfl) h1
  clear hA0 hval0
  refine (labelsLays_open a0_2 a0_3 t0_0 t0_1 (readsL_of_rows w1) hK).mono fun e W' ⟨he, bel⟩ => ?_
  subst he
  exact ⟨_, rfl, _, _, _, [], _, [], hW', trodAll_mk1 (shut_bool Tryd.underlying4 _), (trodAll_cons_mk (Below.trod laidOut (by kernel_rfl) (of_decide_eq_true (by kernel_rfl)) k0 bel lt0) (trodAll_cons_mk (Below.trod laidOut (by kernel_rfl) (of_decide_eq_true (by kernel_rfl)) k1 bel lt1) trodAll_mk0)), rfl, bel.frame _, fun h => by cases h⟩

theorem row_holds : Rows.LabelsLaysSaid :=
  OpenClaim.holds_of_wide 7 Tryd.f7 rfl rfl rfl rfl rfl rfl rfl ⟨rfl, rfl, rfl, rfl, rfl⟩ rfl rfl rfl rfl rfl (by kernel_rfl) Tryd.func7 (by kernel_rfl)
    (of_decide_eq_true (by kernel_rfl)) (by unfold Func.isWrapper; first | (rw [if_pos (by decide +kernel)]; kernel_rfl) | (rw [if_neg (by decide +kernel)]; exact ⟨rfl, rfl⟩))
    (fun os started H enc _ => lifted os started H enc)
theorem holds : Rows.LabelsLaysCardSaid :=
  Claim7.holds_tied_plain_at .later [] [.widerDeep] true (true, Rows.labelsLaysCard.stood.harness.2) false
    row_holds (fun _ h => by cases h) (by kernel_rfl) (fun _ h => by cases h) labelsLays_row_tie rfl ⟨rfl, rfl⟩ (by kernel_rfl) rfl
    (fun f fn hf hfn => by
      obtain rfl : f = 7 := Option.some.inj ((show Tryd.prog.funcNamed "cochineal/cochineallaw09.LabelsLays" = some 7 by kernel_rfl).symm.trans hf) |>.symm
      obtain rfl : fn = Tryd.f7 := (Option.some.inj (Tryd.func7.symm.trans hfn)).symm
      exact ⟨by kernel_rfl, fun j t ht => by
        rw [Tryd.params7] at ht
        have hm : t ∈ [44, 45] := by simpa using Array.mem_of_getElem? ht
        have hall : ([44, 45].all fun u => !Tryd.prog.wantsStandIn u) = true := by kernel_rfl
        exact (show Tryd.prog.wantsStandIn t = false by simpa using List.all_eq_true.1 hall t hm)⟩)
    (by kernel_rfl)
#print axioms holds
end Go.Proofs.YtggnkkmlabhofaaDoor.labelsLays
