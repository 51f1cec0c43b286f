/- Two memories that are the same, told by Same. -/
import Derived.Test.YtjjebkgljgfecaaDoorMem6
import Derived.ChangeKeysEq
import Derived.Deep.QuietTactic
import Derived.BigQuiet
namespace Go.Proofs.YtjjebkgljgfecaaDoor
set_option linter.unusedVariables false
set_option linter.unusedSimpArgs false
open Go.RowKit

theorem byte_info : (Tryd.prog.info? 24).map (·.size) = some 2 := by kernel_rfl
theorem arr_size : (Tryd.prog.info? 57).map (·.size) = some 131072 := by kernel_rfl
theorem byte_cells : Tryd.prog.cellsOf 24 = 2 := by kernel_rfl

/-- The bytes of a row of cells. -/
def HasBytes (M : Array Value) (f : Nat → Int × Int) : Prop := ∀ k, k < 65536 → M[k * 2]? = some (.int .u8 (f k).1) ∧ M[k * 2 + 1]? = some (.int .u8 (f k).2)

theorem part_byte (M : Array Value) (o : Nat) (u v : Value) (w : World) (h0 : M[o]? = some u) (h1 : M[o + 1]? = some v) : (part 24 M o).run Tryd.prog w = .ok (.agg #[u, v]) w := by
  have hx : M.extract o (o + 2) = #[u, v] := by
    apply Array.ext_getElem?
    intro j
    have hs := (Array.getElem?_eq_some_iff.1 h1).1
    rw [Array.getElem?_extract]
    rcases j with _ | _ | j
    · simpa [show 0 < min (o + 2) M.size - o by omega] using h0
    · simpa [show 1 < min (o + 2) M.size - o by omega] using h1
    · simp
      omega
  have hsz : ∀ i, Tryd.prog.info? 24 = some i → i.size = 2 := fun i hi => by have := byte_info; rw [hi] at this; simpa using this
  cases hi : Tryd.prog.info? 24 with
  | none => have := byte_info; rw [hi] at this; cases this
  | some i => simp [part, isAgg, sizeOf, typeInfo, Sem.run_bind, run_underlying Tryd.underlying24, hi, hsz i hi, hx]

theorem eqItems_same (d : Nat) (M N : Array Value) (f : Nat → Int × Int) (hM : HasBytes M f) (hN : HasBytes N f) (w : World) : ∀ is : List Nat, (∀ i ∈ is, i < 65536) →
    (Op.eqItems (d + 2) 24 2 M N is).run Tryd.prog w = .ok true w
  | [], _ => by simp [Op.eqItems]
  | i :: is, h => by
    have hi := h i (by simp)
    have ih := eqItems_same d M N f hM hN w is (fun j hj => h j (by simp [hj]))
    have hMs : i * 2 + 1 < M.size := (Array.getElem?_eq_some_iff.1 (hM i hi).2).1
    have hNs : i * 2 + 1 < N.size := (Array.getElem?_eq_some_iff.1 (hN i hi).2).1
    have pm : (part 24 M (i * 2)).run Tryd.prog w = .ok (.agg #[.int .u8 (f i).1, .int .u8 (f i).2]) w := part_byte M _ _ _ w (hM i hi).1 (hM i hi).2
    have pn : (part 24 N (i * 2)).run Tryd.prog w = .ok (.agg #[.int .u8 (f i).1, .int .u8 (f i).2]) w := part_byte N _ _ _ w (hN i hi).1 (hN i hi).2
    have pe : (Op.equalIn (d + 2) 24 (.agg #[.int .u8 (f i).1, .int .u8 (f i).2]) (.agg #[.int .u8 (f i).1, .int .u8 (f i).2])).run Tryd.prog w = .ok true w := by
      simp [Op.equalIn, part, isAgg, go_sem, run_underlying Tryd.underlying24, run_underlying Tryd.underlying5]
    simp only [Op.eqItems, Sem.run_bind, pm, pn, pe, Result.andThen_ok, Bool.not_true, Bool.false_eq_true, if_false, ih]
theorem equal_mem (M N : Array Value) (f : Nat → Int × Int) (hM : HasBytes M f) (hN : HasBytes N f) (w : World) :
    (Op.equal 57 (.agg M) (.agg N)).run Tryd.prog w = .ok true w := by
  have hi : ∃ i, Tryd.prog.info? 24 = some i := by
    cases h : Tryd.prog.info? 24 with
    | none => have := byte_info; rw [h] at this; cases this
    | some i => exact ⟨i, rfl⟩
  obtain ⟨i, hi⟩ := hi
  rw [Op.equal, show Op.maxDepth = 9999 + 1 from rfl, run_equalIn_array w 9999 M N Tryd.underlying57 hi, byte_cells]
  exact eqItems_same 9997 M N f hM hN w _ (fun i h => by simpa using h)

section
variable {P : Program} {C : World → Prop} {a : Act} {o : Oper}
theorem quiet_load_row {K : Act → Prop} (ty : TypeId) (x : Operand) (ho : o.op = .load ty x) (g : Nat) (hx : a.eval x = .pointer (some ⟨g, 0, none⟩)) (t : TypeId) (cs : Array Value) (fr : Nat × Nat) (d : TypeDesc)
    (hC : ∀ w, C w → w.heap[g]? = some (.cells cs t fr)) (hu : P.underlying ty = some d) (hd : (match d with | .struct _ | .array _ _ => true | _ => false) = true) (hi : (P.info? ty).map (·.size) = some cs.size)
    (hk : K (a.put o.dst (.agg cs))) : o.quiet P a C K :=
  ⟨.agg cs, fun w hw => by
    unfold Oper.quietAt execOp
    simp only [ho, hx, Instr.loadAt, Instr.sureAddr, Sem.run_bind, Sem.run_pure, Result.andThen_ok, run_loadVar_row w g t ty cs fr d (hC w hw) hu hd hi]
    exact ⟨rfl, rfl⟩, hk⟩
theorem quiet_eql {K : Act → Prop} (ty t2 : TypeId) (x y : Operand) (ho : o.op = .binOp .eql ty x y t2) (xs ys : Array Value) (b : Bool) (hx : a.eval x = .agg xs) (hy : a.eval y = .agg ys) (hm : P.eqGuardType P.depth ty = false)
    (hE : ∀ w, (Op.equal ty (.agg xs) (.agg ys)).run P w = .ok b w) (hk : K (a.put o.dst (.bool b))) : o.quiet P a C K :=
  ⟨.bool b, fun w hw => by
    unfold Oper.quietAt execOp
    simp only [ho, hx, hy]
    simp only [binOp, Sem.run_bind, run_eqGuard_agg _ _ _ _ _ _ _ hm, Result.andThen_ok, hE, Sem.run_pure]
    exact ⟨rfl, rfl⟩, hk⟩
end

set_option maxHeartbeats 800000 in
theorem same_calls (g h : Nat) (f : Nat → Int × Int) (w : World) (hm : Mem w g f) (hn : Mem w h f) :
    Calls Tryd.prog 19 #[.pointer (some ⟨g, 0, none⟩), .pointer (some ⟨h, 0, none⟩)] w fun e w' => e = .returned (.bool true) ∧ Below w.heap.size w w' := by
  obtain ⟨M, hMs, hMb, hMf⟩ := hm.blk
  obtain ⟨N, hNs, hNb, hNf⟩ := hn.blk
  have hE := equal_mem M N f hMf hNf
  have HMb := Lib.hid hMb
  have HNb := Lib.hid hNb
  clear hMf hNf hMb hNb
  go_enter Tryd.func19, Tryd.ntmps19
  go_wp2
  refine wp_region_quiet_lit (by kernel_rfl) (by kernel_rfl) ?_
  go_big_quiet_step (fail)
  go_big_quiet_step (fail)
  go_big_quiet_step (fail)
  refine BigFrame.wpQuiet_want (by rfl) (fun K hK => ?_)
  refine quiet_load_row 57 _ rfl g rfl 59 M (0, 0) _ (fun w' hw' => by obtain ⟨n, rfl⟩ := hw'; exact HMb.out) Tryd.underlying57 rfl (by rw [hMs]; exact arr_size) ?_
  refine hK _ ?_
  clear hK K
  go_simp
  go_big_quiet_step (fail)
  go_big_quiet_step (fail)
  go_big_quiet_step (fail)
  refine BigFrame.wpQuiet_want (by rfl) (fun K hK => ?_)
  refine quiet_load_row 57 _ rfl h rfl 59 N (0, 0) _ (fun w' hw' => by obtain ⟨n, rfl⟩ := hw'; exact HNb.out) Tryd.underlying57 rfl (by rw [hNs]; exact arr_size) ?_
  refine hK _ ?_
  clear hK K
  go_simp
  refine BigFrame.wpQuiet_want (by rfl) (fun K hK => ?_)
  refine quiet_eql 57 _ _ _ rfl M N true rfl rfl (by kernel_rfl) hE ?_
  refine hK _ ?_
  clear hK K
  go_simp
  intro nq
  go_wp2
  go_returns
  exact ⟨rfl, Q.drewN (Below.refl _ _) _⟩
end Go.Proofs.YtjjebkgljgfecaaDoor
