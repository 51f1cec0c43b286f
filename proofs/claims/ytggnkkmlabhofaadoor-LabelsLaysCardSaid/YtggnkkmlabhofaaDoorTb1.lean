/- A table's row of bytes, loaded whole; All, and the contract of the iterator that it gives. -/
import Derived.Test.YtggnkkmlabhofaaDoorLa6
import Derived.Shelf.SlicesQ.Load
import Derived.RangeFuncNested
import Derived.RangeFuncBound
import Derived.RangeFuncCalls
import Derived.RangeFuncLeaves
import Derived.RangeFuncBox
import Derived.Shelf.Abstract
import Derived.Shelf.RegionOpen
import Derived.OwnWalkIn
import Derived.TacticsInMore
import Derived.LoopNIn
import Derived.LoopIn
namespace Go.Proofs.YtggnkkmlabhofaaDoor
set_option linter.unusedVariables false
set_option linter.unusedSimpArgs false
open Go.RowKit Go.Shelf

section
variable {P : Program}
theorem run_loadVar_sub (w : World) (g off : Nat) (ty : TypeId) (cs : List Value) (hc : ∀ j v, cs[j]? = some v → w.cell? ⟨g, off + j, none⟩ = some v) (ha : (isAgg ty).run P w = .ok true w) (hs : (sizeOf ty).run P w = .ok cs.length w) :
    (loadVar ty ⟨g, off, none⟩).run P w = .ok (.agg cs.toArray) w := by
  have hl : (loadCells ⟨g, off, none⟩ cs.length).run P w = .ok cs.toArray w := run_loadCells_list (P := P) w ⟨g, off, none⟩ cs (fun j v hv => by rw [add_of]; exact hc j v hv)
  simp only [loadVar, Sem.run_bind, ha, Result.andThen_ok, if_true, hs, hl, Sem.run_pure]
theorem wp_load_sub {o : Oper} {a : Act} {w : World} {K : Act → World → Prop} {Q : Exit → Act → World → Prop} (ty : TypeId) (x : Operand) (ho : o.op = .load ty x) (g off : Nat) (hx : a.eval x = .pointer (some ⟨g, off, none⟩)) (cs : List Value) (hc : ∀ j v, cs[j]? = some v → w.cell? ⟨g, off + j, none⟩ = some v)
    (ha : (isAgg ty).run P w = .ok true w) (hs : (sizeOf ty).run P w = .ok cs.length w) (h : K (a.put o.dst (.agg cs.toArray)) w) : o.wp P a w K Q := by
  unfold Oper.wp execOp
  simp only [ho, hx, Instr.loadAt, Instr.sureAddr, Sem.run_bind, Sem.run_pure, Result.andThen_ok, run_loadVar_sub w g off ty cs hc ha hs]
  exact h
theorem wpList_load_sub {ops : Array Oper} {rest : List Oper} {o : Oper} {a : Act} {w : World} {Q : Exit → Act → World → Prop} (hgd : o.guard = none) (ty : TypeId) (x : Operand) (ho : o.op = .load ty x) (g off : Nat) (hx : a.eval x = .pointer (some ⟨g, off, none⟩)) (cs : List Value)
    (hc : ∀ j v, cs[j]? = some v → w.cell? ⟨g, off + j, none⟩ = some v) (ha : (isAgg ty).run P w = .ok true w) (hs : (sizeOf ty).run P w = .ok cs.length w)
    (h : wpList P ops Q rest (a.put o.dst (.agg cs.toArray)) w) : wpList P ops Q (o :: rest) a w :=
  wpList_plain hgd fun _ hK => wp_load_sub ty x ho g off hx cs hc ha hs (hK _ _ h)
end
theorem arr_at (w : World) {t e : TypeId} {n : Nat} {cs : Array Value} (h : Tryd.prog.underlying t = some (.array n e)) (ha : ∀ w, (isAgg e).run Tryd.prog w = .ok false w) (hz : ∀ w, (sizeOf e).run Tryd.prog w = .ok 1 w) (i : Nat) (hi : i < n) (v : Value) (hv : cs[i]? = some v) :
    (Instr.index t (.agg cs) (.int .i64 (i : Int))).run Tryd.prog w = .ok v w := by
  have hn : (0 : Int) ≤ (i : Int) ∧ (i : Int) < (n : Int) := by omega
  simp [Instr.index, run_underlying h, asIntOf, hn, hi, part, ha, hz, hv]
/-- The addresses below k of which a bit is told, with their bits. -/
def tabs (a : Nat → Int) : Nat → List (Nat × Int)
  | 0 => []
  | k + 1 => tabs a k ++ (if a k = 0 then [] else [(k, a k)])
theorem tabs_length (a : Nat → Int) : ∀ k, (tabs a k).length ≤ k
  | 0 => Nat.le_refl _
  | k + 1 => by
    have := tabs_length a k
    rw [tabs, List.length_append]
    split
    · simp; omega
    · simp; omega
abbrev encA (x : Nat × Int) : Array Value := #[.int .i64 (x.1 : Int), .int .u8 x.2]
/-- What has come where a round said 'no more'. -/
def SpA (a : Nat → Int) (N : Nat) (pre : List (Nat × Int)) : Prop := ∃ k, k < N ∧ a k ≠ 0 ∧ pre = tabs a k ++ [(k, a k)]
theorem all_calls (w : World) (g : Nat) : Calls Tryd.prog 35 #[.pointer (some ⟨g, 0, none⟩)] w fun e w' => e = .returned (.func (.func 61) #[] #[.pointer (some ⟨w.heap.size, 0, none⟩)]) ∧ w' = w.alloc (.cells #[.pointer (some ⟨g, 0, none⟩)] 49) := by
  go_enter Tryd.func35, Tryd.ntmps35
  go_wp2
  go_ret
  exact ⟨rfl, rfl⟩
attribute [local go_sem] Oper.semAt_some
set_option maxRecDepth 4000000 in
set_option maxHeartbeats 4000000 in
theorem all1_in (n : Nat) (hn : 1 ≤ n) (l gb g N : Nat) (hN : N = 65536) (sv mv : Value) (dc tr : Int) (a b : Nat → Int) (J Jx : List (Nat × Int) → World → Prop) (W : World)
    (hY : ∀ pre x W, J pre W → pre.length < N → YieldAt Fence.wide (n - 1) Tryd.prog l (encA x) W fun e W' =>
      (e = .returned (.bool true) ∧ J (pre ++ [x]) W' ∧ True) ∨ (e = .returned (.bool false) ∧ Jx (pre ++ [x]) W'))
    (T : List (Nat × Int)) (hT : tabs a N = T) (hB : W.cell? ⟨gb, 0, none⟩ = some (.pointer (some ⟨g, 0, none⟩))) (hM : Tab W g sv mv dc tr a b) (h0 : J [] W) :
    CallsIn Fence.wide n Tryd.prog 61 #[.func (.yield l) #[] #[], .pointer (some ⟨gb, 0, none⟩)] W fun e W' => (∃ v, e = .returned v) ∧
      ((∃ ys, ys = T ∧ J ys W') ∨ (∃ pre, SpA a N pre ∧ Jx pre W')) := by
  have HT := Lib.hid hT
  have HN := Lib.hid hN
  have hN1 : (N : Int) ≤ 65536 := by omega
  have hN2 : (65536 : Int) ≤ (N : Int) := by omega
  obtain ⟨cs, hcs⟩ : ∃ cs : List Value, cs = (List.range 65536).map (fun i => Value.int .u8 (a i)) := ⟨_, rfl⟩
  have hl : cs.length = 65536 := by rw [hcs]; simp
  have hcell : ∀ j v, cs[j]? = some v → W.cell? ⟨g, 4 + j, none⟩ = some v := by
    intro j v hv
    have hj : j < 65536 := by rw [← hl]; exact (List.getElem?_eq_some_iff.1 hv).1
    rw [hcs] at hv
    simp [hj] at hv
    rw [← hv]
    exact hM.ca hj
  have hget : ∀ i, i < 65536 → cs.toArray[i]? = some (.int .u8 (a i)) := by
    intro i hi
    rw [hcs]
    simp [hi]
  have hsz : ∀ w, (sizeOf 93).run Tryd.prog w = .ok cs.length w := fun w => by rw [hl]; exact Tryd.sizeOf93 w
  have hag := Tryd.isAgg93
  have HG := Lib.hid hget
  have HCL := Lib.hid hcell
  have hgl := hM.lt
  have HSZ := Lib.hid hsz
  clear hT hN hcs hl hM hget hcell hsz
  refine callsIn_of_wp Tryd.func61 rfl trivial ?_ rfl
  simp only [Tryd.ntmps61, List.size_toArray, List.length_cons, List.length_nil, Nat.reduceAdd, Nat.reduceSub, Array.replicate_succ, Array.replicate_zero, List.push_toArray, List.append_toArray, List.nil_append, List.cons_append]
  refine wpIn_wide.2 ?_
  go_wp2_with (refine wpList_load_sub rfl 93 _ rfl g 4 rfl cs HCL.out (hag _) (HSZ.out _) ?_)
  refine (wpIn_wide (n := n)).1 ?_
  generalize cs.toArray = A at HG ⊢
  clear HSZ hag HCL
  gi_loopw [11] (fun i wr => ∃ k : Nat, i = .int .i64 k ∧ k ≤ N ∧ J (tabs a k) wr)
    (fun i _ => N - (intOf i).toNat)
  case atStart => exact ⟨0, rfl, Nat.zero_le _, h0⟩
  case round =>
    obtain ⟨k, rfl, hk, hJs⟩ := hrel
    by_cases hlt : k < N
    · have hki : (k : Int) < 65536 := by omega
      have hk65 : k < 65536 := by omega
      have hlen : (tabs a k).length < N := Nat.lt_of_le_of_lt (tabs_length a k) hlt
      have hsu : tabs a (k + 1) = tabs a k ++ (if a k = 0 then [] else [(k, a k)]) := rfl
      have HSU := Lib.hid hsu
      clear hsu hB
      obtain ⟨t, ht⟩ : ∃ t, a k = t := ⟨_, rfl⟩
      have IDX := fun W' => arr_at W' Tryd.underlying93 Tryd.isAgg5 Tryd.sizeOf5 k hk65 _ (HG.out k hk65)
      rw [ht] at IDX
      have HV := Lib.hid ht
      clear ht
      by_cases ht : t = 0
      · subst ht
        have HJ := Lib.hid hJs
        clear hJs hY h0 hlen
        gi_wp2
        refine ⟨fun _ h => (by cases h), ?_⟩
        gi_wp2
        refine ⟨⟨k + 1, by simp, by omega, ?_⟩, by simp [intOf]; omega⟩
        rw [HSU.out, HV.out, if_pos rfl, List.append_nil]
        exact HJ.out
      · have ht1 : (t == 0) = false := beq_eq_false_iff_ne.2 ht
        have ht2 : decide (t = 0) = false := decide_eq_false ht
        obtain ⟨fn, tmps, assign, body, hy, hR⟩ := hY _ (k, t) wr hJs hlen
        dsimp only [encA] at hy
        gi_wp2
        refine hR.mono ?_
        rintro e W3 (⟨rfl, hJ3, _⟩ | ⟨rfl, hJx3⟩)
        · gi_wp2
          refine ⟨⟨k + 1, by simp, by omega, ?_⟩, by simp [intOf]; omega⟩
          rw [HSU.out, HV.out, if_neg ht]
          exact hJ3
        · gi_wp2
          refine bodyPost_ret (results_none rfl _ _ _) rfl ?_
          exact ⟨⟨_, rfl⟩, .inr ⟨_, ⟨k, hlt, by rw [HV.out]; exact ht, by rw [HV.out]⟩, hJx3⟩⟩
    · obtain rfl : k = N := by omega
      rw [HT.out] at hJs
      have hk6 : (65536 : Int) ≤ (k : Int) := hN2
      gi_wp2
      go_end0
      exact ⟨⟨_, rfl⟩, .inl ⟨_, rfl, hJs⟩⟩
theorem all_stops (n : Nat) (hn : 1 ≤ n) (gb g N : Nat) (hN : N = 65536) (sv mv : Value) (dc tr : Int) (a b : Nat → Int) (T : List (Nat × Int)) (hT : tabs a N = T) (w : World) (hgb : gb < w.heap.size)
    (hB : w.cell? ⟨gb, 0, none⟩ = some (.pointer (some ⟨g, 0, none⟩))) (hM : Tab w g sv mv dc tr a b) :
    SeqStopsK Fence.wide n Tryd.prog 61 #[.pointer (some ⟨gb, 0, none⟩)] encA (fun _ _ => True) (fun ys => ys = T) (SpA a N) N w := fun l J Jx W hW _ _ hY h0 =>
  all1_in n hn l gb g N hN sv mv dc tr a b J Jx W hY T hT ((hW.cell (p := ⟨gb, 0, none⟩) hgb).trans hB) (hM.call hW) h0
end Go.Proofs.YtggnkkmlabhofaaDoor
