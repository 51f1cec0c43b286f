/- The walk of MemoryNil. -/
import Derived.Test.YtjjebkgljgfecaaDoorNil1
import Derived.RangeFuncNested
import Derived.RangeFuncBound
import Derived.RangeFuncCalls
import Derived.RangeFuncLeaves
import Derived.Shelf.Abstract
import Derived.Shelf.RegionOpen
import Derived.OwnWalkIn
import Derived.TacticsInMore
import Derived.LoopNIn
import Derived.LoopIn
namespace Go.Proofs.YtjjebkgljgfecaaDoor
set_option linter.unusedVariables false
set_option linter.unusedSimpArgs false
open Go.RowKit Go.Shelf

attribute [local go_sem] Oper.semAt_some

theorem heap_call {W w' : World} {D : Nat} {o : Obj} (h : W.heap[D]? = some o) (hb : Below W.heap.size W w') : w'.heap[D]? = some o := (hb.block D (Array.getElem?_eq_some_iff.1 h).1).trans h

theorem eql_func_nil (f : FuncId) (cs : Array Value) (w : World) : (binOp .eql 52 (.func (.func f) #[] cs) .nilFunc).run Tryd.prog w = .ok (.bool false) w := by
  have h : ∀ d : Nat, (Op.equalIn (d + 1) 52 (.func (.func f) #[] cs) .nilFunc).run Tryd.prog w = .ok false w := fun d => by
    simp [Op.equalIn, run_underlying Tryd.underlying52, go_sem]
  simp only [binOp]
  simp [Op.equal, Op.maxDepth, h 9999]
attribute [local go_sem] eql_func_nil

/-- The iterator over a nil memory's secrets: no round. -/
theorem secret_stops_nil (F : Fence) (n : Nat) (hF : F.fn 34) (hro : F.round = none) (g n₀ : Nat) (w : World) (hg : g < w.heap.size) (hc : w.cell? ⟨g, 0, none⟩ = some (.pointer none)) :
    SeqStopsK F n Tryd.prog 34 #[.pointer (some ⟨g, 0, none⟩)] (fun x : Int × Int × Int => #[.int .i64 x.1, .agg #[.int .u8 x.2.1, .int .u8 x.2.2]]) (Below n₀) (fun ys => ys = []) (fun _ => False) 0 w := fun l J Jx W hW _ _ hY h0 => by
  have hc' := (hW.cell (p := ⟨g, 0, none⟩) hg).trans hc
  refine callsIn_of_wp Tryd.func34 rfl hF ?_ hro
  simp only [Tryd.ntmps34, List.size_toArray, List.length_cons, List.length_nil, Nat.reduceAdd, Nat.reduceSub, Array.replicate_succ, Array.replicate_zero, List.push_toArray, List.append_toArray, List.nil_append, List.cons_append]
  gi_wp2
  refine bodyPost_ret (results_none rfl _ _ _) rfl ?_
  exact ⟨⟨_, rfl⟩, h0⟩

set_option maxRecDepth 100000 in
set_option maxHeartbeats 1600000 in
theorem memoryNil_walk (x : Int) (a : Option Addr) (n ca : Nat) (w : World) (hk : KIN w) (h : n ≤ 100) :
    Calls Tryd.prog 7 #[.int .i64 x, .slice a n ca] w fun e w' => e = .returned (.bool true) ∧ Below w.heap.size w w' := by
  refine (callsIn_wide (n := 3)).1 ?_
  refine callsIn_of_wp_marks Tryd.func7 rfl trivial ?_
  simp only [Tryd.ntmps7, List.size_toArray, List.length_cons, List.length_nil, Nat.reduceAdd, Nat.reduceSub, Array.replicate_succ, Array.replicate_zero, List.push_toArray, List.append_toArray, List.nil_append, List.cons_append]
  refine wpIn_wide.2 ?_
  go_wp2_with fail
  (with_reducible refine (read_nil _ _).mono ?_)
  rintro e w1 ⟨rfl, hb1⟩
  have r1 := (Blk.new w 4 #[.bool false]).call hb1
  have hB1 := Q.call (Q.alloc (Below.refl _ w) _) hb1
  clear hb1
  go_wp2_with fail
  (with_reducible refine (secret_nil _).mono ?_)
  rintro e w2 ⟨g, rfl, hg, hb2⟩
  have r2 := (r1.alloc _).call hb2
  have x2 := (Blk.new w1 24 #[.int .u8 0, .int .u8 0]).call hb2
  have hB2 := Q.call (Q.alloc hB1 _) hb2
  clear r1 hB1 hb2
  go_wp2_with fail
  (with_reducible refine (new_fresh _).mono ?_)
  rintro e w3 ⟨rfl, hm3, hb3⟩
  have r3 := r2.call hb3
  have x3 := x2.call hb3
  have hg3 : w3.cell? ⟨g, 0, none⟩ = some (.pointer none) := (hb3.cell (p := ⟨g, 0, none⟩) (World.block_lt_of_cell? w2 _ hg)).trans hg
  have hB3 := Q.call hB2 hb3
  go_wp2_with fail
  refine (wpIn_wide (n := 3)).1 ?_
  refine wpIn_rangeFunc_ownF rfl (by decide) (gf := 34) (lb := #[.pointer (some ⟨g, 0, none⟩)]) rfl trivial (enters_of Tryd.func34 (by kernel_rfl) rfl)
    (secret_stops_nil Fence.wide 2 trivial rfl g w3.heap.size w3 (World.block_lt_of_cell? w3 _ hg3) hg3) belowK_t (belowK_b (Nat.le_refl _)) (Below.refl _ _) (fun _ => rfl)
    (fun _ W => Below w3.heap.size w3 W) (fun _ _ _ => False) (ownFrom_below (Nat.le_refl _) (Nat.le_refl _)) (fun _ _ _ _ _ hs _ _ => hs) (Below.refl _ _) ?a1 ?assign ?body ?done ?stop
  case assign =>
    intro l x W K hK
    gi_wp2
    exact hK
  case body =>
    intro l pre x W _ hl
    exact absurd hl (Nat.not_lt_zero _)
  case stop =>
    rintro D c pre W _ _ h _
    exact h.elim
  case done =>
    rintro D ys W hD _ hb4 hK4
    have hB4 := Q.call hB3 hb4
    have r4 := r3.call hb4
    have x4 := x3.call hb4
    have y0 := x4.cell 0
    have y1 := x4.cell 1
    have CW : ∀ V : World, Calls Tryd.prog 9 #[.pointer none, .int .i64 x, .agg #[.int .u8 0, .int .u8 0]] V fun e w' => e = .returned (.int .i64 2) ∧ Below V.heap.size V w' := write_nil x (0, 0)
    go_wp2_with (first
      | (go_at_call 17; (with_reducible refine (load_nil _ _ _ _ _).mono ?_); rintro e w5 ⟨rfl, hw5⟩; obtain rfl := hw5.symm)
      | (go_at_call 18; (with_reducible refine (label_nil _ _ _ _).mono ?_); rintro e w5 ⟨rfl, hw5⟩; obtain rfl := hw5.symm))
    (with_reducible refine (CW _).mono ?_)
    rintro e w5 ⟨rfl, hb5⟩
    have r5 := r4.call hb5
    have hB5 := Q.call hB4 hb5
    clear CW hB4 r4 y0 y1 x4
    go_wp2_with (first
      | (go_at_call 11; (with_reducible refine (clone_nil _).mono ?_); rintro e w5 ⟨rfl, hw5⟩; obtain rfl := hw5.symm)
      | (go_at_call 19; (with_reducible refine (same_nn 0 _).mono ?_); rintro e w5 ⟨rfl, hw5⟩; obtain rfl := hw5.symm)
      | (go_at_call 19; (with_reducible refine (same_ng w2.heap.size _).mono ?_); rintro e w5 ⟨rfl, hw5⟩; obtain rfl := hw5.symm)
      | (go_at_call 19; (with_reducible refine (same_gn w2.heap.size _).mono ?_); rintro e w5 ⟨rfl, hw5⟩; obtain rfl := hw5.symm))
    (with_reducible refine (awake08_calls _ (hk.q hB5)).mono ?_)
    rintro e w6 ⟨rfl, hb6⟩
    have r6 := r5.call hb6
    have hB6 := Q.call hB5 hb6
    have hK6 : w6.heap[D]? = some (.deferred (some [])) := heap_call (heap_call hK4 hb5) hb6
    have z0 := r6.cell 0
    have z1 := r6.frozen 0
    have hD6 : w.heap.size ≤ D := Nat.le_trans hB3.size hD
    go_wp2_with fail
    have hK' := (KeepsOthers.setCell w6 ⟨w.heap.size, 0, none⟩ (.bool true)).same D _ hK6 rfl
    refine ⟨by simp, .inl ⟨_, _, rfl, run_takeDeferred hK', ?_⟩⟩
    have hc5 := cell_kept (World.cell?_setCell_same' w6 ⟨w.heap.size, 0, none⟩ (.bool true) (by rw [z0]; rfl)) (grownBy_putObj' _ D (.deferred none)) (fun r e => by cases e; exact ⟨_, hK', rfl⟩)
    refine ⟨.bool true, ?_, rfl, (hB6.setCell (p := ⟨w.heap.size, 0, none⟩) (Nat.le_refl _) _).trans (belowK_b (w := w) (Nat.le_refl _) _ D _ _ hD6 hK' rfl rfl)⟩
    simp [results, Tryd.f7, go_sem, hc5]

set_option maxRecDepth 100000 in
set_option maxHeartbeats 1600000 in
theorem memoryNil_long (x : Int) (a : Option Addr) (n ca : Nat) (w : World) (hk : KIN w) (h : 100 < n) :
    Calls Tryd.prog 7 #[.int .i64 x, .slice a n ca] w fun e w' => e = .returned (.bool true) ∧ Below w.heap.size w w' := by
  have hk2 := hk.q (Q.alloc (Below.refl _ w) (.cells #[.bool false] 4))
  go_enter Tryd.func7, Tryd.ntmps7
  go_wp2_with fail
  (with_reducible refine (awake08_calls _ hk2).mono ?_)
  rintro e w1 ⟨rfl, hb1⟩
  have r1 := (Blk.new w 4 #[.bool false]).call hb1
  have hB1 := Q.call (Q.alloc (Below.refl _ w) _) hb1
  have z0 := r1.cell 0
  have z1 := r1.frozen 0
  go_wp2_with fail
  have hc5 := World.cell?_setCell_same' w1 ⟨w.heap.size, 0, none⟩ (.bool true) (by rw [z0]; rfl)
  refine bodyPost_ret (show _ = Result.ok (Value.bool true) _ by simp [results, Tryd.f7, go_sem, hc5]) rfl ?_
  exact ⟨rfl, hB1.setCell (p := ⟨w.heap.size, 0, none⟩) (Nat.le_refl _) _⟩

theorem memoryNil_all (x : Int) (a : Option Addr) (n ca : Nat) (w : World) (hk : KIN w) :
    Calls Tryd.prog 7 #[.int .i64 x, .slice a n ca] w fun e w' => e = .returned (.bool true) ∧ Below w.heap.size w w' := by
  by_cases h : n ≤ 100
  · exact memoryNil_walk x a n ca w hk h
  · exact memoryNil_long x a n ca w hk (by omega)
end Go.Proofs.YtjjebkgljgfecaaDoor
