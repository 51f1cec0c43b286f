/- The walks of New, Of, RAM, Write, Read, Clone. -/
import Derived.Test.YtggnkkmlabhofaaDoorMem
namespace Go.Proofs.YtggnkkmlabhofaaDoor
set_option linter.unusedVariables false
set_option linter.unusedSimpArgs false
open Go.RowKit

attribute [local go_sem] zeroValue59

set_option maxHeartbeats 400000 in
theorem new_calls (w : World) :
    Calls Tryd.prog 34 #[] w fun e w' => e = .returned (.pointer (some ⟨w.heap.size, 0, none⟩)) ∧ w' = w.alloc (.cells zmem 108) := by
  go_enter Tryd.func34, Tryd.ntmps34
  go_wp2
  go_returns
  exact ⟨rfl, rfl⟩
theorem Mem.fresh (w : World) : Mem (w.alloc (.cells zmem 108)) w.heap.size (fun _ => (0, 0)) :=
  ⟨zmem, zmem_size, Blk.new _ _ _, fun k hk => ⟨zmem_at _ (by omega), zmem_at _ (by omega)⟩⟩

theorem mem_one {M : Array Value} {f : Nat → Int × Int} (hs : M.size = 131072) (h : ∀ k, k < 65536 → M[k * 2]? = some (.int .u8 (f k).1) ∧ M[k * 2 + 1]? = some (.int .u8 (f k).2)) : M.all (·.oneCell') = true := by
  refine Array.all_eq_true.2 fun i hi => ?_
  have hk := h (i / 2) (by omega)
  rcases Nat.mod_two_eq_zero_or_one i with e | e
  · have hi2 : (i / 2) * 2 = i := by omega
    rw [hi2, Array.getElem?_eq_getElem hi] at hk
    rw [Option.some.inj hk.1]; rfl
  · have hi2 : (i / 2) * 2 + 1 = i := by omega
    rw [hi2, Array.getElem?_eq_getElem hi] at hk
    rw [Option.some.inj hk.2]; rfl

set_option maxHeartbeats 400000 in
theorem of_calls (x : Int) (hx : 0 ≤ x) (hx2 : x < 256) (w : World) :
    Calls Tryd.prog 57 #[.int .i64 x] w fun e w' => e = .returned (.agg #[.int .u8 x, .int .u8 0]) ∧ Below w.heap.size w w' := by
  go_enter Tryd.func57, Tryd.ntmps57
  go_wp2
  go_returns
  exact ⟨rfl, (Below.refl _ _).alloc (Nat.le_refl _) _⟩

set_option maxHeartbeats 400000 in
theorem clone_nil (w : World) :
    Calls Tryd.prog 64 #[.pointer none] w fun e w' => e = .returned (.pointer none) ∧ w' = w := by
  go_enter Tryd.func64, Tryd.ntmps64
  go_wp2
  go_returns
  exact ⟨rfl, rfl⟩

set_option maxHeartbeats 400000 in
theorem clone_calls (g : Nat) (f : Nat → Int × Int) (w : World) (hm : Mem w g f) :
    Calls Tryd.prog 64 #[.pointer (some ⟨g, 0, none⟩)] w fun e w' => e = .returned (.pointer (some ⟨w.heap.size, 0, none⟩)) ∧ Mem w' w.heap.size f ∧ Below w.heap.size w w' := by
  obtain ⟨M, hs, hb, hf⟩ := hm.blk
  go_enter Tryd.func64, Tryd.ntmps64
  go_wp2_with (first
    | (refine wpList_load_row rfl 108 _ rfl g rfl 108 M (0, 0) _ hb Tryd.underlying108 rfl (by rw [hs]; exact mem_size) ?_)
    | (refine wpList_store_row rfl 108 _ _ rfl w.heap.size M rfl rfl 108 zmem (Blk.new _ _ _) (by rw [hs]; exact mem_size) (by rw [hs, zmem_size]) ?_ ?_))
  case _ => exact mem_one hs hf
  go_returns
  have hb' := hb
  exact ⟨rfl, ⟨M, hs, (Blk.new w _ _).setRow M, hf⟩, below_setRow ((Below.refl _ _).alloc (Nat.le_refl _) _) (Nat.le_refl _) _⟩
end Go.Proofs.YtggnkkmlabhofaaDoor
