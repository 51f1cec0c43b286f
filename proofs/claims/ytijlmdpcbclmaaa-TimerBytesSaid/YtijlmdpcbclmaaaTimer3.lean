/- The walks of the document's timer, and of the chapter's example. -/
import Derived.Test.YtijlmdpcbclmaaaTimer2
namespace Go.Proofs.Ytijlmdpcbclmaaa
set_option linter.unusedVariables false
set_option linter.unusedSimpArgs false
open Go.RowKit
attribute [local go_sem] setRow_alloc_past setRow_alloc_at

theorem after_ok (t : TM) (ht : t.ok) (n : Nat) (hn : n ≤ 1099511627776) (w : World) :
    Calls Try.prog 18 #[.agg t.cells, .int .i64 n] w fun e w' => e = .returned (.tuple #[.agg (t.aft n).cells, .int .i64 0]) ∧ Below w.heap.size w w' := by
  cases hr : t.runs
  · exact after_stop t ht n hn hr w
  · by_cases hc : (n : Int) ≤ t.count
    · exact after_le t ht n hn hr hc w
    · exact after_gt t ht n hn hr (by omega) w
theorem after_int (t : TM) (ht : t.ok) (n : Int) (h0 : 0 ≤ n) (hn : n ≤ 1099511627776) (w : World) :
    Calls Try.prog 18 #[.agg t.cells, .int .i64 n] w fun e w' => e = .returned (.tuple #[.agg (t.aft n.toNat).cells, .int .i64 0]) ∧ Below w.heap.size w w' := by
  have h := after_ok t ht n.toNat (by omega) w
  rw [show ((n.toNat : Nat) : Int) = n by omega] at h
  exact h

theorem ret_cell {F : Func} {p : Tmp} {T : TypeId} {R : Ending → World → Prop} (h : F.results = #[.cell p T]) {fs : Array Field} (hu : Try.prog.underlying T = some (.struct fs)) {w : World} {tmps : Array Value} {g : Nat} {cs : Array Value}
    (hi : (Try.prog.info? T).map (·.size) = some cs.size) (hp : tmps.getD p undef = .pointer (some ⟨g, 0, none⟩)) (hg : Blk w g T cs) (hR : R (.returned (.agg cs)) w) :
    bodyPost Try.prog F R .ret { tmps := tmps, defers := [] } w :=
  bodyPost_ret (results_cell_row h tmps w g T cs (0, 0) _ hp hg hu rfl hi) rfl hR

set_option maxHeartbeats 800000 in
theorem may_calls (t : TM) (w : World) :
    Calls Try.prog 19 #[.agg t.cells] w fun e w' => e = .returned (.bool (decide t.ok)) ∧ Below w.heap.size w w' := by
  obtain ⟨l, c, r, a, k, i⟩ := t
  have hcase : l < 0 ∨ (0 ≤ l ∧ 65536 ≤ l) ∨ (0 ≤ l ∧ l < 65536 ∧ c < 0) ∨ (0 ≤ l ∧ l < 65536 ∧ 0 ≤ c ∧ 65536 ≤ c) ∨ (0 ≤ l ∧ l < 65536 ∧ 0 ≤ c ∧ c < 65536) := by omega
  rcases hcase with h1 | ⟨h1, h2⟩ | ⟨h1, h2, h3⟩ | ⟨h1, h2, h3, h4⟩ | ⟨h1, h2, h3, h4⟩
  rotate_left 4
  · rw [decide_eq_true (show (TM.mk l c r a k i).ok from ⟨h1, by simp only; omega, h3, by simp only; omega⟩)]
    simp only [TM.cells]
    go_enter Try.func19, Try.ntmps19
    go_wp2
    go_returns
    refine ⟨?_, (Below.refl _ _).alloc (Nat.le_refl _) _⟩
    first | rfl | (simp; omega)
  all_goals
    rw [decide_eq_false (show ¬ (TM.mk l c r a k i).ok from by unfold TM.ok; simp only; omega)]
    simp only [TM.cells]
    go_enter Try.func19, Try.ntmps19
    go_wp2
    go_returns
    refine ⟨?_, (Below.refl _ _).alloc (Nat.le_refl _) _⟩
    first | rfl | (simp; omega)

set_option maxHeartbeats 400000 in
theorem plain_calls (t : TM) (w : World) :
    Calls Try.prog 20 #[.agg t.cells] w fun e w' => e = .returned (.agg t.cells) ∧ Below w.heap.size w w' := by
  obtain ⟨l, c, r, a, k, i⟩ := t
  simp only [TM.cells]
  go_enter Try.func20, Try.ntmps20
  go_wp2
  refine ret_cell (g := w.heap.size + 1) (cs := #[.int .i64 l, .int .i64 c, .bool r, .bool a, .bool k, .bool i]) rfl Try.underlying43 (by kernel_rfl) rfl (Blk.new' (by simp)) ⟨rfl, ?_⟩
  exact ((Below.refl _ _).alloc (Nat.le_refl _) _).alloc (by simp) _

set_option maxHeartbeats 800000 in
theorem rtick_calls (t : TM) (ht : t.ok) (w : World) :
    Calls Try.prog 40 #[.agg t.cells] w fun e w' => e = .returned (.agg t.tick.cells) ∧ Below w.heap.size w w' := by
  obtain ⟨l, c, r, a, k, i⟩ := t
  obtain ⟨t0, t1, t2, t3⟩ := ht
  simp only at t0 t1 t2 t3
  cases r
  · rw [TM.tick_stop rfl]
    simp only [TM.cells]
    go_enter Try.func40, Try.ntmps40
    go_wp2
    refine ret_cell (g := w.heap.size + 1) rfl Try.underlying43 (by kernel_rfl) rfl (Blk.new' (by simp)) ⟨rfl, ?_⟩
    exact ((Below.refl _ _).alloc (Nat.le_refl _) _).alloc (by simp) _
  · by_cases hc : 0 < c
    · simp only [TM.tick, hc, TM.cells, if_true]
      go_enter Try.func40, Try.ntmps40
      go_wp2
      refine ret_cell (g := w.heap.size + 1) rfl Try.underlying43 (by kernel_rfl) rfl (Blk.new' (by simp)) ⟨rfl, ?_⟩
      exact ((Below.refl _ _).alloc (Nat.le_refl _) _).alloc (by simp) _
    · cases a
      all_goals
        simp only [TM.tick, hc, TM.cells, if_true, if_false, Bool.false_eq_true]
        go_enter Try.func40, Try.ntmps40
        go_wp2
        refine ret_cell (g := w.heap.size + 1) rfl Try.underlying43 (by kernel_rfl) rfl (Blk.new' (by simp)) ⟨rfl, ?_⟩
        exact ((Below.refl _ _).alloc (Nat.le_refl _) _).alloc (by simp) _

set_option maxHeartbeats 400000 in
theorem rirq_calls (t : TM) (w : World) :
    Calls Try.prog 37 #[.agg t.cells] w fun e w' => e = .returned (.bool (t.rings && t.asks)) ∧ Below w.heap.size w w' := by
  obtain ⟨l, c, r, a, k, i⟩ := t
  simp only [TM.cells]
  cases i <;> cases k
  all_goals
    go_enter Try.func37, Try.ntmps37
    go_wp2
    go_returns
    exact ⟨rfl, (Below.refl _ _).alloc (Nat.le_refl _) _⟩

set_option maxHeartbeats 800000 in
theorem rread_calls (t : TM) (ht : t.ok) (reg : Int) (hr : 0 ≤ reg ∧ reg ≤ 3) (w : World) :
    Calls Try.prog 38 #[.agg t.cells, .int .i64 reg] w fun e w' => e = .returned (.int .i64 (t.read reg)) ∧ Below w.heap.size w w' := by
  obtain ⟨l, c, r, a, k, i⟩ := t
  obtain ⟨t0, t1, t2, t3⟩ := ht
  simp only at t0 t1 t2 t3
  simp only [TM.cells]
  have hcase : reg = 0 ∨ reg = 1 ∨ reg = 2 ∨ reg = 3 := by omega
  rcases hcase with rfl | rfl | rfl | rfl
  rotate_left 2
  · cases r <;> cases a <;> cases k
    all_goals
      go_enter Try.func38, Try.ntmps38
      go_wp2
      go_returns
      exact ⟨by simp [TM.read, b2i], (Below.refl _ _).alloc (Nat.le_refl _) _⟩
  · cases i
    all_goals
      go_enter Try.func38, Try.ntmps38
      go_wp2
      go_returns
      exact ⟨by simp [TM.read, b2i], (Below.refl _ _).alloc (Nat.le_refl _) _⟩
  all_goals
    go_enter Try.func38, Try.ntmps38
    go_wp2
    go_returns
    exact ⟨by simp [TM.read], (Below.refl _ _).alloc (Nat.le_refl _) _⟩

set_option maxHeartbeats 1600000 in
theorem rwrite_calls (t : TM) (ht : t.ok) (reg v : Int) (hr : 0 ≤ reg ∧ reg ≤ 3) (hv : 0 ≤ v ∧ v < 256) (w : World) :
    Calls Try.prog 39 #[.agg t.cells, .int .i64 reg, .int .i64 v] w fun e w' => e = .returned (.agg (t.write reg v).cells) ∧ Below w.heap.size w w' := by
  obtain ⟨l, c, r, a, k, i⟩ := t
  obtain ⟨t0, t1, t2, t3⟩ := ht
  obtain ⟨hv0, hv1⟩ := hv
  simp only at t0 t1 t2 t3
  have hcase : reg = 0 ∨ reg = 1 ∨ reg = 2 ∨ reg = 3 := by omega
  rcases hcase with rfl | rfl | rfl | rfl
  rotate_left 2
  · by_cases h1 : v % 2 = 1
    · have e1 : (v % 2 == 1) = true := beq_iff_eq.2 h1
      have e : (TM.write ⟨l, c, r, a, k, i⟩ 2 v) = ⟨l, l, true, v / 2 % 2 == 1, v / 4 % 2 == 1, i⟩ := by simp [TM.write, h1]
      rw [e]
      clear h1 e
      simp only [TM.cells]
      go_enter Try.func39, Try.ntmps39
      go_wp2
      refine ret_cell (g := w.heap.size + 1) rfl Try.underlying43 (by kernel_rfl) rfl (Blk.new' (by simp)) ⟨rfl, ?_⟩
      exact ((Below.refl _ _).alloc (Nat.le_refl _) _).alloc (by simp) _
    · have e1 : (v % 2 == 1) = false := beq_eq_false_iff_ne.2 h1
      have e : (TM.write ⟨l, c, r, a, k, i⟩ 2 v) = ⟨l, c, false, v / 2 % 2 == 1, v / 4 % 2 == 1, i⟩ := by simp [TM.write, h1, e1]
      rw [e]
      clear h1 e
      simp only [TM.cells]
      go_enter Try.func39, Try.ntmps39
      go_wp2
      refine ret_cell (g := w.heap.size + 1) rfl Try.underlying43 (by kernel_rfl) rfl (Blk.new' (by simp)) ⟨rfl, ?_⟩
      exact ((Below.refl _ _).alloc (Nat.le_refl _) _).alloc (by simp) _
  all_goals
    simp only [TM.cells, TM.write]
    simp only [if_true, if_false, Int.reduceEq]
    go_enter Try.func39, Try.ntmps39
    go_wp2
    refine ret_cell (g := w.heap.size + 1) rfl Try.underlying43 (by kernel_rfl) rfl (Blk.new' (by simp)) ⟨rfl, ?_⟩
    exact ((Below.refl _ _).alloc (Nat.le_refl _) _).alloc (by simp) _
end Go.Proofs.Ytijlmdpcbclmaaa
