/- The walks of the timer's functions. -/
import Derived.Test.YtijlmdpcbclmaaaTimerPure
namespace Go.Proofs.Ytijlmdpcbclmaaa
set_option linter.unusedVariables false
set_option linter.unusedSimpArgs false
open Go.RowKit

theorem TM.at_ {w : World} {g : Nat} {T : TypeId} {t : TM} (h : Blk w g T t.cells) :
    w.cell? ⟨g, 0, none⟩ = some (.int .i64 t.latch) ∧ w.cell? ⟨g, 1, none⟩ = some (.int .i64 t.count) ∧ w.cell? ⟨g, 2, none⟩ = some (.bool t.runs) ∧
    w.cell? ⟨g, 3, none⟩ = some (.bool t.again) ∧ w.cell? ⟨g, 4, none⟩ = some (.bool t.asks) ∧ w.cell? ⟨g, 5, none⟩ = some (.bool t.rings) ∧
    w.frozen? ⟨g, 0, none⟩ = false ∧ w.frozen? ⟨g, 1, none⟩ = false ∧ w.frozen? ⟨g, 2, none⟩ = false ∧ w.frozen? ⟨g, 3, none⟩ = false ∧ w.frozen? ⟨g, 4, none⟩ = false ∧ w.frozen? ⟨g, 5, none⟩ = false :=
  ⟨h.cell 0, h.cell 1, h.cell 2, h.cell 3, h.cell 4, h.cell 5, h.frozen 0, h.frozen 1, h.frozen 2, h.frozen 3, h.frozen 4, h.frozen 5⟩

theorem TM.six {w w' : World} {g : Nat} {T : TypeId} {l c : Int} {r a k i : Bool} (h : Blk w g T #[.int .i64 l, .int .i64 c, .bool r, .bool a, .bool k, .bool i]) (hb : Below w.heap.size w w') :
    w'.cell? ⟨g, 0, none⟩ = some (.int .i64 l) ∧ w'.cell? ⟨g, 1, none⟩ = some (.int .i64 c) ∧ w'.cell? ⟨g, 2, none⟩ = some (.bool r) ∧
    w'.cell? ⟨g, 3, none⟩ = some (.bool a) ∧ w'.cell? ⟨g, 4, none⟩ = some (.bool k) ∧ w'.cell? ⟨g, 5, none⟩ = some (.bool i) :=
  have h' := h.call hb
  ⟨h'.cell 0, h'.cell 1, h'.cell 2, h'.cell 3, h'.cell 4, h'.cell 5⟩

/-- Two stores, or three, into one block. -/
theorem Blk.set2 {w : World} {g : Nat} {t : TypeId} {cs : Array Value} (h : Blk w g t cs) (i j : Nat) (u v : Value) :
    (w.setCell ⟨g, i, none⟩ u).setCell ⟨g, j, none⟩ v = w.setRow g ((cs.setIfInBounds i u).setIfInBounds j v) := by
  rw [h.setCell, h.setCell_setRow]
theorem Blk.set3 {w : World} {g : Nat} {t : TypeId} {cs : Array Value} (h : Blk w g t cs) (i j k : Nat) (u v x : Value) :
    ((w.setCell ⟨g, i, none⟩ u).setCell ⟨g, j, none⟩ v).setCell ⟨g, k, none⟩ x = w.setRow g (((cs.setIfInBounds i u).setIfInBounds j v).setIfInBounds k x) := by
  rw [h.set2, h.setCell_setRow]
theorem Blk.set4 {w : World} {g : Nat} {t : TypeId} {cs : Array Value} (h : Blk w g t cs) (i j k l : Nat) (u v x y : Value) :
    (((w.setCell ⟨g, i, none⟩ u).setCell ⟨g, j, none⟩ v).setCell ⟨g, k, none⟩ x).setCell ⟨g, l, none⟩ y = w.setRow g ((((cs.setIfInBounds i u).setIfInBounds j v).setIfInBounds k x).setIfInBounds l y) := by
  rw [h.set3, h.setCell_setRow]

set_option maxHeartbeats 400000 in
theorem tick_calls (g : Nat) (t : TM) (ht : t.ok) (w : World) (hb : Blk w g 38 t.cells) :
    Calls Try.prog 23 #[.pointer (some ⟨g, 0, none⟩)] w fun e w' => e = .returned (.tuple #[]) ∧ w' = w.setRow g t.tick.cells := by
  obtain ⟨c0, c1, c2, c3, c4, c5, f0, f1, f2, f3, f4, f5⟩ := TM.at_ hb
  obtain ⟨l, c, r, a, k, i⟩ := t
  obtain ⟨t0, t1, t2, t3⟩ := ht
  simp only at c0 c1 c2 c3 c4 c5 t0 t1 t2 t3
  have HB := Lib.hid hb; clear hb
  cases r
  · go_enter Try.func23, Try.ntmps23
    go_wp2
    go_returns
    refine ⟨rfl, ?_⟩
    rw [TM.tick_stop rfl]
    exact HB.out.setRow_self.symm
  · by_cases hc : 0 < c
    · go_enter Try.func23, Try.ntmps23
      go_wp2
      go_returns
      refine ⟨rfl, ?_⟩
      rw [HB.out.setCell]
      simp [TM.tick, hc, TM.cells]
    · cases a
      all_goals
        go_enter Try.func23, Try.ntmps23
        go_wp2
        go_returns
        refine ⟨rfl, ?_⟩
        first | rw [HB.out.set3] | rw [HB.out.set2]
        have hc' : ¬ 0 < c := by omega
        simp [TM.tick, hc', TM.cells]

set_option maxHeartbeats 400000 in
theorem tick_nil (w : World) :
    Calls Try.prog 23 #[.pointer none] w fun e w' => e = .returned (.tuple #[]) ∧ w = w' := by
  go_enter Try.func23, Try.ntmps23
  go_wp2
  go_returns
  exact ⟨rfl, rfl⟩

set_option maxHeartbeats 400000 in
theorem write_nil (reg v : Int) (w : World) :
    Calls Try.prog 24 #[.pointer none, .int .i64 reg, .int .u8 v] w fun e w' => e = .returned (.int .i64 2) ∧ w = w' := by
  go_enter Try.func24, Try.ntmps24
  go_wp2
  go_returns
  exact ⟨rfl, rfl⟩

set_option maxHeartbeats 400000 in
theorem write_out (g : Nat) (reg v : Int) (hr : reg < 0 ∨ 3 < reg) (w : World) :
    Calls Try.prog 24 #[.pointer (some ⟨g, 0, none⟩), .int .i64 reg, .int .u8 v] w fun e w' => e = .returned (.int .i64 10) ∧ w = w' := by
  have e0 : (reg == 0) = false := beq_eq_false_iff_ne.2 (by omega)
  have e1 : (reg == 1) = false := beq_eq_false_iff_ne.2 (by omega)
  have e2 : (reg == 2) = false := beq_eq_false_iff_ne.2 (by omega)
  have e3 : (reg == 3) = false := beq_eq_false_iff_ne.2 (by omega)
  go_enter Try.func24, Try.ntmps24
  go_wp2
  go_returns
  exact ⟨rfl, rfl⟩

set_option maxHeartbeats 800000 in
theorem write_calls (g : Nat) (t : TM) (ht : t.ok) (reg v : Int) (hr : 0 ≤ reg ∧ reg ≤ 3) (hv : 0 ≤ v ∧ v < 256) (w : World) (hb : Blk w g 38 t.cells) :
    Calls Try.prog 24 #[.pointer (some ⟨g, 0, none⟩), .int .i64 reg, .int .u8 v] w fun e w' => e = .returned (.int .i64 0) ∧ w' = w.setRow g (t.write reg v).cells := by
  obtain ⟨c0, c1, c2, c3, c4, c5, f0, f1, f2, f3, f4, f5⟩ := TM.at_ hb
  obtain ⟨l, c, r, a, k, i⟩ := t
  obtain ⟨t0, t1, t2, t3⟩ := ht
  simp only at c0 c1 c2 c3 c4 c5 t0 t1 t2 t3
  have HB := Lib.hid hb; clear hb
  have hcase : reg = 0 ∨ reg = 1 ∨ reg = 2 ∨ reg = 3 := by omega
  rcases hcase with rfl | rfl | rfl | rfl
  · go_enter Try.func24, Try.ntmps24
    go_wp2
    go_returns
    refine ⟨rfl, ?_⟩
    rw [HB.out.setCell]
    simp [TM.write, TM.cells, latch_low l v t0 t1 hv.1 hv.2]
  · go_enter Try.func24, Try.ntmps24
    go_wp2
    go_returns
    refine ⟨rfl, ?_⟩
    rw [HB.out.setCell]
    simp [TM.write, TM.cells, latch_high l v t0 t1 hv.1 hv.2]
  · have b1 : (bits .and .u8 v 2 != 0) = (v / 2 % 2 == 1) := by
      rw [bit1 v hv, Bool.eq_iff_iff, bne_iff_ne, beq_iff_eq]; omega
    have b2 : (bits .and .u8 v 4 != 0) = (v / 4 % 2 == 1) := by
      rw [bit2 v hv, Bool.eq_iff_iff, bne_iff_ne, beq_iff_eq]; omega
    by_cases h1 : v % 2 = 1
    · have b0 : (bits .and .u8 v 1 != 0) = true := by
        rw [bit0 v hv, bne_iff_ne]; omega
      have H1 := Lib.hid h1; clear h1
      go_enter Try.func24, Try.ntmps24
      go_wp2
      go_returns
      refine ⟨rfl, ?_⟩
      rw [HB.out.set4]
      simp [TM.write, TM.cells, H1.out]
    · have b0 : (bits .and .u8 v 1 != 0) = false := by
        rw [bit0 v hv, bne_eq_false_iff_eq]; omega
      have H1 := Lib.hid h1; clear h1
      go_enter Try.func24, Try.ntmps24
      go_wp2
      go_returns
      refine ⟨rfl, ?_⟩
      rw [HB.out.set3]
      have h0 : (v % 2 == 1) = false := beq_eq_false_iff_ne.2 H1.out
      simp [TM.write, TM.cells, H1.out, h0]
  · go_enter Try.func24, Try.ntmps24
    go_wp2
    go_returns
    refine ⟨rfl, ?_⟩
    rw [HB.out.setCell]
    simp [TM.write, TM.cells]

set_option maxHeartbeats 400000 in
theorem irq_calls (g : Nat) (t : TM) (w : World) (hb : Blk w g 38 t.cells) :
    Calls Try.prog 25 #[.pointer (some ⟨g, 0, none⟩)] w fun e w' => e = .returned (.bool (t.rings && t.asks)) ∧ w = w' := by
  obtain ⟨c0, c1, c2, c3, c4, c5, f0, f1, f2, f3, f4, f5⟩ := TM.at_ hb
  obtain ⟨l, c, r, a, k, i⟩ := t
  simp only at c0 c1 c2 c3 c4 c5
  cases i <;> cases k
  all_goals
    go_enter Try.func25, Try.ntmps25
    go_wp2
    go_returns
    exact ⟨rfl, rfl⟩
set_option maxHeartbeats 400000 in
theorem irq_nil (w : World) :
    Calls Try.prog 25 #[.pointer none] w fun e w' => e = .returned (.bool false) ∧ w = w' := by
  go_enter Try.func25, Try.ntmps25
  go_wp2
  go_returns
  exact ⟨rfl, rfl⟩

set_option maxHeartbeats 800000 in
theorem told1_calls (g : Nat) (a : Bool) (w : World) (c0 : w.cell? ⟨g, 0, none⟩ = some (.bool a)) :
    Calls Try.prog 45 #[.slice (some ⟨g, 0, none⟩) 1 1] w fun e w' => e = .returned (.int .u8 (b2i a)) ∧ w = w' := by
  cases a
  all_goals
    go_enter Try.func45, Try.ntmps45
    go_wp2
    go_rounds 2
    go_returns
    exact ⟨by simp [b2i]; try decide, rfl⟩
set_option maxHeartbeats 1600000 in
theorem told3_calls (g : Nat) (a b c : Bool) (w : World) (c0 : w.cell? ⟨g, 0, none⟩ = some (.bool a)) (c1 : w.cell? ⟨g, 1, none⟩ = some (.bool b)) (c2 : w.cell? ⟨g, 2, none⟩ = some (.bool c)) :
    Calls Try.prog 45 #[.slice (some ⟨g, 0, none⟩) 3 3] w fun e w' => e = .returned (.int .u8 (b2i a + 2 * b2i b + 4 * b2i c)) ∧ w = w' := by
  cases a <;> cases b <;> cases c
  all_goals
    go_enter Try.func45, Try.ntmps45
    go_wp2
    go_rounds 4
    go_returns
    exact ⟨by simp [b2i]; try decide, rfl⟩
end Go.Proofs.Ytijlmdpcbclmaaa
