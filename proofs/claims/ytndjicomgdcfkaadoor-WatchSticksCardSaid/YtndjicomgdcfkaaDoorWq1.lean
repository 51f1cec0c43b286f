/- Watches: calls that come in; what a quiet watch keeps. (printed by gen/wq1.py) -/
import Derived.Test.YtndjicomgdcfkaaDoorWa4
namespace Go.Proofs.YtndjicomgdcfkaaDoor
set_option linter.unusedVariables false
set_option linter.unusedSimpArgs false
open Go.RowKit
attribute [local go_sem ↓] Go.wp_at_zero Go.wp_at_succ

/-- A slice that is read. -/
def ReadsW (w : World) (B : Nat) (a : Option Addr) (len : Nat) (ops : List WO) : Prop :=
  ops.length = len ∧ (0 < len → ∃ b off, a = some ⟨b, off, none⟩ ∧ b < B ∧ ∀ (k : Nat) (o : WO), ops[k]? = some o → w.cell? ⟨b, off + k * 7, none⟩ = some (.int .i64 o.ask) ∧ w.cell? ⟨b, off + k * 7 + 1, none⟩ = some (.int .i64 o.cyc) ∧ w.cell? ⟨b, off + k * 7 + 2, none⟩ = some (.int .i64 o.rule) ∧ w.cell? ⟨b, off + k * 7 + 3, none⟩ = some (.int .i64 o.addr) ∧ w.cell? ⟨b, off + k * 7 + 4, none⟩ = some (.bool o.wr) ∧ w.cell? ⟨b, off + k * 7 + 5, none⟩ = some (.int .u8 o.v) ∧ w.cell? ⟨b, off + k * 7 + 6, none⟩ = some (.int .u8 o.t) ∧ 0 ≤ o.v ∧ o.v ≤ 255 ∧ 0 ≤ o.t ∧ o.t ≤ 255)
theorem ReadsW.keep {w w' : World} {B : Nat} {a : Option Addr} {len : Nat} {ops : List WO} (h : ReadsW w B a len ops) (hb : ∀ b off, b < B → w'.cell? ⟨b, off, none⟩ = w.cell? ⟨b, off, none⟩) : ReadsW w' B a len ops := by
  refine ⟨h.1, fun hl => ?_⟩
  obtain ⟨b, off, rfl, hlt, hc⟩ := h.2 hl
  refine ⟨b, off, rfl, hlt, fun k o hk => ?_⟩
  obtain ⟨c0, c1, c2, c3, c4, c5, c6, cb⟩ := hc k o hk
  exact ⟨(hb b _ hlt).trans c0, (hb b _ hlt).trans c1, (hb b _ hlt).trans c2, (hb b _ hlt).trans c3, (hb b _ hlt).trans c4, (hb b _ hlt).trans c5, (hb b _ hlt).trans c6, cb⟩
theorem ReadsW.below {w w' : World} {B : Nat} {a : Option Addr} {len : Nat} {ops : List WO} (h : ReadsW w B a len ops) (hb : Below B w w') : ReadsW w' B a len ops := h.keep fun b off hlt => hb.cell (p := ⟨b, off, none⟩) hlt
theorem ReadsW.wide {w : World} {B B' : Nat} {a : Option Addr} {len : Nat} {ops : List WO} (h : ReadsW w B a len ops) (hB : B ≤ B') : ReadsW w B' a len ops := by
  refine ⟨h.1, fun hl => ?_⟩
  obtain ⟨b, off, rfl, hlt, hc⟩ := h.2 hl
  exact ⟨b, off, rfl, by omega, hc⟩
theorem ReadsW.at_ {w : World} {B : Nat} {a : Option Addr} {len : Nat} {ops : List WO} (h : ReadsW w B a len ops) {k : Nat} (hk : k < len) :
    ∃ b off o, a = some ⟨b, off, none⟩ ∧ b < B ∧ ops[k]? = some o ∧ w.cell? ⟨b, off + k * 7, none⟩ = some (.int .i64 o.ask) ∧ w.cell? ⟨b, off + k * 7 + 1, none⟩ = some (.int .i64 o.cyc) ∧ w.cell? ⟨b, off + k * 7 + 2, none⟩ = some (.int .i64 o.rule) ∧ w.cell? ⟨b, off + k * 7 + 3, none⟩ = some (.int .i64 o.addr) ∧ w.cell? ⟨b, off + k * 7 + 4, none⟩ = some (.bool o.wr) ∧ w.cell? ⟨b, off + k * 7 + 5, none⟩ = some (.int .u8 o.v) ∧ w.cell? ⟨b, off + k * 7 + 6, none⟩ = some (.int .u8 o.t) ∧ 0 ≤ o.v ∧ o.v ≤ 255 ∧ 0 ≤ o.t ∧ o.t ≤ 255 := by
  obtain ⟨b, off, rfl, hb, hc⟩ := h.2 (by omega)
  have hr : ops[k]? = some (ops[k]'(by rw [h.1]; exact hk)) := List.getElem?_eq_getElem _
  exact ⟨b, off, _, rfl, hb, hr, hc k _ hr⟩

theorem qset {w W : World} {g o : Nat} {v : Value} (h : Below w.heap.size w W) (hg : w.heap.size ≤ g) : Below w.heap.size w (W.setCell ⟨g, o, none⟩ v) :=
  h.trans ⟨rfl, rfl, rfl, by simp, fun k hk => Below.heap_setCell _ _ _ k (by show k ≠ g; omega)⟩
theorem and_zero (t : Int) : bits .and .u8 0 t = 0 := by
  simp [bits]
  rfl
theorem and_zero' (t : Int) : bits .and .u8 t 0 = 0 := by
  simp [bits]
  rfl
theorem lkv_nil (x t : Int) : lkv [] x t = 0 := and_zero t
theorem lkv_zero (m : List Sp) (x : Int) : lkv m x 0 = 0 := and_zero' _
theorem inE_20 (st la r c a : Int) : inE st la r c a ≠ 20 := by
  unfold inE
  split
  · split
    · split <;> decide
    · decide
  · decide
theorem WS.does_quiet (S : WS) (dc : Int) (o : WO) (ha : o.ask = 0 ∨ o.ask = 1) (hs : S.st ≠ 20) : (S.does dc 0 o).1 ≠ 20 ∧ (S.does dc 0 o).2.st ≠ 20 := by
  unfold WS.does
  rcases ha with h | h
  · rw [if_pos h]
    unfold WS.see
    split
    · rw [if_neg (fun h => h.2 rfl)]
      exact ⟨(by decide : (0 : Int) ≠ 20), hs⟩
    · exact ⟨inE_20 _ _ _ _ _, hs⟩
  · rw [if_neg (by rw [h]; decide), if_pos h]
    unfold WS.told
    split
    · split
      · exact ⟨(by decide : (10 : Int) ≠ 20), hs⟩
      · split
        · exact ⟨(by decide : (18 : Int) ≠ 20), (by decide : (18 : Int) ≠ 20)⟩
        · exact ⟨(by decide : (0 : Int) ≠ 20), hs⟩
    · exact ⟨(by decide : (19 : Int) ≠ 20), hs⟩
/-- Two watches of one state, by one table. -/
structure QI (w : World) (gt gv gw : Nat) (s m : List Sp) (dc tr : Int) (S : WS) (n : Nat) (W : World) : Prop where
  bel : Below w.heap.size w W
  tk : TK W gt s m dc tr
  v : Blk W gv 68 (S.cells (.pointer (some ⟨gt, 0, none⟩)))
  u : Blk W gw 68 (S.cells (.pointer (some ⟨gt, 0, none⟩)))
  lo : w.heap.size ≤ gt ∧ gt < gv ∧ gv < gw
  st : S.st ≠ 20
  se : 0 ≤ S.se ∧ S.se ≤ (n : Int)
theorem QI.call {w : World} {gt gv gw : Nat} {s m : List Sp} {dc tr : Int} {S : WS} {n : Nat} {W V : World} (h : QI w gt gv gw s m dc tr S n W) (hb : Below W.heap.size W V) : QI w gt gv gw s m dc tr S n V :=
  ⟨Q.call h.bel hb, h.tk.call hb, h.v.call hb, h.u.call hb, h.lo, h.st, h.se⟩
theorem QI.both {w : World} {gt gv gw : Nat} {s m : List Sp} {dc tr : Int} {S S' : WS} {n : Nat} {W W1 W2 : World} (h : QI w gt gv gw s m dc tr S n W) (h1 : Chg (fun b => b = gv) W W1) (b1 : Blk W1 gv 68 (S'.cells (.pointer (some ⟨gt, 0, none⟩))))
    (h2 : Chg (fun b => b = gw) W1 W2) (b2 : Blk W2 gw 68 (S'.cells (.pointer (some ⟨gt, 0, none⟩)))) (hst : S'.st ≠ 20) (hse : S.se ≤ S'.se ∧ S'.se ≤ S.se + 1) : QI w gt gv gw s m dc tr S' (n + 1) W2 := by
  obtain ⟨l1, l2, l3⟩ := h.lo
  have e := h.se
  have hl := h.v.lt
  refine ⟨?_, (h.tk.chg h1 (fun b hb => by have hb : b = gv := hb; omega)).chg h2 (fun b hb => by have hb : b = gw := hb; omega), b1.chg h2 (fun hb => by have hb : gv = gw := hb; omega), b2, h.lo, hst, by omega, by omega⟩
  have a1 : Below w.heap.size w W1 := h1.below h.bel h.bel.size (fun b hb => by have hb : b = gv := hb; omega)
  exact h2.below a1 a1.size (fun b hb => by have hb : b = gw := hb; omega)
theorem QI.more {w : World} {gt gv gw : Nat} {s m : List Sp} {dc tr : Int} {S : WS} {n : Nat} {W : World} (h : QI w gt gv gw s m dc tr S n W) : QI w gt gv gw s m dc tr S (n + 1) W :=
  ⟨h.bel, h.tk, h.v, h.u, h.lo, h.st, h.se.1, by have := h.se.2; omega⟩
theorem box_set (wr : World) (t : TypeId) (cs : Array Value) (j : Nat) (v : Value) : Blk ((wr.alloc (.cells cs t)).setCell ⟨wr.heap.size, j, none⟩ v) wr.heap.size t (cs.setIfInBounds j v) := by
  rw [(Blk.new wr t cs).setCell]
  exact (Blk.new wr t cs).setRow _
end Go.Proofs.YtndjicomgdcfkaaDoor
