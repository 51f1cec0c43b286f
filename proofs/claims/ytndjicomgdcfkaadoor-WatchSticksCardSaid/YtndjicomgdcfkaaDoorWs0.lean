/- The law WatchSticks: its plain part. (printed by gen/ws1.py) -/
import Derived.Test.YtndjicomgdcfkaaDoorWq1
namespace Go.Proofs.YtndjicomgdcfkaaDoor
set_option linter.unusedVariables false
set_option linter.unusedSimpArgs false
open Go.RowKit
attribute [local go_sem ↓] Go.wp_at_zero Go.wp_at_succ

theorem ofInt_bits (x : BitVec 8) : BitVec.ofInt 8 (IntKind.u8.wrap (x.toNat : Int)) = x := by
  have h : IntKind.u8.wrap (x.toNat : Int) = (x.toNat : Int) := by
    rw [IntKind.wrap_u8]
    have := x.isLt
    omega
  rw [h]
  simp
theorem and_right (x t : Int) : bits .and .u8 (bits .and .u8 x t) t = bits .and .u8 x t := by
  show IntKind.u8.wrap (((BitVec.ofInt 8 (IntKind.u8.wrap ((BitVec.ofInt 8 x &&& BitVec.ofInt 8 t).toNat : Int)) &&& BitVec.ofInt 8 t).toNat : Nat) : Int) = IntKind.u8.wrap (((BitVec.ofInt 8 x &&& BitVec.ofInt 8 t).toNat : Nat) : Int)
  rw [ofInt_bits, BitVec.and_assoc, BitVec.and_self]
theorem and_left (x t : Int) : bits .and .u8 (bits .and .u8 x t) x = bits .and .u8 x t := by
  show IntKind.u8.wrap (((BitVec.ofInt 8 (IntKind.u8.wrap ((BitVec.ofInt 8 x &&& BitVec.ofInt 8 t).toNat : Int)) &&& BitVec.ofInt 8 x).toNat : Nat) : Int) = IntKind.u8.wrap (((BitVec.ofInt 8 x &&& BitVec.ofInt 8 t).toNat : Nat) : Int)
  rw [ofInt_bits, BitVec.and_comm (BitVec.ofInt 8 x) (BitVec.ofInt 8 t), BitVec.and_assoc, BitVec.and_self]
theorem inE_18 (st la r c a : Int) : inE st la r c a ≠ 18 := by
  unfold inE
  split
  · split
    · split <;> decide
    · decide
  · decide
theorem WS.does_halt (S : WS) (dc k : Int) (o : WO) (h : ¬ S.st = 0) : S.does dc k o = (19, S) := by
  have hE : ∀ r c a, inE S.st S.la r c a = 19 := fun r c a => by unfold inE; rw [if_neg h]
  unfold WS.does
  split
  · unfold WS.see
    rw [hE, if_neg (by decide)]
  · split
    · unfold WS.told
      rw [if_neg h]
    · unfold WS.brk
      rw [hE, if_neg (by decide)]
theorem WS.does_go (S : WS) (dc k : Int) (o : WO) (h : S.st = 0) :
    ((S.does dc k o).1 ≠ 18 ∧ (S.does dc k o).1 ≠ 20 ∧ (S.does dc k o).2.st = 0) ∨ ((S.does dc k o).1 = 18 ∧ (S.does dc k o).2.st = 18) ∨
      ((S.does dc k o).1 = 20 ∧ (S.does dc k o).2.st = 20 ∧ (o.ask = 0 → (S.does dc k o).2.ru = 4 ∧ (S.does dc k o).2.cy = o.cyc ∧ (S.does dc k o).2.ad = o.addr ∧ (S.does dc k o).2.bi = k ∧ k ≠ 0 ∧ o.wr = true)) := by
  unfold WS.does
  by_cases h0 : o.ask = 0
  · rw [if_pos h0]
    unfold WS.see
    by_cases hE : inE S.st S.la 4 o.cyc o.addr = 0
    · rw [if_pos hE]
      by_cases hw : o.wr = true ∧ k ≠ 0
      · rw [if_pos hw]
        exact .inr (.inr ⟨rfl, rfl, fun _ => ⟨rfl, rfl, rfl, rfl, hw.2, hw.1⟩⟩)
      · rw [if_neg hw]
        exact .inl ⟨(by decide : (0 : Int) ≠ 18), (by decide : (0 : Int) ≠ 20), h⟩
    · rw [if_neg hE]
      exact .inl ⟨inE_18 _ _ _ _ _, inE_20 _ _ _ _ _, h⟩
  · rw [if_neg h0]
    by_cases h1 : o.ask = 1
    · rw [if_pos h1]
      unfold WS.told
      rw [if_pos h]
      split
      · exact .inl ⟨(by decide : (10 : Int) ≠ 18), (by decide : (10 : Int) ≠ 20), h⟩
      · split
        · exact .inr (.inl ⟨rfl, rfl⟩)
        · exact .inl ⟨(by decide : (0 : Int) ≠ 18), (by decide : (0 : Int) ≠ 20), h⟩
    · rw [if_neg h1]
      unfold WS.brk
      by_cases hE : inE S.st S.la o.rule o.cyc o.addr = 0
      · rw [if_pos hE]
        exact .inr (.inr ⟨rfl, rfl, fun hh => absurd hh h0⟩)
      · rw [if_neg hE]
        exact .inl ⟨inE_18 _ _ _ _ _, inE_20 _ _ _ _ _, h⟩
/-- A watch, and the alarm that was told. -/
structure SI (w : World) (gt g ga : Nat) (s m : List Sp) (dc tr : Int) (S : WS) (a0 a1 a2 a3 : Int) (n : Nat) (W : World) : Prop where
  bel : Below w.heap.size w W
  tk : TK W gt s m dc tr
  vg : Blk W g 68 (S.cells (.pointer (some ⟨gt, 0, none⟩)))
  va : Blk W ga 47 #[.int .i64 a0, .int .i64 a1, .int .i64 a2, .int .u8 a3]
  lo : w.heap.size ≤ gt ∧ gt < g ∧ g < ga
  st : S.st = 0 ∨ S.st = 18 ∨ S.st = 20
  al : S.st = 20 → a0 = S.ru ∧ a1 = S.cy ∧ a2 = S.ad ∧ a3 = S.bi
  se : 0 ≤ S.se ∧ S.se ≤ (n : Int)
theorem SI.call {w : World} {gt g ga : Nat} {s m : List Sp} {dc tr : Int} {S : WS} {a0 a1 a2 a3 : Int} {n : Nat} {W V : World} (h : SI w gt g ga s m dc tr S a0 a1 a2 a3 n W) (hb : Below W.heap.size W V) : SI w gt g ga s m dc tr S a0 a1 a2 a3 n V :=
  ⟨Q.call h.bel hb, h.tk.call hb, h.vg.call hb, h.va.call hb, h.lo, h.st, h.al, h.se⟩
theorem SI.more {w : World} {gt g ga : Nat} {s m : List Sp} {dc tr : Int} {S : WS} {a0 a1 a2 a3 : Int} {n : Nat} {W : World} (h : SI w gt g ga s m dc tr S a0 a1 a2 a3 n W) : SI w gt g ga s m dc tr S a0 a1 a2 a3 (n + 1) W :=
  ⟨h.bel, h.tk, h.vg, h.va, h.lo, h.st, h.al, h.se.1, by have := h.se.2; omega⟩
/-- A call, which does not alarm. -/
theorem SI.step {w : World} {gt g ga : Nat} {s m : List Sp} {dc tr : Int} {S S2 : WS} {a0 a1 a2 a3 : Int} {n : Nat} {W V : World} (h : SI w gt g ga s m dc tr S a0 a1 a2 a3 n W) (hc : Chg (fun b => b = g) W V) (hg : Blk V g 68 (S2.cells (.pointer (some ⟨gt, 0, none⟩)))) (hst : S2.st = 0 ∨ S2.st = 18 ∨ S2.st = 20) (hal : S2.st = 20 → a0 = S2.ru ∧ a1 = S2.cy ∧ a2 = S2.ad ∧ a3 = S2.bi) (hse : S.se ≤ S2.se ∧ S2.se ≤ S.se + 1) : SI w gt g ga s m dc tr S2 a0 a1 a2 a3 (n + 1) V := by
  have l := h.lo
  have e := h.se
  exact ⟨hc.below h.bel h.bel.size (fun b hb => by have hb : b = g := hb; omega), h.tk.chg hc (fun b hb => by have hb : b = g := hb; omega), hg, h.va.chg hc (fun hb => by have hb : ga = g := hb; omega), l, hst, hal, by omega, by omega⟩
/-- A call that alarms, behind it the alarm is noted. -/
theorem SI.alarm {w : World} {gt g ga : Nat} {s m : List Sp} {dc tr : Int} {S S2 : WS} {a0 a1 a2 a3 : Int} {n : Nat} {W V U : World} (h : SI w gt g ga s m dc tr S a0 a1 a2 a3 n W) (hc : Chg (fun b => b = g) W V) (hg : Blk V g 68 (S2.cells (.pointer (some ⟨gt, 0, none⟩)))) (hst : S2.st = 20) (hse : S.se ≤ S2.se ∧ S2.se ≤ S.se + 1) (hU : Below V.heap.size V U) : SI w gt g ga s m dc tr S2 S2.ru S2.cy S2.ad S2.bi (n + 1) (U.setRow ga #[.int .i64 S2.ru, .int .i64 S2.cy, .int .i64 S2.ad, .int .u8 S2.bi]) := by
  have l := h.lo
  have e := h.se
  have b1 : Below w.heap.size w V := hc.below h.bel h.bel.size (fun b hb => by have hb : b = g := hb; omega)
  have k := Chg.setRow U ga #[.int .i64 S2.ru, .int .i64 S2.cy, .int .i64 S2.ad, .int .u8 S2.bi]
  have b2 := Q.call b1 hU
  exact ⟨k.below b2 b2.size (fun b hb => by have hb : b = ga := hb; omega), ((h.tk.chg hc (fun b hb => by have hb : b = g := hb; omega)).call hU).chg k (fun b hb => by have hb : b = ga := hb; omega), (hg.call hU).chg k (fun hb => by have hb : g = ga := hb; omega), ((h.va.chg hc (fun hb => by have hb : ga = g := hb; omega)).call hU).setRow _, l, .inr (.inr hst), fun _ => ⟨rfl, rfl, rfl, rfl⟩, by omega, by omega⟩
theorem sink_tk (w : World) (gt : Nat) (s m : List Sp) (dc tr : Int) (hT : TK w gt s m dc tr) (x : Int) : Calls Tryd.prog 15 #[.pointer (some ⟨gt, 0, none⟩), .int .i64 x] w fun e w' => e = .returned (.int .u8 (bitsL m x)) ∧ Below w.heap.size w w' := by
  obtain ⟨v1, v2, ht, _⟩ := hT.tab
  have h := sink_eq w gt x v1 v2 dc tr _ _ ht
  rw [(chk_tell hT.ok x).2] at h
  exact h
end Go.Proofs.YtndjicomgdcfkaaDoor
