/- A watch: its simple calls, and Broken. (printed by gen/wa2.py) -/
import Derived.Test.YtndjicomgdcfkaaDoorWa1
namespace Go.Proofs.YtndjicomgdcfkaaDoor
set_option linter.unusedVariables false
set_option linter.unusedSimpArgs false
open Go.RowKit
attribute [local go_sem ↓] Go.wp_at_zero Go.wp_at_succ

theorem stop_eq (w : World) (g : Nat) (p : Value) (st ru cy ad bi la se : Int) (hB : Blk w g 68 #[p, .int .i64 st, .int .i64 ru, .int .i64 cy, .int .i64 ad, .int .u8 bi, .int .i64 la, .int .i64 se]) (e0 : Int) : Calls Tryd.prog 35 #[.pointer (some ⟨g, 0, none⟩), .int .i64 e0] w fun e w' => e = .returned (.int .i64 e0) ∧ w' = w.setRow g #[p, .int .i64 e0, .int .i64 ru, .int .i64 cy, .int .i64 ad, .int .u8 bi, .int .i64 la, .int .i64 se] := by
  have c1 := hB.cell 1
  have f1 := hB.frozen 1
  have hlt := hB.lt
  have HB := Lib.hid hB
  clear hB
  go_enter Tryd.func35, Tryd.ntmps35
  go_wp2
  go_ret
  exact ⟨rfl, by rw [HB.out.setCell]; rfl⟩
theorem state_nil (w : World) : Calls Tryd.prog 9 #[.pointer none] w fun e w' => e = .returned (.int .i64 2) ∧ w = w' := by
  go_enter Tryd.func9, Tryd.ntmps9
  go_wp2
  go_ret
  exact ⟨rfl, rfl⟩
theorem state_eq (w : World) (g : Nat) (p : Value) (st ru cy ad bi la se : Int) (hB : Blk w g 68 #[p, .int .i64 st, .int .i64 ru, .int .i64 cy, .int .i64 ad, .int .u8 bi, .int .i64 la, .int .i64 se]) : Calls Tryd.prog 9 #[.pointer (some ⟨g, 0, none⟩)] w fun e w' => e = .returned (.int .i64 st) ∧ w = w' := by
  have c1 := hB.cell 1
  have hlt := hB.lt
  clear hB
  go_enter Tryd.func9, Tryd.ntmps9
  go_wp2
  go_ret
  exact ⟨rfl, rfl⟩
theorem seen_nil (w : World) : Calls Tryd.prog 11 #[.pointer none] w fun e w' => e = .returned (.int .i64 0) ∧ w = w' := by
  go_enter Tryd.func11, Tryd.ntmps11
  go_wp2
  go_ret
  exact ⟨rfl, rfl⟩
theorem seen_eq (w : World) (g : Nat) (p : Value) (st ru cy ad bi la se : Int) (hB : Blk w g 68 #[p, .int .i64 st, .int .i64 ru, .int .i64 cy, .int .i64 ad, .int .u8 bi, .int .i64 la, .int .i64 se]) : Calls Tryd.prog 11 #[.pointer (some ⟨g, 0, none⟩)] w fun e w' => e = .returned (.int .i64 se) ∧ w = w' := by
  have c7 := hB.cell 7
  have hlt := hB.lt
  clear hB
  go_enter Tryd.func11, Tryd.ntmps11
  go_wp2
  go_ret
  exact ⟨rfl, rfl⟩
theorem alarms_nil (w : World) : Calls Tryd.prog 10 #[.pointer none] w fun e w' => e = .returned (.slice none 0 0) ∧ w = w' := by
  go_enter Tryd.func10, Tryd.ntmps10
  go_wp2
  go_ret
  exact ⟨rfl, rfl⟩
theorem alarms_none (w : World) (g : Nat) (p : Value) (st ru cy ad bi la se : Int) (hB : Blk w g 68 #[p, .int .i64 st, .int .i64 ru, .int .i64 cy, .int .i64 ad, .int .u8 bi, .int .i64 la, .int .i64 se]) (h0 : st ≠ 20) : Calls Tryd.prog 10 #[.pointer (some ⟨g, 0, none⟩)] w fun e w' => e = .returned (.slice none 0 0) ∧ w = w' := by
  have c1 := hB.cell 1
  have hlt := hB.lt
  have e1 : (st == 20) = false := beq_eq_false_iff_ne.2 h0
  clear hB
  go_enter Tryd.func10, Tryd.ntmps10
  go_wp2
  go_ret
  exact ⟨rfl, rfl⟩
theorem alarms_one (w : World) (g : Nat) (p : Value) (st ru cy ad bi la se : Int) (hB : Blk w g 68 #[p, .int .i64 st, .int .i64 ru, .int .i64 cy, .int .i64 ad, .int .u8 bi, .int .i64 la, .int .i64 se]) (h0 : st = 20) : Calls Tryd.prog 10 #[.pointer (some ⟨g, 0, none⟩)] w fun e w' => e = .returned (.slice (some ⟨w.heap.size, 0, none⟩) 1 1) ∧ w' = w.alloc (.cells #[.int .i64 ru, .int .i64 cy, .int .i64 ad, .int .u8 bi] 47) := by
  have c1 := hB.cell 1
  have c2 := hB.cell 2
  have c3 := hB.cell 3
  have c4 := hB.cell 4
  have c5 := hB.cell 5
  have hlt := hB.lt
  subst h0
  clear hB
  go_enter Tryd.func10, Tryd.ntmps10
  go_wp2
  go_ret
  exact ⟨rfl, rfl⟩
theorem wclone_nil (w : World) : Calls Tryd.prog 12 #[.pointer none] w fun e w' => e = .returned (.pointer none) ∧ w = w' := by
  go_enter Tryd.func12, Tryd.ntmps12
  go_wp2
  go_ret
  exact ⟨rfl, rfl⟩
theorem wclone_eq (w : World) (g gt : Nat) (st ru cy ad bi la se : Int) (hB : Blk w g 68 #[.pointer (some ⟨gt, 0, none⟩), .int .i64 st, .int .i64 ru, .int .i64 cy, .int .i64 ad, .int .u8 bi, .int .i64 la, .int .i64 se]) : Calls Tryd.prog 12 #[.pointer (some ⟨g, 0, none⟩)] w fun e w' => e = .returned (.pointer (some ⟨w.heap.size, 0, none⟩)) ∧ w' = w.alloc (.cells #[.pointer (some ⟨gt, 0, none⟩), .int .i64 st, .int .i64 ru, .int .i64 cy, .int .i64 ad, .int .u8 bi, .int .i64 la, .int .i64 se] 68) := by
  have c0 := hB.cell 0
  have c1 := hB.cell 1
  have c2 := hB.cell 2
  have c3 := hB.cell 3
  have c4 := hB.cell 4
  have c5 := hB.cell 5
  have c6 := hB.cell 6
  have c7 := hB.cell 7
  have hlt := hB.lt
  clear hB
  go_enter Tryd.func12, Tryd.ntmps12
  go_wp2
  go_ret
  exact ⟨rfl, rfl⟩
theorem wnew_nil (w : World) : Calls Tryd.prog 7 #[.pointer none] w fun e w' => e = .returned (.tuple #[.pointer none, .int .i64 2]) ∧ w = w' := by
  go_enter Tryd.func7, Tryd.ntmps7
  go_wp2
  go_ret2
  exact ⟨rfl, rfl⟩
theorem wnew_eq (w : World) (gt : Nat) : Calls Tryd.prog 7 #[.pointer (some ⟨gt, 0, none⟩)] w fun e w' => e = .returned (.tuple #[.pointer (some ⟨w.heap.size, 0, none⟩), .int .i64 0]) ∧ w' = w.alloc (.cells #[.pointer (some ⟨gt, 0, none⟩), .int .i64 0, .int .i64 0, .int .i64 0, .int .i64 0, .int .u8 0, .int .i64 0, .int .i64 0] 68) := by
  go_enter Tryd.func7, Tryd.ntmps7
  go_wp2
  go_ret2
  exact ⟨rfl, rfl⟩
theorem brk_err (w : World) (P : Value) (r c a b E : Int) (hE : ¬ E = 0) (IN : ∀ V, Below w.heap.size w V → Calls Tryd.prog 33 #[P, .agg #[.int .i64 r, .int .i64 c, .int .i64 a, .int .u8 b]] V fun e w' => e = .returned (.int .i64 E) ∧ Below V.heap.size V w') : Calls Tryd.prog 26 #[P, .agg #[.int .i64 r, .int .i64 c, .int .i64 a, .int .u8 b]] w fun e w' => e = .returned (.int .i64 E) ∧ Below w.heap.size w w' := by
  have e1 : (E == 0) = false := beq_eq_false_iff_ne.2 hE
  clear hE
  go_enter Tryd.func26, Tryd.ntmps26
  go_wp2_with (go_at_call 33; (with_reducible refine (IN _ (by repeat' (first | with_reducible exact Below.refl _ _ | with_reducible assumption | with_reducible refine Q.alloc ?_ _ | with_reducible refine Q.drew ?_ | with_reducible refine Q.drewN ?_ _ | with_reducible refine Q.call ?_ (by assumption)))).mono ?_); rintro e w1 ⟨rfl, hb1⟩)
  go_ret
  exact ⟨rfl, (by repeat' (first | with_reducible exact Below.refl _ _ | with_reducible assumption | with_reducible refine Q.alloc ?_ _ | with_reducible refine Q.drew ?_ | with_reducible refine Q.drewN ?_ _ | with_reducible refine Q.call ?_ (by assumption)))⟩
set_option maxHeartbeats 1600000 in
theorem brk_ok (w : World) (g : Nat) (p : Value) (st ru cy ad bi la se : Int) (hB : Blk w g 68 #[p, .int .i64 st, .int .i64 ru, .int .i64 cy, .int .i64 ad, .int .u8 bi, .int .i64 la, .int .i64 se]) (r c a b : Int) (h0 : st = 0) (hF : alF r c a = true) (hc : ¬ c < la) : Calls Tryd.prog 26 #[.pointer (some ⟨g, 0, none⟩), .agg #[.int .i64 r, .int .i64 c, .int .i64 a, .int .u8 b]] w fun e w' => e = .returned (.int .i64 20) ∧ Chg (fun b => b = g) w w' ∧ Blk w' g 68 #[p, .int .i64 20, .int .i64 r, .int .i64 c, .int .i64 a, .int .u8 b, .int .i64 c, .int .i64 se] := by
  have HB := Lib.hid hB
  have IN := fun V (hV : Below w.heap.size w V) => in_ok V g p st ru cy ad bi la se (hB.call hV) r c a b h0 hF hc
  have hlt := hB.lt
  obtain ⟨W, hW⟩ : ∃ W, W = w.alloc (.cells #[.int .i64 r, .int .i64 c, .int .i64 a, .int .u8 b] 47) := ⟨_, rfl⟩
  obtain ⟨hx, hhx⟩ : ∃ hx, hx = w.heap.size := ⟨_, rfl⟩
  have bW : Below w.heap.size w W := by rw [hW]; exact (by repeat' (first | with_reducible exact Below.refl _ _ | with_reducible assumption | with_reducible refine Q.alloc ?_ _ | with_reducible refine Q.drew ?_ | with_reducible refine Q.drewN ?_ _ | with_reducible refine Q.call ?_ (by assumption)))
  have XB : Blk W hx 47 #[.int .i64 r, .int .i64 c, .int .i64 a, .int .u8 b] := by rw [hW]; exact Blk.new' hhx
  have hne : hx ≠ g := by omega
  have x0 := XB.cell 0
  have x1 := XB.cell 1
  have x2 := XB.cell 2
  have x3 := XB.cell 3
  have hxl := XB.lt
  have I2 := IN W bW
  have HBW := Lib.hid bW
  have HXB := Lib.hid XB
  have HNE := Lib.hid hne
  clear hB h0 hF hc IN bW XB hlt hne
  go_enter Tryd.func26, Tryd.ntmps26
  go_wp2_with fail
  rw [← hhx, ← hW]
  clear hW hhx
  go_wp2_with (go_at_call 33; (with_reducible refine I2.mono ?_); rintro e w1 ⟨rfl, hch, hb1⟩; refine Hid.out ?_)
  refine Lib.hid ?_
  clear x0 x1 x2 x3 hxl I2
  have XB1 := HXB.out.chg hch (fun h => HNE.out h)
  have x0 := XB1.cell 0
  have x1 := XB1.cell 1
  have x2 := XB1.cell 2
  have x3 := XB1.cell 3
  have hxl := XB1.lt
  have g2 := hb1.cell 2
  have g3 := hb1.cell 3
  have g4 := hb1.cell 4
  have g5 := hb1.cell 5
  have f2 := hb1.frozen 2
  have f3 := hb1.frozen 3
  have f4 := hb1.frozen 4
  have f5 := hb1.frozen 5
  have hgl := hb1.lt
  have e2 : (((w1.setCell ⟨g, 2, none⟩ (.int .i64 r)).setCell ⟨g, 3, none⟩ (.int .i64 c)).setCell ⟨g, 4, none⟩ (.int .i64 a)).setCell ⟨g, 5, none⟩ (.int .u8 b) = w1.setRow g #[p, .int .i64 st, .int .i64 r, .int .i64 c, .int .i64 a, .int .u8 b, .int .i64 c, .int .i64 se] := by
    rw [hb1.setCell 2, hb1.setCell_setRow, hb1.setCell_setRow, hb1.setCell_setRow]
    rfl
  have HE2 := Lib.hid e2
  have HB2 := Lib.hid (hb1.setRow #[p, .int .i64 st, .int .i64 r, .int .i64 c, .int .i64 a, .int .u8 b, .int .i64 c, .int .i64 se])
  have HC2 := Lib.hid ((Chg.of HBW.out).trans (hch.trans (Chg.setRow w1 g #[p, .int .i64 st, .int .i64 r, .int .i64 c, .int .i64 a, .int .u8 b, .int .i64 c, .int .i64 se])))
  clear e2 hb1 XB1 hch
  go_wp2_with fail
  rw [HE2.out]
  obtain ⟨wf, hwf⟩ : ∃ wf, wf = w1.setRow g #[p, .int .i64 st, .int .i64 r, .int .i64 c, .int .i64 a, .int .u8 b, .int .i64 c, .int .i64 se] := ⟨_, rfl⟩
  rw [← hwf] at HB2 HC2 ⊢
  clear x0 x1 x2 x3 g2 g3 g4 g5 f2 f3 f4 f5 hwf HE2
  have SP := stop_eq wf g p st r c a b c se HB2.out 20
  go_wp2_with (go_at_call 35; (with_reducible refine SP.mono ?_); rintro e w2 ⟨rfl, rfl⟩)
  go_ret
  exact ⟨rfl, HC2.out.trans (Chg.setRow _ _ _), HB2.out.setRow _⟩
end Go.Proofs.YtndjicomgdcfkaaDoor
