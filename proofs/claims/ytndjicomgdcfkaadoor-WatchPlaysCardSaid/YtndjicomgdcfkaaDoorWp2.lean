/- Watches: same, of two of one state. (printed by gen/wp2.py) -/
import Derived.Test.YtndjicomgdcfkaaDoorWp1
namespace Go.Proofs.YtndjicomgdcfkaaDoor
set_option linter.unusedVariables false
set_option linter.unusedSimpArgs false
open Go.RowKit
attribute [local go_sem ↓] Go.wp_at_zero Go.wp_at_succ

set_option maxRecDepth 100000 in
set_option maxHeartbeats 3200000 in
theorem same16_eq (w : World) (g gt x : Nat) (S : WS) (may : Int) (hg : Blk w g 68 (S.cells (.pointer (some ⟨gt, 0, none⟩)))) (hx : Blk w x 58 (S.rcells may)) : Calls Tryd.prog 23 #[.pointer (some ⟨g, 0, none⟩), .pointer (some ⟨x, 0, none⟩)] w fun e w' => e = .returned (.bool true) ∧ Below w.heap.size w w' := by
  obtain ⟨st, ru, cy, ad, bi, la, se⟩ := S
  (try simp only at hg hx)
  by_cases h0 : st = 20
  · have AL := alarms_one w g _ st ru cy ad bi la se hg h0
    subst h0
    obtain ⟨W, hW⟩ : ∃ W, W = w.alloc (.cells #[.int .i64 ru, .int .i64 cy, .int .i64 ad, .int .u8 bi] 47) := ⟨_, rfl⟩
    obtain ⟨hh, hhh⟩ : ∃ hh, hh = w.heap.size := ⟨_, rfl⟩
    have bW : Below w.heap.size w W := by rw [hW]; exact (by repeat' (first | with_reducible exact Below.refl _ _ | with_reducible assumption | with_reducible refine Q.alloc ?_ _ | with_reducible refine Q.drew ?_ | with_reducible refine Q.drewN ?_ _ | with_reducible refine Q.call ?_ (by assumption)))
    have AB : Blk W hh 47 #[.int .i64 ru, .int .i64 cy, .int .i64 ad, .int .u8 bi] := by rw [hW]; exact Blk.new' hhh
    rw [← hhh, ← hW] at AL
    have HG := Lib.hid (hg.call bW)
    have HX := Lib.hid (hx.call bW)
    have HA := Lib.hid AB
    have HBW := Lib.hid bW
    clear hg hx bW AB hW hhh
    go_enter Tryd.func23, Tryd.ntmps23
    go_wp2_with (go_at_call 10; (with_reducible refine AL.mono ?_); rintro e w1 ⟨rfl, rfl⟩; refine Hid.out ?_)
    refine Lib.hid ?_
    clear AL
    have C1 : ∀ y : BW w1, Calls Tryd.prog 9 #[.pointer (some ⟨g, 0, none⟩)] y.val fun e w' => e = .returned (.int .i64 20) ∧ w' = y.val := fun y => (state_eq y.val g _ _ _ _ _ _ _ _ ((HG.out).call y.has)).mono fun e w' h => ⟨h.1, h.2.symm⟩
    have C2 : ∀ y : BW w1, Calls Tryd.prog 11 #[.pointer (some ⟨g, 0, none⟩)] y.val fun e w' => e = .returned (.int .i64 se) ∧ w' = y.val := fun y => (seen_eq y.val g _ _ _ _ _ _ _ _ ((HG.out).call y.has)).mono fun e w' h => ⟨h.1, h.2.symm⟩
    have L0 : ∀ y : BW w1, y.val.cell? ⟨x, 0, none⟩ = some (.int .i64 20) := fun y => (HX.out.call y.has).cell 0
    have L6 : ∀ y : BW w1, y.val.cell? ⟨x, 6, none⟩ = some (.int .i64 se) := fun y => (HX.out.call y.has).cell 6
    have hxl : x < w1.heap.size := HX.out.lt
    go_wp2_with fail
    refine wp_region_below (by kernel_rfl) (by kernel_rfl) ?_
    repeat (go_big_quiet_step ((first | (go_at_call 9; exact calls_bw' (C1 _)) | (go_at_call 11; exact calls_bw' (C2 _)))))
    refine wpQuiet_nil ?_
    first | (intro w9 hw9; obtain ⟨y9, rfl⟩ := hw9) | intro y9
    have HY := Lib.hid y9.has
    have HXY := HX.out.call y9.has
    have x0 := HXY.cell 0
    have hxy := HXY.lt
    clear C1 C2 L0 L6 hxl
    have HXZ := Lib.hid HXY
    have HAZ := Lib.hid (HA.out.call HY.out)
    clear HXY
    go_wp2_with fail
    have C3 := fun y : BW y9.val => aplain_eq y.val ru cy ad bi
    have M1 : ∀ y : BW y9.val, y.val.cell? ⟨x, 1, none⟩ = some (.int .i64 ru) := fun y => (HXZ.out.call y.has).cell 1
    have M2 : ∀ y : BW y9.val, y.val.cell? ⟨x, 2, none⟩ = some (.int .i64 cy) := fun y => (HXZ.out.call y.has).cell 2
    have M3 : ∀ y : BW y9.val, y.val.cell? ⟨x, 3, none⟩ = some (.int .i64 ad) := fun y => (HXZ.out.call y.has).cell 3
    have M4 : ∀ y : BW y9.val, y.val.cell? ⟨x, 4, none⟩ = some (.int .u8 bi) := fun y => (HXZ.out.call y.has).cell 4
    have N0 : ∀ y : BW y9.val, y.val.cell? ⟨hh, 0, none⟩ = some (.int .i64 ru) := fun y => (HAZ.out.call y.has).cell 0
    have N1 : ∀ y : BW y9.val, y.val.cell? ⟨hh, 1, none⟩ = some (.int .i64 cy) := fun y => (HAZ.out.call y.has).cell 1
    have N2 : ∀ y : BW y9.val, y.val.cell? ⟨hh, 2, none⟩ = some (.int .i64 ad) := fun y => (HAZ.out.call y.has).cell 2
    have N3 : ∀ y : BW y9.val, y.val.cell? ⟨hh, 3, none⟩ = some (.int .u8 bi) := fun y => (HAZ.out.call y.has).cell 3
    refine wp_region_below (by kernel_rfl) (by kernel_rfl) ?_
    repeat (go_big_quiet_step ((go_at_call 21; exact calls_bw (C3 _))))
    refine wpQuiet_nil ?_
    first | (intro w8 hw8; obtain ⟨y8, rfl⟩ := hw8) | intro y8
    go_wp2_with fail
    go_ret
    exact ⟨rfl, Q.call (Q.call HBW.out HY.out) y8.has⟩
  · have AL := alarms_none w g _ st ru cy ad bi la se hg h0
    have e20 : (st == 20) = false := beq_eq_false_iff_ne.2 h0
    have HG := Lib.hid hg
    have HX := Lib.hid hx
    clear hg hx h0
    go_enter Tryd.func23, Tryd.ntmps23
    go_wp2_with (go_at_call 10; (with_reducible refine AL.mono ?_); rintro e w1 ⟨rfl, rfl⟩; refine Hid.out ?_)
    refine Lib.hid ?_
    clear AL
    have C1 : ∀ y : BW w, Calls Tryd.prog 9 #[.pointer (some ⟨g, 0, none⟩)] y.val fun e w' => e = .returned (.int .i64 st) ∧ w' = y.val := fun y => (state_eq y.val g _ _ _ _ _ _ _ _ ((HG.out).call y.has)).mono fun e w' h => ⟨h.1, h.2.symm⟩
    have C2 : ∀ y : BW w, Calls Tryd.prog 11 #[.pointer (some ⟨g, 0, none⟩)] y.val fun e w' => e = .returned (.int .i64 se) ∧ w' = y.val := fun y => (seen_eq y.val g _ _ _ _ _ _ _ _ ((HG.out).call y.has)).mono fun e w' h => ⟨h.1, h.2.symm⟩
    have L0 : ∀ y : BW w, y.val.cell? ⟨x, 0, none⟩ = some (.int .i64 st) := fun y => (HX.out.call y.has).cell 0
    have L6 : ∀ y : BW w, y.val.cell? ⟨x, 6, none⟩ = some (.int .i64 se) := fun y => (HX.out.call y.has).cell 6
    have hxl : x < w.heap.size := HX.out.lt
    go_wp2_with fail
    refine wp_region_below (by kernel_rfl) (by kernel_rfl) ?_
    repeat (go_big_quiet_step ((first | (go_at_call 9; exact calls_bw' (C1 _)) | (go_at_call 11; exact calls_bw' (C2 _)))))
    refine wpQuiet_nil ?_
    first | (intro w9 hw9; obtain ⟨y9, rfl⟩ := hw9) | intro y9
    have HY := Lib.hid y9.has
    have HXY := HX.out.call y9.has
    have x0 := HXY.cell 0
    have hxy := HXY.lt
    clear C1 C2 L0 L6 hxl HXY
    go_wp2_with fail
    go_ret
    exact ⟨rfl, HY.out⟩
end Go.Proofs.YtndjicomgdcfkaaDoor
