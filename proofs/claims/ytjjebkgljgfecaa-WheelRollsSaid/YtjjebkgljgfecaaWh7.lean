/- The wheel: same, awake. (printed by gen/wh7.py) -/
import Derived.Test.YtjjebkgljgfecaaWh6
namespace Go.Proofs.Ytjjebkgljgfecaa
set_option linter.unusedVariables false
set_option linter.unusedSimpArgs false
open Go.RowKit
attribute [local go_sem] run_store_complex run_store_float

set_option maxRecDepth 100000 in
set_option maxHeartbeats 3200000 in
theorem alike_calls (w : World) (g x : Nat) (s : St) (hs : s.ok) (h : Blk w g 57 s.cells) (hr : Blk w x 44 s.rcells) :
    Calls Try.prog 19 #[.pointer (some ⟨g, 0, none⟩), .pointer (some ⟨x, 0, none⟩)] w fun e w' => e = .returned (.bool true) ∧ Below w.heap.size w w' := by
  have R0 := fun V h => readS_calls V g s 0 hs h
  have R1 := fun V h => readS_calls V g s 1 hs h
  have R2 := fun V h => readS_calls V g s 2 hs h
  have A := fun V h => atS_calls V g s h
  have Y := fun V h => wayS_calls V g s h
  have P1 := fun V => plain_calls s.X s.Y V (by have := hs.2.1; omega) (by have := hs.2.2.1; omega)
  have P2 := fun V => plain_calls (wx s.k) (wy s.k) V (by have := bnd_way s.k; omega) (by have := bnd_way s.k; omega)
  have W := fun V => ways_calls s.k V hs.1
  have r2 : w.cell? ⟨x, 2, none⟩ = some (.int .i64 s.k) := hr.cell 2
  have hxl := hr.lt
  have HH := Lib.hid h
  have HR := Lib.hid hr
  have hx1 := hs.2.1.1
  have hx2 := hs.2.1.2
  have hy1 := hs.2.2.1.1
  have hy2 := hs.2.2.1.2
  have m1 : (s.X + 256).tmod 256 = s.X % 256 := by rw [Int.tmod_eq_emod_of_nonneg (by omega)]; omega
  have m2 : (s.Y + 256).tmod 256 = s.Y % 256 := by rw [Int.tmod_eq_emod_of_nonneg (by omega)]; omega
  have m3 : IntKind.i64.wrap (s.X + 256) = s.X + 256 := IntWalk.i64_in _ ⟨by omega, by omega⟩
  have m4 : IntKind.i64.wrap (s.Y + 256) = s.Y + 256 := IntWalk.i64_in _ ⟨by omega, by omega⟩
  have m5 : IntKind.u8.wrap (s.X % 256) = s.X % 256 := by rw [IntKind.wrap_u8]; omega
  have m6 : IntKind.u8.wrap (s.Y % 256) = s.Y % 256 := by rw [IntKind.wrap_u8]; omega
  clear h hr hs
  rw [show s.byteOf 0 = s.v from rfl] at R0
  rw [show s.byteOf 1 = s.X % 256 from rfl] at R1
  rw [show s.byteOf 2 = s.Y % 256 from rfl] at R2
  generalize s.X % 256 = xb at *
  generalize s.Y % 256 = yb at *
  rw [show readErr 0 = 0 from rfl] at R0
  rw [show readErr 1 = 0 from rfl] at R1
  rw [show readErr 2 = 0 from rfl] at R2
  go_enter Try.func19, Try.ntmps19
  go_wp2_with fail
  (with_reducible refine (W _).mono ?_)
  rintro e w1 ⟨rfl, rfl⟩
  go_wp2_with fail
  (with_reducible refine (R0 _ HH.out).mono ?_)
  rintro e w2 ⟨rfl, hb2⟩
  have h2 := HH.out.call hb2
  clear r2
  go_wp2_with fail
  (with_reducible refine (R1 _ (h2.call (Q.alloc (Below.refl _ _) _))).mono ?_)
  rintro e w3 ⟨rfl, hb3⟩
  have k2 := (Blk.new w2 37 #[.int .u8 s.v, .int .u8 0]).call hb3
  have h3 := (h2.call (Q.alloc (Below.refl _ _) _)).call hb3
  have B3 := Q.call (Q.alloc hb2 _) hb3
  go_wp2_with fail
  (with_reducible refine (R2 _ (h3.call (Q.alloc (Below.refl _ _) _))).mono ?_)
  rintro e w4 ⟨rfl, hb4⟩
  have k3 := (Blk.new w3 37 #[.int .u8 xb, .int .u8 0]).call hb4
  have k2' := (k2.call (Q.alloc (Below.refl _ _) _)).call hb4
  have h4 := (h3.call (Q.alloc (Below.refl _ _) _)).call hb4
  have B4 := Q.call (Q.alloc B3 _) hb4
  clear h2 h3 B3 hb2 hb3 hb4 k2
  go_wp2_with fail
  have k4 := Blk.new w4 37 #[.int .u8 yb, .int .u8 0]
  have k3' := k3.call (Q.alloc (Below.refl _ _) (.cells #[.int .u8 yb, .int .u8 0] 37))
  have k2'' := k2'.call (Q.alloc (Below.refl _ _) (.cells #[.int .u8 yb, .int .u8 0] 37))
  have h5 := h4.call (Q.alloc (Below.refl _ _) (.cells #[.int .u8 yb, .int .u8 0] 37))
  have B5 := Q.alloc B4 (.cells #[.int .u8 yb, .int .u8 0] 37)
  have r5 := HR.out.call B5
  generalize w4.alloc (.cells #[.int .u8 yb, .int .u8 0] 37) = W5 at *
  clear k3 k2' h4 B4
  have L0 : ∀ y : BW W5, y.val.cell? ⟨w2.heap.size, 0, none⟩ = some (.int .u8 s.v) := fun y => (k2''.call y.has).cell 0
  have L1 : ∀ y : BW W5, y.val.cell? ⟨w2.heap.size, 1, none⟩ = some (.int .u8 0) := fun y => (k2''.call y.has).cell 1
  have L2 : ∀ y : BW W5, y.val.cell? ⟨w3.heap.size, 0, none⟩ = some (.int .u8 xb) := fun y => (k3'.call y.has).cell 0
  have L3 : ∀ y : BW W5, y.val.cell? ⟨w3.heap.size, 1, none⟩ = some (.int .u8 0) := fun y => (k3'.call y.has).cell 1
  have L4 : ∀ y : BW W5, y.val.cell? ⟨w4.heap.size, 0, none⟩ = some (.int .u8 yb) := fun y => (k4.call y.has).cell 0
  have L5 : ∀ y : BW W5, y.val.cell? ⟨w4.heap.size, 1, none⟩ = some (.int .u8 0) := fun y => (k4.call y.has).cell 1
  have L6 : ∀ y : BW W5, y.val.cell? ⟨x, 0, none⟩ = some (.int .i64 s.X) := fun y => (r5.call y.has).cell 0
  have L7 : ∀ y : BW W5, y.val.cell? ⟨x, 1, none⟩ = some (.int .i64 s.Y) := fun y => (r5.call y.has).cell 1
  have L8 : ∀ y : BW W5, y.val.cell? ⟨x, 3, none⟩ = some (.int .u8 s.v) := fun y => (r5.call y.has).cell 3
  clear k2'' k3' k4 R0 R1 R2 W
  have H5 := Lib.hid h5
  have J5 := Lib.hid r5
  clear h5 r5
  refine wp_region_below (by kernel_rfl) (by kernel_rfl) ?_
  repeat (go_big_quiet_step (fail))
  refine wpQuiet_nil ?_
  intro w9 hw9
  obtain ⟨y9, rfl⟩ := hw9
  have H9 := Lib.hid (H5.out.call y9.has)
  have J9 := Lib.hid (J5.out.call y9.has)
  have B9 := Q.call B5 y9.has
  clear L0 L1 L2 L3 L4 L5 L6 L7 L8 H5 J5 B5
  generalize y9.val = W9 at H9 J9 B9 ⊢
  go_wp2_with fail
  have L6 : ∀ y : BW W9, y.val.cell? ⟨x, 0, none⟩ = some (.int .i64 s.X) := fun y => (J9.out.call y.has).cell 0
  have L7 : ∀ y : BW W9, y.val.cell? ⟨x, 1, none⟩ = some (.int .i64 s.Y) := fun y => (J9.out.call y.has).cell 1
  have A' := fun y : BW W9 => A y.val (H9.out.call y.has)
  have Y' := fun y : BW W9 => Y y.val (H9.out.call y.has)
  refine wp_region_below (by kernel_rfl) (by kernel_rfl) ?_
  repeat (go_big_quiet_step (first | (go_at_call 13; exact calls_bw' (A' _)) | (go_at_call 14; exact calls_bw' (Y' _)) | (go_at_call 7; first | with_reducible exact calls_bw' (P1 _) | with_reducible exact calls_bw' (P2 _))))
  refine wpQuiet_nil ?_
  intro w9 hw9
  obtain ⟨y8, rfl⟩ := hw9
  have B8 := Q.call B9 y8.has
  generalize y8.val = W8 at B8 ⊢
  go_wp2
  go_returns
  exact ⟨rfl, B8⟩
end Go.Proofs.Ytjjebkgljgfecaa
