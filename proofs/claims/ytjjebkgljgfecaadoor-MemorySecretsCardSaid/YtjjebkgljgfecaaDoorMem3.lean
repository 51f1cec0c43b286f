/- The walk of awake of layer 8. -/
import Derived.Test.YtjjebkgljgfecaaDoorMem2
namespace Go.Proofs.YtjjebkgljgfecaaDoor
set_option linter.unusedVariables false
set_option linter.unusedSimpArgs false
open Go.RowKit

theorem Q.chg {w W w1 : World} {g : Nat} (h : Below w.heap.size w W) (hc : Chg (· = g) W w1) (hg : w.heap.size ≤ g) : Below w.heap.size w w1 := hc.below h h.size (fun b hb => by omega)
theorem KIN.q {w W : World} (h : KIN w) (hb : Below w.heap.size w W) : KIN W := h.below hb h.lt

set_option maxHeartbeats 800000 in
theorem awake08_calls (w : World) (hk : KIN w) :
    Calls Tryd.prog 13 #[] w fun e w' => e = .returned (.bool true) ∧ Below w.heap.size w w' := by
  go_enter Tryd.func13, Tryd.ntmps13
  go_wp2_with fail
  (with_reducible refine (new_calls _).mono ?_)
  rintro e w1 ⟨rfl, hw1⟩
  have hm1 : Mem w1 w.heap.size (fun _ => (0, 0)) := by rw [hw1]; exact Mem.fresh w
  have hB1 : Below w.heap.size w w1 := by rw [hw1]; exact (Below.refl _ _).alloc (Nat.le_refl _) _
  clear hw1
  go_wp2_with fail
  (with_reducible refine (of_calls 7 (by decide) (by decide) _).mono ?_)
  rintro e w2 ⟨rfl, hb2⟩
  have hm2 := hm1.call hb2
  have hB2 := Q.call hB1 hb2
  clear hm1 hB1 hb2
  go_wp2_with fail
  (with_reducible refine (write_calls w.heap.size _ 32767 (7, 0) _ (hk.q hB2) hm2).mono ?_)
  rw [show errOf 32767 = 0 from by decide]
  rintro e w3 ⟨rfl, hm3, hc3⟩
  have hB3 := Q.chg hB2 hc3 (Nat.le_refl _)
  clear hm2 hB2 hc3
  go_wp2_with fail
  (with_reducible refine (of_calls 7 (by decide) (by decide) _).mono ?_)
  rintro e w4 ⟨rfl, hb4⟩
  have hm4 := hm3.call hb4
  have hB4 := Q.call hB3 hb4
  clear hm3 hB3 hb4
  go_wp2_with fail
  (with_reducible refine (write_calls w.heap.size _ 49152 (7, 0) _ (hk.q hB4) hm4).mono ?_)
  rw [show errOf 49152 = 0 from by decide]
  rintro e w5 ⟨rfl, hm5, hc5⟩
  have hB5 := Q.chg hB4 hc5 (Nat.le_refl _)
  clear hm4 hB4 hc5
  have R1 := fun W hk hm => read_calls w.heap.size (wrote (wrote (fun _ => (0, 0)) 32767 (7, 0)) 49152 (7, 0)) 32767 W hk hm
  have R2 := fun W hk hm => read_calls w.heap.size (wrote (wrote (fun _ => (0, 0)) 32767 (7, 0)) 49152 (7, 0)) 49152 W hk hm
  have R3 := fun W hk hm => read_calls w.heap.size (wrote (wrote (fun _ => (0, 0)) 32767 (7, 0)) 49152 (7, 0)) 40000 W hk hm
  rw [show errOf 32767 = 0 from by decide, show readOf (wrote (wrote (fun _ => (0, 0)) 32767 (7, 0)) 49152 (7, 0)) 32767 = (7, 0) from by decide] at R1
  rw [show errOf 49152 = 0 from by decide, show readOf (wrote (wrote (fun _ => (0, 0)) 32767 (7, 0)) 49152 (7, 0)) 49152 = (0, 0) from by decide] at R2
  rw [show errOf 40000 = 0 from by decide, show readOf (wrote (wrote (fun _ => (0, 0)) 32767 (7, 0)) 49152 (7, 0)) 40000 = (255, 0) from by decide] at R3
  go_wp2_with fail
  (with_reducible refine (R1 _ (hk.q hB5) hm5).mono ?_)
  rintro e w6 ⟨rfl, hb6⟩
  have hm6 := hm5.call hb6
  have hB6 := Q.call hB5 hb6
  clear hm5 hB5 hb6 R1
  go_wp2_with fail
  (with_reducible refine (R2 _ (hk.q (Q.alloc hB6 _)) (hm6.call ((Below.refl _ _).alloc (Nat.le_refl _) _))).mono ?_)
  rintro e w7 ⟨rfl, hb7⟩
  have a7 := (Blk.new w6 24 #[.int .u8 7, .int .u8 0]).call hb7
  have hm7 := (hm6.call ((Below.refl _ _).alloc (Nat.le_refl _) _)).call hb7
  have hB7 := Q.call (Q.alloc hB6 _) hb7
  clear hm6 hB6 hb7 R2
  go_wp2_with fail
  (with_reducible refine (R3 _ (hk.q (Q.alloc hB7 _)) (hm7.call ((Below.refl _ _).alloc (Nat.le_refl _) _))).mono ?_)
  rintro e w8 ⟨rfl, hb8⟩
  have a8 := (a7.alloc (.cells #[.int .u8 0, .int .u8 0] 24)).call hb8
  have b8 := (Blk.new w7 24 #[.int .u8 0, .int .u8 0]).call hb8
  have hB8 := Q.call (Q.alloc hB7 _) hb8
  clear hm7 hB7 hb8 R3 a7
  have a0 : w8.cell? ⟨w6.heap.size, 0, none⟩ = some (.int .u8 7) := a8.cell 0
  have b0 : w8.cell? ⟨w7.heap.size, 0, none⟩ = some (.int .u8 0) := b8.cell 0
  have la := a8.lt
  have lb := b8.lt
  clear a8 b8
  go_wp2
  go_returns
  exact ⟨rfl, Q.alloc hB8 _⟩
end Go.Proofs.YtjjebkgljgfecaaDoor
