/- The walk of MemoryKeeps. -/
import Derived.Test.YtjjebkgljgfecaaDoorMem3
namespace Go.Proofs.YtjjebkgljgfecaaDoor
set_option linter.unusedVariables false
set_option linter.unusedSimpArgs false
open Go.RowKit

theorem new_at (w : World) (g : Nat) (hg : w.heap.size = g) :
    Calls Tryd.prog 8 #[] w fun e w' => e = .returned (.pointer (some ⟨g, 0, none⟩)) ∧ Mem w' g (fun _ => (0, 0)) ∧ Below w.heap.size w w' := by
  subst hg
  exact (new_calls w).mono fun e w' ⟨he, hw⟩ => ⟨he, by rw [hw]; exact Mem.fresh w, by rw [hw]; exact (Below.refl _ _).alloc (Nat.le_refl _) _⟩

theorem clone_at (g gn : Nat) (f : Nat → Int × Int) (w : World) (hg : gn = w.heap.size) (hm : Mem w g f) :
    Calls Tryd.prog 11 #[.pointer (some ⟨g, 0, none⟩)] w fun e w' => e = .returned (.pointer (some ⟨gn, 0, none⟩)) ∧ Mem w' gn f ∧ Below w.heap.size w w' := by
  subst hg
  exact clone_calls g f w hm

theorem ram_at (x : Int) (c : Bool) (h : (decide (0 ≤ x) && decide (x < 32768)) = c) (w : World) :
    Calls Tryd.prog 12 #[.int .i64 x] w fun e w' => e = .returned (.bool c) ∧ w' = w := by
  subst h
  exact ram_calls x w

theorem read_as (g : Nat) (f : Nat → Int × Int) (x : Int) (r : Int × Int) (hr : readOf f x = r) (w : World) (hk : KIN w) (hm : Mem w g f) :
    Calls Tryd.prog 10 #[.pointer (some ⟨g, 0, none⟩), .int .i64 x] w fun e w' => e = .returned (.tuple #[.agg #[.int .u8 r.1, .int .u8 r.2], .int .i64 (errOf x)]) ∧ Below w.heap.size w w' := by
  subst hr
  exact read_calls g f x w hk hm

theorem keeps_ram {f : Nat → Int × Int} {x : Int} {b : Int × Int} (h : errOf x = 0) (hr : 0 ≤ x ∧ x < 32768) : readOf (wrote f x b) x = b := by
  obtain ⟨k, rfl⟩ := Int.eq_ofNat_of_zero_le hr.1
  have hk := kind_ram k (by omega)
  unfold readOf wrote
  rw [if_pos h, if_neg (by rw [hk]; decide), if_pos ⟨h, hk⟩]
  unfold upd
  rw [if_pos (by simp)]
theorem keeps_other {f : Nat → Int × Int} {x y : Int} {b : Int × Int} (hne : x ≠ y ∨ ¬ (0 ≤ y ∧ y < 32768)) : readOf (wrote f y b) x = readOf f x := by
  unfold readOf
  by_cases h : errOf x = 0
  · rw [if_pos h, if_pos h]
    by_cases h2 : kindOf x = 32784
    · rw [if_pos h2, if_pos h2]
    · rw [if_neg h2, if_neg h2]
      unfold wrote
      by_cases h3 : errOf y = 0 ∧ kindOf y = 0
      · rw [if_pos h3]
        obtain ⟨k, rfl, hk⟩ := ram_kind h3.2
        have hx := err_bounds h
        unfold upd
        rw [if_neg (by rcases hne with e | e <;> omega)]
      · rw [if_neg h3]
  · rw [if_neg h, if_neg h]

set_option maxHeartbeats 3200000 in
theorem memoryKeeps_walk (x y : Int) (a b : Int × Int) (w : World) (hk : KIN w) :
    Calls Tryd.prog 3 #[.agg #[.int .i64 x, .int .i64 y], .agg #[.int .u8 a.1, .int .u8 a.2], .agg #[.int .u8 b.1, .int .u8 b.2]] w fun e w' => e = .returned (.bool true) ∧ Below w.heap.size w w' := by
  obtain ⟨f1, hf1⟩ : ∃ f1, wrote (fun _ => (0, 0)) x a = f1 := ⟨_, rfl⟩
  obtain ⟨f2, hf2⟩ : ∃ f2, wrote f1 y b = f2 := ⟨_, rfl⟩
  obtain ⟨r1, hr1⟩ : ∃ r, readOf f1 y = r := ⟨_, rfl⟩
  obtain ⟨r2, hr2⟩ : ∃ r, readOf f2 y = r := ⟨_, rfl⟩
  obtain ⟨r3, hr3⟩ : ∃ r, readOf f2 x = r := ⟨_, rfl⟩
  have E1 : errOf y = 0 → (0 ≤ y ∧ y < 32768) → r2 = b := fun h1 h2 => by rw [← hr2, ← hf2]; exact keeps_ram h1 h2
  have E2 : ¬ (0 ≤ y ∧ y < 32768) → r2 = r1 := fun h => by rw [← hr2, ← hr1, ← hf2]; exact keeps_other (.inr h)
  have E3 : x ≠ y → errOf x = 0 → (0 ≤ x ∧ x < 32768) → r3 = a := fun h h1 h2 => by rw [← hr3, ← hf2, keeps_other (.inl h), ← hf1]; exact keeps_ram h1 h2
  have E1 := Lib.hid E1
  have E2 := Lib.hid E2
  have E3 := Lib.hid E3
  go_enter Tryd.func3, Tryd.ntmps3
  go_wp2_with fail
  (with_reducible refine (new_at _ (w.heap.size + 3) (by simp)).mono ?_)
  rintro e w1 ⟨rfl, hm_1, hb1⟩
  have K0_1 : Blk w1 w.heap.size 22 #[.int .i64 x, .int .i64 y] := (Blk.call (by first | with_reducible assumption | repeat' (first | with_reducible exact Blk.new _ _ _ | with_reducible assumption | exact Blk.new' (by simp; done) | with_reducible refine Blk.alloc ?_ _ | with_reducible refine Blk.drew ?_)) hb1)
  have K1_1 : Blk w1 (w.heap.size + 1) 24 #[.int .u8 a.1, .int .u8 a.2] := (Blk.call (by first | with_reducible assumption | repeat' (first | with_reducible exact Blk.new _ _ _ | with_reducible assumption | exact Blk.new' (by simp; done) | with_reducible refine Blk.alloc ?_ _ | with_reducible refine Blk.drew ?_)) hb1)
  have K2_1 : Blk w1 (w.heap.size + 1 + 1) 24 #[.int .u8 b.1, .int .u8 b.2] := (Blk.call (by first | with_reducible assumption | repeat' (first | with_reducible exact Blk.new _ _ _ | with_reducible assumption | exact Blk.new' (by simp; done) | with_reducible refine Blk.alloc ?_ _ | with_reducible refine Blk.drew ?_)) hb1)
  have hB_1 : Below w.heap.size w w1 := Q.call (by repeat' (first | with_reducible exact Below.refl _ _ | with_reducible assumption | with_reducible refine Q.alloc ?_ _ | with_reducible refine Q.drew ?_ | with_reducible refine Q.drewN ?_ _ | with_reducible refine Q.call ?_ (by assumption))) hb1
  have K0_1_0 : w1.cell? ⟨w.heap.size, 0, none⟩ = some (.int .i64 x) := K0_1.cell 0
  have K0_1_1 : w1.cell? ⟨w.heap.size, 1, none⟩ = some (.int .i64 y) := K0_1.cell 1
  have K0_1_l := K0_1.lt
  have K1_1_0 : w1.cell? ⟨w.heap.size + 1, 0, none⟩ = some (.int .u8 a.1) := K1_1.cell 0
  have K1_1_1 : w1.cell? ⟨w.heap.size + 1, 1, none⟩ = some (.int .u8 a.2) := K1_1.cell 1
  have K1_1_l := K1_1.lt
  have K2_1_0 : w1.cell? ⟨w.heap.size + 1 + 1, 0, none⟩ = some (.int .u8 b.1) := K2_1.cell 0
  have K2_1_1 : w1.cell? ⟨w.heap.size + 1 + 1, 1, none⟩ = some (.int .u8 b.2) := K2_1.cell 1
  have K2_1_l := K2_1.lt
  go_wp2_with fail
  (with_reducible refine (write_calls (w.heap.size + 3) _ x a _ (hk.q (by exact hB_1)) (by exact hm_1)).mono ?_)
  rintro e w2 ⟨rfl, hm_2, hc2⟩
  rw [hf1] at hm_2
  have K0_2 : Blk w2 w.heap.size 22 #[.int .i64 x, .int .i64 y] := (Blk.chg (by repeat' (first | with_reducible exact Blk.new _ _ _ | with_reducible assumption | exact Blk.new' (by simp; done) | with_reducible refine Blk.alloc ?_ _ | with_reducible refine Blk.drew ?_)) hc2 (fun h => absurd (show (_ : Nat) = _ from h) (by omega)))
  have K1_2 : Blk w2 (w.heap.size + 1) 24 #[.int .u8 a.1, .int .u8 a.2] := (Blk.chg (by repeat' (first | with_reducible exact Blk.new _ _ _ | with_reducible assumption | exact Blk.new' (by simp; done) | with_reducible refine Blk.alloc ?_ _ | with_reducible refine Blk.drew ?_)) hc2 (fun h => absurd (show (_ : Nat) = _ from h) (by omega)))
  have K2_2 : Blk w2 (w.heap.size + 1 + 1) 24 #[.int .u8 b.1, .int .u8 b.2] := (Blk.chg (by repeat' (first | with_reducible exact Blk.new _ _ _ | with_reducible assumption | exact Blk.new' (by simp; done) | with_reducible refine Blk.alloc ?_ _ | with_reducible refine Blk.drew ?_)) hc2 (fun h => absurd (show (_ : Nat) = _ from h) (by omega)))
  have hB_2 : Below w.heap.size w w2 := Q.chg (by repeat' (first | with_reducible exact Below.refl _ _ | with_reducible assumption | with_reducible refine Q.alloc ?_ _ | with_reducible refine Q.drew ?_ | with_reducible refine Q.drewN ?_ _ | with_reducible refine Q.call ?_ (by assumption))) hc2 (by omega)
  clear hc2 hm_1 K0_1 K0_1_l K0_1_0 K0_1_1 K1_1 K1_1_l K1_1_0 K1_1_1 K2_1 K2_1_l K2_1_0 K2_1_1 hB_1 hb1
  have K0_2_0 : w2.cell? ⟨w.heap.size, 0, none⟩ = some (.int .i64 x) := K0_2.cell 0
  have K0_2_1 : w2.cell? ⟨w.heap.size, 1, none⟩ = some (.int .i64 y) := K0_2.cell 1
  have K0_2_l := K0_2.lt
  have K1_2_0 : w2.cell? ⟨w.heap.size + 1, 0, none⟩ = some (.int .u8 a.1) := K1_2.cell 0
  have K1_2_1 : w2.cell? ⟨w.heap.size + 1, 1, none⟩ = some (.int .u8 a.2) := K1_2.cell 1
  have K1_2_l := K1_2.lt
  have K2_2_0 : w2.cell? ⟨w.heap.size + 1 + 1, 0, none⟩ = some (.int .u8 b.1) := K2_2.cell 0
  have K2_2_1 : w2.cell? ⟨w.heap.size + 1 + 1, 1, none⟩ = some (.int .u8 b.2) := K2_2.cell 1
  have K2_2_l := K2_2.lt
  go_wp2_with fail
  (with_reducible refine (read_as (w.heap.size + 3) f1 y _ hr1 _ (hk.q (by exact hB_2)) (by exact hm_2)).mono ?_)
  rintro e w3 ⟨rfl, hb3⟩
  have hm_3 := hm_2.call hb3
  have K0_3 : Blk w3 w.heap.size 22 #[.int .i64 x, .int .i64 y] := (Blk.call (by first | with_reducible assumption | repeat' (first | with_reducible exact Blk.new _ _ _ | with_reducible assumption | exact Blk.new' (by simp; done) | with_reducible refine Blk.alloc ?_ _ | with_reducible refine Blk.drew ?_)) hb3)
  have K1_3 : Blk w3 (w.heap.size + 1) 24 #[.int .u8 a.1, .int .u8 a.2] := (Blk.call (by first | with_reducible assumption | repeat' (first | with_reducible exact Blk.new _ _ _ | with_reducible assumption | exact Blk.new' (by simp; done) | with_reducible refine Blk.alloc ?_ _ | with_reducible refine Blk.drew ?_)) hb3)
  have K2_3 : Blk w3 (w.heap.size + 1 + 1) 24 #[.int .u8 b.1, .int .u8 b.2] := (Blk.call (by first | with_reducible assumption | repeat' (first | with_reducible exact Blk.new _ _ _ | with_reducible assumption | exact Blk.new' (by simp; done) | with_reducible refine Blk.alloc ?_ _ | with_reducible refine Blk.drew ?_)) hb3)
  have hB_3 : Below w.heap.size w w3 := Q.call (by repeat' (first | with_reducible exact Below.refl _ _ | with_reducible assumption | with_reducible refine Q.alloc ?_ _ | with_reducible refine Q.drew ?_ | with_reducible refine Q.drewN ?_ _ | with_reducible refine Q.call ?_ (by assumption))) hb3
  clear hb3 hm_2 K0_2 K0_2_l K0_2_0 K0_2_1 K1_2 K1_2_l K1_2_0 K1_2_1 K2_2 K2_2_l K2_2_0 K2_2_1 hB_2
  have K0_3_0 : w3.cell? ⟨w.heap.size, 0, none⟩ = some (.int .i64 x) := K0_3.cell 0
  have K0_3_1 : w3.cell? ⟨w.heap.size, 1, none⟩ = some (.int .i64 y) := K0_3.cell 1
  have K0_3_l := K0_3.lt
  have K1_3_0 : w3.cell? ⟨w.heap.size + 1, 0, none⟩ = some (.int .u8 a.1) := K1_3.cell 0
  have K1_3_1 : w3.cell? ⟨w.heap.size + 1, 1, none⟩ = some (.int .u8 a.2) := K1_3.cell 1
  have K1_3_l := K1_3.lt
  have K2_3_0 : w3.cell? ⟨w.heap.size + 1 + 1, 0, none⟩ = some (.int .u8 b.1) := K2_3.cell 0
  have K2_3_1 : w3.cell? ⟨w.heap.size + 1 + 1, 1, none⟩ = some (.int .u8 b.2) := K2_3.cell 1
  have K2_3_l := K2_3.lt
  go_wp2_with fail
  obtain ⟨gn, hgn⟩ : ∃ gn, gn = w3.heap.size + 1 := ⟨_, rfl⟩
  (with_reducible refine (clone_at (w.heap.size + 3) gn f1 _ (by rw [hgn]; simp) (hm_3.call ((Below.refl _ _).alloc (Nat.le_refl _) _))).mono ?_)
  rintro e w4 ⟨rfl, hn_4, hb4⟩
  have hgl1 : w.heap.size + 3 < gn := by have := hm_3.lt; omega
  have hgl2 : w3.heap.size < gn := by omega
  clear hgn
  have hm_4 := (hm_3.call ((Below.refl _ _).alloc (Nat.le_refl _) _)).call hb4
  have hw3 := hB_3.size
  have K0_4 : Blk w4 w.heap.size 22 #[.int .i64 x, .int .i64 y] := (Blk.call (by first | with_reducible assumption | repeat' (first | with_reducible exact Blk.new _ _ _ | with_reducible assumption | exact Blk.new' (by simp; done) | with_reducible refine Blk.alloc ?_ _ | with_reducible refine Blk.drew ?_)) hb4)
  have K1_4 : Blk w4 (w.heap.size + 1) 24 #[.int .u8 a.1, .int .u8 a.2] := (Blk.call (by first | with_reducible assumption | repeat' (first | with_reducible exact Blk.new _ _ _ | with_reducible assumption | exact Blk.new' (by simp; done) | with_reducible refine Blk.alloc ?_ _ | with_reducible refine Blk.drew ?_)) hb4)
  have K2_4 : Blk w4 (w.heap.size + 1 + 1) 24 #[.int .u8 b.1, .int .u8 b.2] := (Blk.call (by first | with_reducible assumption | repeat' (first | with_reducible exact Blk.new _ _ _ | with_reducible assumption | exact Blk.new' (by simp; done) | with_reducible refine Blk.alloc ?_ _ | with_reducible refine Blk.drew ?_)) hb4)
  have K3_4 : Blk w4 w3.heap.size 24 #[.int .u8 r1.1, .int .u8 r1.2] := (Blk.call (by first | with_reducible assumption | repeat' (first | with_reducible exact Blk.new _ _ _ | with_reducible assumption | exact Blk.new' (by simp; done) | with_reducible refine Blk.alloc ?_ _ | with_reducible refine Blk.drew ?_)) hb4)
  have hB_4 : Below w.heap.size w w4 := Q.call (by repeat' (first | with_reducible exact Below.refl _ _ | with_reducible assumption | with_reducible refine Q.alloc ?_ _ | with_reducible refine Q.drew ?_ | with_reducible refine Q.drewN ?_ _ | with_reducible refine Q.call ?_ (by assumption))) hb4
  clear hb4 hm_3 K0_3 K0_3_l K0_3_0 K0_3_1 K1_3 K1_3_l K1_3_0 K1_3_1 K2_3 K2_3_l K2_3_0 K2_3_1 hB_3
  have K0_4_0 : w4.cell? ⟨w.heap.size, 0, none⟩ = some (.int .i64 x) := K0_4.cell 0
  have K0_4_1 : w4.cell? ⟨w.heap.size, 1, none⟩ = some (.int .i64 y) := K0_4.cell 1
  have K0_4_l := K0_4.lt
  have K1_4_0 : w4.cell? ⟨w.heap.size + 1, 0, none⟩ = some (.int .u8 a.1) := K1_4.cell 0
  have K1_4_1 : w4.cell? ⟨w.heap.size + 1, 1, none⟩ = some (.int .u8 a.2) := K1_4.cell 1
  have K1_4_l := K1_4.lt
  have K2_4_0 : w4.cell? ⟨w.heap.size + 1 + 1, 0, none⟩ = some (.int .u8 b.1) := K2_4.cell 0
  have K2_4_1 : w4.cell? ⟨w.heap.size + 1 + 1, 1, none⟩ = some (.int .u8 b.2) := K2_4.cell 1
  have K2_4_l := K2_4.lt
  have K3_4_0 : w4.cell? ⟨w3.heap.size, 0, none⟩ = some (.int .u8 r1.1) := K3_4.cell 0
  have K3_4_1 : w4.cell? ⟨w3.heap.size, 1, none⟩ = some (.int .u8 r1.2) := K3_4.cell 1
  have K3_4_l := K3_4.lt
  go_wp2_with fail
  (with_reducible refine (write_calls gn f1 y b _ (hk.q (by exact hB_4)) (by exact hn_4)).mono ?_)
  rintro e w5 ⟨rfl, hn_5, hc5⟩
  rw [hf2] at hn_5
  have hm_5 := hm_4.chg hc5 (fun h => absurd (show (_ : Nat) = _ from h) (by omega))
  have K0_5 : Blk w5 w.heap.size 22 #[.int .i64 x, .int .i64 y] := (Blk.chg (by repeat' (first | with_reducible exact Blk.new _ _ _ | with_reducible assumption | exact Blk.new' (by simp; done) | with_reducible refine Blk.alloc ?_ _ | with_reducible refine Blk.drew ?_)) hc5 (fun h => absurd (show (_ : Nat) = _ from h) (by omega)))
  have K1_5 : Blk w5 (w.heap.size + 1) 24 #[.int .u8 a.1, .int .u8 a.2] := (Blk.chg (by repeat' (first | with_reducible exact Blk.new _ _ _ | with_reducible assumption | exact Blk.new' (by simp; done) | with_reducible refine Blk.alloc ?_ _ | with_reducible refine Blk.drew ?_)) hc5 (fun h => absurd (show (_ : Nat) = _ from h) (by omega)))
  have K2_5 : Blk w5 (w.heap.size + 1 + 1) 24 #[.int .u8 b.1, .int .u8 b.2] := (Blk.chg (by repeat' (first | with_reducible exact Blk.new _ _ _ | with_reducible assumption | exact Blk.new' (by simp; done) | with_reducible refine Blk.alloc ?_ _ | with_reducible refine Blk.drew ?_)) hc5 (fun h => absurd (show (_ : Nat) = _ from h) (by omega)))
  have K3_5 : Blk w5 w3.heap.size 24 #[.int .u8 r1.1, .int .u8 r1.2] := (Blk.chg (by repeat' (first | with_reducible exact Blk.new _ _ _ | with_reducible assumption | exact Blk.new' (by simp; done) | with_reducible refine Blk.alloc ?_ _ | with_reducible refine Blk.drew ?_)) hc5 (fun h => absurd (show (_ : Nat) = _ from h) (by omega)))
  have hB_5 : Below w.heap.size w w5 := Q.chg (by repeat' (first | with_reducible exact Below.refl _ _ | with_reducible assumption | with_reducible refine Q.alloc ?_ _ | with_reducible refine Q.drew ?_ | with_reducible refine Q.drewN ?_ _ | with_reducible refine Q.call ?_ (by assumption))) hc5 (by omega)
  clear hc5 hn_4 hm_4 K0_4 K0_4_l K0_4_0 K0_4_1 K1_4 K1_4_l K1_4_0 K1_4_1 K2_4 K2_4_l K2_4_0 K2_4_1 K3_4 K3_4_l K3_4_0 K3_4_1 hB_4
  have K0_5_0 : w5.cell? ⟨w.heap.size, 0, none⟩ = some (.int .i64 x) := K0_5.cell 0
  have K0_5_1 : w5.cell? ⟨w.heap.size, 1, none⟩ = some (.int .i64 y) := K0_5.cell 1
  have K0_5_l := K0_5.lt
  have K1_5_0 : w5.cell? ⟨w.heap.size + 1, 0, none⟩ = some (.int .u8 a.1) := K1_5.cell 0
  have K1_5_1 : w5.cell? ⟨w.heap.size + 1, 1, none⟩ = some (.int .u8 a.2) := K1_5.cell 1
  have K1_5_l := K1_5.lt
  have K2_5_0 : w5.cell? ⟨w.heap.size + 1 + 1, 0, none⟩ = some (.int .u8 b.1) := K2_5.cell 0
  have K2_5_1 : w5.cell? ⟨w.heap.size + 1 + 1, 1, none⟩ = some (.int .u8 b.2) := K2_5.cell 1
  have K2_5_l := K2_5.lt
  have K3_5_0 : w5.cell? ⟨w3.heap.size, 0, none⟩ = some (.int .u8 r1.1) := K3_5.cell 0
  have K3_5_1 : w5.cell? ⟨w3.heap.size, 1, none⟩ = some (.int .u8 r1.2) := K3_5.cell 1
  have K3_5_l := K3_5.lt
  go_wp2_with fail
  (with_reducible refine (read_as gn f2 y _ hr2 _ (hk.q (by exact hB_5)) (by exact hn_5)).mono ?_)
  rintro e w6 ⟨rfl, hb6⟩
  have hm_6 := hm_5.call hb6
  have hn_6 := hn_5.call hb6
  have K0_6 : Blk w6 w.heap.size 22 #[.int .i64 x, .int .i64 y] := (Blk.call (by first | with_reducible assumption | repeat' (first | with_reducible exact Blk.new _ _ _ | with_reducible assumption | exact Blk.new' (by simp; done) | with_reducible refine Blk.alloc ?_ _ | with_reducible refine Blk.drew ?_)) hb6)
  have K1_6 : Blk w6 (w.heap.size + 1) 24 #[.int .u8 a.1, .int .u8 a.2] := (Blk.call (by first | with_reducible assumption | repeat' (first | with_reducible exact Blk.new _ _ _ | with_reducible assumption | exact Blk.new' (by simp; done) | with_reducible refine Blk.alloc ?_ _ | with_reducible refine Blk.drew ?_)) hb6)
  have K2_6 : Blk w6 (w.heap.size + 1 + 1) 24 #[.int .u8 b.1, .int .u8 b.2] := (Blk.call (by first | with_reducible assumption | repeat' (first | with_reducible exact Blk.new _ _ _ | with_reducible assumption | exact Blk.new' (by simp; done) | with_reducible refine Blk.alloc ?_ _ | with_reducible refine Blk.drew ?_)) hb6)
  have K3_6 : Blk w6 w3.heap.size 24 #[.int .u8 r1.1, .int .u8 r1.2] := (Blk.call (by first | with_reducible assumption | repeat' (first | with_reducible exact Blk.new _ _ _ | with_reducible assumption | exact Blk.new' (by simp; done) | with_reducible refine Blk.alloc ?_ _ | with_reducible refine Blk.drew ?_)) hb6)
  have hB_6 : Below w.heap.size w w6 := Q.call (by repeat' (first | with_reducible exact Below.refl _ _ | with_reducible assumption | with_reducible refine Q.alloc ?_ _ | with_reducible refine Q.drew ?_ | with_reducible refine Q.drewN ?_ _ | with_reducible refine Q.call ?_ (by assumption))) hb6
  clear hb6 hm_5 hn_5 K0_5 K0_5_l K0_5_0 K0_5_1 K1_5 K1_5_l K1_5_0 K1_5_1 K2_5 K2_5_l K2_5_0 K2_5_1 K3_5 K3_5_l K3_5_0 K3_5_1 hB_5
  have K0_6_0 : w6.cell? ⟨w.heap.size, 0, none⟩ = some (.int .i64 x) := K0_6.cell 0
  have K0_6_1 : w6.cell? ⟨w.heap.size, 1, none⟩ = some (.int .i64 y) := K0_6.cell 1
  have K0_6_l := K0_6.lt
  have K1_6_0 : w6.cell? ⟨w.heap.size + 1, 0, none⟩ = some (.int .u8 a.1) := K1_6.cell 0
  have K1_6_1 : w6.cell? ⟨w.heap.size + 1, 1, none⟩ = some (.int .u8 a.2) := K1_6.cell 1
  have K1_6_l := K1_6.lt
  have K2_6_0 : w6.cell? ⟨w.heap.size + 1 + 1, 0, none⟩ = some (.int .u8 b.1) := K2_6.cell 0
  have K2_6_1 : w6.cell? ⟨w.heap.size + 1 + 1, 1, none⟩ = some (.int .u8 b.2) := K2_6.cell 1
  have K2_6_l := K2_6.lt
  have K3_6_0 : w6.cell? ⟨w3.heap.size, 0, none⟩ = some (.int .u8 r1.1) := K3_6.cell 0
  have K3_6_1 : w6.cell? ⟨w3.heap.size, 1, none⟩ = some (.int .u8 r1.2) := K3_6.cell 1
  have K3_6_l := K3_6.lt
  go_wp2_with fail
  (with_reducible refine (read_as gn f2 x _ hr3 _ (hk.q (Q.alloc hB_6 _)) (hn_6.call ((Below.refl _ _).alloc (Nat.le_refl _) _))).mono ?_)
  rintro e w7 ⟨rfl, hb7⟩
  have hm_7 := (hm_6.call ((Below.refl _ _).alloc (Nat.le_refl _) _)).call hb7
  have K0_7 : Blk w7 w.heap.size 22 #[.int .i64 x, .int .i64 y] := (Blk.call (by first | with_reducible assumption | repeat' (first | with_reducible exact Blk.new _ _ _ | with_reducible assumption | exact Blk.new' (by simp; done) | with_reducible refine Blk.alloc ?_ _ | with_reducible refine Blk.drew ?_)) hb7)
  have K1_7 : Blk w7 (w.heap.size + 1) 24 #[.int .u8 a.1, .int .u8 a.2] := (Blk.call (by first | with_reducible assumption | repeat' (first | with_reducible exact Blk.new _ _ _ | with_reducible assumption | exact Blk.new' (by simp; done) | with_reducible refine Blk.alloc ?_ _ | with_reducible refine Blk.drew ?_)) hb7)
  have K2_7 : Blk w7 (w.heap.size + 1 + 1) 24 #[.int .u8 b.1, .int .u8 b.2] := (Blk.call (by first | with_reducible assumption | repeat' (first | with_reducible exact Blk.new _ _ _ | with_reducible assumption | exact Blk.new' (by simp; done) | with_reducible refine Blk.alloc ?_ _ | with_reducible refine Blk.drew ?_)) hb7)
  have K3_7 : Blk w7 w3.heap.size 24 #[.int .u8 r1.1, .int .u8 r1.2] := (Blk.call (by first | with_reducible assumption | repeat' (first | with_reducible exact Blk.new _ _ _ | with_reducible assumption | exact Blk.new' (by simp; done) | with_reducible refine Blk.alloc ?_ _ | with_reducible refine Blk.drew ?_)) hb7)
  have K4_7 : Blk w7 w6.heap.size 24 #[.int .u8 r2.1, .int .u8 r2.2] := (Blk.call (by first | with_reducible assumption | repeat' (first | with_reducible exact Blk.new _ _ _ | with_reducible assumption | exact Blk.new' (by simp; done) | with_reducible refine Blk.alloc ?_ _ | with_reducible refine Blk.drew ?_)) hb7)
  have hB_7 : Below w.heap.size w w7 := Q.call (by repeat' (first | with_reducible exact Below.refl _ _ | with_reducible assumption | with_reducible refine Q.alloc ?_ _ | with_reducible refine Q.drew ?_ | with_reducible refine Q.drewN ?_ _ | with_reducible refine Q.call ?_ (by assumption))) hb7
  clear hb7 hm_6 hn_6 K0_6 K0_6_l K0_6_0 K0_6_1 K1_6 K1_6_l K1_6_0 K1_6_1 K2_6 K2_6_l K2_6_0 K2_6_1 K3_6 K3_6_l K3_6_0 K3_6_1 hB_6
  have K0_7_0 : w7.cell? ⟨w.heap.size, 0, none⟩ = some (.int .i64 x) := K0_7.cell 0
  have K0_7_1 : w7.cell? ⟨w.heap.size, 1, none⟩ = some (.int .i64 y) := K0_7.cell 1
  have K0_7_l := K0_7.lt
  have K1_7_0 : w7.cell? ⟨w.heap.size + 1, 0, none⟩ = some (.int .u8 a.1) := K1_7.cell 0
  have K1_7_1 : w7.cell? ⟨w.heap.size + 1, 1, none⟩ = some (.int .u8 a.2) := K1_7.cell 1
  have K1_7_l := K1_7.lt
  have K2_7_0 : w7.cell? ⟨w.heap.size + 1 + 1, 0, none⟩ = some (.int .u8 b.1) := K2_7.cell 0
  have K2_7_1 : w7.cell? ⟨w.heap.size + 1 + 1, 1, none⟩ = some (.int .u8 b.2) := K2_7.cell 1
  have K2_7_l := K2_7.lt
  have K3_7_0 : w7.cell? ⟨w3.heap.size, 0, none⟩ = some (.int .u8 r1.1) := K3_7.cell 0
  have K3_7_1 : w7.cell? ⟨w3.heap.size, 1, none⟩ = some (.int .u8 r1.2) := K3_7.cell 1
  have K3_7_l := K3_7.lt
  have K4_7_0 : w7.cell? ⟨w6.heap.size, 0, none⟩ = some (.int .u8 r2.1) := K4_7.cell 0
  have K4_7_1 : w7.cell? ⟨w6.heap.size, 1, none⟩ = some (.int .u8 r2.2) := K4_7.cell 1
  have K4_7_l := K4_7.lt
  go_wp2_with fail
  (with_reducible refine (read_as (w.heap.size + 3) f1 y _ hr1 _ (hk.q (Q.alloc hB_7 _)) (hm_7.call ((Below.refl _ _).alloc (Nat.le_refl _) _))).mono ?_)
  rintro e w8 ⟨rfl, hb8⟩
  have K0_8 : Blk w8 w.heap.size 22 #[.int .i64 x, .int .i64 y] := (Blk.call (by first | with_reducible assumption | repeat' (first | with_reducible exact Blk.new _ _ _ | with_reducible assumption | exact Blk.new' (by simp; done) | with_reducible refine Blk.alloc ?_ _ | with_reducible refine Blk.drew ?_)) hb8)
  have K1_8 : Blk w8 (w.heap.size + 1) 24 #[.int .u8 a.1, .int .u8 a.2] := (Blk.call (by first | with_reducible assumption | repeat' (first | with_reducible exact Blk.new _ _ _ | with_reducible assumption | exact Blk.new' (by simp; done) | with_reducible refine Blk.alloc ?_ _ | with_reducible refine Blk.drew ?_)) hb8)
  have K2_8 : Blk w8 (w.heap.size + 1 + 1) 24 #[.int .u8 b.1, .int .u8 b.2] := (Blk.call (by first | with_reducible assumption | repeat' (first | with_reducible exact Blk.new _ _ _ | with_reducible assumption | exact Blk.new' (by simp; done) | with_reducible refine Blk.alloc ?_ _ | with_reducible refine Blk.drew ?_)) hb8)
  have K3_8 : Blk w8 w3.heap.size 24 #[.int .u8 r1.1, .int .u8 r1.2] := (Blk.call (by first | with_reducible assumption | repeat' (first | with_reducible exact Blk.new _ _ _ | with_reducible assumption | exact Blk.new' (by simp; done) | with_reducible refine Blk.alloc ?_ _ | with_reducible refine Blk.drew ?_)) hb8)
  have K4_8 : Blk w8 w6.heap.size 24 #[.int .u8 r2.1, .int .u8 r2.2] := (Blk.call (by first | with_reducible assumption | repeat' (first | with_reducible exact Blk.new _ _ _ | with_reducible assumption | exact Blk.new' (by simp; done) | with_reducible refine Blk.alloc ?_ _ | with_reducible refine Blk.drew ?_)) hb8)
  have K5_8 : Blk w8 w7.heap.size 24 #[.int .u8 r3.1, .int .u8 r3.2] := (Blk.call (by first | with_reducible assumption | repeat' (first | with_reducible exact Blk.new _ _ _ | with_reducible assumption | exact Blk.new' (by simp; done) | with_reducible refine Blk.alloc ?_ _ | with_reducible refine Blk.drew ?_)) hb8)
  have hB_8 : Below w.heap.size w w8 := Q.call (by repeat' (first | with_reducible exact Below.refl _ _ | with_reducible assumption | with_reducible refine Q.alloc ?_ _ | with_reducible refine Q.drew ?_ | with_reducible refine Q.drewN ?_ _ | with_reducible refine Q.call ?_ (by assumption))) hb8
  clear hb8 hm_7 K0_7 K0_7_l K0_7_0 K0_7_1 K1_7 K1_7_l K1_7_0 K1_7_1 K2_7 K2_7_l K2_7_0 K2_7_1 K3_7 K3_7_l K3_7_0 K3_7_1 K4_7 K4_7_l K4_7_0 K4_7_1 hB_7
  have K0_8_0 : w8.cell? ⟨w.heap.size, 0, none⟩ = some (.int .i64 x) := K0_8.cell 0
  have K0_8_1 : w8.cell? ⟨w.heap.size, 1, none⟩ = some (.int .i64 y) := K0_8.cell 1
  have K0_8_l := K0_8.lt
  have K1_8_0 : w8.cell? ⟨w.heap.size + 1, 0, none⟩ = some (.int .u8 a.1) := K1_8.cell 0
  have K1_8_1 : w8.cell? ⟨w.heap.size + 1, 1, none⟩ = some (.int .u8 a.2) := K1_8.cell 1
  have K1_8_l := K1_8.lt
  have K2_8_0 : w8.cell? ⟨w.heap.size + 1 + 1, 0, none⟩ = some (.int .u8 b.1) := K2_8.cell 0
  have K2_8_1 : w8.cell? ⟨w.heap.size + 1 + 1, 1, none⟩ = some (.int .u8 b.2) := K2_8.cell 1
  have K2_8_l := K2_8.lt
  have K3_8_0 : w8.cell? ⟨w3.heap.size, 0, none⟩ = some (.int .u8 r1.1) := K3_8.cell 0
  have K3_8_1 : w8.cell? ⟨w3.heap.size, 1, none⟩ = some (.int .u8 r1.2) := K3_8.cell 1
  have K3_8_l := K3_8.lt
  have K4_8_0 : w8.cell? ⟨w6.heap.size, 0, none⟩ = some (.int .u8 r2.1) := K4_8.cell 0
  have K4_8_1 : w8.cell? ⟨w6.heap.size, 1, none⟩ = some (.int .u8 r2.2) := K4_8.cell 1
  have K4_8_l := K4_8.lt
  have K5_8_0 : w8.cell? ⟨w7.heap.size, 0, none⟩ = some (.int .u8 r3.1) := K5_8.cell 0
  have K5_8_1 : w8.cell? ⟨w7.heap.size, 1, none⟩ = some (.int .u8 r3.2) := K5_8.cell 1
  have K5_8_l := K5_8.lt
  clear hr1 hr2 hr3 hf1 hf2
  have T : ∀ (c d : Bool) (HY : (decide (0 ≤ y) && decide (y < 32768)) = c) (HX : (decide (0 ≤ x) && decide (x < 32768)) = d), True := fun _ _ _ _ => trivial
  clear T
  by_cases hy : errOf y = 0
  · by_cases hyr : 0 ≤ y ∧ y < 32768
    · obtain rfl := E1.out hy hyr
      have HY : (decide (0 ≤ y) && decide (y < 32768)) = true := by simp [hyr.1, hyr.2]
      by_cases hxy : x = y
      · subst hxy
        have HX := HY
        go_wp2_with (first
          | (go_at_call 12; (with_reducible refine (ram_at y _ HY _).mono ?_); rintro e w9 ⟨rfl, rfl⟩)
          | (go_at_call 12; (with_reducible refine (ram_at x _ HX _).mono ?_); rintro e w9 ⟨rfl, rfl⟩)
          | (go_at_call 13; (with_reducible refine (awake08_calls _ (hk.q (Q.alloc hB_8 _))).mono ?_); rintro e w9 ⟨rfl, hb9⟩))
        all_goals (go_returns; exact ⟨by first | rfl | (simp; done), (by repeat' (first | with_reducible exact Below.refl _ _ | with_reducible assumption | with_reducible refine Q.alloc ?_ _ | with_reducible refine Q.drew ?_ | with_reducible refine Q.drewN ?_ _ | with_reducible refine Q.call ?_ (by assumption)))⟩)
      · by_cases hx : errOf x = 0
        · by_cases hxr : 0 ≤ x ∧ x < 32768
          · obtain rfl := E3.out hxy hx hxr
            have HX : (decide (0 ≤ x) && decide (x < 32768)) = true := by simp [hxr.1, hxr.2]
            go_wp2_with (first
              | (go_at_call 12; (with_reducible refine (ram_at y _ HY _).mono ?_); rintro e w9 ⟨rfl, rfl⟩)
              | (go_at_call 12; (with_reducible refine (ram_at x _ HX _).mono ?_); rintro e w9 ⟨rfl, rfl⟩)
              | (go_at_call 13; (with_reducible refine (awake08_calls _ (hk.q (Q.alloc hB_8 _))).mono ?_); rintro e w9 ⟨rfl, hb9⟩))
            all_goals (go_returns; exact ⟨by first | rfl | (simp; done), (by repeat' (first | with_reducible exact Below.refl _ _ | with_reducible assumption | with_reducible refine Q.alloc ?_ _ | with_reducible refine Q.drew ?_ | with_reducible refine Q.drewN ?_ _ | with_reducible refine Q.call ?_ (by assumption)))⟩)
          · have HX : (decide (0 ≤ x) && decide (x < 32768)) = false := by simp; omega
            go_wp2_with (first
              | (go_at_call 12; (with_reducible refine (ram_at y _ HY _).mono ?_); rintro e w9 ⟨rfl, rfl⟩)
              | (go_at_call 12; (with_reducible refine (ram_at x _ HX _).mono ?_); rintro e w9 ⟨rfl, rfl⟩)
              | (go_at_call 13; (with_reducible refine (awake08_calls _ (hk.q (Q.alloc hB_8 _))).mono ?_); rintro e w9 ⟨rfl, hb9⟩))
            all_goals (go_returns; exact ⟨by first | rfl | (simp; done), (by repeat' (first | with_reducible exact Below.refl _ _ | with_reducible assumption | with_reducible refine Q.alloc ?_ _ | with_reducible refine Q.drew ?_ | with_reducible refine Q.drewN ?_ _ | with_reducible refine Q.call ?_ (by assumption)))⟩)
        · have HX : (decide (0 ≤ x) && decide (x < 32768)) = (decide (0 ≤ x) && decide (x < 32768)) := rfl
          go_wp2_with (first
            | (go_at_call 12; (with_reducible refine (ram_at y _ HY _).mono ?_); rintro e w9 ⟨rfl, rfl⟩)
            | (go_at_call 12; (with_reducible refine (ram_at x _ HX _).mono ?_); rintro e w9 ⟨rfl, rfl⟩)
            | (go_at_call 13; (with_reducible refine (awake08_calls _ (hk.q (Q.alloc hB_8 _))).mono ?_); rintro e w9 ⟨rfl, hb9⟩))
          all_goals (go_returns; exact ⟨by first | rfl | (simp; done), (by repeat' (first | with_reducible exact Below.refl _ _ | with_reducible assumption | with_reducible refine Q.alloc ?_ _ | with_reducible refine Q.drew ?_ | with_reducible refine Q.drewN ?_ _ | with_reducible refine Q.call ?_ (by assumption)))⟩)
    · obtain rfl := E2.out hyr
      have HY : (decide (0 ≤ y) && decide (y < 32768)) = false := by simp; omega
      by_cases hxy : x = y
      · subst hxy
        have HX := HY
        go_wp2_with (first
          | (go_at_call 12; (with_reducible refine (ram_at y _ HY _).mono ?_); rintro e w9 ⟨rfl, rfl⟩)
          | (go_at_call 12; (with_reducible refine (ram_at x _ HX _).mono ?_); rintro e w9 ⟨rfl, rfl⟩)
          | (go_at_call 13; (with_reducible refine (awake08_calls _ (hk.q (Q.alloc hB_8 _))).mono ?_); rintro e w9 ⟨rfl, hb9⟩))
        all_goals (go_returns; exact ⟨by first | rfl | (simp; done), (by repeat' (first | with_reducible exact Below.refl _ _ | with_reducible assumption | with_reducible refine Q.alloc ?_ _ | with_reducible refine Q.drew ?_ | with_reducible refine Q.drewN ?_ _ | with_reducible refine Q.call ?_ (by assumption)))⟩)
      · by_cases hx : errOf x = 0
        · by_cases hxr : 0 ≤ x ∧ x < 32768
          · obtain rfl := E3.out hxy hx hxr
            have HX : (decide (0 ≤ x) && decide (x < 32768)) = true := by simp [hxr.1, hxr.2]
            go_wp2_with (first
              | (go_at_call 12; (with_reducible refine (ram_at y _ HY _).mono ?_); rintro e w9 ⟨rfl, rfl⟩)
              | (go_at_call 12; (with_reducible refine (ram_at x _ HX _).mono ?_); rintro e w9 ⟨rfl, rfl⟩)
              | (go_at_call 13; (with_reducible refine (awake08_calls _ (hk.q (Q.alloc hB_8 _))).mono ?_); rintro e w9 ⟨rfl, hb9⟩))
            all_goals (go_returns; exact ⟨by first | rfl | (simp; done), (by repeat' (first | with_reducible exact Below.refl _ _ | with_reducible assumption | with_reducible refine Q.alloc ?_ _ | with_reducible refine Q.drew ?_ | with_reducible refine Q.drewN ?_ _ | with_reducible refine Q.call ?_ (by assumption)))⟩)
          · have HX : (decide (0 ≤ x) && decide (x < 32768)) = false := by simp; omega
            go_wp2_with (first
              | (go_at_call 12; (with_reducible refine (ram_at y _ HY _).mono ?_); rintro e w9 ⟨rfl, rfl⟩)
              | (go_at_call 12; (with_reducible refine (ram_at x _ HX _).mono ?_); rintro e w9 ⟨rfl, rfl⟩)
              | (go_at_call 13; (with_reducible refine (awake08_calls _ (hk.q (Q.alloc hB_8 _))).mono ?_); rintro e w9 ⟨rfl, hb9⟩))
            all_goals (go_returns; exact ⟨by first | rfl | (simp; done), (by repeat' (first | with_reducible exact Below.refl _ _ | with_reducible assumption | with_reducible refine Q.alloc ?_ _ | with_reducible refine Q.drew ?_ | with_reducible refine Q.drewN ?_ _ | with_reducible refine Q.call ?_ (by assumption)))⟩)
        · have HX : (decide (0 ≤ x) && decide (x < 32768)) = (decide (0 ≤ x) && decide (x < 32768)) := rfl
          go_wp2_with (first
            | (go_at_call 12; (with_reducible refine (ram_at y _ HY _).mono ?_); rintro e w9 ⟨rfl, rfl⟩)
            | (go_at_call 12; (with_reducible refine (ram_at x _ HX _).mono ?_); rintro e w9 ⟨rfl, rfl⟩)
            | (go_at_call 13; (with_reducible refine (awake08_calls _ (hk.q (Q.alloc hB_8 _))).mono ?_); rintro e w9 ⟨rfl, hb9⟩))
          all_goals (go_returns; exact ⟨by first | rfl | (simp; done), (by repeat' (first | with_reducible exact Below.refl _ _ | with_reducible assumption | with_reducible refine Q.alloc ?_ _ | with_reducible refine Q.drew ?_ | with_reducible refine Q.drewN ?_ _ | with_reducible refine Q.call ?_ (by assumption)))⟩)
  · have HY : (decide (0 ≤ y) && decide (y < 32768)) = (decide (0 ≤ y) && decide (y < 32768)) := rfl
    by_cases hxy : x = y
    · subst hxy
      have HX := HY
      go_wp2_with (first
        | (go_at_call 12; (with_reducible refine (ram_at y _ HY _).mono ?_); rintro e w9 ⟨rfl, rfl⟩)
        | (go_at_call 12; (with_reducible refine (ram_at x _ HX _).mono ?_); rintro e w9 ⟨rfl, rfl⟩)
        | (go_at_call 13; (with_reducible refine (awake08_calls _ (hk.q (Q.alloc hB_8 _))).mono ?_); rintro e w9 ⟨rfl, hb9⟩))
      all_goals (go_returns; exact ⟨by first | rfl | (simp; done), (by repeat' (first | with_reducible exact Below.refl _ _ | with_reducible assumption | with_reducible refine Q.alloc ?_ _ | with_reducible refine Q.drew ?_ | with_reducible refine Q.drewN ?_ _ | with_reducible refine Q.call ?_ (by assumption)))⟩)
    · by_cases hx : errOf x = 0
      · by_cases hxr : 0 ≤ x ∧ x < 32768
        · obtain rfl := E3.out hxy hx hxr
          have HX : (decide (0 ≤ x) && decide (x < 32768)) = true := by simp [hxr.1, hxr.2]
          go_wp2_with (first
            | (go_at_call 12; (with_reducible refine (ram_at y _ HY _).mono ?_); rintro e w9 ⟨rfl, rfl⟩)
            | (go_at_call 12; (with_reducible refine (ram_at x _ HX _).mono ?_); rintro e w9 ⟨rfl, rfl⟩)
            | (go_at_call 13; (with_reducible refine (awake08_calls _ (hk.q (Q.alloc hB_8 _))).mono ?_); rintro e w9 ⟨rfl, hb9⟩))
          all_goals (go_returns; exact ⟨by first | rfl | (simp; done), (by repeat' (first | with_reducible exact Below.refl _ _ | with_reducible assumption | with_reducible refine Q.alloc ?_ _ | with_reducible refine Q.drew ?_ | with_reducible refine Q.drewN ?_ _ | with_reducible refine Q.call ?_ (by assumption)))⟩)
        · have HX : (decide (0 ≤ x) && decide (x < 32768)) = false := by simp; omega
          go_wp2_with (first
            | (go_at_call 12; (with_reducible refine (ram_at y _ HY _).mono ?_); rintro e w9 ⟨rfl, rfl⟩)
            | (go_at_call 12; (with_reducible refine (ram_at x _ HX _).mono ?_); rintro e w9 ⟨rfl, rfl⟩)
            | (go_at_call 13; (with_reducible refine (awake08_calls _ (hk.q (Q.alloc hB_8 _))).mono ?_); rintro e w9 ⟨rfl, hb9⟩))
          all_goals (go_returns; exact ⟨by first | rfl | (simp; done), (by repeat' (first | with_reducible exact Below.refl _ _ | with_reducible assumption | with_reducible refine Q.alloc ?_ _ | with_reducible refine Q.drew ?_ | with_reducible refine Q.drewN ?_ _ | with_reducible refine Q.call ?_ (by assumption)))⟩)
      · have HX : (decide (0 ≤ x) && decide (x < 32768)) = (decide (0 ≤ x) && decide (x < 32768)) := rfl
        go_wp2_with (first
          | (go_at_call 12; (with_reducible refine (ram_at y _ HY _).mono ?_); rintro e w9 ⟨rfl, rfl⟩)
          | (go_at_call 12; (with_reducible refine (ram_at x _ HX _).mono ?_); rintro e w9 ⟨rfl, rfl⟩)
          | (go_at_call 13; (with_reducible refine (awake08_calls _ (hk.q (Q.alloc hB_8 _))).mono ?_); rintro e w9 ⟨rfl, hb9⟩))
        all_goals (go_returns; exact ⟨by first | rfl | (simp; done), (by repeat' (first | with_reducible exact Below.refl _ _ | with_reducible assumption | with_reducible refine Q.alloc ?_ _ | with_reducible refine Q.drew ?_ | with_reducible refine Q.drewN ?_ _ | with_reducible refine Q.call ?_ (by assumption)))⟩)
end Go.Proofs.YtjjebkgljgfecaaDoor
