/- A memory as a function of addresses; the walks of kind, check, New, Write, Read, Clone. -/
import Derived.Test.YtggnkkmlabhofaaDoorMem0
namespace Go.Proofs.YtggnkkmlabhofaaDoor
set_option linter.unusedVariables false
set_option linter.unusedSimpArgs false
open Go.RowKit

/-- The table of kinds, as the program lays it: block 0. -/
structure KIN (w : World) : Prop where
  k0 : w.cell? ⟨1, 0, none⟩ = some (.int .i64 0)
  k1 : w.cell? ⟨1, 1, none⟩ = some (.int .i64 32768)
  k2 : w.cell? ⟨1, 2, none⟩ = some (.int .i64 32784)
  k3 : w.cell? ⟨1, 3, none⟩ = some (.int .i64 49152)
  k4 : w.cell? ⟨1, 4, none⟩ = some (.int .i64 65536)
theorem KIN.lt {w : World} (h : KIN w) : 1 < w.heap.size := World.block_lt_of_cell? w _ h.k0
theorem KIN.chg {S : Nat → Prop} {w w' : World} (h : KIN w) (hc : Chg S w w') (hs : ¬ S 1) : KIN w' :=
  ⟨(hc.cell h.lt hs _).trans h.k0, (hc.cell h.lt hs _).trans h.k1, (hc.cell h.lt hs _).trans h.k2, (hc.cell h.lt hs _).trans h.k3, (hc.cell h.lt hs _).trans h.k4⟩
theorem KIN.below {B : Nat} {w w' : World} (h : KIN w) (hb : Below B w w') (hB : 1 < B) : KIN w' :=
  ⟨(hb.cell (p := ⟨1, _, none⟩) hB).trans h.k0, (hb.cell (p := ⟨1, _, none⟩) hB).trans h.k1, (hb.cell (p := ⟨1, _, none⟩) hB).trans h.k2, (hb.cell (p := ⟨1, _, none⟩) hB).trans h.k3, (hb.cell (p := ⟨1, _, none⟩) hB).trans h.k4⟩

/-- Where an address's kind begins; -1: it is none. -/
def kindOf (x : Int) : Int := if x < 0 then -1 else if x < 32768 then 0 else if x < 32784 then 32768 else if x < 49152 then 32784 else if x < 65536 then 49152 else -1
def kindFrom (k : Nat) : Int := if k = 0 then 0 else if k = 1 then 32768 else if k = 2 then 32784 else if k = 3 then 49152 else 65536
/-- Behind k of the kinds. -/
def kindTo (x : Int) : Nat → Int
  | 0 => -1
  | k + 1 => if x < kindFrom k ∨ kindFrom (k + 1) ≤ x then kindTo x k else kindFrom k
theorem kindTo_four (x : Int) : kindTo x 4 = kindOf x := by
  simp only [kindTo, kindFrom, kindOf, show (0:Nat) + 1 = 1 from rfl, show (1:Nat) + 1 = 2 from rfl, show (2:Nat) + 1 = 3 from rfl, show (3:Nat) + 1 = 4 from rfl, if_pos, show ¬ ((1:Nat) = 0) by decide, show ¬ ((2:Nat) = 0) by decide, show ¬ ((2:Nat) = 1) by decide, show ¬ ((3:Nat) = 0) by decide, show ¬ ((3:Nat) = 1) by decide, show ¬ ((3:Nat) = 2) by decide, show ¬ ((4:Nat) = 0) by decide, show ¬ ((4:Nat) = 1) by decide, show ¬ ((4:Nat) = 2) by decide, show ¬ ((4:Nat) = 3) by decide, if_false]
  repeat' split
  all_goals omega

theorem kt_lo {x : Int} {k : Nat} (h : x < kindFrom k) : kindTo x (k + 1) = kindTo x k := by rw [kindTo, if_pos (.inl h)]
theorem kt_hi {x : Int} {k : Nat} (h : kindFrom (k + 1) ≤ x) : kindTo x (k + 1) = kindTo x k := by rw [kindTo, if_pos (.inr h)]
theorem kt_in {x : Int} {k : Nat} (h : kindFrom k ≤ x) (h2 : x < kindFrom (k + 1)) : kindTo x (k + 1) = kindFrom k := by rw [kindTo, if_neg (by omega)]

set_option maxHeartbeats 800000 in
theorem kind_calls (x : Int) (w : World) (hk : KIN w) :
    Calls Tryd.prog 56 #[.int .i64 x] w fun e w' => e = .returned (.int .i64 (kindOf x)) ∧ w' = w := by
  obtain ⟨k0, k1, k2, k3, k4⟩ := hk
  go_enter Tryd.func56, Tryd.ntmps56
  go_wp2
  go_step3
  go_wp2
  go_step3
  go_wp2
  go_loopw [3, 8] (fun m v wr => ∃ (k : Nat), k ≤ 4 ∧ m = .int .i64 (kindTo x k) ∧ v = .int .i64 (k : Int) ∧ wr = w)
    (fun _ v _ => 4 - (intOf v).toNat)
  case atStart => exact ⟨0, by omega, rfl, rfl, rfl⟩
  case round =>
    obtain ⟨k, hk4, rfl, rfl, rfl⟩ := hrel
    have hcase : k = 0 ∨ k = 1 ∨ k = 2 ∨ k = 3 ∨ k = 4 := by omega
    rcases hcase with rfl | rfl | rfl | rfl | rfl
    · go_wp2
      all_goals exact ⟨⟨1, by omega, by (first | exact congrArg (Value.int .i64) (kt_lo (k := 0) (by simp [kindFrom]; omega)).symm | exact congrArg (Value.int .i64) (kt_hi (k := 0) (by simp [kindFrom]; omega)).symm | exact congrArg (Value.int .i64) (kt_in (k := 0) (by simp [kindFrom]; omega) (by simp [kindFrom]; omega)).symm), rfl, trivial⟩, by simp [intOf]⟩
    · go_wp2
      all_goals exact ⟨⟨2, by omega, by (first | exact congrArg (Value.int .i64) (kt_lo (k := 1) (by simp [kindFrom]; omega)).symm | exact congrArg (Value.int .i64) (kt_hi (k := 1) (by simp [kindFrom]; omega)).symm | exact congrArg (Value.int .i64) (kt_in (k := 1) (by simp [kindFrom]; omega) (by simp [kindFrom]; omega)).symm), rfl, trivial⟩, by simp [intOf]⟩
    · go_wp2
      all_goals exact ⟨⟨3, by omega, by (first | exact congrArg (Value.int .i64) (kt_lo (k := 2) (by simp [kindFrom]; omega)).symm | exact congrArg (Value.int .i64) (kt_hi (k := 2) (by simp [kindFrom]; omega)).symm | exact congrArg (Value.int .i64) (kt_in (k := 2) (by simp [kindFrom]; omega) (by simp [kindFrom]; omega)).symm), rfl, trivial⟩, by simp [intOf]⟩
    · go_wp2
      all_goals exact ⟨⟨4, by omega, by (first | exact congrArg (Value.int .i64) (kt_lo (k := 3) (by simp [kindFrom]; omega)).symm | exact congrArg (Value.int .i64) (kt_hi (k := 3) (by simp [kindFrom]; omega)).symm | exact congrArg (Value.int .i64) (kt_in (k := 3) (by simp [kindFrom]; omega) (by simp [kindFrom]; omega)).symm), rfl, trivial⟩, by simp [intOf]⟩
    · go_wp2
      rw [kindTo_four]
      go_wp2
      rw [Exit.noGoto_ret]
      go_returns
      exact ⟨rfl, rfl⟩

set_option maxHeartbeats 400000 in
theorem check_calls (x : Int) (w : World) (hk : KIN w) :
    Calls Tryd.prog 55 #[.int .i64 x] w fun e w' => e = .returned (.int .i64 (if kindOf x = -1 then 10 else if kindOf x = 32768 then 15 else 0)) ∧ w' = w := by
  have K := kind_calls x w hk
  by_cases h1 : kindOf x = -1
  · rw [h1] at K ⊢
    simp only [if_true]
    go_enter Tryd.func55, Tryd.ntmps55
    go_wp2_with (go_at_call 56; (with_reducible refine K.mono ?_); rintro e w1 ⟨rfl, rfl⟩)
    go_returns
    exact ⟨rfl, rfl⟩
  · rw [if_neg h1]
    by_cases h2 : kindOf x = 32768
    · rw [h2] at K ⊢
      simp only [if_true]
      go_enter Tryd.func55, Tryd.ntmps55
      go_wp2_with (go_at_call 56; (with_reducible refine K.mono ?_); rintro e w1 ⟨rfl, rfl⟩)
      go_returns
      exact ⟨rfl, rfl⟩
    · rw [if_neg h2]
      have b1 : (kindOf x == -1) = false := by simpa using h1
      have b2 : (kindOf x == 32768) = false := by simpa using h2
      go_enter Tryd.func55, Tryd.ntmps55
      go_wp2_with (go_at_call 56; (with_reducible refine K.mono ?_); rintro e w1 ⟨rfl, rfl⟩)
      go_returns
      exact ⟨rfl, rfl⟩

/-- A memory: its block g holds the bytes f. -/
structure Mem (w : World) (g : Nat) (f : Nat → Int × Int) : Prop where
  blk : ∃ M : Array Value, M.size = 131072 ∧ Blk w g 108 M ∧ ∀ k, k < 65536 → M[k * 2]? = some (.int .u8 (f k).1) ∧ M[k * 2 + 1]? = some (.int .u8 (f k).2)
theorem Mem.lt {w : World} {g : Nat} {f : Nat → Int × Int} (h : Mem w g f) : g < w.heap.size := by
  obtain ⟨M, _, hb, _⟩ := h.blk
  exact hb.lt
theorem Mem.chg {S : Nat → Prop} {w w' : World} {g : Nat} {f : Nat → Int × Int} (h : Mem w g f) (hc : Chg S w w') (hg : ¬ S g) : Mem w' g f := by
  obtain ⟨M, h1, hb, h2⟩ := h.blk
  exact ⟨M, h1, hb.chg hc hg, h2⟩
theorem Mem.call {w w' : World} {g : Nat} {f : Nat → Int × Int} (h : Mem w g f) (hc : Below w.heap.size w w') : Mem w' g f := h.chg (S := fun _ => False) (.of hc) (fun h => h)
theorem Mem.at_ {w : World} {g : Nat} {f : Nat → Int × Int} (h : Mem w g f) {k : Nat} (hk : k < 65536) :
    w.cell? ⟨g, k * 2, none⟩ = some (.int .u8 (f k).1) ∧ w.cell? ⟨g, k * 2 + 1, none⟩ = some (.int .u8 (f k).2) := by
  obtain ⟨M, _, hb, h2⟩ := h.blk
  exact ⟨(hb.cell _).trans (h2 k hk).1, (hb.cell _).trans (h2 k hk).2⟩

/-- One byte is another one. -/
def upd (f : Nat → Int × Int) (x : Int) (b : Int × Int) : Nat → Int × Int := fun k => if (k : Int) = x then b else f k
theorem Mem.set {w : World} {g : Nat} {f : Nat → Int × Int} (h : Mem w g f) {k : Nat} (hk : k < 65536) (b : Int × Int) :
    Mem ((w.setCell ⟨g, k * 2, none⟩ (.int .u8 b.1)).setCell ⟨g, k * 2 + 1, none⟩ (.int .u8 b.2)) g (upd f k b) := by
  obtain ⟨M, h1, hb, h2⟩ := h.blk
  refine ⟨(M.setIfInBounds (k * 2) (.int .u8 b.1)).setIfInBounds (k * 2 + 1) (.int .u8 b.2), by simp [h1], ?_, fun j hj => ?_⟩
  · rw [hb.setCell, hb.setCell_setRow]
    exact hb.setRow _
  · unfold upd
    by_cases e : j = k
    · subst e
      simp [Array.getElem?_setIfInBounds, h1]
      omega
    · have e1 : ¬ ((j : Int) = k) := by omega
      have hh := h2 j hj
      simp only [e1, if_false, Array.getElem?_setIfInBounds, Array.size_setIfInBounds, show ¬ (k * 2 + 1 = j * 2) by omega, show ¬ (k * 2 = j * 2) by omega, show ¬ (k * 2 + 1 = j * 2 + 1) by omega, show ¬ (k * 2 = j * 2 + 1) by omega]
      exact hh
end Go.Proofs.YtggnkkmlabhofaaDoor
