/- The walks of Load where it refuses, and of Label. -/
import Derived.Test.YtggnkkmlabhofaaDoorMem5
namespace Go.Proofs.YtggnkkmlabhofaaDoor
set_option linter.unusedVariables false
set_option linter.unusedSimpArgs false
open Go.RowKit

/-- What is wrong with a load of n bytes. -/
def loadErr (x : Int) (n : Nat) : Int := if loadsOf x = true ∧ n ≤ 65536 ∧ spanOf x (x + max 0 ((n : Int) - 1)) = 0 then 0 else 10
theorem span_two (x y : Int) : spanOf x y = 0 ∨ spanOf x y = 10 := by unfold spanOf; split <;> simp

set_option maxHeartbeats 800000 in
theorem load_bad (g : Nat) (x : Int) (a : Option Addr) (n ca : Nat) (w : World) (hk : KIN w) (h : loadErr x n = 10) :
    Calls Tryd.prog 32 #[.pointer (some ⟨g, 0, none⟩), .int .i64 x, .slice a n ca] w fun e w' => e = .returned (.int .i64 10) ∧ w = w' := by
  have L := loads_calls x w hk
  cases hx : loadsOf x with
  | false =>
    rw [hx] at L
    go_enter Tryd.func32, Tryd.ntmps32
    go_wp2_with (go_at_call 58; (with_reducible refine L.mono ?_); rintro e w1 ⟨rfl, hw1⟩; obtain rfl := hw1.symm)
    go_returns
    exact ⟨rfl, rfl⟩
  | true =>
    rw [hx] at L
    by_cases hn : n ≤ 65536
    · have hn' : ¬ (65536 < (n : Int)) := by omega
      have hb := loads_bounds hx
      have hs : spanOf x (x + max 0 ((n : Int) - 1)) = 10 := by
        rcases span_two x (x + max 0 ((n : Int) - 1)) with e | e
        · unfold loadErr at h
          rw [if_pos ⟨hx, hn, e⟩] at h
          cases h
        · exact e
      have hn1 : 0 < (n : Int) - 1 := by
        rcases Int.lt_or_le 0 ((n : Int) - 1) with h0 | h0
        · exact h0
        · rw [show max 0 ((n : Int) - 1) = 0 by omega, Int.add_zero] at hs
          unfold spanOf at hs
          rw [if_pos ⟨Int.le_refl _, hx, rfl⟩] at hs
          cases hs
      have S : Calls Tryd.prog 59 #[.int .i64 x, .int .i64 (x + ((n : Int) - 1))] w fun e w' => e = .returned (.int .i64 10) ∧ w' = w := by
        have S := span_calls x (x + max 0 ((n : Int) - 1)) w hk
        rw [hs, show max 0 ((n : Int) - 1) = (n : Int) - 1 by omega] at S
        exact S
      have hb := Lib.hid hb
      clear hs
      go_enter Tryd.func32, Tryd.ntmps32
      have hb := hb.out
      go_wp2_with (first
        | (go_at_call 58; (with_reducible refine L.mono ?_); rintro e w1 ⟨rfl, hw1⟩; obtain rfl := hw1.symm)
        | (go_at_call 59; (with_reducible refine S.mono ?_); rintro e w1 ⟨rfl, hw1⟩; obtain rfl := hw1.symm))
      all_goals (go_returns; exact ⟨rfl, rfl⟩)
    · have hn' : 65536 < (n : Int) := by omega
      go_enter Tryd.func32, Tryd.ntmps32
      go_wp2_with (go_at_call 58; (with_reducible refine L.mono ?_); rintro e w1 ⟨rfl, hw1⟩; obtain rfl := hw1.symm)
      go_returns
      exact ⟨rfl, rfl⟩

theorem load_calls (g : Nat) (f : Nat → Int × Int) (x : Int) (B : Nat) (a : Option Addr) (ca : Nat) (l : List Int) (w : World) (hk : KIN w) (hm : Mem w g f) (hr : ReadsU w B a l.length l) (hB : B ≤ g) :
    Calls Tryd.prog 32 #[.pointer (some ⟨g, 0, none⟩), .int .i64 x, .slice a l.length ca] w fun e w' => e = .returned (.int .i64 (loadErr x l.length)) ∧ Mem w' g (if loadErr x l.length = 0 then loaded f x l l.length else f) ∧ Chg (· = g) w w' := by
  by_cases h : loadsOf x = true ∧ l.length ≤ 65536 ∧ spanOf x (x + max 0 ((l.length : Int) - 1)) = 0
  · have e : loadErr x l.length = 0 := by unfold loadErr; rw [if_pos h]
    rw [e, if_pos rfl]
    exact load_ok g f x B a ca l w hk hm hr hB h.2.1 h.1 h.2.2
  · have e : loadErr x l.length = 10 := by unfold loadErr; rw [if_neg h]
    rw [e, if_neg (by decide)]
    exact (load_bad g x a l.length ca w hk e).mono fun e' w' ⟨he, hw⟩ => ⟨he, by rw [← hw]; exact hm, by rw [← hw]; exact .refl _ _⟩

/-- One byte's secret bits are others. -/
def setT (f : Nat → Int × Int) (x : Int) (t : Int) : Nat → Int × Int := fun k => if (k : Int) = x then ((f k).1, t) else f k
theorem Mem.setT {w : World} {g : Nat} {f : Nat → Int × Int} (h : Mem w g f) {k : Nat} (hk : k < 65536) (t : Int) :
    Mem (w.setCell ⟨g, k * 2 + 1, none⟩ (.int .u8 t)) g (setT f k t) := by
  obtain ⟨M, h1, hb, h2⟩ := h.blk
  refine ⟨M.setIfInBounds (k * 2 + 1) (.int .u8 t), by simp [h1], ?_, fun j hj => ?_⟩
  · rw [hb.setCell]
    exact hb.setRow _
  · have hh := h2 j hj
    unfold YtggnkkmlabhofaaDoor.setT
    by_cases e : j = k
    · subst e
      simp only [if_true, Array.getElem?_setIfInBounds, h1, show ¬ (j * 2 + 1 = j * 2) by omega, if_false, if_pos (show j * 2 + 1 < 131072 by omega)]
      exact ⟨hh.1, trivial⟩
    · have e1 : ¬ ((j : Int) = k) := by omega
      simp only [e1, if_false, Array.getElem?_setIfInBounds, show ¬ (k * 2 + 1 = j * 2) by omega, show ¬ (k * 2 + 1 = j * 2 + 1) by omega]
      exact hh

/-- Behind n steps of a label. -/
def labelled (f : Nat → Int × Int) (x : Int) (t : Int) : Nat → Nat → Int × Int
  | 0 => f
  | n + 1 => setT (labelled f x t n) (x + n) t

set_option maxHeartbeats 800000 in
theorem label_bad (g : Nat) (x y t : Int) (w : World) (hk : KIN w) (h : spanOf x y = 10) :
    Calls Tryd.prog 63 #[.pointer (some ⟨g, 0, none⟩), .int .i64 x, .int .i64 y, .int .u8 t] w fun e w' => e = .returned (.int .i64 10) ∧ w = w' := by
  have S := span_calls x y w hk
  rw [h] at S
  go_enter Tryd.func63, Tryd.ntmps63
  go_wp2_with (go_at_call 59; (with_reducible refine S.mono ?_); rintro e w1 ⟨rfl, hw1⟩; obtain rfl := hw1.symm)
  go_returns
  exact ⟨rfl, rfl⟩

set_option maxHeartbeats 1600000 in
theorem label_ok (g : Nat) (f : Nat → Int × Int) (x y t : Int) (w : World) (hk : KIN w) (hm : Mem w g f) (h : spanOf x y = 0) :
    Calls Tryd.prog 63 #[.pointer (some ⟨g, 0, none⟩), .int .i64 x, .int .i64 y, .int .u8 t] w fun e w' => e = .returned (.int .i64 0) ∧ Mem w' g (labelled f x t (y - x + 1).toNat) ∧ Chg (· = g) w w' := by
  have S := span_calls x y w hk
  rw [h] at S
  obtain ⟨hxy, hbd⟩ := span_ok h
  have HB := Lib.hid hbd
  clear hbd h
  go_enter Tryd.func63, Tryd.ntmps63
  go_wp2_with (go_at_call 59; (with_reducible refine S.mono ?_); rintro e w1 ⟨rfl, hw1⟩; obtain rfl := hw1.symm)
  go_loopw [10] (fun v wr => ∃ k : Nat, v = .int .i64 (x + (k : Int)) ∧ (k : Int) ≤ y - x + 1 ∧ Mem wr g (labelled f x t k) ∧ Chg (· = g) w wr)
    (fun v _ => (y + 1 - intOf v).toNat)
  case atStart => exact ⟨0, by simp, by omega, hm, .refl _ _⟩
  case round =>
    obtain ⟨k, rfl, hkl, hmr, hcr⟩ := hrel
    have hb := HB.out
    by_cases h1 : x + (k : Int) ≤ y
    · obtain ⟨c0, c1⟩ := hmr.at_ (show (x + k).toNat < 65536 by omega)
      obtain ⟨M, hMs, hMb, hMf⟩ := hmr.blk
      have f1 := hMb.frozen ((x + k).toNat * 2 + 1)
      have hglt := hmr.lt
      clear hMb hMf hMs
      have hki0 : 0 ≤ x + (k : Int) := by omega
      have hki : x + (k : Int) < 65536 := by omega
      clear hb
      go_wp2
      have hset := hmr.setT (k := (x + k).toNat) (by omega) t
      have hl1 : labelled f x t (k + 1) = setT (labelled f x t k) (((x + k).toNat : Nat) : Int) t := by
        rw [labelled, Int.toNat_of_nonneg hki0]
      refine ⟨⟨k + 1, by simp; omega, by omega, by rw [hl1]; exact hset, hcr.trans ?_⟩, by simp [intOf]; omega⟩
      exact ⟨rfl, rfl, rfl, by simp, fun c hc hne => Below.heap_setCell _ _ _ c (fun h => hne h)⟩
    · have hk2 : (y - x + 1).toNat = k := by omega
      clear hb
      go_wp2
      go_returns
      first | exact ⟨rfl, hmr, hcr⟩ | exact ⟨rfl, by rw [hk2]; exact hmr, hcr⟩

theorem label_calls (g : Nat) (f : Nat → Int × Int) (x y t : Int) (w : World) (hk : KIN w) (hm : Mem w g f) :
    Calls Tryd.prog 63 #[.pointer (some ⟨g, 0, none⟩), .int .i64 x, .int .i64 y, .int .u8 t] w fun e w' => e = .returned (.int .i64 (spanOf x y)) ∧ Mem w' g (if spanOf x y = 0 then labelled f x t (y - x + 1).toNat else f) ∧ Chg (· = g) w w' := by
  rcases span_two x y with h | h
  · rw [h, if_pos rfl]
    exact label_ok g f x y t w hk hm h
  · rw [h, if_neg (by decide)]
    exact (label_bad g x y t w hk h).mono fun e' w' ⟨he, hw⟩ => ⟨he, by rw [← hw]; exact hm, by rw [← hw]; exact .refl _ _⟩
end Go.Proofs.YtggnkkmlabhofaaDoor
