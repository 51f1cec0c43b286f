/- The walks of loads, span, Load. -/
import Derived.Test.YtggnkkmlabhofaaDoorMem3
import Derived.Deep.RegionWith
namespace Go.Proofs.YtggnkkmlabhofaaDoor
set_option linter.unusedVariables false
set_option linter.unusedSimpArgs false
open Go.RowKit

/-- Is an address one of RAM, or of ROM? -/
def loadsOf (x : Int) : Bool := decide (kindOf x = 0) || decide (kindOf x = 49152)
/-- What is wrong with addresses from one to another one. -/
def spanOf (x y : Int) : Int := if x ≤ y ∧ loadsOf x = true ∧ kindOf x = kindOf y then 0 else 10

theorem kind_five (x : Int) : kindOf x = -1 ∨ kindOf x = 0 ∨ kindOf x = 32768 ∨ kindOf x = 32784 ∨ kindOf x = 49152 := by
  unfold kindOf
  repeat' split
  all_goals simp

set_option maxHeartbeats 400000 in
theorem loads_calls (x : Int) (w : World) (hk : KIN w) :
    Calls Tryd.prog 58 #[.int .i64 x] w fun e w' => e = .returned (.bool (loadsOf x)) ∧ w' = w := by
  have K := kind_calls x w hk
  unfold loadsOf
  rcases kind_five x with h | h | h | h | h
  all_goals
    rw [h] at K ⊢
    go_enter Tryd.func58, Tryd.ntmps58
    go_wp2_with (go_at_call 56; (with_reducible refine K.mono ?_); rintro e w1 ⟨rfl, rfl⟩)
    go_returns
    exact ⟨rfl, rfl⟩

set_option maxHeartbeats 800000 in
theorem span_calls (x y : Int) (w : World) (hk : KIN w) :
    Calls Tryd.prog 59 #[.int .i64 x, .int .i64 y] w fun e w' => e = .returned (.int .i64 (spanOf x y)) ∧ w' = w := by
  have L := loads_calls x w hk
  have K := kind_calls x w hk
  have K2 := kind_calls y w hk
  unfold spanOf
  by_cases h1 : x ≤ y
  · have h1' : ¬ y < x := by omega
    cases h2 : loadsOf x with
    | false =>
      rw [h2] at L
      simp only [h1, true_and, Bool.false_eq_true, false_and, if_false]
      go_enter Tryd.func59, Tryd.ntmps59
      go_wp2_with (go_at_call 58; (with_reducible refine L.mono ?_); rintro e w1 ⟨rfl, rfl⟩)
      go_returns
      exact ⟨rfl, rfl⟩
    | true =>
      rw [h2] at L
      by_cases h3 : kindOf x = kindOf y
      · rw [← h3] at K2 ⊢
        simp only [h1, true_and, if_true, and_self]
        go_enter Tryd.func59, Tryd.ntmps59
        go_wp2_with (first
          | (go_at_call 58; (with_reducible refine L.mono ?_); rintro e w1 ⟨rfl, rfl⟩)
          | (go_at_call 56; (with_reducible refine K.mono ?_); rintro e w1 ⟨rfl, rfl⟩)
          | (go_at_call 56; (with_reducible refine K2.mono ?_); rintro e w1 ⟨rfl, rfl⟩))
        go_returns
        exact ⟨rfl, rfl⟩
      · have h3' : (kindOf x == kindOf y) = false := by simpa using h3
        simp only [h1, true_and, h3, if_false]
        go_enter Tryd.func59, Tryd.ntmps59
        go_wp2_with (first
          | (go_at_call 58; (with_reducible refine L.mono ?_); rintro e w1 ⟨rfl, rfl⟩)
          | (go_at_call 56; (with_reducible refine K.mono ?_); rintro e w1 ⟨rfl, rfl⟩)
          | (go_at_call 56; (with_reducible refine K2.mono ?_); rintro e w1 ⟨rfl, rfl⟩))
        go_returns
        exact ⟨rfl, rfl⟩
  · have h1' : y < x := by omega
    simp only [h1, false_and, if_false]
    go_enter Tryd.func59, Tryd.ntmps59
    go_wp2
    go_returns
    exact ⟨rfl, rfl⟩

theorem loads_bounds {x : Int} (h : loadsOf x = true) : (0 ≤ x ∧ x < 32768) ∨ (49152 ≤ x ∧ x < 65536) := by
  unfold loadsOf kindOf at h
  repeat' split at h
  all_goals first | omega | simp at h
theorem span_ok {x y : Int} (h : spanOf x y = 0) : x ≤ y ∧ ((0 ≤ x ∧ y < 32768) ∨ (49152 ≤ x ∧ y < 65536)) := by
  unfold spanOf at h
  by_cases hc : x ≤ y ∧ loadsOf x = true ∧ kindOf x = kindOf y
  · refine ⟨hc.1, ?_⟩
    have h1 := loads_bounds hc.2.1
    have h2 := hc.2.2
    unfold kindOf at h2
    repeat' split at h2
    all_goals omega
  · rw [if_neg hc] at h; cases h

/-- A slice of bytes that is read: len bytes from an address of block b < B. -/
def ReadsU (w : World) (B : Nat) (a : Option Addr) (len : Nat) (l : List Int) : Prop :=
  l.length = len ∧ (∀ v ∈ l, 0 ≤ v ∧ v < 256) ∧ (0 < len → ∃ b off, a = some ⟨b, off, none⟩ ∧ b < B ∧ ∀ (k : Nat) (v : Int), l[k]? = some v → w.cell? ⟨b, off + k, none⟩ = some (.int .u8 v))
theorem ReadsU.keep {w w' : World} {B : Nat} {a : Option Addr} {len : Nat} {l : List Int} (h : ReadsU w B a len l) (hb : ∀ b o, b < B → w'.cell? ⟨b, o, none⟩ = w.cell? ⟨b, o, none⟩) : ReadsU w' B a len l := by
  refine ⟨h.1, h.2.1, fun hl => ?_⟩
  obtain ⟨b, off, rfl, hlt, hc⟩ := h.2.2 hl
  exact ⟨b, off, rfl, hlt, fun k r hk => (hb b _ hlt).trans (hc k r hk)⟩

/-- What a memory holds behind k bytes of a load. -/
def loaded (f : Nat → Int × Int) (x : Int) (l : List Int) : Nat → Nat → Int × Int
  | 0 => f
  | k + 1 => upd (loaded f x l k) (x + k) (l[k]?.getD 0, 0)

theorem wrap_i64 (n : Int) (h0 : -9223372036854775808 ≤ n) (h1 : n ≤ 9223372036854775807) : IntKind.i64.wrap n = n := by
  unfold IntKind.wrap
  simp only [IntKind.bits, IntKind.signed, Bool.true_and, decide_eq_true_eq, ge_iff_le, Nat.reduceSub, Int.reducePow]
  split <;> omega

set_option maxRecDepth 100000 in
set_option maxHeartbeats 1600000 in
theorem load_ok (g : Nat) (f : Nat → Int × Int) (x : Int) (B : Nat) (a : Option Addr) (ca : Nat) (l : List Int) (w : World) (hk : KIN w) (hm : Mem w g f) (hr : ReadsU w B a l.length l) (hB : B ≤ g)
    (hl : l.length ≤ 65536) (hx : loadsOf x = true) (hs : spanOf x (x + max 0 ((l.length : Int) - 1)) = 0) :
    Calls Tryd.prog 32 #[.pointer (some ⟨g, 0, none⟩), .int .i64 x, .slice a l.length ca] w fun e w' => e = .returned (.int .i64 0) ∧ Mem w' g (loaded f x l l.length) ∧ Chg (· = g) w w' := by
  have L := loads_calls x w hk
  rw [hx] at L
  obtain ⟨hle, hbd⟩ := span_ok hs
  have S1 : 0 < (l.length : Int) - 1 → Calls Tryd.prog 59 #[.int .i64 x, .int .i64 (x + ((l.length : Int) - 1))] w fun e w' => e = .returned (.int .i64 0) ∧ w' = w := fun h => by
    have S := span_calls x (x + max 0 ((l.length : Int) - 1)) w hk
    rw [hs, show max 0 ((l.length : Int) - 1) = (l.length : Int) - 1 by omega] at S
    exact S
  have S2 : Calls Tryd.prog 59 #[.int .i64 x, .int .i64 x] w fun e w' => e = .returned (.int .i64 0) ∧ w' = w := by
    have S := span_calls x x w hk
    rw [show spanOf x x = 0 by unfold spanOf; rw [if_pos ⟨Int.le_refl _, hx, rfl⟩]] at S
    exact S
  have hlen : ¬ (65536 < (l.length : Int)) := by omega
  have hx0 : 0 ≤ x := by omega
  have hend : x + l.length ≤ 65536 := by omega
  have hbd := Lib.hid hbd
  clear hle hs
  have HR := Lib.hid hr
  have S1 := Lib.hid S1
  have S2 := Lib.hid S2
  have hend := Lib.hid hend
  go_enter Tryd.func32, Tryd.ntmps32
  go_wp2_with (first
    | (go_at_call 58; (with_reducible refine L.mono ?_); rintro e w1 ⟨rfl, hw1⟩; obtain rfl := hw1.symm)
    | (go_at_call 59; (with_reducible refine (S1.out (by omega)).mono ?_); rintro e w1 ⟨rfl, hw1⟩; obtain rfl := hw1.symm)
    | (go_at_call 59; (with_reducible refine S2.out.mono ?_); rintro e w1 ⟨rfl, hw1⟩; obtain rfl := hw1.symm))
  all_goals
    go_loopw [33] (fun v wr => ∃ k : Nat, v = .int .i64 (k : Int) ∧ k ≤ l.length ∧ Mem wr g (loaded f x l k) ∧ Chg (· = g) w wr)
      (fun v _ => l.length - (intOf v).toNat)
    case atStart => exact ⟨0, rfl, Nat.zero_le _, hm, .refl _ _⟩
    case round =>
      obtain ⟨k, rfl, hkl, hmr, hcr⟩ := hrel
      by_cases h1 : k < l.length
      · obtain ⟨b, off, rfl, hb, hcell⟩ := HR.out.2.2 (by omega)
        have hv := HR.out.2.1 l[k] (List.getElem_mem _)
        have hcl := (hcr.cell (b := b) (by have := hm.lt; omega) (fun h => absurd (show (_ : Nat) = _ from h) (by omega)) (off + k)).trans (hcell k l[k] (List.getElem?_eq_getElem h1))
        generalize hlk : l[k] = v at hv hcl
        obtain ⟨hv0, hv1⟩ := hv
        have hli : (k : Int) < (l.length : Int) := by omega
        obtain ⟨c0, c1⟩ := hmr.at_ (show (x + k).toNat < 65536 by have := hend.out; omega)
        obtain ⟨M, hMs, hMb, hMf⟩ := hmr.blk
        have f0 := hMb.frozen ((x + k).toNat * 2)
        have f1 := hMb.frozen ((x + k).toNat * 2 + 1)
        have hglt := hmr.lt
        clear hMb hMf hMs
        have hki0 : 0 ≤ x + (k : Int) := by omega
        have hki : x + (k : Int) < 65536 := by have := hend.out; omega
        have hwv : IntKind.i64.wrap v = v := wrap_i64 v (by omega) (by omega)
        have hwk : IntKind.i64.wrap (x + (k : Int)) = x + k := wrap_i64 _ (by omega) (by omega)
        go_wp2
        go_region_with (go_at_call 57; (with_reducible refine (of_calls v hv0 hv1 _).mono ?_); rintro e w2 ⟨rfl, hb2⟩; have d0 := (hb2.cell (p := ⟨g, (x + k).toNat * 2, none⟩) hglt).trans c0; have d1 := (hb2.cell (p := ⟨g, (x + k).toNat * 2 + 1, none⟩) hglt).trans c1; have d2 := (hb2.frozen (p := ⟨g, (x + k).toNat * 2, none⟩) hglt).trans f0; have d3 := (hb2.frozen (p := ⟨g, (x + k).toNat * 2 + 1, none⟩) hglt).trans f1)
        all_goals go_wp2
        all_goals
          have hmw2 : Mem w2 g (loaded f x l k) := (hmr.call (Below.refl _ _).drew).call hb2
          have hset := hmw2.set (k := (x + k).toNat) (by omega) (v, 0)
          have hl1 : loaded f x l (k + 1) = upd (loaded f x l k) (((x + k).toNat : Nat) : Int) (v, 0) := by
            rw [loaded, List.getElem?_eq_getElem h1, hlk, Int.toNat_of_nonneg hki0]
            rfl
          refine ⟨⟨k + 1, by simp, by omega, by rw [hl1]; exact hset, ?_⟩, by simp [intOf]; omega⟩
          refine (hcr.trans ((Chg.of (Below.refl _ _).drew).trans (Chg.of hb2))).trans ?_
          exact ⟨rfl, rfl, rfl, by simp, fun c hc hne => (Below.heap_setCell _ _ _ c (fun h => hne h)).trans (Below.heap_setCell _ _ _ c (fun h => hne h))⟩
      · obtain rfl : k = l.length := by omega
        go_wp2
        go_returns
        exact ⟨rfl, hmr, hcr⟩
end Go.Proofs.YtggnkkmlabhofaaDoor
