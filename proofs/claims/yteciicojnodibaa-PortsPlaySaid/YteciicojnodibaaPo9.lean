/- Ports: bytes, same. (printed by gen/po9.py) -/
import Derived.Test.YteciicojnodibaaPo8
import Derived.Test.YteciicojnodibaaQuiet
namespace Go.Proofs.Yteciicojnodibaa
set_option linter.unusedVariables false
set_option linter.unusedSimpArgs false
open Go.RowKit
attribute [local go_sem ↓] Go.wp_at_zero Go.wp_at_succ

/-- An element of a read slice. -/
theorem Rd.at_ {α : Type} {n : Nat} {E : Enc α n} {w : World} {R : Nat → Prop} {a : Option Addr} {m cap : Nat} {l : List α} (h : Rd E w R (.slice a m cap) l) {k : Nat} (hk : k < l.length) :
    ∃ b off x, a = some ⟨b, off, none⟩ ∧ b < w.heap.size ∧ R b ∧ l[k]? = some x ∧ ∀ j u, (E.enc x)[j]? = some u → w.cell? ⟨b, off + k * n + j, none⟩ = some u := by
  obtain ⟨a', cap', e, hc, hn, hr⟩ := h
  cases e
  obtain ⟨b, off, rfl, hb, hR, hcell⟩ := hr (by omega)
  exact ⟨b, off, l[k], rfl, hb, hR, List.getElem?_eq_getElem hk, hcell k _ (List.getElem?_eq_getElem hk)⟩
theorem Rd.len {α : Type} {n : Nat} {E : Enc α n} {w : World} {R : Nat → Prop} {v : Value} {l : List α} (h : Rd E w R v l) : ∃ a cap, v = .slice a l.length cap := by
  obtain ⟨a', cap', e, -⟩ := h
  exact ⟨a', cap', e⟩
set_option maxHeartbeats 1600000 in
theorem bytes_calls (x y : Value) (l : List Int) (R R' : Nat → Prop) (w : World) (hx : Rd EU w R x l) (hy : Rd EU w R' y l) (hl : l.length ≤ 70000) :
    Calls Try.prog 16 #[x, y] w fun e w' => e = .returned (.bool true) ∧ Below w.heap.size w w' := by
  obtain ⟨a, cap, rfl⟩ := hx.len
  obtain ⟨a2, cap2, rfl⟩ := hy.len
  have HX := Lib.hid hx
  have HY := Lib.hid hy
  clear hx hy
  go_enter Try.func16, Try.ntmps16
  go_wp2
  go_loopw [5] (fun v wr => ∃ k : Nat, v = .int .i64 (k : Int) ∧ k ≤ l.length ∧ Below w.heap.size w wr) (fun v _ => l.length - (intOf v).toNat)
  case atStart => exact ⟨0, rfl, Nat.zero_le _, Below.refl _ _⟩
  case round =>
    obtain ⟨k, rfl, hk, hb⟩ := hrel
    by_cases hkl : k < l.length
    · obtain ⟨b, off, z, rfl, hlb, -, hz, hc⟩ := HX.out.at_ hkl
      obtain ⟨b2, off2, z2, rfl, hlb2, -, hz2, hc2⟩ := HY.out.at_ hkl
      rw [hz] at hz2
      obtain rfl := Option.some.inj hz2
      have d0 := hc 0 _ rfl
      have d2 := hc2 0 _ rfl
      simp only [Nat.mul_one, Nat.add_zero] at d0 d2
      have hki : (k : Int) < (l.length : Int) := by omega
      have hk0 : (0 : Int) ≤ (k : Int) := by omega
      have L0 : ∀ y : BW wr, y.val.cell? ⟨b, off + k, none⟩ = some (.int .u8 z) := fun y => ((Q.call hb y.has).cell (p := ⟨b, _, none⟩) hlb).trans d0
      have L1 : ∀ y : BW wr, y.val.cell? ⟨b2, off2 + k, none⟩ = some (.int .u8 z) := fun y => ((Q.call hb y.has).cell (p := ⟨b2, _, none⟩) hlb2).trans d2
      clear hz hz2 hc hc2 d0 d2
      go_wp2_with fail
      refine wp_region_below (by kernel_rfl) (by kernel_rfl) ?_
      repeat (go_big_quiet_step (fail))
      refine wpQuiet_nil ?_
      intro w9 hw9
      obtain ⟨y9, rfl⟩ := hw9
      have B9 := Q.call hb y9.has
      clear L0 L1
      generalize y9.val = W9 at B9 ⊢
      go_wp2
      refine ⟨⟨k + 1, by simp, by omega, B9⟩, by simp [intOf]; omega⟩
    · obtain rfl : l.length = k := by omega
      go_wp2
      go_returns
      exact ⟨rfl, hb⟩
end Go.Proofs.Yteciicojnodibaa
