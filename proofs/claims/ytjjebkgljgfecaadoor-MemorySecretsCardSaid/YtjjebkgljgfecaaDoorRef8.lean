/- The walk of few. -/
import Derived.Test.YtjjebkgljgfecaaDoorRef7
import Derived.Test.YtjjebkgljgfecaaDoorQuiet
namespace Go.Proofs.YtjjebkgljgfecaaDoor
set_option linter.unusedVariables false
set_option linter.unusedSimpArgs false
open Go.RowKit

/-- A slice of calls that is read. -/
def ReadsO (w : World) (B : Nat) (a : Option Addr) (len : Nat) (ops : List OpD) : Prop :=
  ops.length = len ∧ (0 < len → ∃ b off, a = some ⟨b, off, none⟩ ∧ b < B ∧ ∀ (k : Nat) (o : OpD), ops[k]? = some o →
    w.cell? ⟨b, off + k * 6, none⟩ = some (.int .i64 o.ask) ∧ w.cell? ⟨b, off + k * 6 + 1, none⟩ = some (.int .i64 o.at_) ∧ w.cell? ⟨b, off + k * 6 + 2, none⟩ = some (.int .i64 o.to) ∧
    w.cell? ⟨b, off + k * 6 + 3, none⟩ = some (.int .u8 o.v) ∧ w.cell? ⟨b, off + k * 6 + 4, none⟩ = some (.int .u8 o.t) ∧ w.cell? ⟨b, off + k * 6 + 5, none⟩ = some (.slice o.a o.n o.ca) ∧ o.lies w B)
theorem OpD.lies.keep {w w' : World} {B : Nat} {o : OpD} (h : o.lies w B) (hb : Below B w w') : o.lies w' B := ReadsU.keep h (fun b off hlt => hb.cell (p := ⟨b, off, none⟩) hlt)
theorem ReadsO.below {w w' : World} {B : Nat} {a : Option Addr} {len : Nat} {ops : List OpD} (h : ReadsO w B a len ops) (hb : Below B w w') : ReadsO w' B a len ops := by
  refine ⟨h.1, fun hl => ?_⟩
  obtain ⟨b, off, rfl, hlt, hc⟩ := h.2 hl
  refine ⟨b, off, rfl, hlt, fun k o hk => ?_⟩
  obtain ⟨c0, c1, c2, c3, c4, c5, hl⟩ := hc k o hk
  exact ⟨(hb.cell (p := ⟨b, _, none⟩) hlt).trans c0, (hb.cell (p := ⟨b, _, none⟩) hlt).trans c1, (hb.cell (p := ⟨b, _, none⟩) hlt).trans c2, (hb.cell (p := ⟨b, _, none⟩) hlt).trans c3, (hb.cell (p := ⟨b, _, none⟩) hlt).trans c4, (hb.cell (p := ⟨b, _, none⟩) hlt).trans c5, hl.keep hb⟩
theorem ReadsO.at_ {w : World} {B : Nat} {a : Option Addr} {len : Nat} {ops : List OpD} (h : ReadsO w B a len ops) {k : Nat} (hk : k < len) :
    ∃ b off o, a = some ⟨b, off, none⟩ ∧ b < B ∧ ops[k]? = some o ∧ w.cell? ⟨b, off + k * 6, none⟩ = some (.int .i64 o.ask) ∧ w.cell? ⟨b, off + k * 6 + 1, none⟩ = some (.int .i64 o.at_) ∧ w.cell? ⟨b, off + k * 6 + 2, none⟩ = some (.int .i64 o.to) ∧
    w.cell? ⟨b, off + k * 6 + 3, none⟩ = some (.int .u8 o.v) ∧ w.cell? ⟨b, off + k * 6 + 4, none⟩ = some (.int .u8 o.t) ∧ w.cell? ⟨b, off + k * 6 + 5, none⟩ = some (.slice o.a o.n o.ca) ∧ o.lies w B := by
  obtain ⟨b, off, rfl, hb, hc⟩ := h.2 (by omega)
  have hr : ops[k]? = some (ops[k]'(by rw [h.1]; exact hk)) := List.getElem?_eq_getElem _
  exact ⟨b, off, _, rfl, hb, hr, hc k _ hr⟩

/-- Are calls not too much? -/
def fewUpTo (ops : List OpD) (k : Nat) : Prop := ∀ (j : Nat) (o : OpD), j < k → ops[j]? = some o → o.small

set_option maxRecDepth 100000 in
set_option maxHeartbeats 3200000 in
theorem few_calls (a : Option Addr) (len cap : Nat) (ops : List OpD) (w : World) (hlen : len ≤ maxLen) (hr : ReadsO w w.heap.size a len ops) :
    Calls Tryd.prog 14 #[.slice a len cap] w fun e w' => ∃ c : Bool, e = .returned (.bool c) ∧ (c = true → len ≤ 30 ∧ fewUpTo ops len) ∧ Below w.heap.size w w' := by
  have HR := Lib.hid hr
  have hl63 : (len : Int) ≤ 9223372036854775807 := by unfold maxLen at hlen; omega
  clear hr hlen
  go_enter Tryd.func14, Tryd.ntmps14
  go_wp2
  go_loopw [3] (fun v wr => ∃ k : Nat, v = .int .i64 (k : Int) ∧ k ≤ len ∧ fewUpTo ops k ∧ Below w.heap.size w wr)
    (fun v _ => len - (intOf v).toNat)
  case atStart => exact ⟨0, rfl, Nat.zero_le _, fun j o h => by omega, Below.refl _ _⟩
  case round =>
    obtain ⟨k, rfl, hk, hf, hbr⟩ := hrel
    have HF := Lib.hid hf
    clear hf
    by_cases hkn : k < len
    · obtain ⟨b, off, o, rfl, hb, hget, c0, c1, c2, c3, c4, c5, hlies⟩ := (HR.out.below hbr).at_ hkn
      have HG := Lib.hid hget
      have hki : (k : Int) < (len : Int) := by omega
      have hwk : wrap64 ((k : Int) + 1) = (k : Int) + 1 := IntWalk.wrap64_in _ ⟨by omega, by omega⟩
      clear hget hlies c3 c4
      have next : o.small → Hid (fewUpTo ops (k + 1)) := fun hs => by
        show fewUpTo ops (k + 1)
        intro j o' hj ho'
        by_cases hjk : j < k
        · exact HF.out j o' hjk ho'
        · obtain rfl : j = k := by omega
          rw [HG.out] at ho'
          cases ho'
          exact hs
      unfold OpD.small at next
      obtain ⟨ask, at_, to, v, t, oa, on, oca, obs⟩ := o
      simp only at c0 c1 c2 c5 next
      have hbl : b < wr.heap.size := Nat.lt_of_lt_of_le (by assumption) hbr.size
      have L0 : ∀ y : BW wr, y.val.cell? ⟨b, off + k * 6, none⟩ = some (.int .i64 ask) := fun y => (y.has.cell (p := ⟨b, _, none⟩) hbl).trans c0
      have L1 : ∀ y : BW wr, y.val.cell? ⟨b, off + k * 6 + 1, none⟩ = some (.int .i64 at_) := fun y => (y.has.cell (p := ⟨b, _, none⟩) hbl).trans c1
      have L2 : ∀ y : BW wr, y.val.cell? ⟨b, off + k * 6 + 2, none⟩ = some (.int .i64 to) := fun y => (y.has.cell (p := ⟨b, _, none⟩) hbl).trans c2
      have L5 : ∀ y : BW wr, y.val.cell? ⟨b, off + k * 6 + 5, none⟩ = some (.slice oa on oca) := fun y => (y.has.cell (p := ⟨b, _, none⟩) hbl).trans c5
      by_cases h40 : 40 < (on : Int)
      · clear next
        go_wp2
        refine wp_region_below (by kernel_rfl) (by kernel_rfl) ?_
        repeat (go_big_quiet_step (fail))
        refine wpQuiet_nil ?_
        intro w9 hw9
        obtain ⟨y9, rfl⟩ := hw9
        have hB9 := Q.call hbr y9.has
        generalize y9.val = W9 at hB9 ⊢
        go_wp2
        go_returns
        exact ⟨false, rfl, (fun h => absurd h (by decide)), hB9⟩
      · have h40' : (on : Int) ≤ 40 := by omega
        have hd40 : decide (40 < (on : Int)) = false := decide_eq_false h40
        by_cases hask : ask = 1
        · subst hask
          cases h1 : isOne at_ to
          · have A : ∀ V, Calls Tryd.prog 27 #[.int .i64 at_, .int .i64 to] V fun e w' => e = .returned (.bool false) ∧ w' = V := fun V => by rw [← h1]; exact isOne_calls at_ to V
            have N := next ⟨by omega, by rw [h1]; simp⟩
            clear next h1
            go_wp2
            refine wp_region_below (by kernel_rfl) (by kernel_rfl) ?_
            repeat (go_big_quiet_step (exact calls_bw' (A _)))
            refine wpQuiet_nil ?_
            intro w9 hw9
            obtain ⟨y9, rfl⟩ := hw9
            have hB9 := Q.call hbr y9.has
            generalize y9.val = W9 at hB9 ⊢
            go_wp2
            refine ⟨⟨k + 1, by simp, by omega, N.out, hB9⟩, by simp [intOf]; omega⟩
          · have hb1 := one_ok h1
            have hwr : IntKind.i64.wrap (to - at_) = to - at_ := wrap_i64 _ (by omega) (by omega)
            clear hb1
            have A : ∀ V, Calls Tryd.prog 27 #[.int .i64 at_, .int .i64 to] V fun e w' => e = .returned (.bool true) ∧ w' = V := fun V => by rw [← h1]; exact isOne_calls at_ to V
            by_cases h60 : 60 < to - at_
            · clear next h1
              go_wp2
              refine wp_region_below (by kernel_rfl) (by kernel_rfl) ?_
              repeat (go_big_quiet_step (exact calls_bw' (A _)))
              refine wpQuiet_nil ?_
              intro w9 hw9
              obtain ⟨y9, rfl⟩ := hw9
              have hB9 := Q.call hbr y9.has
              generalize y9.val = W9 at hB9 ⊢
              go_wp2
              go_returns
              exact ⟨false, rfl, (fun h => absurd h (by decide)), hB9⟩
            · have N := next ⟨by omega, by intro h; exact h60 h.2.2⟩
              have h60' : to - at_ ≤ 60 := by omega
              have hd60 : decide (60 < to - at_) = false := decide_eq_false h60
              clear next h1
              go_wp2
              refine wp_region_below (by kernel_rfl) (by kernel_rfl) ?_
              repeat (go_big_quiet_step (exact calls_bw' (A _)))
              refine wpQuiet_nil ?_
              intro w9 hw9
              obtain ⟨y9, rfl⟩ := hw9
              have hB9 := Q.call hbr y9.has
              generalize y9.val = W9 at hB9 ⊢
              go_wp2
              refine ⟨⟨k + 1, by simp, by omega, N.out, hB9⟩, by simp [intOf]; omega⟩
        · have N := next ⟨by omega, fun h => hask h.1⟩
          have hask' : (ask == 1) = false := by simpa using hask
          have hd : decide (ask = 1) = false := decide_eq_false hask
          clear next
          go_wp2
          refine wp_region_below (by kernel_rfl) (by kernel_rfl) ?_
          repeat (go_big_quiet_step (fail))
          refine wpQuiet_nil ?_
          intro w9 hw9
          obtain ⟨y9, rfl⟩ := hw9
          have hB9 := Q.call hbr y9.has
          generalize y9.val = W9 at hB9 ⊢
          go_wp2
          refine ⟨⟨k + 1, by simp, by omega, N.out, hB9⟩, by simp [intOf]; omega⟩
    · obtain rfl : k = len := by omega
      go_wp2
      go_returns
      exact ⟨_, rfl, fun h => ⟨by simp at h; omega, HF.out⟩, hbr⟩
end Go.Proofs.YtjjebkgljgfecaaDoor
