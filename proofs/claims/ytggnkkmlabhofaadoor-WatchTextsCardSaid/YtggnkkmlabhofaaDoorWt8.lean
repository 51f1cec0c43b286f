/- The law WatchTexts: the walk. (printed by gen/wt8.py) -/
import Derived.Test.YtggnkkmlabhofaaDoorWt7
namespace Go.Proofs.YtggnkkmlabhofaaDoor
set_option linter.unusedVariables false
set_option linter.unusedSimpArgs false
open Go.RowKit
attribute [local go_sem ↓] Go.wp_at_zero Go.wp_at_succ
attribute [local go_sem high] cat_ok

theorem awk16 : str (alT 4 12 768 255) = ⟨#[115, 105, 110, 107, 32, 49, 50, 32, 36, 48, 51, 48, 48, 32, 36, 102, 102]⟩ := by
  unfold alT
  rw [show Lib.itoa 12 = [49, 50] from by rw [show Lib.itoa 12 = Lib.decDigits 12 from rfl, Lib.decDigits_two (by decide) (by decide)]; rfl]
  rfl
set_option maxRecDepth 100000 in
set_option maxHeartbeats 3200000 in
theorem aawake_eq (w : World) (hT : TB w) (hZ : TZ w) (hW : WD w) : Calls Tryd.prog 11 #[] w fun e w' => e = .returned (.bool true) ∧ Below w.heap.size w w' := by
  have TX : Calls Tryd.prog 8 #[.agg #[.int .i64 4, .int .i64 12, .int .i64 768, .int .u8 255]] w fun e w' => e = .returned (.tuple #[.string ⟨#[115, 105, 110, 107, 32, 49, 50, 32, 36, 48, 51, 48, 48, 32, 36, 102, 102]⟩, .int .i64 0]) ∧ Below w.heap.size w w' := by
    have h := atext_eq w 4 12 768 255 (by decide) (by decide) (by decide) (by decide) (by decide) (by decide) hT hZ hW
    rw [awk16] at h
    exact h
  clear hT hZ hW
  go_enter Tryd.func11, Tryd.ntmps11
  go_wp2_with (go_at_call 8; (with_reducible refine TX.mono ?_); rintro e w1 ⟨rfl, hb1⟩)
  go_ret
  exact ⟨rfl, (by repeat' (first | with_reducible exact Below.refl _ _ | with_reducible assumption | with_reducible refine Q.alloc ?_ _ | with_reducible refine Q.drew ?_ | with_reducible refine Q.drewN ?_ _ | with_reducible refine Q.call ?_ (by assumption)))⟩
set_option maxRecDepth 100000 in
set_option maxHeartbeats 3200000 in
theorem atext_bad (w : World) (ru cy ad bi : Int) (hF : alF ru cy ad = false) : Calls Tryd.prog 8 #[.agg #[.int .i64 ru, .int .i64 cy, .int .i64 ad, .int .u8 bi]] w fun e w' => e = .returned (.tuple #[.string ⟨#[]⟩, .int .i64 10]) ∧ Below w.heap.size w w' := by
  have FI := fun V => afits_eq V ru cy ad bi false hF.symm
  clear hF
  go_enter Tryd.func8, Tryd.ntmps8
  go_wp2_with (go_at_call 42; (with_reducible refine (FI _).mono ?_); rintro e w1 ⟨rfl, hb1⟩)
  go_ret2
  exact ⟨rfl, (by repeat' (first | with_reducible exact Below.refl _ _ | with_reducible assumption | with_reducible refine Q.alloc ?_ _ | with_reducible refine Q.drew ?_ | with_reducible refine Q.drewN ?_ _ | with_reducible refine Q.call ?_ (by assumption)))⟩
set_option maxRecDepth 100000 in
set_option maxHeartbeats 3200000 in
theorem watchTexts_bad (w : World) (ru cy ad bi : Int) (hF : alF ru cy ad = false) (hT : TB w) (hZ : TZ w) (hW : WD w) : Calls Tryd.prog 3 #[.agg #[.int .i64 ru, .int .i64 cy, .int .i64 ad, .int .u8 bi]] w fun e w' => e = .returned (.bool true) ∧ Below w.heap.size w w' := by
  have HT := Lib.hid hT
  have HZ := Lib.hid hZ
  have HW := Lib.hid hW
  have AW := fun V (hV : Below w.heap.size w V) => aawake_eq V (TB.on HT.out hV) (TZ.on HZ.out hV) (WD.on HW.out hV)
  have TX := fun V => atext_bad V ru cy ad bi hF
  have FI := fun V => rafits_eq V ru cy ad bi false hF.symm
  have PL := fun V => aplain_eq V ru cy ad bi
  clear hT hZ hW hF
  go_enter Tryd.func3, Tryd.ntmps3
  go_wp2_with (first
    | (go_at_call 8; (with_reducible refine (TX _).mono ?_); rintro e w1 ⟨rfl, hb1⟩; obtain ⟨hc1, hf1, hz1⟩ := bcell hb1; have z1 : w.heap.size < w1.heap.size := (by (try simp only [World.size_alloc] at hz1); omega))
    | (go_at_call 10; (with_reducible refine (PL _).mono ?_); rintro e w2 ⟨rfl, hb2⟩)
    | (go_at_call 9; (with_reducible refine (FI _).mono ?_); rintro e w3 ⟨rfl, hb3⟩)
    | (go_at_call 11; (with_reducible refine (AW _ (by repeat' (first | with_reducible exact Below.refl _ _ | with_reducible assumption | with_reducible refine Q.alloc ?_ _ | with_reducible refine Q.drew ?_ | with_reducible refine Q.drewN ?_ _ | with_reducible refine Q.call ?_ (by assumption)))).mono ?_); rintro e w4 ⟨rfl, hb4⟩))
  go_ret
  exact ⟨rfl, (by repeat' (first | with_reducible exact Below.refl _ _ | with_reducible assumption | with_reducible refine Q.alloc ?_ _ | with_reducible refine Q.drew ?_ | with_reducible refine Q.drewN ?_ _ | with_reducible refine Q.call ?_ (by assumption)))⟩
set_option maxRecDepth 100000 in
set_option maxHeartbeats 3200000 in
theorem watchTexts_fit (w : World) (rn : Nat) (cy : Int) (an bn : Nat) (h1 : 1 ≤ rn) (h4 : rn ≤ 4) (hc0 : 0 ≤ cy) (hc1 : cy ≤ 9223372036854775807) (ha : an ≤ 65535) (hb : bn ≤ 255) (hT : TB w) (hZ : TZ w) (hW : WD w) : Calls Tryd.prog 3 #[.agg #[.int .i64 (rn : Int), .int .i64 cy, .int .i64 (an : Int), .int .u8 (bn : Int)]] w fun e w' => e = .returned (.bool true) ∧ Below w.heap.size w w' := by
  have HT := Lib.hid hT
  have HZ := Lib.hid hZ
  have HW := Lib.hid hW
  have AW := fun V (hV : Below w.heap.size w V) => aawake_eq V (TB.on HT.out hV) (TZ.on HZ.out hV) (WD.on HW.out hV)
  have TX := fun V (hV : Below w.heap.size w V) => atext_eq V rn cy an bn h1 h4 hc0 hc1 ha hb (TB.on HT.out hV) (TZ.on HZ.out hV) (WD.on HW.out hV)
  have RX := fun V => ratext_eq V rn cy an bn h1 h4 hc0 hc1 ha hb
  have FI := fun V => rafits_eq V (rn : Int) cy (an : Int) (bn : Int) true (decide_eq_true (by omega)).symm
  have PL := fun V => aplain_eq V (rn : Int) cy (an : Int) (bn : Int)
  generalize str (alT rn cy an bn) = S at TX RX
  clear hT hZ hW
  go_enter Tryd.func3, Tryd.ntmps3
  go_wp2_with (first
    | (go_at_call 8; (with_reducible refine (TX _ (by repeat' (first | with_reducible exact Below.refl _ _ | with_reducible assumption | with_reducible refine Q.alloc ?_ _ | with_reducible refine Q.drew ?_ | with_reducible refine Q.drewN ?_ _ | with_reducible refine Q.call ?_ (by assumption)))).mono ?_); rintro e w1 ⟨rfl, hb1⟩; obtain ⟨hc1, hf1, hz1⟩ := bcell hb1; have z1 : w.heap.size < w1.heap.size := (by (try simp only [World.size_alloc] at hz1); omega))
    | (go_at_call 10; (with_reducible refine (PL _).mono ?_); rintro e w2 ⟨rfl, hb2⟩; obtain ⟨hc2, hf2, hz2⟩ := bcell hb2; have z2 : w.heap.size < w2.heap.size := (by omega))
    | (go_at_call 9; (with_reducible refine (FI _).mono ?_); rintro e w3 ⟨rfl, hb3⟩; obtain ⟨hc3, hf3, hz3⟩ := bcell hb3; have z3 : w.heap.size < w3.heap.size := (by omega))
    | (go_at_call 12; (with_reducible refine (RX _).mono ?_); rintro e w5 ⟨rfl, hb5⟩)
    | (go_at_call 11; (with_reducible refine (AW _ (by repeat' (first | with_reducible exact Below.refl _ _ | with_reducible assumption | with_reducible refine Q.alloc ?_ _ | with_reducible refine Q.drew ?_ | with_reducible refine Q.drewN ?_ _ | with_reducible refine Q.call ?_ (by assumption)))).mono ?_); rintro e w4 ⟨rfl, hb4⟩))
  go_ret
  exact ⟨rfl, (by repeat' (first | with_reducible exact Below.refl _ _ | with_reducible assumption | with_reducible refine Q.alloc ?_ _ | with_reducible refine Q.drew ?_ | with_reducible refine Q.drewN ?_ _ | with_reducible refine Q.call ?_ (by assumption)))⟩
theorem watchTexts_walk (w : World) (ru cy ad bi : Int) (rc : -9223372036854775808 ≤ cy ∧ cy ≤ 9223372036854775807) (rb : 0 ≤ bi ∧ bi ≤ 255) (hT : TB w ∧ TZ w ∧ WD w) : Calls Tryd.prog 3 #[.agg #[.int .i64 ru, .int .i64 cy, .int .i64 ad, .int .u8 bi]] w fun e w' => e = .returned (.bool true) ∧ Below w.heap.size w w' := by
  obtain ⟨hT, hZ, hW⟩ := hT
  cases hF : alF ru cy ad
  · exact watchTexts_bad w ru cy ad bi hF hT hZ hW
  · have h := of_decide_eq_true hF
    obtain ⟨rn, rfl⟩ : ∃ n : Nat, ru = n := ⟨ru.toNat, by omega⟩
    obtain ⟨an, rfl⟩ : ∃ n : Nat, ad = n := ⟨ad.toNat, by omega⟩
    obtain ⟨bn, rfl⟩ : ∃ n : Nat, bi = n := ⟨bi.toNat, by omega⟩
    exact watchTexts_fit w rn cy an bn (by omega) (by omega) (by omega) (by omega) (by omega) (by omega) hT hZ hW
end Go.Proofs.YtggnkkmlabhofaaDoor
