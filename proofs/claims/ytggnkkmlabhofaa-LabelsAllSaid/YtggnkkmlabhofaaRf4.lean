/- The document's answer: where a span lies, and one more. (printed by gen/rf4.py) -/
import Derived.Test.YtggnkkmlabhofaaRf3
namespace Go.Proofs.Ytggnkkmlabhofaa
set_option linter.unusedVariables false
set_option linter.unusedSimpArgs false
open Go.RowKit Go.Sort Go.Shelf Go.Lib
attribute [local go_sem ↓] Go.wp_at_zero Go.wp_at_succ

set_option maxHeartbeats 1600000 in
theorem rlies_eq (w : World) (f t b : Int) (rom B : Bool) (hB : B = liesB ⟨f, t, b⟩ rom) : Calls Try.prog 25 #[.agg #[.int .i64 f, .int .i64 t, .int .i64 b], .bool rom] w fun e w' => e = .returned (.bool B) ∧ Below w.heap.size w w' := by
  have HB := Lib.hid hB
  clear hB
  cases rom with
  | false =>
    by_cases h1 : 0 ≤ f
    rotate_left
    · skip
      have HE := Lib.hid (HB.out.trans (show liesB ⟨f, t, b⟩ false = false from decide_eq_false (by simp; omega)))
      go_enter Try.func25, Try.ntmps25
      go_wp2_with fail
      go_ret
      exact ⟨boolE HE.out.symm, (by repeat' (first | with_reducible exact Below.refl _ _ | with_reducible assumption | with_reducible refine Q.alloc ?_ _ | with_reducible refine Q.drew ?_ | with_reducible refine Q.drewN ?_ _ | with_reducible refine Q.call ?_ (by assumption)))⟩
    by_cases h2 : f ≤ t
    rotate_left
    · skip
      have HE := Lib.hid (HB.out.trans (show liesB ⟨f, t, b⟩ false = false from decide_eq_false (by simp; omega)))
      go_enter Try.func25, Try.ntmps25
      go_wp2_with fail
      go_ret
      exact ⟨boolE HE.out.symm, (by repeat' (first | with_reducible exact Below.refl _ _ | with_reducible assumption | with_reducible refine Q.alloc ?_ _ | with_reducible refine Q.drew ?_ | with_reducible refine Q.drewN ?_ _ | with_reducible refine Q.call ?_ (by assumption)))⟩
    by_cases h3 : t ≤ 32767
    rotate_left
    · skip
      have HE := Lib.hid (HB.out.trans (show liesB ⟨f, t, b⟩ false = false from decide_eq_false (by simp; omega)))
      go_enter Try.func25, Try.ntmps25
      go_wp2_with fail
      go_ret
      exact ⟨boolE HE.out.symm, (by repeat' (first | with_reducible exact Below.refl _ _ | with_reducible assumption | with_reducible refine Q.alloc ?_ _ | with_reducible refine Q.drew ?_ | with_reducible refine Q.drewN ?_ _ | with_reducible refine Q.call ?_ (by assumption)))⟩
    have HE := Lib.hid (HB.out.trans (show liesB ⟨f, t, b⟩ false = true from decide_eq_true ⟨h1, h2, .inl h3⟩))
    go_enter Try.func25, Try.ntmps25
    go_wp2_with fail
    go_ret
    exact ⟨boolE HE.out.symm, (by repeat' (first | with_reducible exact Below.refl _ _ | with_reducible assumption | with_reducible refine Q.alloc ?_ _ | with_reducible refine Q.drew ?_ | with_reducible refine Q.drewN ?_ _ | with_reducible refine Q.call ?_ (by assumption)))⟩
  | true =>
    by_cases h1 : 0 ≤ f
    rotate_left
    · skip
      have HE := Lib.hid (HB.out.trans (show liesB ⟨f, t, b⟩ true = false from decide_eq_false (by simp; omega)))
      go_enter Try.func25, Try.ntmps25
      go_wp2_with fail
      go_ret
      exact ⟨boolE HE.out.symm, (by repeat' (first | with_reducible exact Below.refl _ _ | with_reducible assumption | with_reducible refine Q.alloc ?_ _ | with_reducible refine Q.drew ?_ | with_reducible refine Q.drewN ?_ _ | with_reducible refine Q.call ?_ (by assumption)))⟩
    by_cases h2 : f ≤ t
    rotate_left
    · skip
      have HE := Lib.hid (HB.out.trans (show liesB ⟨f, t, b⟩ true = false from decide_eq_false (by simp; omega)))
      go_enter Try.func25, Try.ntmps25
      go_wp2_with fail
      go_ret
      exact ⟨boolE HE.out.symm, (by repeat' (first | with_reducible exact Below.refl _ _ | with_reducible assumption | with_reducible refine Q.alloc ?_ _ | with_reducible refine Q.drew ?_ | with_reducible refine Q.drewN ?_ _ | with_reducible refine Q.call ?_ (by assumption)))⟩
    by_cases h3 : t ≤ 32767
    · skip
      have HE := Lib.hid (HB.out.trans (show liesB ⟨f, t, b⟩ true = true from decide_eq_true ⟨h1, h2, .inl h3⟩))
      go_enter Try.func25, Try.ntmps25
      go_wp2_with fail
      go_ret
      exact ⟨boolE HE.out.symm, (by repeat' (first | with_reducible exact Below.refl _ _ | with_reducible assumption | with_reducible refine Q.alloc ?_ _ | with_reducible refine Q.drew ?_ | with_reducible refine Q.drewN ?_ _ | with_reducible refine Q.call ?_ (by assumption)))⟩
    by_cases h4 : 49152 ≤ f
    rotate_left
    · skip
      have HE := Lib.hid (HB.out.trans (show liesB ⟨f, t, b⟩ true = false from decide_eq_false (by simp; omega)))
      go_enter Try.func25, Try.ntmps25
      go_wp2_with fail
      go_ret
      exact ⟨boolE HE.out.symm, (by repeat' (first | with_reducible exact Below.refl _ _ | with_reducible assumption | with_reducible refine Q.alloc ?_ _ | with_reducible refine Q.drew ?_ | with_reducible refine Q.drewN ?_ _ | with_reducible refine Q.call ?_ (by assumption)))⟩
    by_cases h5 : t ≤ 65535
    rotate_left
    · skip
      have HE := Lib.hid (HB.out.trans (show liesB ⟨f, t, b⟩ true = false from decide_eq_false (by simp; omega)))
      go_enter Try.func25, Try.ntmps25
      go_wp2_with fail
      go_ret
      exact ⟨boolE HE.out.symm, (by repeat' (first | with_reducible exact Below.refl _ _ | with_reducible assumption | with_reducible refine Q.alloc ?_ _ | with_reducible refine Q.drew ?_ | with_reducible refine Q.drewN ?_ _ | with_reducible refine Q.call ?_ (by assumption)))⟩
    have HE := Lib.hid (HB.out.trans (show liesB ⟨f, t, b⟩ true = true from decide_eq_true ⟨h1, h2, .inr ⟨rfl, h4, (show t < 65536 by omega)⟩⟩))
    go_enter Try.func25, Try.ntmps25
    go_wp2_with fail
    go_ret
    exact ⟨boolE HE.out.symm, (by repeat' (first | with_reducible exact Below.refl _ _ | with_reducible assumption | with_reducible refine Q.alloc ?_ _ | with_reducible refine Q.drew ?_ | with_reducible refine Q.drewN ?_ _ | with_reducible refine Q.call ?_ (by assumption)))⟩
set_option maxHeartbeats 1600000 in
theorem radd_eq (w : World) (R R' : Nat → Prop) (v1 v2 : Value) (l1 l2 : List Sp) (x : Sp) (h1 : Rd EN w R v1 l1) (h2 : Rd EN w R' v2 l2) (hl1 : l1.length ≤ 100) (hl2 : l2.length ≤ 100) (hl : l1.length + l2.length ≤ 64) :
    Calls Try.prog 26 #[.agg #[.int .i64 x.f, .int .i64 x.t, .int .i64 x.b], v1, v2] w fun e w' => e = .returned (.int .i64 (addE l1 l2 x)) ∧ Below w.heap.size w w' := by
  obtain ⟨E, hE⟩ : ∃ E, E = addE l1 l2 x := ⟨_, rfl⟩
  rw [← hE]
  have HE := Lib.hid hE
  have H1 := Lib.hid h1
  have H2 := Lib.hid h2
  obtain ⟨a1, c1, rfl, _, _, _⟩ := h1
  obtain ⟨a2, c2, rfl, _, _, _⟩ := h2
  have M1 := fun (V : World) (h : Below w.heap.size w V) => rmeets_eq V R _ l1 x.f x.t x.b (H1.out.below h) (by omega)
  have M2 := fun (V : World) (h : Below w.heap.size w V) => rmeets_eq V R' _ l2 x.f x.t x.b (H2.out.below h) (by omega)
  clear hE
  by_cases hf : l1.length + l2.length = 64
  · have hfz : (64 : Int) ≤ (l1.length : Int) + (l2.length : Int) := by omega
    have HV : Aside (E = 18) := by show _ = _; rw [HE.out]; unfold addE; rw [if_pos hf]
    clear M1 M2
    go_enter Try.func26, Try.ntmps26
    go_wp2_with fail
    go_ret
    exact ⟨by rw [HV.out]; rfl, (by repeat' (first | with_reducible exact Below.refl _ _ | with_reducible assumption | with_reducible refine Q.alloc ?_ _ | with_reducible refine Q.drew ?_ | with_reducible refine Q.drewN ?_ _ | with_reducible refine Q.call ?_ (by assumption)))⟩
  · have hfz : ¬ (64 : Int) ≤ (l1.length : Int) + (l2.length : Int) := by omega
    have HE1 : Aside (E = if l1.any (meetB x) then 16 else if l2.any (meetB x) then 15 else 0) := by show _ = _; rw [HE.out]; unfold addE; rw [if_neg hf]
    have e : (⟨x.f, x.t, x.b⟩ : Sp) = x := rfl
    simp only [e] at M1 M2
    obtain ⟨p1, hp1⟩ : ∃ p1, p1 = l1.any (meetB x) := ⟨_, rfl⟩
    obtain ⟨p2, hp2⟩ : ∃ p2, p2 = l2.any (meetB x) := ⟨_, rfl⟩
    rw [← hp1] at M1 HE1
    rw [← hp2] at M2 HE1
    clear hp1 hp2 e hf
    cases p1 with
    | true =>
      go_enter Try.func26, Try.ntmps26
      go_wp2_with (first | (go_at_call 32; (with_reducible refine (M1 _ (by repeat' (first | with_reducible exact Below.refl _ _ | with_reducible assumption | with_reducible refine Q.alloc ?_ _ | with_reducible refine Q.drew ?_ | with_reducible refine Q.drewN ?_ _ | with_reducible refine Q.call ?_ (by assumption)))).mono ?_); rintro e w1 ⟨rfl, hb1⟩; obtain ⟨hc1, hf1, hz1⟩ := bcell hb1; have z1 : w.heap.size < w1.heap.size := (by (try simp only [World.size_alloc] at hz1); omega)))
      go_ret
      exact ⟨by rw [HE1.out]; rfl, (by repeat' (first | with_reducible exact Below.refl _ _ | with_reducible assumption | with_reducible refine Q.alloc ?_ _ | with_reducible refine Q.drew ?_ | with_reducible refine Q.drewN ?_ _ | with_reducible refine Q.call ?_ (by assumption)))⟩
    | false =>
      cases p2 with
      | true =>
        go_enter Try.func26, Try.ntmps26
        go_wp2_with (first | (go_at_call 32; (with_reducible refine (M1 _ (by repeat' (first | with_reducible exact Below.refl _ _ | with_reducible assumption | with_reducible refine Q.alloc ?_ _ | with_reducible refine Q.drew ?_ | with_reducible refine Q.drewN ?_ _ | with_reducible refine Q.call ?_ (by assumption)))).mono ?_); rintro e w1 ⟨rfl, hb1⟩; obtain ⟨hc1, hf1, hz1⟩ := bcell hb1; have z1 : w.heap.size < w1.heap.size := (by (try simp only [World.size_alloc] at hz1); omega)) | (go_at_call 32; (with_reducible refine (M2 _ (by repeat' (first | with_reducible exact Below.refl _ _ | with_reducible assumption | with_reducible refine Q.alloc ?_ _ | with_reducible refine Q.drew ?_ | with_reducible refine Q.drewN ?_ _ | with_reducible refine Q.call ?_ (by assumption)))).mono ?_); rintro e w2 ⟨rfl, hb2⟩; obtain ⟨hc2, hf2, hz2⟩ := bcell hb2; have z2 : w.heap.size < w2.heap.size := (by (try simp only [World.size_alloc] at hz2); omega)))
        go_ret
        exact ⟨by rw [HE1.out]; rfl, (by repeat' (first | with_reducible exact Below.refl _ _ | with_reducible assumption | with_reducible refine Q.alloc ?_ _ | with_reducible refine Q.drew ?_ | with_reducible refine Q.drewN ?_ _ | with_reducible refine Q.call ?_ (by assumption)))⟩
      | false =>
        go_enter Try.func26, Try.ntmps26
        go_wp2_with (first | (go_at_call 32; (with_reducible refine (M1 _ (by repeat' (first | with_reducible exact Below.refl _ _ | with_reducible assumption | with_reducible refine Q.alloc ?_ _ | with_reducible refine Q.drew ?_ | with_reducible refine Q.drewN ?_ _ | with_reducible refine Q.call ?_ (by assumption)))).mono ?_); rintro e w1 ⟨rfl, hb1⟩; obtain ⟨hc1, hf1, hz1⟩ := bcell hb1; have z1 : w.heap.size < w1.heap.size := (by (try simp only [World.size_alloc] at hz1); omega)) | (go_at_call 32; (with_reducible refine (M2 _ (by repeat' (first | with_reducible exact Below.refl _ _ | with_reducible assumption | with_reducible refine Q.alloc ?_ _ | with_reducible refine Q.drew ?_ | with_reducible refine Q.drewN ?_ _ | with_reducible refine Q.call ?_ (by assumption)))).mono ?_); rintro e w2 ⟨rfl, hb2⟩; obtain ⟨hc2, hf2, hz2⟩ := bcell hb2; have z2 : w.heap.size < w2.heap.size := (by (try simp only [World.size_alloc] at hz2); omega)))
        go_ret
        exact ⟨by rw [HE1.out]; rfl, (by repeat' (first | with_reducible exact Below.refl _ _ | with_reducible assumption | with_reducible refine Q.alloc ?_ _ | with_reducible refine Q.drew ?_ | with_reducible refine Q.drewN ?_ _ | with_reducible refine Q.call ?_ (by assumption)))⟩
end Go.Proofs.Ytggnkkmlabhofaa
