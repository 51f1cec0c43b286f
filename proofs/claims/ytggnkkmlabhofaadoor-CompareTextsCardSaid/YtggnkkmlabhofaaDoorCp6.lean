/- The law CompareTexts: the walk. (printed by gen/cp6.py) -/
import Derived.Test.YtggnkkmlabhofaaDoorCp5
namespace Go.Proofs.YtggnkkmlabhofaaDoor
set_option linter.unusedVariables false
set_option linter.unusedSimpArgs false
open Go.RowKit
attribute [local go_sem ↓] Go.wp_at_zero Go.wp_at_succ
attribute [local go_sem high] cat_ok

theorem awk_join : str (Lib.join (pcs true 0 0 5 5 (-1) (-1) (-1) (-1)) [32]) = ⟨#[108, 111, 119, 32, 100, 111, 110, 101, 32, 53, 32, 100, 111, 110, 101, 32, 53, 32, 45, 32, 45, 32, 45, 32, 45]⟩ := by
  have h5 : Lib.itoa 5 = [53] := by
    rw [show Lib.itoa 5 = Lib.decDigits 5 from rfl, Lib.decDigits_one (by decide)]; rfl
  unfold pcs
  rw [h5]
  rfl
set_option maxRecDepth 100000 in
set_option maxHeartbeats 3200000 in
theorem vawake_eq (w : World) (hT : TB w) : Calls Tryd.prog 22 #[] w fun e w' => e = .returned (.bool true) ∧ Below w.heap.size w w' := by
  have TX := vtext_eq w true 0 0 5 5 (-1) (-1) (-1) (-1) hT (by decide) (by decide) (by decide) (by decide) (by decide) (by decide) (.tuple #[.string ⟨#[108, 111, 119, 32, 100, 111, 110, 101, 32, 53, 32, 100, 111, 110, 101, 32, 53, 32, 45, 32, 45, 32, 45, 32, 45]⟩, .int .i64 0]) (by rw [if_pos (by decide), awk_join])
  have S1 := fun V => same_eq V false 0 0 0 0 (-1) (-1) 0 0
  have S2 := fun V => same_eq V false 0 0 0 0 0 0 0 0
  rw [show sm 0 0 0 0 (-1) (-1) = true by decide] at S1
  rw [show sm 0 0 0 0 0 0 = false by decide] at S2
  go_enter Tryd.func22, Tryd.ntmps22
  go_wp2_with (first
    | (go_at_call 14; (with_reducible refine TX.mono ?_); rintro e w1 ⟨rfl, hb1⟩)
    | (go_at_call 17; (with_reducible refine (S1 _).mono ?_); rintro e w2 ⟨rfl, hb2⟩)
    | (go_at_call 17; (with_reducible refine (S2 _).mono ?_); rintro e w3 ⟨rfl, hb3⟩))
  go_ret
  exact ⟨rfl, (by repeat' (first | with_reducible exact Below.refl _ _ | with_reducible assumption | with_reducible refine Q.alloc ?_ _ | with_reducible refine Q.drew ?_ | with_reducible refine Q.drewN ?_ _ | with_reducible refine Q.call ?_ (by assumption)))⟩
theorem str_empty : (ByteArray.mk #[]).toList.isEmpty = true := by decide +kernel
set_option maxRecDepth 100000 in
set_option maxHeartbeats 6400000 in
theorem compare_walk (w : World) (lw : Bool) (c0 c1 y0 y1 ap ou lo wh : Int) (r0 : -9223372036854775808 ≤ y0 ∧ y0 ≤ 9223372036854775807) (r1 : -9223372036854775808 ≤ y1 ∧ y1 ≤ 9223372036854775807) (r2 : -9223372036854775808 ≤ ap ∧ ap ≤ 9223372036854775807) (r3 : -9223372036854775808 ≤ ou ∧ ou ≤ 9223372036854775807) (r4 : -9223372036854775808 ≤ lo ∧ lo ≤ 9223372036854775807) (r5 : -9223372036854775808 ≤ wh ∧ wh ≤ 9223372036854775807) (hT : TB w) : Calls Tryd.prog 4 #[.agg #[.bool lw, .int .i64 c0, .int .i64 c1, .int .i64 y0, .int .i64 y1, .int .i64 ap, .int .i64 ou, .int .i64 lo, .int .i64 wh]] w fun e w' => e = .returned (.bool true) ∧ Below w.heap.size w w' := by
  have hT2 := Lib.hid hT
  have AW := fun V (hV : Below w.heap.size w V) => vawake_eq V (TB.on hT2.out hV)
  obtain ⟨R, hR⟩ : ∃ R : Value, R = (if fit c0 c1 y0 y1 ap ou lo wh = true then .tuple #[.string (str (Lib.join (pcs lw c0 c1 y0 y1 ap ou lo wh) [32])), .int .i64 0] else .tuple #[.string ⟨#[]⟩, .int .i64 10]) := ⟨_, rfl⟩
  have TX := fun V (hV : Below w.heap.size w V) => vtext_eq V lw c0 c1 y0 y1 ap ou lo wh (TB.on hT2.out hV) r0 r1 r2 r3 r4 r5 R hR
  have FT := fun V => rfits_eq V lw c0 c1 y0 y1 ap ou lo wh _ rfl
  have Q1 := fun V => quiet_eq V lw c0 c1 y0 y1 ap ou lo wh
  have Q2 := fun V => rquiet_eq V lw c0 c1 y0 y1 ap ou lo wh
  have S1 := fun V => same_eq V lw c0 c1 y0 y1 ap ou lo wh
  have S2 := fun V => rsame_eq V lw c0 c1 y0 y1 ap ou lo wh
  have H1 := fun V => holds_eq V lw c0 c1 y0 y1 ap ou lo wh
  have H2 := fun V => rholds_eq V lw c0 c1 y0 y1 ap ou lo wh
  generalize qt c0 = q at Q1 Q2
  generalize sm c0 c1 y0 y1 ap ou = s at S1 S2
  generalize hol lw c0 c1 y0 y1 ap ou lo wh = h at H1 H2
  clear hT
  have RT : fit c0 c1 y0 y1 ap ou lo wh = true → ∀ V : World, Calls Tryd.prog 23 #[.agg #[.bool lw, .int .i64 c0, .int .i64 c1, .int .i64 y0, .int .i64 y1, .int .i64 ap, .int .i64 ou, .int .i64 lo, .int .i64 wh]] V fun e w' => e = .returned (.string (str (Lib.join (pcs lw c0 c1 y0 y1 ap ou lo wh) [32]))) ∧ Below V.heap.size V w' := by
    intro hf V
    have hj := rpc_join lw c0 c1 y0 y1 ap ou lo wh hf
    have hf' := hf
    simp only [fit, okc, okn, Bool.and_eq_true, decide_eq_true_eq] at hf'
    obtain ⟨⟨⟨⟨⟨⟨a0, a1, a2⟩, b0, b1, b2⟩, _⟩, _⟩, _⟩, _⟩ := hf'
    obtain ⟨n0, rfl⟩ : ∃ n0 : Nat, c0 = n0 := ⟨c0.toNat, by omega⟩
    obtain ⟨n1, rfl⟩ : ∃ n1 : Nat, c1 = n1 := ⟨c1.toNat, by omega⟩
    rw [← hj]
    exact rtext_eq V lw n0 n1 y0 y1 ap ou lo wh (by omega) (by omega) a2 b2 r0.2 r1.2 r2.2 r3.2 r4.2 r5.2
  obtain ⟨F, hF⟩ : ∃ F, F = fit c0 c1 y0 y1 ap ou lo wh := ⟨_, rfl⟩
  rw [← hF] at FT RT hR
  clear hF
  generalize str (Lib.join (pcs lw c0 c1 y0 y1 ap ou lo wh) [32]) = J at RT hR
  cases F
  all_goals
    simp only [if_true, Bool.false_eq_true, if_false] at hR
    subst hR
    (try have RT2 := RT rfl)
    clear RT
    go_enter Tryd.func4, Tryd.ntmps4
    go_wp2_with (first
      | (go_at_call 13; (with_reducible refine (vplain_eq _ _ _ _ _ _ _ _ _ _).mono ?_); rintro e w1 ⟨rfl, hb1⟩; obtain ⟨hc1, hf1, hz1⟩ := bcell hb1; have z1 : w.heap.size < w1.heap.size := (by (try simp only [World.size_alloc] at hz1); omega))
      | (go_at_call 14; (with_reducible refine (TX _ (by repeat' (first | with_reducible exact Below.refl _ _ | with_reducible assumption | with_reducible refine Q.alloc ?_ _ | with_reducible refine Q.drew ?_ | with_reducible refine Q.drewN ?_ _ | with_reducible refine Q.call ?_ (by assumption)))).mono ?_); rintro e w2 ⟨rfl, hb2⟩; refine Hid.out ?_))
    refine Lib.hid ?_
    have BA := Lib.hid (((Blk.new w 35 #[.bool lw, .int .i64 c0, .int .i64 c1, .int .i64 y0, .int .i64 y1, .int .i64 ap, .int .i64 ou, .int .i64 lo, .int .i64 wh]).call hb1 |>.alloc (.cells #[.bool lw, .int .i64 c0, .int .i64 c1, .int .i64 y0, .int .i64 y1, .int .i64 ap, .int .i64 ou, .int .i64 lo, .int .i64 wh] 36)).call hb2)
    have BB := Lib.hid ((Blk.new w1 36 #[.bool lw, .int .i64 c0, .int .i64 c1, .int .i64 y0, .int .i64 y1, .int .i64 ap, .int .i64 ou, .int .i64 lo, .int .i64 wh]).call hb2)
    have hbw : Below w.heap.size w w2 := (by repeat' (first | with_reducible exact Below.refl _ _ | with_reducible assumption | with_reducible refine Q.alloc ?_ _ | with_reducible refine Q.drew ?_ | with_reducible refine Q.drewN ?_ _ | with_reducible refine Q.call ?_ (by assumption)))
    clear hb1 hb2 hc1 hf1 hz1
    have L0 := fun y : BW w2 => (y.has.cell (p := ⟨w.heap.size, 0, none⟩) BA.out.lt).trans (BA.out.cell 0)
    have M0 := fun y : BW w2 => (y.has.cell (p := ⟨w1.heap.size, 0, none⟩) BB.out.lt).trans (BB.out.cell 0)
    have L1 := fun y : BW w2 => (y.has.cell (p := ⟨w.heap.size, 1, none⟩) BA.out.lt).trans (BA.out.cell 1)
    have M1 := fun y : BW w2 => (y.has.cell (p := ⟨w1.heap.size, 1, none⟩) BB.out.lt).trans (BB.out.cell 1)
    have L2 := fun y : BW w2 => (y.has.cell (p := ⟨w.heap.size, 2, none⟩) BA.out.lt).trans (BA.out.cell 2)
    have M2 := fun y : BW w2 => (y.has.cell (p := ⟨w1.heap.size, 2, none⟩) BB.out.lt).trans (BB.out.cell 2)
    have L3 := fun y : BW w2 => (y.has.cell (p := ⟨w.heap.size, 3, none⟩) BA.out.lt).trans (BA.out.cell 3)
    have M3 := fun y : BW w2 => (y.has.cell (p := ⟨w1.heap.size, 3, none⟩) BB.out.lt).trans (BB.out.cell 3)
    have L4 := fun y : BW w2 => (y.has.cell (p := ⟨w.heap.size, 4, none⟩) BA.out.lt).trans (BA.out.cell 4)
    have M4 := fun y : BW w2 => (y.has.cell (p := ⟨w1.heap.size, 4, none⟩) BB.out.lt).trans (BB.out.cell 4)
    have L5 := fun y : BW w2 => (y.has.cell (p := ⟨w.heap.size, 5, none⟩) BA.out.lt).trans (BA.out.cell 5)
    have M5 := fun y : BW w2 => (y.has.cell (p := ⟨w1.heap.size, 5, none⟩) BB.out.lt).trans (BB.out.cell 5)
    have L6 := fun y : BW w2 => (y.has.cell (p := ⟨w.heap.size, 6, none⟩) BA.out.lt).trans (BA.out.cell 6)
    have M6 := fun y : BW w2 => (y.has.cell (p := ⟨w1.heap.size, 6, none⟩) BB.out.lt).trans (BB.out.cell 6)
    have L7 := fun y : BW w2 => (y.has.cell (p := ⟨w.heap.size, 7, none⟩) BA.out.lt).trans (BA.out.cell 7)
    have M7 := fun y : BW w2 => (y.has.cell (p := ⟨w1.heap.size, 7, none⟩) BB.out.lt).trans (BB.out.cell 7)
    have L8 := fun y : BW w2 => (y.has.cell (p := ⟨w.heap.size, 8, none⟩) BA.out.lt).trans (BA.out.cell 8)
    have M8 := fun y : BW w2 => (y.has.cell (p := ⟨w1.heap.size, 8, none⟩) BB.out.lt).trans (BB.out.cell 8)
    go_wp2_with fail
    refine wp_region_below (by kernel_rfl) (by kernel_rfl) ?_
    repeat (go_big_quiet_step ((first | (go_at_call 15; exact calls_bw (Q1 _)) | (go_at_call 16; exact calls_bw (Q2 _)) | (go_at_call 17; exact calls_bw (S1 _)) | (go_at_call 18; exact calls_bw (S2 _)) | (go_at_call 19; exact calls_bw (H1 _)) | (go_at_call 20; exact calls_bw (H2 _)))))
    refine wpQuiet_nil ?_
    intro w9 hw9
    obtain ⟨y9, rfl⟩ := hw9
    have hbw9 : Below w.heap.size w y9.val := Q.call hbw y9.has
    have C9 := BB.out.call y9.has
    have hC9 := C9.lt
    have z0 := C9.cell 0
    have z1 := C9.cell 1
    have z2 := C9.cell 2
    have z3 := C9.cell 3
    have z4 := C9.cell 4
    have z5 := C9.cell 5
    have z6 := C9.cell 6
    have z7 := C9.cell 7
    have z8 := C9.cell 8
    clear C9
    go_wp2_with (first
      | (go_at_call 21; (with_reducible refine (FT _).mono ?_); rintro e w4 ⟨rfl, hb4⟩; obtain ⟨hc4, hf4, hz4⟩ := bcell hb4)
      | (go_at_call 23; (with_reducible refine (RT2 _).mono ?_); rintro e w5 ⟨rfl, hb5⟩)
      | (go_at_call 22; (with_reducible refine (AW _ (by repeat' (first | with_reducible exact Below.refl _ _ | with_reducible assumption | with_reducible refine Q.alloc ?_ _ | with_reducible refine Q.drew ?_ | with_reducible refine Q.drewN ?_ _ | with_reducible refine Q.call ?_ (by assumption)))).mono ?_); rintro e w6 ⟨rfl, hb6⟩))
    go_ret
    exact ⟨rfl, (by repeat' (first | with_reducible exact Below.refl _ _ | with_reducible assumption | with_reducible refine Q.alloc ?_ _ | with_reducible refine Q.drew ?_ | with_reducible refine Q.drewN ?_ _ | with_reducible refine Q.call ?_ (by assumption)))⟩
end Go.Proofs.YtggnkkmlabhofaaDoor
