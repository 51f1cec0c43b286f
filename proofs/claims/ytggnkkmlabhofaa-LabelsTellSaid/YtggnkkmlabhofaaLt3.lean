/- The walk of LabelsTell. (printed by gen/lt3.py) -/
import Derived.Test.YtggnkkmlabhofaaRf2
import Derived.Test.YtggnkkmlabhofaaRf6
import Derived.Test.YtggnkkmlabhofaaLa8
import Derived.Test.YtggnkkmlabhofaaLt2
import Derived.Deep.RegionHeld3
import Derived.Test.YtggnkkmlabhofaaQuiet
namespace Go.Proofs.Ytggnkkmlabhofaa
set_option linter.unusedVariables false
set_option linter.unusedSimpArgs false
open Go.RowKit Go.Sort Go.Shelf Go.Lib
attribute [local go_sem ↓] Go.wp_at_zero Go.wp_at_succ

set_option maxRecDepth 100000 in
set_option maxHeartbeats 3200000 in
theorem labelsTell_long (w : World) (R : Nat → Prop) (sa ma : Option Addr) (sc mc : Nat) (s m : List Sp) (dc tr x bv bt : Int) (hs : Rd ES w R (.slice sa s.length sc) s) (hm : Rd ES w R (.slice ma m.length mc) m) (bs : ∀ y ∈ s, 0 ≤ y.b ∧ y.b ≤ 255) (bm : ∀ y ∈ m, 0 ≤ y.b ∧ y.b ≤ 255) (hf : ¬ (s.length ≤ 80 ∧ m.length ≤ 80)) : Calls Try.prog 4 #[.agg #[.slice sa s.length sc, .slice ma m.length mc, .int .i64 dc, .int .i64 tr], .int .i64 x, .agg #[.int .u8 bv, .int .u8 bt]] w fun e w' => e = .returned (.bool true) ∧ Below w.heap.size w w' := by
  have FW := fun V => few_eq V sa ma s.length m.length sc mc dc tr false (decide_eq_false hf).symm
  have HS := Lib.hid hs
  have HM := Lib.hid hm
  have HBS := Lib.hid bs
  have HBM := Lib.hid bm
  clear hs hm bs bm
  go_enter Try.func4, Try.ntmps4
  go_wp2_with (go_at_call 5; (with_reducible refine (FW _).mono ?_); rintro e w1 ⟨rfl, hb1⟩; refine Hid.out ?_)
  refine Lib.hid ?_
  have hB1 : Below w.heap.size w w1 := (by repeat' (first | with_reducible exact Below.refl _ _ | with_reducible assumption | with_reducible refine Q.alloc ?_ _ | with_reducible refine Q.drew ?_ | with_reducible refine Q.drewN ?_ _ | with_reducible refine Q.call ?_ (by assumption)))
  clear hb1
  go_wp2_with (go_at_call 6; (with_reducible refine (lawake_eq _).mono ?_); rintro e w2 ⟨rfl, hb2⟩)
  go_ret
  exact ⟨rfl, Q.call hB1 hb2⟩
set_option maxRecDepth 1000000 in
set_option maxHeartbeats 12800000 in
theorem labelsTell_few (w : World) (R : Nat → Prop) (sa ma : Option Addr) (sc mc : Nat) (s m : List Sp) (dc tr x bv bt : Int) (hs : Rd ES w R (.slice sa s.length sc) s) (hm : Rd ES w R (.slice ma m.length mc) m) (bs : ∀ y ∈ s, 0 ≤ y.b ∧ y.b ≤ 255) (bm : ∀ y ∈ m, 0 ≤ y.b ∧ y.b ≤ 255) (hf : s.length ≤ 80 ∧ m.length ≤ 80) : Calls Try.prog 4 #[.agg #[.slice sa s.length sc, .slice ma m.length mc, .int .i64 dc, .int .i64 tr], .int .i64 x, .agg #[.int .u8 bv, .int .u8 bt]] w fun e w' => e = .returned (.bool true) ∧ Below w.heap.size w w' := by
  have FW := fun V => few_eq V sa ma s.length m.length sc mc dc tr true (decide_eq_true hf).symm
  have HS := Lib.hid hs
  have HM := Lib.hid hm
  have HBS := Lib.hid bs
  have HBM := Lib.hid bm
  clear hs hm bs bm
  go_enter Try.func4, Try.ntmps4
  go_wp2_with (go_at_call 5; (with_reducible refine (FW _).mono ?_); rintro e w1 ⟨rfl, hb1⟩; refine Hid.out ?_)
  refine Lib.hid ?_
  have PB : Blk w1 w.heap.size 24 #[.slice sa s.length sc, .slice ma m.length mc, .int .i64 dc, .int .i64 tr] := (Blk.alloc (Blk.new w _ _) _).call hb1
  have XB : Blk w1 (w.heap.size + 1) 44 #[.int .u8 bv, .int .u8 bt] := (Blk.new' (by simp)).call hb1
  have hB1 : Below w.heap.size w w1 := (by repeat' (first | with_reducible exact Below.refl _ _ | with_reducible assumption | with_reducible refine Q.alloc ?_ _ | with_reducible refine Q.drew ?_ | with_reducible refine Q.drewN ?_ _ | with_reducible refine Q.call ?_ (by assumption)))
  clear hb1 FW
  obtain ⟨hp, hhp⟩ : ∃ hp, hp = w.heap.size := ⟨_, rfl⟩
  obtain ⟨hx, hhx⟩ : ∃ hx, hx = w.heap.size + 1 := ⟨_, rfl⟩
  rw [← hhp] at PB
  rw [← hhx] at XB
  rw [← hhx, ← hhp]
  clear hhp hhx
  have HB1 := Lib.hid hB1
  have hp0 : hp < w1.heap.size := PB.lt
  have p0 : w1.cell? ⟨hp, 0, none⟩ = some (.slice sa s.length sc) := PB.cell 0
  have p1 : w1.cell? ⟨hp, 1, none⟩ = some (.slice ma m.length mc) := PB.cell 1
  have p2 : w1.cell? ⟨hp, 2, none⟩ = some (.int .i64 dc) := PB.cell 2
  have p3 : w1.cell? ⟨hp, 3, none⟩ = some (.int .i64 tr) := PB.cell 3
  have PLA := fun (V : World) (h : Below w.heap.size w V) => Plain_eq V R (.slice sa s.length sc) (.slice ma m.length mc) s m dc tr (HS.out.below h) (HM.out.below h) hf.1 hf.2 HBS.out HBM.out
  have RCK := fun (V : World) (v1 v2 : Value) (h1 : Rd EN V (fun _ => True) v1 s) (h2 : Rd EN V (fun _ => True) v2 m) => rcheck_eq V (fun _ => True) v1 v2 s m dc tr h1 h2 (by omega) (by omega) HBS.out HBM.out
  by_cases hC : chk s m dc tr = 0
  · have NW := new_ok w1 R _ _ s m dc tr (HS.out.below hB1) (HM.out.below hB1) (by omega) (by omega) hC
    have TELL := Lib.hid (chk_tell hC x)
    rw [hC] at RCK
    clear hC
    have HPB := Lib.hid PB
    have HXB := Lib.hid XB
    clear PB XB hB1
    go_wp2_with (go_at_call 7; (with_reducible refine NW.mono ?_); rintro e w2 ⟨gt, v1, v2, rfl, hgt, hN, hT⟩; refine Hid.out ?_)
    refine Lib.hid ?_
    clear NW p0 p1 p2 p3 hp0
    have HN := Lib.hid hN
    have HT := Lib.hid hT
    have hb2 := hN.bel
    have HPB2 := Lib.hid (HPB.out.call hb2)
    have HXB2 := Lib.hid (HXB.out.call hb2)
    have HB2 := Lib.hid (Q.call HB1.out hb2)
    have hp0 : hp < w2.heap.size := HPB2.out.lt
    have p0 : w2.cell? ⟨hp, 0, none⟩ = some (.slice sa s.length sc) := HPB2.out.cell 0
    have p1 : w2.cell? ⟨hp, 1, none⟩ = some (.slice ma m.length mc) := HPB2.out.cell 1
    have p2 : w2.cell? ⟨hp, 2, none⟩ = some (.int .i64 dc) := HPB2.out.cell 2
    have p3 : w2.cell? ⟨hp, 3, none⟩ = some (.int .i64 tr) := HPB2.out.cell 3
    clear hN hT hb2 hgt
    go_wp2_with (go_at_call 10; (with_reducible refine (PLA _ HB2.out).mono ?_); rintro e w3 ⟨a1, n1, a2, n2, rfl, hr1, hr2, hb3⟩; refine Hid.out ?_)
    refine Lib.hid ?_
    clear PLA p0 p1 p2 p3 hp0
    have HPB3 := Lib.hid (HPB2.out.call hb3)
    have HXB3 := Lib.hid (HXB2.out.call hb3)
    have HB3 := Lib.hid (Q.call HB2.out hb3)
    have HN3 := Lib.hid (HN.out.call hb3)
    have HT3 := Lib.hid (HT.out.call hb3)
    clear hb3
    go_wp2_with (go_at_call 12; (with_reducible refine (RCK _ _ _ (hr1.below (by repeat' (first | with_reducible exact Below.refl _ _ | with_reducible assumption | with_reducible refine Q.alloc ?_ _ | with_reducible refine Q.drew ?_ | with_reducible refine Q.drewN ?_ _ | with_reducible refine Q.call ?_ (by assumption)))) (hr2.below (by repeat' (first | with_reducible exact Below.refl _ _ | with_reducible assumption | with_reducible refine Q.alloc ?_ _ | with_reducible refine Q.drew ?_ | with_reducible refine Q.drewN ?_ _ | with_reducible refine Q.call ?_ (by assumption))))).mono ?_); rintro e w4 ⟨rfl, hb4⟩; refine Hid.out ?_)
    refine Lib.hid ?_
    have QB : Blk w4 w3.heap.size 35 #[.slice a1 s.length n1, .slice a2 m.length n2, .int .i64 dc, .int .i64 tr] := (Blk.new' (by simp)).call hb4
    have b34 : Below w3.heap.size w3 w4 := (by repeat' (first | with_reducible exact Below.refl _ _ | with_reducible assumption | with_reducible refine Q.alloc ?_ _ | with_reducible refine Q.drew ?_ | with_reducible refine Q.drewN ?_ _ | with_reducible refine Q.call ?_ (by assumption)))
    obtain ⟨hq, hhq⟩ : ∃ hq, hq = w3.heap.size := ⟨_, rfl⟩
    rw [← hhq] at QB ⊢
    have HQB4 := Lib.hid QB
    have HPB4 := Lib.hid (HPB3.out.call b34)
    have HXB4 := Lib.hid (HXB3.out.call b34)
    have HB4 := Lib.hid (Q.call HB3.out b34)
    have HN4 := Lib.hid (HN3.out.call b34)
    have HT4 := Lib.hid (HT3.out.call b34)
    have HR1 := Lib.hid (hr1.below b34)
    have HR2 := Lib.hid (hr2.below b34)
    have hp0 : hp < w4.heap.size := HPB4.out.lt
    have p0 : w4.cell? ⟨hp, 0, none⟩ = some (.slice sa s.length sc) := HPB4.out.cell 0
    have p1 : w4.cell? ⟨hp, 1, none⟩ = some (.slice ma m.length mc) := HPB4.out.cell 1
    have p2 : w4.cell? ⟨hp, 2, none⟩ = some (.int .i64 dc) := HPB4.out.cell 2
    have p3 : w4.cell? ⟨hp, 3, none⟩ = some (.int .i64 tr) := HPB4.out.cell 3
    clear hhq QB b34 hb4 hr1 hr2 RCK
    obtain ⟨V1, hV1⟩ : ∃ V1, V1 = bitsL s x := ⟨_, rfl⟩
    obtain ⟨V2, hV2⟩ : ∃ V2, V2 = bitsL m x := ⟨_, rfl⟩
    have T1 := TELL.out.1.trans hV1.symm
    have T2 := TELL.out.2.trans hV2.symm
    have BC1 := fun (V : World) (v : Value) (h : Rd EN V (fun _ => True) v s) => Bits_eq V (fun _ => True) v s x h (by omega) HBS.out
    have BC2 := fun (V : World) (v : Value) (h : Rd EN V (fun _ => True) v m) => Bits_eq V (fun _ => True) v m x h (by omega) HBM.out
    rw [← hV1] at BC1
    rw [← hV2] at BC2
    have SEC := fun (V : World) (h : Tab V gt v1 v2 dc tr (fillT (srt s) (fun _ => 0)) (fillT (srt m) (fun _ => 0))) => secret_eq V gt x v1 v2 dc tr _ _ h
    have SIC := fun (V : World) (h : Tab V gt v1 v2 dc tr (fillT (srt s) (fun _ => 0)) (fillT (srt m) (fun _ => 0))) => sink_eq V gt x v1 v2 dc tr _ _ h
    have LEC := fun (V : World) (h : Tab V gt v1 v2 dc tr (fillT (srt s) (fun _ => 0)) (fillT (srt m) (fun _ => 0))) => leaks_eq V gt x bv bt v1 v2 dc tr _ _ h
    rw [T1] at SEC
    rw [T2] at SIC LEC
    clear T1 T2 hV1 hV2 TELL
    have hls : (srt s).length ≤ 1000 := by rw [srt_length]; omega
    have hlm : (srt m).length ≤ 1000 := by rw [srt_length]; omega
    have hls3 : (srt (srt s)).length ≤ 1000 := by rw [srt_srt]; exact hls
    have hlm3 : (srt (srt m)).length ≤ 1000 := by rw [srt_srt]; exact hlm
    have es3 : srt (srt (srt s)) = srt s := by rw [srt_srt, srt_srt]
    have em3 : srt (srt (srt m)) = srt m := by rw [srt_srt, srt_srt]
    have POC := fun (V : World) (h : Below w4.heap.size w4 V) => policy_some V gt _ v1 v2 (srt s) (srt m) dc tr _ _ (HT4.out.call h) ((HN4.out.call h).rs) ((HN4.out.call h).rm) hls hlm
    have SMC := fun (V : World) (h : Below w4.heap.size w4 V) (b1 b2 : Option Addr) (k1 k2 : Nat) (h1 : Rd ES V (fun _ => True) (.slice b1 (srt s).length k1) (srt (srt s))) (h2 : Rd ES V (fun _ => True) (.slice b2 (srt m).length k2) (srt (srt m))) => same_true V (fun _ => True) R (.slice b1 (srt s).length k1) (.slice b2 (srt m).length k2) (.slice sa s.length sc) (.slice ma m.length mc) (srt (srt s)) (srt (srt m)) s m dc tr h1 h2 (HS.out.below (Q.call HB4.out h)) (HM.out.below (Q.call HB4.out h)) hls3 hlm3 (by omega) (by omega) es3 em3
    clear hls hlm hls3 hlm3 es3 em3
    have ST : ∀ V : World, Below w4.heap.size w4 V → V.cell? ⟨hp, 0, none⟩ = some (.slice sa s.length sc) ∧ V.cell? ⟨hp, 1, none⟩ = some (.slice ma m.length mc) ∧ V.cell? ⟨hp, 2, none⟩ = some (.int .i64 dc) ∧ V.cell? ⟨hp, 3, none⟩ = some (.int .i64 tr) := fun V h => ⟨(HPB4.out.call h).cell 0, (HPB4.out.call h).cell 1, (HPB4.out.call h).cell 2, (HPB4.out.call h).cell 3⟩
    go_wp2_with fail
    go_region_held3 (fun w' : World => w'.cell? ⟨hp, 0, none⟩ = some (.slice sa s.length sc) ∧ w'.cell? ⟨hp, 1, none⟩ = some (.slice ma m.length mc) ∧ w'.cell? ⟨hp, 2, none⟩ = some (.int .i64 dc) ∧ w'.cell? ⟨hp, 3, none⟩ = some (.int .i64 tr)) (exact ST _ (by repeat' (first | with_reducible exact Below.refl _ _ | with_reducible assumption | with_reducible refine Q.alloc ?_ _ | with_reducible refine Q.drew ?_ | with_reducible refine Q.drewN ?_ _ | with_reducible refine Q.call ?_ (by assumption)))) (first
      | (go_at_call 14; (with_reducible refine (POC _ (by repeat' (first | with_reducible exact Below.refl _ _ | with_reducible assumption | with_reducible refine Q.alloc ?_ _ | with_reducible refine Q.drew ?_ | with_reducible refine Q.drewN ?_ _ | with_reducible refine Q.call ?_ (by assumption)))).mono ?_); rintro e wa ⟨b1, k1, b2, k2, rfl, hra1, hra2, hba⟩)
      | (go_at_call 13; (with_reducible refine (SMC _ (by repeat' (first | with_reducible exact Below.refl _ _ | with_reducible assumption | with_reducible refine Q.alloc ?_ _ | with_reducible refine Q.drew ?_ | with_reducible refine Q.drewN ?_ _ | with_reducible refine Q.call ?_ (by assumption))) _ _ _ _ (hra1.below (by repeat' (first | with_reducible exact Below.refl _ _ | with_reducible assumption | with_reducible refine Q.alloc ?_ _ | with_reducible refine Q.drew ?_ | with_reducible refine Q.drewN ?_ _ | with_reducible refine Q.call ?_ (by assumption)))) (hra2.below (by repeat' (first | with_reducible exact Below.refl _ _ | with_reducible assumption | with_reducible refine Q.alloc ?_ _ | with_reducible refine Q.drew ?_ | with_reducible refine Q.drewN ?_ _ | with_reducible refine Q.call ?_ (by assumption))))).mono ?_); rintro e wb ⟨rfl, hbb⟩))
    all_goals
      have b4b : Below w4.heap.size w4 wb := (by repeat' (first | with_reducible exact Below.refl _ _ | with_reducible assumption | with_reducible refine Q.alloc ?_ _ | with_reducible refine Q.drew ?_ | with_reducible refine Q.drewN ?_ _ | with_reducible refine Q.call ?_ (by assumption)))
      have HQB5 := Lib.hid (HQB4.out.call b4b)
      have HXB5 := Lib.hid (HXB4.out.call b4b)
      have HB5 := Lib.hid (Q.call HB4.out b4b)
      have HT5 := Lib.hid (HT4.out.call b4b)
      have HS1 := Lib.hid (HR1.out.below b4b)
      have HS2 := Lib.hid (HR2.out.below b4b)
      have hq0 : hq < wb.heap.size := HQB5.out.lt
      have q0 : wb.cell? ⟨hq, 0, none⟩ = some (.slice a1 s.length n1) := HQB5.out.cell 0
      have q1 : wb.cell? ⟨hq, 1, none⟩ = some (.slice a2 m.length n2) := HQB5.out.cell 1
      clear b4b hba hbb hra1 hra2 POC SMC ST p0 p1 p2 p3 hp0
      go_wp2_with (go_at_call 15; (with_reducible refine (BC2 _ _ HS2.out).mono ?_); rintro e w5 ⟨rfl, hb5⟩; refine Hid.out ?_)
      refine Lib.hid ?_
      have HQB6 := Lib.hid (HQB5.out.call hb5)
      have HXB6 := Lib.hid (HXB5.out.call hb5)
      have HB6 := Lib.hid (Q.call HB5.out hb5)
      have HT6 := Lib.hid (HT5.out.call hb5)
      have HS16 := Lib.hid (HS1.out.below hb5)
      clear hb5 q0 q1 hq0
      have C1 := fun y : BW w5 => SEC y.val (HT6.out.call y.has)
      have C2 := fun y : BW w5 => SIC y.val (HT6.out.call y.has)
      have C3 := fun y : BW w5 => LEC y.val (HT6.out.call y.has)
      have C4 := fun y : BW w5 => BC1 y.val _ (HS16.out.below y.has)
      have C5 := fun y : BW w5 => lawake_eq y.val
      have L0 : ∀ y : BW w5, y.val.cell? ⟨hx, 0, none⟩ = some (.int .u8 bv) := fun y => (HXB6.out.call y.has).cell 0
      have L1 : ∀ y : BW w5, y.val.cell? ⟨hx, 1, none⟩ = some (.int .u8 bt) := fun y => (HXB6.out.call y.has).cell 1
      have L2 : ∀ y : BW w5, y.val.cell? ⟨hq, 0, none⟩ = some (.slice a1 s.length n1) := fun y => (HQB6.out.call y.has).cell 0
      clear SEC SIC LEC BC1 BC2
      go_wp2_with fail
      refine wp_region_below (by kernel_rfl) (by kernel_rfl) ?_
      repeat (go_big_quiet_step ((first
        | (go_at_call 16; exact calls_bw (C1 _))
        | (go_at_call 17; exact calls_bw (C2 _))
        | (go_at_call 18; exact calls_bw (C3 _))
        | (go_at_call 15; exact calls_bw (C4 _))
        | (go_at_call 6; exact calls_bw (C5 _)))))
      refine wpQuiet_nil ?_
      first | (intro w9 hw9; obtain ⟨y1, rfl⟩ := hw9) | intro y1
      go_wp2_with fail
      go_ret
      exact ⟨rfl, Q.call HB6.out y1.has⟩
  · have NW := new_bad w1 R _ _ s m dc tr (HS.out.below hB1) (HM.out.below hB1) (by omega) (by omega) _ rfl hC
    obtain ⟨C, hC'⟩ : ∃ C, C = chk s m dc tr := ⟨_, rfl⟩
    rw [← hC'] at NW hC RCK
    have hcb : (C == 0) = false := by simp [hC]
    have HPB := Lib.hid PB
    clear PB XB hB1 hC'
    go_wp2_with (go_at_call 7; (with_reducible refine NW.mono ?_); rintro e w2 ⟨rfl, hb2⟩; refine Hid.out ?_)
    refine Lib.hid ?_
    clear NW p0 p1 p2 p3 hp0
    have HPB2 := Lib.hid (HPB.out.call hb2)
    have HB2 := Lib.hid (Q.call HB1.out hb2)
    have hp0 : hp < w2.heap.size := HPB2.out.lt
    have p0 : w2.cell? ⟨hp, 0, none⟩ = some (.slice sa s.length sc) := HPB2.out.cell 0
    have p1 : w2.cell? ⟨hp, 1, none⟩ = some (.slice ma m.length mc) := HPB2.out.cell 1
    have p2 : w2.cell? ⟨hp, 2, none⟩ = some (.int .i64 dc) := HPB2.out.cell 2
    have p3 : w2.cell? ⟨hp, 3, none⟩ = some (.int .i64 tr) := HPB2.out.cell 3
    clear hb2
    go_wp2_with (go_at_call 10; (with_reducible refine (PLA _ HB2.out).mono ?_); rintro e w3 ⟨a1, n1, a2, n2, rfl, hr1, hr2, hb3⟩; refine Hid.out ?_)
    refine Lib.hid ?_
    clear PLA p0 p1 p2 p3 hp0
    have HB3 := Lib.hid (Q.call HB2.out hb3)
    clear hb3
    go_wp2_with (go_at_call 12; (with_reducible refine (RCK _ _ _ (hr1.below (by repeat' (first | with_reducible exact Below.refl _ _ | with_reducible assumption | with_reducible refine Q.alloc ?_ _ | with_reducible refine Q.drew ?_ | with_reducible refine Q.drewN ?_ _ | with_reducible refine Q.call ?_ (by assumption)))) (hr2.below (by repeat' (first | with_reducible exact Below.refl _ _ | with_reducible assumption | with_reducible refine Q.alloc ?_ _ | with_reducible refine Q.drew ?_ | with_reducible refine Q.drewN ?_ _ | with_reducible refine Q.call ?_ (by assumption))))).mono ?_); rintro e w4 ⟨rfl, hb4⟩; refine Hid.out ?_)
    refine Lib.hid ?_
    have HB4 := Lib.hid (Q.call HB3.out (show Below w3.heap.size w3 w4 from (by repeat' (first | with_reducible exact Below.refl _ _ | with_reducible assumption | with_reducible refine Q.alloc ?_ _ | with_reducible refine Q.drew ?_ | with_reducible refine Q.drewN ?_ _ | with_reducible refine Q.call ?_ (by assumption)))))
    clear hb4 hr1 hr2 RCK
    go_wp2_with (go_at_call 6; (with_reducible refine (lawake_eq _).mono ?_); rintro e w5 ⟨rfl, hb5⟩)
    go_ret
    exact ⟨rfl, Q.call HB4.out hb5⟩
end Go.Proofs.Ytggnkkmlabhofaa
