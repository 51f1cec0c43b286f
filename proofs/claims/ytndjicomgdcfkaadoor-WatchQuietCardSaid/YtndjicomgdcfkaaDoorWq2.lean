/- The law WatchQuiet: the walk. (printed by gen/wq1.py) -/
import Derived.Test.YtndjicomgdcfkaaDoorWq1
namespace Go.Proofs.YtndjicomgdcfkaaDoor
set_option linter.unusedVariables false
set_option linter.unusedSimpArgs false
open Go.RowKit
attribute [local go_sem ↓] Go.wp_at_zero Go.wp_at_succ

set_option maxRecDepth 100000 in
set_option maxHeartbeats 3200000 in
theorem wq_none_false (w : World) (R : Nat → Prop) (sa ma : Option Addr) (sc mc : Nat) (s m : List Sp) (dc tr : Int) (a : Option Addr) (len cap : Nat) (ops : List WO) (hs : Rd ES w R (.slice sa s.length sc) s) (hm : Rd ES w R (.slice ma m.length mc) m) (hr : ReadsW w w.heap.size a len ops) (hT : TB w ∧ TZ w ∧ WD w) (hf : ¬ ((s.length ≤ 80 ∧ (m : List Sp).length ≤ 80) ∧ chk s m dc tr = 0)) : Calls Tryd.prog 5 #[.agg #[.slice sa s.length sc, .slice ma m.length mc, .int .i64 dc, .int .i64 tr], .slice a len cap, .bool false] w fun e w' => e = .returned (.bool true) ∧ Below w.heap.size w w' := by
  have HT := Lib.hid hT.1
  have HZ := Lib.hid hT.2.1
  have HW := Lib.hid hT.2.2
  have AW := fun V (hV : Below w.heap.size w V) => aawake_eq V (TB.on HT.out hV) (TZ.on HZ.out hV) (WD.on HW.out hV)
  have TA : ∀ V : World, Below w.heap.size w V → Calls Tryd.prog 14 #[.agg #[.slice sa s.length sc, .slice ma m.length mc, .int .i64 dc, .int .i64 tr]] V fun e w' => e = .returned (.pointer none) ∧ Below V.heap.size V w' := fun V hV => table_none V R sa ma sc mc s m dc tr (hs.below hV) (hm.below hV) hf
  clear hs hm hr hT hf
  go_enter Tryd.func5, Tryd.ntmps5
  go_wp2_with (first
    | (go_at_call 14; (with_reducible refine (TA _ (by repeat' (first | with_reducible refine qset ?_ (Nat.le_refl _) | with_reducible exact Below.refl _ _ | with_reducible assumption | with_reducible refine Q.alloc ?_ _ | with_reducible refine Q.drew ?_ | with_reducible refine Q.drewN ?_ _ | with_reducible refine Q.call ?_ (by assumption)))).mono ?_); rintro e w1 ⟨rfl, hb1⟩; have HB1 := Lib.hid (show Below w.heap.size w w1 from (by repeat' (first | with_reducible refine qset ?_ (Nat.le_refl _) | with_reducible exact Below.refl _ _ | with_reducible assumption | with_reducible refine Q.alloc ?_ _ | with_reducible refine Q.drew ?_ | with_reducible refine Q.drewN ?_ _ | with_reducible refine Q.call ?_ (by assumption)))); clear hb1)
    | (go_at_call 13; (with_reducible refine (AW _ HB1.out).mono ?_); rintro e w7 ⟨rfl, hb7⟩))
  go_ret
  exact ⟨rfl, Q.call HB1.out hb7⟩
set_option maxRecDepth 100000 in
set_option maxHeartbeats 3200000 in
theorem wq_long_false (w : World) (R : Nat → Prop) (sa ma : Option Addr) (sc mc : Nat) (s m : List Sp) (dc tr : Int) (a : Option Addr) (len cap : Nat) (ops : List WO) (hs : Rd ES w R (.slice sa s.length sc) s) (hm : Rd ES w R (.slice ma m.length mc) m) (hr : ReadsW w w.heap.size a len ops) (hT : TB w ∧ TZ w ∧ WD w) (hf : ((s.length ≤ 80 ∧ (m : List Sp).length ≤ 80) ∧ chk s m dc tr = 0)) (hl : 60 < len) : Calls Tryd.prog 5 #[.agg #[.slice sa s.length sc, .slice ma m.length mc, .int .i64 dc, .int .i64 tr], .slice a len cap, .bool false] w fun e w' => e = .returned (.bool true) ∧ Below w.heap.size w w' := by
  have HT := Lib.hid hT.1
  have HZ := Lib.hid hT.2.1
  have HW := Lib.hid hT.2.2
  have AW := fun V (hV : Below w.heap.size w V) => aawake_eq V (TB.on HT.out hV) (TZ.on HZ.out hV) (WD.on HW.out hV)
  have TA : ∀ V : World, Below w.heap.size w V → Calls Tryd.prog 14 #[.agg #[.slice sa s.length sc, .slice ma m.length mc, .int .i64 dc, .int .i64 tr]] V fun e w' => ∃ gt, e = .returned (.pointer (some ⟨gt, 0, none⟩)) ∧ V.heap.size ≤ gt ∧ TK w' gt s m dc tr ∧ Below V.heap.size V w' := fun V hV => table_some V R sa ma sc mc s m dc tr (hs.below hV) (hm.below hV) hf.1 hf.2
  have hli : (60 : Int) < (len : Int) := by omega
  clear hs hm hr hT hf hl
  go_enter Tryd.func5, Tryd.ntmps5
  go_wp2_with (first
    | (go_at_call 14; (with_reducible refine (TA _ (by repeat' (first | with_reducible refine qset ?_ (Nat.le_refl _) | with_reducible exact Below.refl _ _ | with_reducible assumption | with_reducible refine Q.alloc ?_ _ | with_reducible refine Q.drew ?_ | with_reducible refine Q.drewN ?_ _ | with_reducible refine Q.call ?_ (by assumption)))).mono ?_); rintro e w1 ⟨gt, rfl, hgt, hTK, hb1⟩; have HB1 := Lib.hid (show Below w.heap.size w w1 from (by repeat' (first | with_reducible refine qset ?_ (Nat.le_refl _) | with_reducible exact Below.refl _ _ | with_reducible assumption | with_reducible refine Q.alloc ?_ _ | with_reducible refine Q.drew ?_ | with_reducible refine Q.drewN ?_ _ | with_reducible refine Q.call ?_ (by assumption)))); clear hb1 hgt hTK)
    | (go_at_call 13; (with_reducible refine (AW _ HB1.out).mono ?_); rintro e w7 ⟨rfl, hb7⟩))
  go_ret
  exact ⟨rfl, Q.call HB1.out hb7⟩
set_option maxRecDepth 100000 in
set_option maxHeartbeats 6400000 in
theorem wq_run_false (w : World) (R : Nat → Prop) (sa ma : Option Addr) (sc mc : Nat) (s m : List Sp) (dc tr : Int) (a : Option Addr) (len cap : Nat) (ops : List WO) (hs : Rd ES w R (.slice sa s.length sc) s) (hm : Rd ES w R (.slice ma m.length mc) m) (hr : ReadsW w w.heap.size a len ops) (hT : TB w ∧ TZ w ∧ WD w) (hf : ((s.length ≤ 80 ∧ (m : List Sp).length ≤ 80) ∧ chk s m dc tr = 0)) (hl : ¬ 60 < len) : Calls Tryd.prog 5 #[.agg #[.slice sa s.length sc, .slice ma m.length mc, .int .i64 dc, .int .i64 tr], .slice a len cap, .bool false] w fun e w' => e = .returned (.bool true) ∧ Below w.heap.size w w' := by
  have HT := Lib.hid hT.1
  have HZ := Lib.hid hT.2.1
  have HW := Lib.hid hT.2.2
  have AW := fun V (hV : Below w.heap.size w V) => aawake_eq V (TB.on HT.out hV) (TZ.on HZ.out hV) (WD.on HW.out hV)
  have TA : ∀ V : World, Below w.heap.size w V → Calls Tryd.prog 14 #[.agg #[.slice sa s.length sc, .slice ma m.length mc, .int .i64 dc, .int .i64 tr]] V fun e w' => ∃ gt, e = .returned (.pointer (some ⟨gt, 0, none⟩)) ∧ V.heap.size ≤ gt ∧ TK w' gt s m dc tr ∧ Below V.heap.size V w' := fun V hV => table_some V R sa ma sc mc s m dc tr (hs.below hV) (hm.below hV) hf.1 hf.2
  have hli : ¬ (60 : Int) < (len : Int) := by omega
  have HR := Lib.hid hr
  clear hs hm hr hT hf
  go_enter Tryd.func5, Tryd.ntmps5
  go_wp2_with (go_at_call 14; (with_reducible refine (TA _ (by repeat' (first | with_reducible refine qset ?_ (Nat.le_refl _) | with_reducible exact Below.refl _ _ | with_reducible assumption | with_reducible refine Q.alloc ?_ _ | with_reducible refine Q.drew ?_ | with_reducible refine Q.drewN ?_ _ | with_reducible refine Q.call ?_ (by assumption)))).mono ?_); rintro e w1 ⟨gt, rfl, hgt, hTK, hb1⟩; refine Hid.out ?_)
  refine Lib.hid ?_
  have HB1 := Lib.hid (show Below w.heap.size w w1 from (by repeat' (first | with_reducible refine qset ?_ (Nat.le_refl _) | with_reducible exact Below.refl _ _ | with_reducible assumption | with_reducible refine Q.alloc ?_ _ | with_reducible refine Q.drew ?_ | with_reducible refine Q.drewN ?_ _ | with_reducible refine Q.call ?_ (by assumption))))
  have HGT := Lib.hid (show w.heap.size ≤ gt by (try simp at hgt); omega)
  have HTK := Lib.hid hTK
  clear hb1 hgt hTK TA
  go_wp2_with (go_at_call 7; (with_reducible refine (wnew_eq _ _).mono ?_); rintro e w2 ⟨rfl, rfl⟩)
  obtain ⟨gv, hgv⟩ : ∃ gv, gv = w1.heap.size := ⟨_, rfl⟩
  obtain ⟨gw, hgw⟩ : ∃ gw, gw = w1.heap.size + 1 := ⟨_, rfl⟩
  obtain ⟨W2, hW2⟩ : ∃ W2, W2 = (w1.alloc (.cells #[.pointer (some ⟨gt, 0, none⟩), .int .i64 0, .int .i64 0, .int .i64 0, .int .i64 0, .int .u8 0, .int .i64 0, .int .i64 0] 68)).alloc (.cells #[.pointer (some ⟨gt, 0, none⟩), .int .i64 0, .int .i64 0, .int .i64 0, .int .i64 0, .int .u8 0, .int .i64 0, .int .i64 0] 68) := ⟨_, rfl⟩
  have hQ : QI w gt gv gw s m dc tr ⟨0, 0, 0, 0, 0, 0, 0⟩ 0 W2 := by
    have h1 := HTK.out.lt
    have h2 := HGT.out
    rw [hW2, hgv, hgw]
    refine ⟨Q.alloc (Q.alloc HB1.out _) _, (HTK.out.call (Q.alloc (Below.refl _ _) _)).call (Q.alloc (Below.refl _ _) _), (Blk.new _ _ _).alloc _, Blk.new' (by simp), ⟨h2, h1, by omega⟩, by decide, by decide, by decide⟩
  have HQ := Lib.hid hQ
  rw [← hgw, ← hgv, ← hW2]
  clear hgv hgw hW2 hQ HTK HB1
  go_loopw [12] (fun iv wr => ∃ (k : Nat) (S : WS), iv = .int .i64 (k : Int) ∧ k ≤ len ∧ QI w gt gv gw s m dc tr S k wr) (fun iv _ => len - (intOf iv).toNat)
  case atStart => exact ⟨0, _, rfl, Nat.zero_le _, HQ.out⟩
  case round =>
    clear HQ
    obtain ⟨k, S, rfl, hk, hq⟩ := hrel
    by_cases hkn : k < len
    · obtain ⟨b, off, o, rfl, hbl, hget, c0, c1, c2, c3, c4, c5, c6, cb0, cb1, cb2, cb3⟩ := (HR.out.below hq.bel).at_ hkn
      obtain ⟨ask, cyc, rule, addr, wx, vv, tt⟩ := o
      simp only at c0 c1 c2 c3 c4 c5 c6
      have hki : (k : Int) < (len : Int) := by omega
      have hk0 : (0 : Int) ≤ (k : Int) := by omega
      have hbw : b < wr.heap.size := Nat.lt_of_lt_of_le hbl hq.bel.size
      have HQ := Lib.hid hq
      clear hget hbl cb0 cb1 cb2 cb3 hq
      by_cases h01 : ask = 0 ∨ ask = 1
      · have DQ := S.does_quiet dc ⟨ask, cyc, rule, addr, wx, vv, 0⟩ h01 HQ.out.st
        have DE := S.does_se dc 0 ⟨ask, cyc, rule, addr, wx, vv, 0⟩
        have hse := HQ.out.se
        have DV : ∀ V : World, Below wr.heap.size wr V → Blk V wr.heap.size 27 #[.int .i64 ask, .int .i64 cyc, .int .i64 rule, .int .i64 addr, .bool wx, .int .u8 vv, .int .u8 0] → Calls Tryd.prog 8 #[.pointer (some ⟨gv, 0, none⟩), .agg #[.int .i64 ask, .int .i64 cyc, .int .i64 rule, .int .i64 addr, .bool wx, .int .u8 vv, .int .u8 0]] V (fun e w' => e = .returned (.int .i64 (S.does dc 0 ⟨ask, cyc, rule, addr, wx, vv, 0⟩).1) ∧ ∃ V0, Below wr.heap.size wr V0 ∧ Chg (fun b => b = gv) V0 w' ∧ Blk w' gv 68 ((S.does dc 0 ⟨ask, cyc, rule, addr, wx, vv, 0⟩).2.cells (.pointer (some ⟨gt, 0, none⟩))) ∧ Blk w' wr.heap.size 27 #[.int .i64 ask, .int .i64 cyc, .int .i64 rule, .int .i64 addr, .bool wx, .int .u8 vv, .int .u8 0]) := fun V hV hX => by
          have h := does_calls V gv gt S ((HQ.out.call hV).v) s m dc tr ((HQ.out.call hV).tk) ⟨ask, cyc, rule, addr, wx, vv, 0⟩ ⟨hse.1, by omega⟩ HQ.out.lo.2.1
          rw [lkv_zero] at h
          exact h.mono fun e w' ⟨he, hc, hb⟩ => ⟨he, V, hV, hc, hb, hX.chg hc (fun h => by have h : wr.heap.size = gv := h; have := HQ.out.v.lt; omega)⟩
        have DW : ∀ V V1 : World, Below wr.heap.size wr V → Chg (fun b => b = gv) V V1 → Calls Tryd.prog 8 #[.pointer (some ⟨gw, 0, none⟩), .agg #[.int .i64 ask, .int .i64 cyc, .int .i64 rule, .int .i64 addr, .bool wx, .int .u8 vv, .int .u8 0]] V1 (DPost V1 gw (.pointer (some ⟨gt, 0, none⟩)) (S.does dc 0 ⟨ask, cyc, rule, addr, wx, vv, 0⟩)) := fun V V1 hV hc => by
          have l := HQ.out.lo
          have h := does_calls V1 gw gt S ((HQ.out.call hV).u.chg hc (fun h => by have h : gw = gv := h; omega)) s m dc tr ((HQ.out.call hV).tk.chg hc (fun b hb => by have hb : b = gv := hb; omega)) ⟨ask, cyc, rule, addr, wx, vv, 0⟩ ⟨hse.1, by omega⟩ (by omega)
          rw [lkv_zero] at h
          exact h
        obtain ⟨Rr, hRr⟩ : ∃ Rr, Rr = S.does dc 0 ⟨ask, cyc, rule, addr, wx, vv, 0⟩ := ⟨_, rfl⟩
        rw [← hRr] at DQ DE DV DW
        obtain ⟨E, S2⟩ := Rr
        simp only at DQ DE
        have e20 : (E == 20) = false := beq_eq_false_iff_ne.2 DQ.1
        have HDQ := Lib.hid DQ.2
        have HDE := Lib.hid DE
        clear hRr DQ DE hse
        rcases h01 with rfl | rfl
        all_goals
          go_wp2_with (go_at_call 8; (with_reducible refine (DV _ (by repeat' (first | with_reducible refine qset ?_ (Nat.le_refl _) | with_reducible exact Below.refl _ _ | with_reducible assumption | with_reducible refine Q.alloc ?_ _ | with_reducible refine Q.drew ?_ | with_reducible refine Q.drewN ?_ _ | with_reducible refine Q.call ?_ (by assumption))) (by first | exact Blk.new wr _ _ | exact box_set wr _ _ _ _)).mono ?_); rintro e w2 ⟨rfl, V0, hV0, hch, hb2, hbx⟩; refine Hid.out ?_)
          refine Lib.hid ?_
          have DW2 := DW V0 w2 hV0 hch
          have HV0 := Lib.hid hV0
          have HCH := Lib.hid hch
          have HB2 := Lib.hid hb2
          have x0 := hbx.cell 0
          have x1 := hbx.cell 1
          have x2 := hbx.cell 2
          have x3 := hbx.cell 3
          have x4 := hbx.cell 4
          have x5 := hbx.cell 5
          have x6 := hbx.cell 6
          have hxl := hbx.lt
          clear hV0 hch hb2 hbx c0 c1 c2 c3 c4 c5 c6 DV DW
          go_wp2_with (go_at_call 8; (with_reducible refine DW2.mono ?_); rintro e w3 ⟨rfl, hch3, hb3⟩; refine Hid.out ?_)
          refine Lib.hid ?_
          have HN := Lib.hid ((HQ.out.call HV0.out).both HCH.out HB2.out hch3 hb3 HDQ.out HDE.out)
          have SV := state_eq w3 gv _ _ _ _ _ _ _ _ HN.out.v
          have SW := state_eq w3 gw _ _ _ _ _ _ _ _ HN.out.u
          clear x0 x1 x2 x3 x4 x5 x6 hxl DW2 HB2 HCH HV0 hch3 hb3
          go_wp2_with (first
            | (go_at_call 9; (with_reducible refine SV.mono ?_); rintro e w4 ⟨rfl, rfl⟩)
            | (go_at_call 9; (with_reducible refine SW.mono ?_); rintro e w5 ⟨rfl, rfl⟩))
          refine ⟨⟨k + 1, S2, by simp, by omega, HN.out⟩, by simp [intOf]; omega⟩
      · have e0 : (ask == 0) = false := beq_eq_false_iff_ne.2 (fun h => h01 (.inl h))
        have e1 : (ask == 1) = false := beq_eq_false_iff_ne.2 (fun h => h01 (.inr h))
        have n0 : (ask != 0) = true := by simp [bne, e0]
        have n1 : (ask != 1) = true := by simp [bne, e1]
        clear h01
        go_wp2_with fail
        refine ⟨⟨k + 1, S, by simp, by omega, (HQ.out.call (by repeat' (first | with_reducible refine qset ?_ (Nat.le_refl _) | with_reducible exact Below.refl _ _ | with_reducible assumption | with_reducible refine Q.alloc ?_ _ | with_reducible refine Q.drew ?_ | with_reducible refine Q.drewN ?_ _ | with_reducible refine Q.call ?_ (by assumption)))).more⟩, by simp [intOf]; omega⟩
    · have hki : ¬ (k : Int) < (len : Int) := by omega
      have AN := alarms_none wr gv _ _ _ _ _ _ _ _ hq.v hq.st
      have SN := seen_eq wr gv _ _ _ _ _ _ _ _ hq.v
      have SM := seen_eq wr gw _ _ _ _ _ _ _ _ hq.u
      have AE := AW wr hq.bel
      have HQB := Lib.hid hq.bel
      clear hq AW HR
      go_wp2_with (first
        | (go_at_call 10; (with_reducible refine AN.mono ?_); rintro e w4 ⟨rfl, rfl⟩)
        | (go_at_call 11; (with_reducible refine SN.mono ?_); rintro e w5 ⟨rfl, rfl⟩)
        | (go_at_call 11; (with_reducible refine SM.mono ?_); rintro e w5 ⟨rfl, rfl⟩)
        | (go_at_call 13; (with_reducible refine AE.mono ?_); rintro e w6 ⟨rfl, hb6⟩))
      go_ret
      exact ⟨rfl, Q.call HQB.out hb6⟩
set_option maxRecDepth 100000 in
set_option maxHeartbeats 3200000 in
theorem wq_none_true (w : World) (R : Nat → Prop) (sa ma : Option Addr) (sc mc : Nat) (s m : List Sp) (dc tr : Int) (a : Option Addr) (len cap : Nat) (ops : List WO) (hs : Rd ES w R (.slice sa s.length sc) s) (hm : Rd ES w R (.slice ma m.length mc) m) (hr : ReadsW w w.heap.size a len ops) (hT : TB w ∧ TZ w ∧ WD w) (hf : ¬ ((s.length ≤ 80 ∧ ([] : List Sp).length ≤ 80) ∧ chk s [] dc tr = 0)) : Calls Tryd.prog 5 #[.agg #[.slice sa s.length sc, .slice ma m.length mc, .int .i64 dc, .int .i64 tr], .slice a len cap, .bool true] w fun e w' => e = .returned (.bool true) ∧ Below w.heap.size w w' := by
  have HT := Lib.hid hT.1
  have HZ := Lib.hid hT.2.1
  have HW := Lib.hid hT.2.2
  have AW := fun V (hV : Below w.heap.size w V) => aawake_eq V (TB.on HT.out hV) (TZ.on HZ.out hV) (WD.on HW.out hV)
  have TA : ∀ V : World, Below w.heap.size w V → Calls Tryd.prog 14 #[.agg #[.slice sa s.length sc, .slice none 0 0, .int .i64 dc, .int .i64 tr]] V fun e w' => e = .returned (.pointer none) ∧ Below V.heap.size V w' := fun V hV => table_none V R sa none sc 0 s [] dc tr (hs.below hV) ⟨none, 0, rfl, Nat.le_refl _, fun _ => rfl, fun h => absurd h (by simp)⟩ hf
  clear hs hm hr hT hf
  go_enter Tryd.func5, Tryd.ntmps5
  go_wp2_with (first
    | (go_at_call 14; (with_reducible refine (TA _ (by repeat' (first | with_reducible refine qset ?_ (Nat.le_refl _) | with_reducible exact Below.refl _ _ | with_reducible assumption | with_reducible refine Q.alloc ?_ _ | with_reducible refine Q.drew ?_ | with_reducible refine Q.drewN ?_ _ | with_reducible refine Q.call ?_ (by assumption)))).mono ?_); rintro e w1 ⟨rfl, hb1⟩; have HB1 := Lib.hid (show Below w.heap.size w w1 from (by repeat' (first | with_reducible refine qset ?_ (Nat.le_refl _) | with_reducible exact Below.refl _ _ | with_reducible assumption | with_reducible refine Q.alloc ?_ _ | with_reducible refine Q.drew ?_ | with_reducible refine Q.drewN ?_ _ | with_reducible refine Q.call ?_ (by assumption)))); clear hb1)
    | (go_at_call 13; (with_reducible refine (AW _ HB1.out).mono ?_); rintro e w7 ⟨rfl, hb7⟩))
  go_ret
  exact ⟨rfl, Q.call HB1.out hb7⟩
set_option maxRecDepth 100000 in
set_option maxHeartbeats 3200000 in
theorem wq_long_true (w : World) (R : Nat → Prop) (sa ma : Option Addr) (sc mc : Nat) (s m : List Sp) (dc tr : Int) (a : Option Addr) (len cap : Nat) (ops : List WO) (hs : Rd ES w R (.slice sa s.length sc) s) (hm : Rd ES w R (.slice ma m.length mc) m) (hr : ReadsW w w.heap.size a len ops) (hT : TB w ∧ TZ w ∧ WD w) (hf : ((s.length ≤ 80 ∧ ([] : List Sp).length ≤ 80) ∧ chk s [] dc tr = 0)) (hl : 60 < len) : Calls Tryd.prog 5 #[.agg #[.slice sa s.length sc, .slice ma m.length mc, .int .i64 dc, .int .i64 tr], .slice a len cap, .bool true] w fun e w' => e = .returned (.bool true) ∧ Below w.heap.size w w' := by
  have HT := Lib.hid hT.1
  have HZ := Lib.hid hT.2.1
  have HW := Lib.hid hT.2.2
  have AW := fun V (hV : Below w.heap.size w V) => aawake_eq V (TB.on HT.out hV) (TZ.on HZ.out hV) (WD.on HW.out hV)
  have TA : ∀ V : World, Below w.heap.size w V → Calls Tryd.prog 14 #[.agg #[.slice sa s.length sc, .slice none 0 0, .int .i64 dc, .int .i64 tr]] V fun e w' => ∃ gt, e = .returned (.pointer (some ⟨gt, 0, none⟩)) ∧ V.heap.size ≤ gt ∧ TK w' gt s [] dc tr ∧ Below V.heap.size V w' := fun V hV => table_some V R sa none sc 0 s [] dc tr (hs.below hV) ⟨none, 0, rfl, Nat.le_refl _, fun _ => rfl, fun h => absurd h (by simp)⟩ hf.1 hf.2
  have hli : (60 : Int) < (len : Int) := by omega
  clear hs hm hr hT hf hl
  go_enter Tryd.func5, Tryd.ntmps5
  go_wp2_with (first
    | (go_at_call 14; (with_reducible refine (TA _ (by repeat' (first | with_reducible refine qset ?_ (Nat.le_refl _) | with_reducible exact Below.refl _ _ | with_reducible assumption | with_reducible refine Q.alloc ?_ _ | with_reducible refine Q.drew ?_ | with_reducible refine Q.drewN ?_ _ | with_reducible refine Q.call ?_ (by assumption)))).mono ?_); rintro e w1 ⟨gt, rfl, hgt, hTK, hb1⟩; have HB1 := Lib.hid (show Below w.heap.size w w1 from (by repeat' (first | with_reducible refine qset ?_ (Nat.le_refl _) | with_reducible exact Below.refl _ _ | with_reducible assumption | with_reducible refine Q.alloc ?_ _ | with_reducible refine Q.drew ?_ | with_reducible refine Q.drewN ?_ _ | with_reducible refine Q.call ?_ (by assumption)))); clear hb1 hgt hTK)
    | (go_at_call 13; (with_reducible refine (AW _ HB1.out).mono ?_); rintro e w7 ⟨rfl, hb7⟩))
  go_ret
  exact ⟨rfl, Q.call HB1.out hb7⟩
set_option maxRecDepth 100000 in
set_option maxHeartbeats 6400000 in
theorem wq_run_true (w : World) (R : Nat → Prop) (sa ma : Option Addr) (sc mc : Nat) (s m : List Sp) (dc tr : Int) (a : Option Addr) (len cap : Nat) (ops : List WO) (hs : Rd ES w R (.slice sa s.length sc) s) (hm : Rd ES w R (.slice ma m.length mc) m) (hr : ReadsW w w.heap.size a len ops) (hT : TB w ∧ TZ w ∧ WD w) (hf : ((s.length ≤ 80 ∧ ([] : List Sp).length ≤ 80) ∧ chk s [] dc tr = 0)) (hl : ¬ 60 < len) : Calls Tryd.prog 5 #[.agg #[.slice sa s.length sc, .slice ma m.length mc, .int .i64 dc, .int .i64 tr], .slice a len cap, .bool true] w fun e w' => e = .returned (.bool true) ∧ Below w.heap.size w w' := by
  have HT := Lib.hid hT.1
  have HZ := Lib.hid hT.2.1
  have HW := Lib.hid hT.2.2
  have AW := fun V (hV : Below w.heap.size w V) => aawake_eq V (TB.on HT.out hV) (TZ.on HZ.out hV) (WD.on HW.out hV)
  have TA : ∀ V : World, Below w.heap.size w V → Calls Tryd.prog 14 #[.agg #[.slice sa s.length sc, .slice none 0 0, .int .i64 dc, .int .i64 tr]] V fun e w' => ∃ gt, e = .returned (.pointer (some ⟨gt, 0, none⟩)) ∧ V.heap.size ≤ gt ∧ TK w' gt s [] dc tr ∧ Below V.heap.size V w' := fun V hV => table_some V R sa none sc 0 s [] dc tr (hs.below hV) ⟨none, 0, rfl, Nat.le_refl _, fun _ => rfl, fun h => absurd h (by simp)⟩ hf.1 hf.2
  have hli : ¬ (60 : Int) < (len : Int) := by omega
  have HR := Lib.hid hr
  clear hs hm hr hT hf
  go_enter Tryd.func5, Tryd.ntmps5
  go_wp2_with (go_at_call 14; (with_reducible refine (TA _ (by repeat' (first | with_reducible refine qset ?_ (Nat.le_refl _) | with_reducible exact Below.refl _ _ | with_reducible assumption | with_reducible refine Q.alloc ?_ _ | with_reducible refine Q.drew ?_ | with_reducible refine Q.drewN ?_ _ | with_reducible refine Q.call ?_ (by assumption)))).mono ?_); rintro e w1 ⟨gt, rfl, hgt, hTK, hb1⟩; refine Hid.out ?_)
  refine Lib.hid ?_
  have HB1 := Lib.hid (show Below w.heap.size w w1 from (by repeat' (first | with_reducible refine qset ?_ (Nat.le_refl _) | with_reducible exact Below.refl _ _ | with_reducible assumption | with_reducible refine Q.alloc ?_ _ | with_reducible refine Q.drew ?_ | with_reducible refine Q.drewN ?_ _ | with_reducible refine Q.call ?_ (by assumption))))
  have HGT := Lib.hid (show w.heap.size ≤ gt by (try simp at hgt); omega)
  have HTK := Lib.hid hTK
  clear hb1 hgt hTK TA
  go_wp2_with (go_at_call 7; (with_reducible refine (wnew_eq _ _).mono ?_); rintro e w2 ⟨rfl, rfl⟩)
  obtain ⟨gv, hgv⟩ : ∃ gv, gv = w1.heap.size := ⟨_, rfl⟩
  obtain ⟨gw, hgw⟩ : ∃ gw, gw = w1.heap.size + 1 := ⟨_, rfl⟩
  obtain ⟨W2, hW2⟩ : ∃ W2, W2 = (w1.alloc (.cells #[.pointer (some ⟨gt, 0, none⟩), .int .i64 0, .int .i64 0, .int .i64 0, .int .i64 0, .int .u8 0, .int .i64 0, .int .i64 0] 68)).alloc (.cells #[.pointer (some ⟨gt, 0, none⟩), .int .i64 0, .int .i64 0, .int .i64 0, .int .i64 0, .int .u8 0, .int .i64 0, .int .i64 0] 68) := ⟨_, rfl⟩
  have hQ : QI w gt gv gw s [] dc tr ⟨0, 0, 0, 0, 0, 0, 0⟩ 0 W2 := by
    have h1 := HTK.out.lt
    have h2 := HGT.out
    rw [hW2, hgv, hgw]
    refine ⟨Q.alloc (Q.alloc HB1.out _) _, (HTK.out.call (Q.alloc (Below.refl _ _) _)).call (Q.alloc (Below.refl _ _) _), (Blk.new _ _ _).alloc _, Blk.new' (by simp), ⟨h2, h1, by omega⟩, by decide, by decide, by decide⟩
  have HQ := Lib.hid hQ
  rw [← hgw, ← hgv, ← hW2]
  clear hgv hgw hW2 hQ HTK HB1
  go_loopw [12] (fun iv wr => ∃ (k : Nat) (S : WS), iv = .int .i64 (k : Int) ∧ k ≤ len ∧ QI w gt gv gw s [] dc tr S k wr) (fun iv _ => len - (intOf iv).toNat)
  case atStart => exact ⟨0, _, rfl, Nat.zero_le _, HQ.out⟩
  case round =>
    clear HQ
    obtain ⟨k, S, rfl, hk, hq⟩ := hrel
    by_cases hkn : k < len
    · obtain ⟨b, off, o, rfl, hbl, hget, c0, c1, c2, c3, c4, c5, c6, cb0, cb1, cb2, cb3⟩ := (HR.out.below hq.bel).at_ hkn
      obtain ⟨ask, cyc, rule, addr, wx, vv, tt⟩ := o
      simp only at c0 c1 c2 c3 c4 c5 c6
      have hki : (k : Int) < (len : Int) := by omega
      have hk0 : (0 : Int) ≤ (k : Int) := by omega
      have hbw : b < wr.heap.size := Nat.lt_of_lt_of_le hbl hq.bel.size
      have HQ := Lib.hid hq
      clear hget hbl cb0 cb1 cb2 cb3 hq
      by_cases h01 : ask = 0 ∨ ask = 1
      · have DQ := S.does_quiet dc ⟨ask, cyc, rule, addr, wx, vv, tt⟩ h01 HQ.out.st
        have DE := S.does_se dc 0 ⟨ask, cyc, rule, addr, wx, vv, tt⟩
        have hse := HQ.out.se
        have DV : ∀ V : World, Below wr.heap.size wr V → Blk V wr.heap.size 27 #[.int .i64 ask, .int .i64 cyc, .int .i64 rule, .int .i64 addr, .bool wx, .int .u8 vv, .int .u8 tt] → Calls Tryd.prog 8 #[.pointer (some ⟨gv, 0, none⟩), .agg #[.int .i64 ask, .int .i64 cyc, .int .i64 rule, .int .i64 addr, .bool wx, .int .u8 vv, .int .u8 tt]] V (fun e w' => e = .returned (.int .i64 (S.does dc 0 ⟨ask, cyc, rule, addr, wx, vv, tt⟩).1) ∧ ∃ V0, Below wr.heap.size wr V0 ∧ Chg (fun b => b = gv) V0 w' ∧ Blk w' gv 68 ((S.does dc 0 ⟨ask, cyc, rule, addr, wx, vv, tt⟩).2.cells (.pointer (some ⟨gt, 0, none⟩))) ∧ Blk w' wr.heap.size 27 #[.int .i64 ask, .int .i64 cyc, .int .i64 rule, .int .i64 addr, .bool wx, .int .u8 vv, .int .u8 tt]) := fun V hV hX => by
          have h := does_calls V gv gt S ((HQ.out.call hV).v) s [] dc tr ((HQ.out.call hV).tk) ⟨ask, cyc, rule, addr, wx, vv, tt⟩ ⟨hse.1, by omega⟩ HQ.out.lo.2.1
          rw [lkv_nil] at h
          exact h.mono fun e w' ⟨he, hc, hb⟩ => ⟨he, V, hV, hc, hb, hX.chg hc (fun h => by have h : wr.heap.size = gv := h; have := HQ.out.v.lt; omega)⟩
        have DW : ∀ V V1 : World, Below wr.heap.size wr V → Chg (fun b => b = gv) V V1 → Calls Tryd.prog 8 #[.pointer (some ⟨gw, 0, none⟩), .agg #[.int .i64 ask, .int .i64 cyc, .int .i64 rule, .int .i64 addr, .bool wx, .int .u8 vv, .int .u8 tt]] V1 (DPost V1 gw (.pointer (some ⟨gt, 0, none⟩)) (S.does dc 0 ⟨ask, cyc, rule, addr, wx, vv, tt⟩)) := fun V V1 hV hc => by
          have l := HQ.out.lo
          have h := does_calls V1 gw gt S ((HQ.out.call hV).u.chg hc (fun h => by have h : gw = gv := h; omega)) s [] dc tr ((HQ.out.call hV).tk.chg hc (fun b hb => by have hb : b = gv := hb; omega)) ⟨ask, cyc, rule, addr, wx, vv, tt⟩ ⟨hse.1, by omega⟩ (by omega)
          rw [lkv_nil] at h
          exact h
        obtain ⟨Rr, hRr⟩ : ∃ Rr, Rr = S.does dc 0 ⟨ask, cyc, rule, addr, wx, vv, tt⟩ := ⟨_, rfl⟩
        rw [← hRr] at DQ DE DV DW
        obtain ⟨E, S2⟩ := Rr
        simp only at DQ DE
        have e20 : (E == 20) = false := beq_eq_false_iff_ne.2 DQ.1
        have HDQ := Lib.hid DQ.2
        have HDE := Lib.hid DE
        clear hRr DQ DE hse
        rcases h01 with rfl | rfl
        all_goals
          go_wp2_with (go_at_call 8; (with_reducible refine (DV _ (by repeat' (first | with_reducible refine qset ?_ (Nat.le_refl _) | with_reducible exact Below.refl _ _ | with_reducible assumption | with_reducible refine Q.alloc ?_ _ | with_reducible refine Q.drew ?_ | with_reducible refine Q.drewN ?_ _ | with_reducible refine Q.call ?_ (by assumption))) (by first | exact Blk.new wr _ _ | exact box_set wr _ _ _ _)).mono ?_); rintro e w2 ⟨rfl, V0, hV0, hch, hb2, hbx⟩; refine Hid.out ?_)
          refine Lib.hid ?_
          have DW2 := DW V0 w2 hV0 hch
          have HV0 := Lib.hid hV0
          have HCH := Lib.hid hch
          have HB2 := Lib.hid hb2
          have x0 := hbx.cell 0
          have x1 := hbx.cell 1
          have x2 := hbx.cell 2
          have x3 := hbx.cell 3
          have x4 := hbx.cell 4
          have x5 := hbx.cell 5
          have x6 := hbx.cell 6
          have hxl := hbx.lt
          clear hV0 hch hb2 hbx c0 c1 c2 c3 c4 c5 c6 DV DW
          go_wp2_with (go_at_call 8; (with_reducible refine DW2.mono ?_); rintro e w3 ⟨rfl, hch3, hb3⟩; refine Hid.out ?_)
          refine Lib.hid ?_
          have HN := Lib.hid ((HQ.out.call HV0.out).both HCH.out HB2.out hch3 hb3 HDQ.out HDE.out)
          have SV := state_eq w3 gv _ _ _ _ _ _ _ _ HN.out.v
          have SW := state_eq w3 gw _ _ _ _ _ _ _ _ HN.out.u
          clear x0 x1 x2 x3 x4 x5 x6 hxl DW2 HB2 HCH HV0 hch3 hb3
          go_wp2_with (first
            | (go_at_call 9; (with_reducible refine SV.mono ?_); rintro e w4 ⟨rfl, rfl⟩)
            | (go_at_call 9; (with_reducible refine SW.mono ?_); rintro e w5 ⟨rfl, rfl⟩))
          refine ⟨⟨k + 1, S2, by simp, by omega, HN.out⟩, by simp [intOf]; omega⟩
      · have e0 : (ask == 0) = false := beq_eq_false_iff_ne.2 (fun h => h01 (.inl h))
        have e1 : (ask == 1) = false := beq_eq_false_iff_ne.2 (fun h => h01 (.inr h))
        have n0 : (ask != 0) = true := by simp [bne, e0]
        have n1 : (ask != 1) = true := by simp [bne, e1]
        clear h01
        go_wp2_with fail
        refine ⟨⟨k + 1, S, by simp, by omega, (HQ.out.call (by repeat' (first | with_reducible refine qset ?_ (Nat.le_refl _) | with_reducible exact Below.refl _ _ | with_reducible assumption | with_reducible refine Q.alloc ?_ _ | with_reducible refine Q.drew ?_ | with_reducible refine Q.drewN ?_ _ | with_reducible refine Q.call ?_ (by assumption)))).more⟩, by simp [intOf]; omega⟩
    · have hki : ¬ (k : Int) < (len : Int) := by omega
      have AN := alarms_none wr gv _ _ _ _ _ _ _ _ hq.v hq.st
      have SN := seen_eq wr gv _ _ _ _ _ _ _ _ hq.v
      have SM := seen_eq wr gw _ _ _ _ _ _ _ _ hq.u
      have AE := AW wr hq.bel
      have HQB := Lib.hid hq.bel
      clear hq AW HR
      go_wp2_with (first
        | (go_at_call 10; (with_reducible refine AN.mono ?_); rintro e w4 ⟨rfl, rfl⟩)
        | (go_at_call 11; (with_reducible refine SN.mono ?_); rintro e w5 ⟨rfl, rfl⟩)
        | (go_at_call 11; (with_reducible refine SM.mono ?_); rintro e w5 ⟨rfl, rfl⟩)
        | (go_at_call 13; (with_reducible refine AE.mono ?_); rintro e w6 ⟨rfl, hb6⟩))
      go_ret
      exact ⟨rfl, Q.call HQB.out hb6⟩
end Go.Proofs.YtndjicomgdcfkaaDoor
