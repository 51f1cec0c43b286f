/- The law WatchSticks: its walk. (printed by gen/ws1.py) -/
import Derived.Test.YtndjicomgdcfkaaDoorWs0
namespace Go.Proofs.YtndjicomgdcfkaaDoor
set_option linter.unusedVariables false
set_option linter.unusedSimpArgs false
open Go.RowKit
attribute [local go_sem ↓] Go.wp_at_zero Go.wp_at_succ

set_option maxRecDepth 100000 in
set_option maxHeartbeats 3200000 in
theorem ws_none (w : World) (R : Nat → Prop) (sa ma : Option Addr) (sc mc : Nat) (s m : List Sp) (dc tr : Int) (a : Option Addr) (len cap : Nat) (ops : List WO) (hs : Rd ES w R (.slice sa s.length sc) s) (hm : Rd ES w R (.slice ma m.length mc) m) (hr : ReadsW w w.heap.size a len ops) (hT : TB w ∧ TZ w ∧ WD w) (hf : ¬ ((s.length ≤ 80 ∧ m.length ≤ 80) ∧ chk s m dc tr = 0)) : Calls Tryd.prog 4 #[.agg #[.slice sa s.length sc, .slice ma m.length mc, .int .i64 dc, .int .i64 tr], .slice a len cap] w fun e w' => e = .returned (.bool true) ∧ Below w.heap.size w w' := by
  have HT := Lib.hid hT.1
  have HZ := Lib.hid hT.2.1
  have HW := Lib.hid hT.2.2
  have AW := fun V (hV : Below w.heap.size w V) => aawake_eq V (TB.on HT.out hV) (TZ.on HZ.out hV) (WD.on HW.out hV)
  have TA : ∀ V : World, Below w.heap.size w V → Calls Tryd.prog 14 #[.agg #[.slice sa s.length sc, .slice ma m.length mc, .int .i64 dc, .int .i64 tr]] V fun e w' => e = .returned (.pointer none) ∧ Below V.heap.size V w' := fun V hV => table_none V R sa ma sc mc s m dc tr (hs.below hV) (hm.below hV) hf
  clear hs hm hr hT hf
  go_enter Tryd.func4, Tryd.ntmps4
  go_wp2_with (first
    | (go_at_call 14; (with_reducible refine (TA _ (by repeat' (first | with_reducible exact Below.refl _ _ | with_reducible assumption | with_reducible refine Q.alloc ?_ _ | with_reducible refine Q.drew ?_ | with_reducible refine Q.drewN ?_ _ | with_reducible refine Q.call ?_ (by assumption)))).mono ?_); rintro e w1 ⟨rfl, hb1⟩; have HB1 := Lib.hid (show Below w.heap.size w w1 from (by repeat' (first | with_reducible exact Below.refl _ _ | with_reducible assumption | with_reducible refine Q.alloc ?_ _ | with_reducible refine Q.drew ?_ | with_reducible refine Q.drewN ?_ _ | with_reducible refine Q.call ?_ (by assumption)))); clear hb1)
    | (go_at_call 13; (with_reducible refine (AW _ HB1.out).mono ?_); rintro e w7 ⟨rfl, hb7⟩))
  go_ret
  exact ⟨rfl, Q.call HB1.out hb7⟩
set_option maxRecDepth 100000 in
set_option maxHeartbeats 3200000 in
theorem ws_long (w : World) (R : Nat → Prop) (sa ma : Option Addr) (sc mc : Nat) (s m : List Sp) (dc tr : Int) (a : Option Addr) (len cap : Nat) (ops : List WO) (hs : Rd ES w R (.slice sa s.length sc) s) (hm : Rd ES w R (.slice ma m.length mc) m) (hr : ReadsW w w.heap.size a len ops) (hT : TB w ∧ TZ w ∧ WD w) (hf : ((s.length ≤ 80 ∧ m.length ≤ 80) ∧ chk s m dc tr = 0)) (hl : 60 < len) : Calls Tryd.prog 4 #[.agg #[.slice sa s.length sc, .slice ma m.length mc, .int .i64 dc, .int .i64 tr], .slice a len cap] w fun e w' => e = .returned (.bool true) ∧ Below w.heap.size w w' := by
  have HT := Lib.hid hT.1
  have HZ := Lib.hid hT.2.1
  have HW := Lib.hid hT.2.2
  have AW := fun V (hV : Below w.heap.size w V) => aawake_eq V (TB.on HT.out hV) (TZ.on HZ.out hV) (WD.on HW.out hV)
  have TA : ∀ V : World, Below w.heap.size w V → Calls Tryd.prog 14 #[.agg #[.slice sa s.length sc, .slice ma m.length mc, .int .i64 dc, .int .i64 tr]] V fun e w' => ∃ gt, e = .returned (.pointer (some ⟨gt, 0, none⟩)) ∧ V.heap.size ≤ gt ∧ TK w' gt s m dc tr ∧ Below V.heap.size V w' := fun V hV => table_some V R sa ma sc mc s m dc tr (hs.below hV) (hm.below hV) hf.1 hf.2
  have hli : (60 : Int) < (len : Int) := by omega
  clear hs hm hr hT hf hl
  go_enter Tryd.func4, Tryd.ntmps4
  go_wp2_with (first
    | (go_at_call 14; (with_reducible refine (TA _ (by repeat' (first | with_reducible exact Below.refl _ _ | with_reducible assumption | with_reducible refine Q.alloc ?_ _ | with_reducible refine Q.drew ?_ | with_reducible refine Q.drewN ?_ _ | with_reducible refine Q.call ?_ (by assumption)))).mono ?_); rintro e w1 ⟨gt, rfl, hgt, hTK, hb1⟩; have HB1 := Lib.hid (show Below w.heap.size w w1 from (by repeat' (first | with_reducible exact Below.refl _ _ | with_reducible assumption | with_reducible refine Q.alloc ?_ _ | with_reducible refine Q.drew ?_ | with_reducible refine Q.drewN ?_ _ | with_reducible refine Q.call ?_ (by assumption)))); clear hb1 hgt hTK)
    | (go_at_call 13; (with_reducible refine (AW _ HB1.out).mono ?_); rintro e w7 ⟨rfl, hb7⟩))
  go_ret
  exact ⟨rfl, Q.call HB1.out hb7⟩
set_option maxRecDepth 100000 in
set_option maxHeartbeats 12800000 in
theorem ws_run (w : World) (R : Nat → Prop) (sa ma : Option Addr) (sc mc : Nat) (s m : List Sp) (dc tr : Int) (a : Option Addr) (len cap : Nat) (ops : List WO) (hs : Rd ES w R (.slice sa s.length sc) s) (hm : Rd ES w R (.slice ma m.length mc) m) (hr : ReadsW w w.heap.size a len ops) (hT : TB w ∧ TZ w ∧ WD w) (bm : ∀ y ∈ m, 0 ≤ y.b ∧ y.b ≤ 255) (hf : ((s.length ≤ 80 ∧ m.length ≤ 80) ∧ chk s m dc tr = 0)) (hl : ¬ 60 < len) : Calls Tryd.prog 4 #[.agg #[.slice sa s.length sc, .slice ma m.length mc, .int .i64 dc, .int .i64 tr], .slice a len cap] w fun e w' => e = .returned (.bool true) ∧ Below w.heap.size w w' := by
  have HT := Lib.hid hT.1
  have HZ := Lib.hid hT.2.1
  have HW := Lib.hid hT.2.2
  have AW := fun V (hV : Below w.heap.size w V) => aawake_eq V (TB.on HT.out hV) (TZ.on HZ.out hV) (WD.on HW.out hV)
  have TA : ∀ V : World, Below w.heap.size w V → Calls Tryd.prog 14 #[.agg #[.slice sa s.length sc, .slice ma m.length mc, .int .i64 dc, .int .i64 tr]] V fun e w' => ∃ gt, e = .returned (.pointer (some ⟨gt, 0, none⟩)) ∧ V.heap.size ≤ gt ∧ TK w' gt s m dc tr ∧ Below V.heap.size V w' := fun V hV => table_some V R sa ma sc mc s m dc tr (hs.below hV) (hm.below hV) hf.1 hf.2
  have hli : ¬ (60 : Int) < (len : Int) := by omega
  have HR := Lib.hid hr
  clear hs hm hr hT hf bm
  go_enter Tryd.func4, Tryd.ntmps4
  go_wp2_with (go_at_call 14; (with_reducible refine (TA _ (by repeat' (first | with_reducible exact Below.refl _ _ | with_reducible assumption | with_reducible refine Q.alloc ?_ _ | with_reducible refine Q.drew ?_ | with_reducible refine Q.drewN ?_ _ | with_reducible refine Q.call ?_ (by assumption)))).mono ?_); rintro e w1 ⟨gt, rfl, hgt, hTK, hb1⟩; refine Hid.out ?_)
  refine Lib.hid ?_
  have HB1 := Lib.hid (show Below w.heap.size w w1 from (by repeat' (first | with_reducible exact Below.refl _ _ | with_reducible assumption | with_reducible refine Q.alloc ?_ _ | with_reducible refine Q.drew ?_ | with_reducible refine Q.drewN ?_ _ | with_reducible refine Q.call ?_ (by assumption))))
  have HGT := Lib.hid (show w.heap.size ≤ gt by (try simp at hgt); omega)
  have HTK := Lib.hid hTK
  clear hb1 hgt hTK TA
  go_wp2_with (go_at_call 7; (with_reducible refine (wnew_eq _ _).mono ?_); rintro e w2 ⟨rfl, rfl⟩)
  obtain ⟨g, hg⟩ : ∃ g, g = w1.heap.size := ⟨_, rfl⟩
  obtain ⟨ga, hga⟩ : ∃ ga, ga = w1.heap.size + 1 := ⟨_, rfl⟩
  obtain ⟨W2, hW2⟩ : ∃ W2, W2 = (w1.alloc (.cells #[.pointer (some ⟨gt, 0, none⟩), .int .i64 0, .int .i64 0, .int .i64 0, .int .i64 0, .int .u8 0, .int .i64 0, .int .i64 0] 68)).alloc (.cells #[.int .i64 0, .int .i64 0, .int .i64 0, .int .u8 0] 47) := ⟨_, rfl⟩
  have hQ : SI w gt g ga s m dc tr ⟨0, 0, 0, 0, 0, 0, 0⟩ 0 0 0 0 0 W2 := by
    have h1 := HTK.out.lt
    have h2 := HGT.out
    rw [hW2, hg, hga]
    refine ⟨Q.alloc (Q.alloc HB1.out _) _, (HTK.out.call (Q.alloc (Below.refl _ _) _)).call (Q.alloc (Below.refl _ _) _), (Blk.new _ _ _).alloc _, Blk.new' (by simp), ⟨h2, h1, by omega⟩, .inl rfl, (fun h => absurd h (by decide)), by decide, by decide⟩
  have HQ := Lib.hid hQ
  rw [← hga, ← hg, ← hW2]
  clear hg hga hW2 hQ HTK HB1 HGT hli
  go_loopw [8, 10] (fun sv iv wr => ∃ (k : Nat) (S : WS) (a0 a1 a2 a3 : Int), sv = .int .i64 S.st ∧ iv = .int .i64 (k : Int) ∧ k ≤ len ∧ SI w gt g ga s m dc tr S a0 a1 a2 a3 k wr) (fun _ iv _ => len - (intOf iv).toNat)
  case atStart => exact ⟨0, _, _, _, _, _, rfl, rfl, Nat.zero_le _, HQ.out⟩
  case round =>
    clear HQ
    obtain ⟨k, S, a0, a1, a2, a3, rfl, rfl, hk, hq⟩ := hrel
    by_cases hkn : k < len
    · obtain ⟨b, off, o, rfl, hbl, hget, c0, c1, c2, c3, c4, c5, c6, cb0, cb1, cb2, cb3⟩ := (HR.out.below hq.bel).at_ hkn
      obtain ⟨ask, cyc, rule, addr, wx, vv, tt⟩ := o
      simp only at c0 c1 c2 c3 c4 c5 c6
      have hki : (k : Int) < (len : Int) := by omega
      have hk0 : (0 : Int) ≤ (k : Int) := by omega
      have hbw : b < wr.heap.size := Nat.lt_of_lt_of_le hbl hq.bel.size
      have hgw : g < wr.heap.size := hq.vg.lt
      have haw : ga < wr.heap.size := hq.va.lt
      obtain ⟨V, hV⟩ : ∃ V, V = wr.alloc (.cells #[.int .i64 ask, .int .i64 cyc, .int .i64 rule, .int .i64 addr, .bool wx, .int .u8 vv, .int .u8 tt] 27) := ⟨_, rfl⟩
      obtain ⟨hx, hhx⟩ : ∃ hx, hx = wr.heap.size := ⟨_, rfl⟩
      have bV : Below wr.heap.size wr V := by rw [hV]; exact Q.alloc (Below.refl _ _) _
      have XB : Blk V hx 27 #[.int .i64 ask, .int .i64 cyc, .int .i64 rule, .int .i64 addr, .bool wx, .int .u8 vv, .int .u8 tt] := by rw [hV]; exact Blk.new' hhx
      have HQ := Lib.hid (hq.call bV)
      have HBX := Lib.hid XB
      have HXG := Lib.hid (show hx ≠ g by omega)
      have HXA := Lib.hid (show hx ≠ ga by omega)
      have hse : 0 ≤ S.se ∧ S.se ≤ 1000 := ⟨hq.se.1, by have := hq.se.2; omega⟩
      have DV := does_calls V g gt S HQ.out.vg s m dc tr HQ.out.tk ⟨ask, cyc, rule, addr, wx, vv, tt⟩ hse HQ.out.lo.2.1
      have DE := S.does_se dc (lkv m addr tt) ⟨ask, cyc, rule, addr, wx, vv, tt⟩
      have hst := hq.st
      clear hget hbl cb0 cb1 cb2 cb3 hq bV XB hse
      by_cases h0 : S.st = 0
      · have DG := S.does_go dc (lkv m addr tt) ⟨ask, cyc, rule, addr, wx, vv, tt⟩ h0
        obtain ⟨kk, hkk⟩ : ∃ kk, kk = lkv m addr tt := ⟨_, rfl⟩
        obtain ⟨Rr, hRr⟩ : ∃ Rr, Rr = S.does dc kk ⟨ask, cyc, rule, addr, wx, vv, tt⟩ := ⟨_, rfl⟩
        rw [← hkk, ← hRr] at DE DV DG
        obtain ⟨E, S2⟩ := Rr
        (try simp only at DE DG)
        have HDE := Lib.hid DE
        have HKK := Lib.hid hkk
        clear hRr DE hst hkk
        rcases DG with ⟨n18, n20, z2⟩ | ⟨rfl, z2⟩ | ⟨rfl, z2, hal⟩
        · have e18 : (E == 18) = false := beq_eq_false_iff_ne.2 n18
          have e20 : (E == 20) = false := beq_eq_false_iff_ne.2 n20
          have b18 : (E != 18) = true := by simp [bne, e18]
          have b20 : (E != 20) = true := by simp [bne, e20]
          have HZ2 := Lib.hid z2
          have hs0 : (S.st == 0) = true := by rw [h0]; rfl
          rw [h0]
          clear n18 n20 z2 h0 hs0
          go_wp2_with fail
          rw [← hhx, ← hV]
          clear hV hhx c0 c1 c2 c3 c4 c5 c6
          go_wp2_with (go_at_call 8; (with_reducible refine DV.mono ?_); rintro e w2 ⟨rfl, hch, hb2⟩; refine Hid.out ?_)
          refine Lib.hid ?_
          have HN := Lib.hid (HQ.out.step hch hb2 (.inl HZ2.out) (fun h => by rw [HZ2.out] at h; cases h) HDE.out)
          have AL := alarms_none w2 g _ _ _ _ _ _ _ _ HN.out.vg (by rw [HZ2.out]; decide)
          have SV : Calls Tryd.prog 9 #[.pointer (some ⟨g, 0, none⟩)] w2 fun e w' => e = .returned (.int .i64 0) ∧ w2 = w' := by
            have h := state_eq w2 g _ _ _ _ _ _ _ _ HN.out.vg
            rw [HZ2.out] at h
            exact h
          clear hch hb2 DV
          go_wp2_with (first
            | (go_at_call 10; (with_reducible refine AL.mono ?_); rintro e w3 ⟨rfl, rfl⟩)
            | (go_at_call 9; (with_reducible refine SV.mono ?_); rintro e w4 ⟨rfl, rfl⟩))
          refine ⟨⟨k + 1, S2, _, _, _, _, by rw [HZ2.out], by simp, by omega, HN.out⟩, by simp [intOf]; omega⟩
        · have HZ2 := Lib.hid z2
          rw [h0]
          clear z2 h0
          go_wp2_with fail
          rw [← hhx, ← hV]
          clear hV hhx c0 c1 c2 c3 c4 c5 c6
          go_wp2_with (go_at_call 8; (with_reducible refine DV.mono ?_); rintro e w2 ⟨rfl, hch, hb2⟩; refine Hid.out ?_)
          refine Lib.hid ?_
          have HN := Lib.hid (HQ.out.step hch hb2 (.inr (.inl HZ2.out)) (fun h => by rw [HZ2.out] at h; cases h) HDE.out)
          have AL := alarms_none w2 g _ _ _ _ _ _ _ _ HN.out.vg (by rw [HZ2.out]; decide)
          have SV : Calls Tryd.prog 9 #[.pointer (some ⟨g, 0, none⟩)] w2 fun e w' => e = .returned (.int .i64 18) ∧ w2 = w' := by
            have h := state_eq w2 g _ _ _ _ _ _ _ _ HN.out.vg
            rw [HZ2.out] at h
            exact h
          clear hch hb2 DV
          go_wp2_with (first
            | (go_at_call 10; (with_reducible refine AL.mono ?_); rintro e w3 ⟨rfl, rfl⟩)
            | (go_at_call 9; (with_reducible refine SV.mono ?_); rintro e w4 ⟨rfl, rfl⟩))
          refine ⟨⟨k + 1, S2, _, _, _, _, by rw [HZ2.out], by simp, by omega, HN.out⟩, by simp [intOf]; omega⟩
        · by_cases hask : ask = 0
          · rw [h0]
            clear h0
            subst hask
            obtain ⟨r1, r2, r3, r4, r5, r6⟩ := hal rfl
            obtain ⟨st2, ru2, cy2, ad2, bi2, la2, se2⟩ := S2
            simp only at z2 r1 r2 r3 r4 r6
            obtain rfl : st2 = 20 := z2
            obtain rfl : ru2 = 4 := r1
            obtain rfl : cyc = cy2 := r2.symm
            obtain rfl : addr = ad2 := r3.symm
            obtain rfl : bi2 = kk := r4
            obtain rfl : wx = true := r6
            obtain ⟨BB, hBB⟩ : ∃ BB, BB = bitsL m addr := ⟨_, rfl⟩
            have hkq : bi2 = bits .and .u8 BB tt := by rw [hBB]; exact HKK.out
            have eT : bits .and .u8 bi2 tt = bi2 := by
              have h := and_right BB tt
              rw [← hkq] at h
              exact h
            have eS : bits .and .u8 bi2 BB = bi2 := by
              have h := and_left BB tt
              rw [← hkq] at h
              exact h
            have ek : (bi2 == 0) = false := beq_eq_false_iff_ne.2 r5
            have HBB := Lib.hid hBB
            clear hkq r5 hal hBB
            go_wp2_with fail
            rw [← hhx, ← hV]
            clear hV hhx c0 c1 c2 c3 c4 c5 c6
            go_wp2_with (go_at_call 8; (with_reducible refine DV.mono ?_); rintro e w2 ⟨rfl, hch, hb2⟩; refine Hid.out ?_)
            refine Lib.hid ?_
            obtain ⟨W3, hW3⟩ : ∃ W3, W3 = w2.alloc (.cells #[.int .i64 4, .int .i64 cyc, .int .i64 addr, .int .u8 bi2] 47) := ⟨_, rfl⟩
            obtain ⟨hA, hhA⟩ : ∃ hA, hA = w2.heap.size := ⟨_, rfl⟩
            have b3 : Below w2.heap.size w2 W3 := by rw [hW3]; exact Q.alloc (Below.refl _ _) _
            have AL : Calls Tryd.prog 10 #[.pointer (some ⟨g, 0, none⟩)] w2 fun e w' => e = .returned (.slice (some ⟨hA, 0, none⟩) 1 1) ∧ W3 = w' := (alarms_one w2 g _ _ _ _ _ _ _ _ hb2 rfl).mono fun e w' h => ⟨by rw [hhA]; exact h.1, by rw [hW3]; exact h.2.symm⟩
            have AB : Blk W3 hA 47 #[.int .i64 4, .int .i64 cyc, .int .i64 addr, .int .u8 bi2] := by rw [hW3]; exact Blk.new' hhA
            have HN := Lib.hid (HQ.out.alarm hch hb2 rfl HDE.out b3)
            (try simp only at HN)
            have GA := (HQ.out.va.chg hch (fun h => by have h : ga = g := h; have := HQ.out.lo; omega)).call b3
            have BX3 := (HBX.out.chg hch (fun h => HXG.out h)).call b3
            have SV : ∀ U : World, Below W3.heap.size W3 U → Calls Tryd.prog 9 #[.pointer (some ⟨g, 0, none⟩)] U fun e w' => e = .returned (.int .i64 20) ∧ U = w' := fun U hU => state_eq U g _ _ _ _ _ _ _ _ ((hb2.call b3).call hU)
            have p0 : W3.cell? ⟨hA, 0, none⟩ = some (.int .i64 4) := AB.cell 0
            have p1 : W3.cell? ⟨hA, 1, none⟩ = some (.int .i64 cyc) := AB.cell 1
            have p2 : W3.cell? ⟨hA, 2, none⟩ = some (.int .i64 addr) := AB.cell 2
            have p3 : W3.cell? ⟨hA, 3, none⟩ = some (.int .u8 bi2) := AB.cell 3
            have pl := AB.lt
            have q0 := GA.cell 0
            have v0 := GA.frozen 0
            have q1 := GA.cell 1
            have v1 := GA.frozen 1
            have q2 := GA.cell 2
            have v2 := GA.frozen 2
            have q3 := GA.cell 3
            have v3 := GA.frozen 3
            have ql := GA.lt
            have e2 : (((W3.setCell ⟨ga, 0, none⟩ (.int .i64 4)).setCell ⟨ga, 1, none⟩ (.int .i64 cyc)).setCell ⟨ga, 2, none⟩ (.int .i64 addr)).setCell ⟨ga, 3, none⟩ (.int .u8 bi2) = W3.setRow ga #[.int .i64 4, .int .i64 cyc, .int .i64 addr, .int .u8 bi2] := by
              rw [GA.setCell 0, GA.setCell_setRow, GA.setCell_setRow, GA.setCell_setRow]
              rfl
            have HE2 := Lib.hid e2
            have HXF := Lib.hid (BX3.chg (Chg.setRow W3 ga #[.int .i64 4, .int .i64 cyc, .int .i64 addr, .int .u8 bi2]) (fun h => HXA.out h))
            clear hch hb2 DV AB GA BX3 e2 hW3 hhA b3
            go_wp2_with (first
              | (go_at_call 10; (with_reducible refine AL.mono ?_); rintro e w3 ⟨rfl, rfl⟩)
              | (go_at_call 9; (with_reducible refine (SV _ (by repeat' (first | with_reducible exact Below.refl _ _ | with_reducible assumption | with_reducible refine Q.alloc ?_ _ | with_reducible refine Q.drew ?_ | with_reducible refine Q.drewN ?_ _ | with_reducible refine Q.call ?_ (by assumption)))).mono ?_); rintro e w4 ⟨rfl, rfl⟩))
            rw [HE2.out]
            obtain ⟨W4, hW4⟩ : ∃ W4, W4 = W3.setRow ga #[.int .i64 4, .int .i64 cyc, .int .i64 addr, .int .u8 bi2] := ⟨_, rfl⟩
            rw [← hW4] at HN HXF ⊢
            clear hW4 HE2 p0 p1 p2 p3 pl q0 q1 q2 q3 v0 v1 v2 v3 ql AL SV
            have X0 : ∀ y : BW W4, y.val.cell? ⟨hx, 0, none⟩ = some (.int .i64 0) := fun y => (HXF.out.call y.has).cell 0
            have X1 : ∀ y : BW W4, y.val.cell? ⟨hx, 1, none⟩ = some (.int .i64 cyc) := fun y => (HXF.out.call y.has).cell 1
            have X2 : ∀ y : BW W4, y.val.cell? ⟨hx, 2, none⟩ = some (.int .i64 rule) := fun y => (HXF.out.call y.has).cell 2
            have X3 : ∀ y : BW W4, y.val.cell? ⟨hx, 3, none⟩ = some (.int .i64 addr) := fun y => (HXF.out.call y.has).cell 3
            have X4 : ∀ y : BW W4, y.val.cell? ⟨hx, 4, none⟩ = some (.bool true) := fun y => (HXF.out.call y.has).cell 4
            have X5 : ∀ y : BW W4, y.val.cell? ⟨hx, 5, none⟩ = some (.int .u8 vv) := fun y => (HXF.out.call y.has).cell 5
            have X6 : ∀ y : BW W4, y.val.cell? ⟨hx, 6, none⟩ = some (.int .u8 tt) := fun y => (HXF.out.call y.has).cell 6
            have xl := HXF.out.lt
            have A0 : ∀ y : BW W4, y.val.cell? ⟨ga, 0, none⟩ = some (.int .i64 4) := fun y => (HN.out.va.call y.has).cell 0
            have A1 : ∀ y : BW W4, y.val.cell? ⟨ga, 1, none⟩ = some (.int .i64 cyc) := fun y => (HN.out.va.call y.has).cell 1
            have A2 : ∀ y : BW W4, y.val.cell? ⟨ga, 2, none⟩ = some (.int .i64 addr) := fun y => (HN.out.va.call y.has).cell 2
            have A3 : ∀ y : BW W4, y.val.cell? ⟨ga, 3, none⟩ = some (.int .u8 bi2) := fun y => (HN.out.va.call y.has).cell 3
            have al := HN.out.va.lt
            have CS : ∀ y : BW W4, Calls Tryd.prog 15 #[.pointer (some ⟨gt, 0, none⟩), .int .i64 addr] y.val fun e w' => e = .returned (.int .u8 BB) ∧ Below y.val.heap.size y.val w' := fun y => by rw [HBB.out]; exact sink_tk y.val gt s m dc tr (HN.out.tk.call y.has) addr
            refine wp_region_below (by kernel_rfl) (by kernel_rfl) ?_
            repeat (go_big_quiet_step ((go_at_call 15; exact calls_bw (CS _))))
            refine wpQuiet_nil ?_
            first | (intro w9 hw9; obtain ⟨y9, rfl⟩ := hw9) | intro y9
            go_wp2_with fail
            refine ⟨⟨k + 1, ⟨20, 4, cyc, addr, bi2, la2, se2⟩, _, _, _, _, rfl, by simp, by omega, HN.out.call y9.has⟩, by simp [intOf]; omega⟩
          · rw [h0]
            clear h0
            have e0 : (ask == 0) = false := beq_eq_false_iff_ne.2 hask
            obtain ⟨st2, ru2, cy2, ad2, bi2, la2, se2⟩ := S2
            simp only at z2
            obtain rfl : st2 = 20 := z2
            clear hal hask
            go_wp2_with fail
            rw [← hhx, ← hV]
            clear hV hhx c0 c1 c2 c3 c4 c5 c6
            go_wp2_with (go_at_call 8; (with_reducible refine DV.mono ?_); rintro e w2 ⟨rfl, hch, hb2⟩; refine Hid.out ?_)
            refine Lib.hid ?_
            obtain ⟨W3, hW3⟩ : ∃ W3, W3 = w2.alloc (.cells #[.int .i64 ru2, .int .i64 cy2, .int .i64 ad2, .int .u8 bi2] 47) := ⟨_, rfl⟩
            obtain ⟨hA, hhA⟩ : ∃ hA, hA = w2.heap.size := ⟨_, rfl⟩
            have b3 : Below w2.heap.size w2 W3 := by rw [hW3]; exact Q.alloc (Below.refl _ _) _
            have AL : Calls Tryd.prog 10 #[.pointer (some ⟨g, 0, none⟩)] w2 fun e w' => e = .returned (.slice (some ⟨hA, 0, none⟩) 1 1) ∧ W3 = w' := (alarms_one w2 g _ _ _ _ _ _ _ _ hb2 rfl).mono fun e w' h => ⟨by rw [hhA]; exact h.1, by rw [hW3]; exact h.2.symm⟩
            have AB : Blk W3 hA 47 #[.int .i64 ru2, .int .i64 cy2, .int .i64 ad2, .int .u8 bi2] := by rw [hW3]; exact Blk.new' hhA
            have HN := Lib.hid (HQ.out.alarm hch hb2 rfl HDE.out b3)
            (try simp only at HN)
            have GA := (HQ.out.va.chg hch (fun h => by have h : ga = g := h; have := HQ.out.lo; omega)).call b3
            have BX3 := (HBX.out.chg hch (fun h => HXG.out h)).call b3
            have SV : ∀ U : World, Below W3.heap.size W3 U → Calls Tryd.prog 9 #[.pointer (some ⟨g, 0, none⟩)] U fun e w' => e = .returned (.int .i64 20) ∧ U = w' := fun U hU => state_eq U g _ _ _ _ _ _ _ _ ((hb2.call b3).call hU)
            have p0 : W3.cell? ⟨hA, 0, none⟩ = some (.int .i64 ru2) := AB.cell 0
            have p1 : W3.cell? ⟨hA, 1, none⟩ = some (.int .i64 cy2) := AB.cell 1
            have p2 : W3.cell? ⟨hA, 2, none⟩ = some (.int .i64 ad2) := AB.cell 2
            have p3 : W3.cell? ⟨hA, 3, none⟩ = some (.int .u8 bi2) := AB.cell 3
            have pl := AB.lt
            have q0 := GA.cell 0
            have v0 := GA.frozen 0
            have q1 := GA.cell 1
            have v1 := GA.frozen 1
            have q2 := GA.cell 2
            have v2 := GA.frozen 2
            have q3 := GA.cell 3
            have v3 := GA.frozen 3
            have ql := GA.lt
            have e2 : (((W3.setCell ⟨ga, 0, none⟩ (.int .i64 ru2)).setCell ⟨ga, 1, none⟩ (.int .i64 cy2)).setCell ⟨ga, 2, none⟩ (.int .i64 ad2)).setCell ⟨ga, 3, none⟩ (.int .u8 bi2) = W3.setRow ga #[.int .i64 ru2, .int .i64 cy2, .int .i64 ad2, .int .u8 bi2] := by
              rw [GA.setCell 0, GA.setCell_setRow, GA.setCell_setRow, GA.setCell_setRow]
              rfl
            have HE2 := Lib.hid e2
            have HXF := Lib.hid (BX3.chg (Chg.setRow W3 ga #[.int .i64 ru2, .int .i64 cy2, .int .i64 ad2, .int .u8 bi2]) (fun h => HXA.out h))
            clear hch hb2 DV AB GA BX3 e2 hW3 hhA b3
            go_wp2_with (first
              | (go_at_call 10; (with_reducible refine AL.mono ?_); rintro e w3 ⟨rfl, rfl⟩)
              | (go_at_call 9; (with_reducible refine (SV _ (by repeat' (first | with_reducible exact Below.refl _ _ | with_reducible assumption | with_reducible refine Q.alloc ?_ _ | with_reducible refine Q.drew ?_ | with_reducible refine Q.drewN ?_ _ | with_reducible refine Q.call ?_ (by assumption)))).mono ?_); rintro e w4 ⟨rfl, rfl⟩))
            rw [HE2.out]
            obtain ⟨W4, hW4⟩ : ∃ W4, W4 = W3.setRow ga #[.int .i64 ru2, .int .i64 cy2, .int .i64 ad2, .int .u8 bi2] := ⟨_, rfl⟩
            rw [← hW4] at HN HXF ⊢
            clear hW4 HE2 p0 p1 p2 p3 pl q0 q1 q2 q3 v0 v1 v2 v3 ql AL SV
            have X0 : ∀ y : BW W4, y.val.cell? ⟨hx, 0, none⟩ = some (.int .i64 ask) := fun y => (HXF.out.call y.has).cell 0
            have X1 : ∀ y : BW W4, y.val.cell? ⟨hx, 1, none⟩ = some (.int .i64 cyc) := fun y => (HXF.out.call y.has).cell 1
            have X2 : ∀ y : BW W4, y.val.cell? ⟨hx, 2, none⟩ = some (.int .i64 rule) := fun y => (HXF.out.call y.has).cell 2
            have X3 : ∀ y : BW W4, y.val.cell? ⟨hx, 3, none⟩ = some (.int .i64 addr) := fun y => (HXF.out.call y.has).cell 3
            have X4 : ∀ y : BW W4, y.val.cell? ⟨hx, 4, none⟩ = some (.bool wx) := fun y => (HXF.out.call y.has).cell 4
            have X5 : ∀ y : BW W4, y.val.cell? ⟨hx, 5, none⟩ = some (.int .u8 vv) := fun y => (HXF.out.call y.has).cell 5
            have X6 : ∀ y : BW W4, y.val.cell? ⟨hx, 6, none⟩ = some (.int .u8 tt) := fun y => (HXF.out.call y.has).cell 6
            have xl := HXF.out.lt
            have A0 : ∀ y : BW W4, y.val.cell? ⟨ga, 0, none⟩ = some (.int .i64 ru2) := fun y => (HN.out.va.call y.has).cell 0
            have A1 : ∀ y : BW W4, y.val.cell? ⟨ga, 1, none⟩ = some (.int .i64 cy2) := fun y => (HN.out.va.call y.has).cell 1
            have A2 : ∀ y : BW W4, y.val.cell? ⟨ga, 2, none⟩ = some (.int .i64 ad2) := fun y => (HN.out.va.call y.has).cell 2
            have A3 : ∀ y : BW W4, y.val.cell? ⟨ga, 3, none⟩ = some (.int .u8 bi2) := fun y => (HN.out.va.call y.has).cell 3
            have al := HN.out.va.lt
            refine wp_region_below (by kernel_rfl) (by kernel_rfl) ?_
            repeat (go_big_quiet_step (fail))
            refine wpQuiet_nil ?_
            first | (intro w9 hw9; obtain ⟨y9, rfl⟩ := hw9) | intro y9
            go_wp2_with fail
            refine ⟨⟨k + 1, ⟨20, ru2, cy2, ad2, bi2, la2, se2⟩, _, _, _, _, rfl, by simp, by omega, HN.out.call y9.has⟩, by simp [intOf]; omega⟩
      · have hd := S.does_halt dc (lkv m addr tt) ⟨ask, cyc, rule, addr, wx, vv, tt⟩ h0
        rw [hd] at DV
        clear hd DE
        rcases hst.resolve_left h0 with h18 | h20
        · clear h0 hst
          rw [h18]
          go_wp2_with fail
          rw [← hhx, ← hV]
          clear hV hhx c0 c1 c2 c3 c4 c5 c6
          go_wp2_with (go_at_call 8; (with_reducible refine DV.mono ?_); rintro e w2 ⟨rfl, hch, hb2⟩; refine Hid.out ?_)
          refine Lib.hid ?_
          have HN := Lib.hid (HQ.out.step hch hb2 HQ.out.st HQ.out.al ⟨Int.le_refl _, by omega⟩)
          have AL := alarms_none w2 g _ _ _ _ _ _ _ _ HN.out.vg (by rw [h18]; decide)
          have C1 : ∀ y : BW w2, Calls Tryd.prog 9 #[.pointer (some ⟨g, 0, none⟩)] y.val fun e w' => e = .returned (.int .i64 18) ∧ w' = y.val := fun y => by
            have h := state_eq y.val g _ _ _ _ _ _ _ _ (HN.out.vg.call y.has)
            rw [h18] at h
            exact h.mono fun e w' h => ⟨h.1, h.2.symm⟩
          have HH18 := Lib.hid h18
          clear hch hb2 DV h18
          go_wp2_with (go_at_call 10; (with_reducible refine AL.mono ?_); rintro e w3 ⟨rfl, rfl⟩)
          clear AL
          refine wp_region_below (by kernel_rfl) (by kernel_rfl) ?_
          repeat (go_big_quiet_step ((go_at_call 9; exact calls_bw' (C1 _))))
          refine wpQuiet_nil ?_
          first | (intro w9 hw9; obtain ⟨y9, rfl⟩ := hw9) | intro y9
          go_wp2_with fail
          refine ⟨⟨k + 1, S, _, _, _, _, by rw [HH18.out], by simp, by omega, HN.out.call y9.has⟩, by simp [intOf]; omega⟩
        · clear h0 hst
          rw [h20]
          obtain ⟨rfl, rfl, rfl, rfl⟩ := HQ.out.al h20
          go_wp2_with fail
          rw [← hhx, ← hV]
          clear hV hhx c0 c1 c2 c3 c4 c5 c6
          go_wp2_with (go_at_call 8; (with_reducible refine DV.mono ?_); rintro e w2 ⟨rfl, hch, hb2⟩; refine Hid.out ?_)
          refine Lib.hid ?_
          have HN := Lib.hid (HQ.out.step hch hb2 HQ.out.st HQ.out.al ⟨Int.le_refl _, by omega⟩)
          obtain ⟨W3, hW3⟩ : ∃ W3, W3 = w2.alloc (.cells #[.int .i64 S.ru, .int .i64 S.cy, .int .i64 S.ad, .int .u8 S.bi] 47) := ⟨_, rfl⟩
          obtain ⟨hA, hhA⟩ : ∃ hA, hA = w2.heap.size := ⟨_, rfl⟩
          have b3 : Below w2.heap.size w2 W3 := by rw [hW3]; exact Q.alloc (Below.refl _ _) _
          have AL : Calls Tryd.prog 10 #[.pointer (some ⟨g, 0, none⟩)] w2 fun e w' => e = .returned (.slice (some ⟨hA, 0, none⟩) 1 1) ∧ W3 = w' := (alarms_one w2 g _ _ _ _ _ _ _ _ hb2 h20).mono fun e w' h => ⟨by rw [hhA]; exact h.1, by rw [hW3]; exact h.2.symm⟩
          have AB : Blk W3 hA 47 #[.int .i64 S.ru, .int .i64 S.cy, .int .i64 S.ad, .int .u8 S.bi] := by rw [hW3]; exact Blk.new' hhA
          have HN3 := Lib.hid (HN.out.call b3)
          have C1 : ∀ y : BW W3, Calls Tryd.prog 9 #[.pointer (some ⟨g, 0, none⟩)] y.val fun e w' => e = .returned (.int .i64 20) ∧ w' = y.val := fun y => by
            have h := state_eq y.val g _ _ _ _ _ _ _ _ (HN3.out.vg.call y.has)
            rw [h20] at h
            exact h.mono fun e w' h => ⟨h.1, h.2.symm⟩
          have HAB := Lib.hid AB
          have P0 : ∀ y : BW W3, y.val.cell? ⟨hA, 0, none⟩ = some (.int .i64 S.ru) := fun y => (HAB.out.call y.has).cell 0
          have P1 : ∀ y : BW W3, y.val.cell? ⟨hA, 1, none⟩ = some (.int .i64 S.cy) := fun y => (HAB.out.call y.has).cell 1
          have P2 : ∀ y : BW W3, y.val.cell? ⟨hA, 2, none⟩ = some (.int .i64 S.ad) := fun y => (HAB.out.call y.has).cell 2
          have P3 : ∀ y : BW W3, y.val.cell? ⟨hA, 3, none⟩ = some (.int .u8 S.bi) := fun y => (HAB.out.call y.has).cell 3
          have A0 : ∀ y : BW W3, y.val.cell? ⟨ga, 0, none⟩ = some (.int .i64 S.ru) := fun y => (HN3.out.va.call y.has).cell 0
          have A1 : ∀ y : BW W3, y.val.cell? ⟨ga, 1, none⟩ = some (.int .i64 S.cy) := fun y => (HN3.out.va.call y.has).cell 1
          have A2 : ∀ y : BW W3, y.val.cell? ⟨ga, 2, none⟩ = some (.int .i64 S.ad) := fun y => (HN3.out.va.call y.has).cell 2
          have A3 : ∀ y : BW W3, y.val.cell? ⟨ga, 3, none⟩ = some (.int .u8 S.bi) := fun y => (HN3.out.va.call y.has).cell 3
          have pl := HAB.out.lt
          have al := HN3.out.va.lt
          have HH20 := Lib.hid h20
          clear hch hb2 DV h20 AB hW3 hhA b3 HN
          go_wp2_with (go_at_call 10; (with_reducible refine AL.mono ?_); rintro e w3 ⟨rfl, rfl⟩)
          clear AL
          refine wp_region_below (by kernel_rfl) (by kernel_rfl) ?_
          repeat (go_big_quiet_step ((go_at_call 9; exact calls_bw' (C1 _))))
          refine wpQuiet_nil ?_
          first | (intro w9 hw9; obtain ⟨y9, rfl⟩ := hw9) | intro y9
          go_wp2_with fail
          refine ⟨⟨k + 1, S, _, _, _, _, by rw [HH20.out], by simp, by omega, HN3.out.call y9.has⟩, by simp [intOf]; omega⟩
    · have hki : ¬ (k : Int) < (len : Int) := by omega
      have AE := AW wr hq.bel
      have HQB := Lib.hid hq.bel
      clear hq AW HR
      go_wp2_with (go_at_call 13; (with_reducible refine AE.mono ?_); rintro e w6 ⟨rfl, hb6⟩)
      go_ret
      exact ⟨rfl, Q.call HQB.out hb6⟩
end Go.Proofs.YtndjicomgdcfkaaDoor
