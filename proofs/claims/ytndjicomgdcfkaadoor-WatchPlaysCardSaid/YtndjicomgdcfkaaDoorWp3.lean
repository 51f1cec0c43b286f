/- The law WatchPlays: what it keeps, and its walk. (printed by gen/wp3.py) -/
import Derived.Test.YtndjicomgdcfkaaDoorWp2
import Derived.Test.YtndjicomgdcfkaaDoorWq1
import Derived.Test.YtndjicomgdcfkaaDoorWpN
import Derived.Test.YtndjicomgdcfkaaDoorRf3
namespace Go.Proofs.YtndjicomgdcfkaaDoor
set_option linter.unusedVariables false
set_option linter.unusedSimpArgs false
open Go.RowKit
attribute [local go_sem ↓] Go.wp_at_zero Go.wp_at_succ

/-- Both watches, the copies. -/
structure PI (w : World) (gt g x gk : Nat) (s m : List Sp) (dc tr : Int) (sv : Value) (S K : WS) (km : Int) (n : Nat) (cv : Value) (W : World) : Prop where
  bel : Below w.heap.size w W
  tk : TK W gt s m dc tr
  vg : Blk W g 68 (S.cells (.pointer (some ⟨gt, 0, none⟩)))
  vx : Blk W x 58 (S.rcells dc)
  vk : Blk W gk 58 (K.rcells km)
  sk : Rd EN W (fun b => b ≠ g ∧ b < x) sv m
  lo : w.heap.size ≤ gt ∧ gt < g ∧ g < x ∧ x < gk
  se : 0 ≤ S.se ∧ S.se ≤ (n : Int)
  cl : cv = .pointer none ∨ ∃ gc, cv = .pointer (some ⟨gc, 0, none⟩) ∧ gk < gc ∧ km = dc ∧ Blk W gc 68 (K.cells (.pointer (some ⟨gt, 0, none⟩)))
theorem PI.chg {w : World} {gt g x gk : Nat} {s m : List Sp} {dc tr : Int} {sv : Value} {S K : WS} {km : Int} {n : Nat} {cv : Value} {W V : World} (h : PI w gt g x gk s m dc tr sv S K km n cv W) {S2 : WS} {P : Nat → Prop} (hc : Chg P W V) (hP : ∀ b, P b → b = g ∨ b = x) (hg : Blk V g 68 (S2.cells (.pointer (some ⟨gt, 0, none⟩)))) (hx : Blk V x 58 (S2.rcells dc)) {n' : Nat} (hse : 0 ≤ S2.se ∧ S2.se ≤ (n' : Int)) : PI w gt g x gk s m dc tr sv S2 K km n' cv V := by
  obtain ⟨l0, l1, l2, l3⟩ := h.lo
  refine ⟨hc.below h.bel h.bel.size (fun b hb => by rcases hP b hb with e | e <;> omega), h.tk.chg hc (fun b hb => by rcases hP b hb with e | e <;> omega), hg, hx, h.vk.chg hc (fun hb => by rcases hP _ hb with e | e <;> omega), h.sk.keep (fun b hb hR => ⟨hc.block b hb (fun hp => by rcases hP _ hp with e | e; exact hR.1 e; have := hR.2; omega), hR⟩) hc.size, h.lo, hse, ?_⟩
  rcases h.cl with e | ⟨gc, e, h1, h2, h3⟩
  · exact .inl e
  · exact .inr ⟨gc, e, h1, h2, h3.chg hc (fun hb => by rcases hP _ hb with e | e <;> omega)⟩
theorem PI.call {w : World} {gt g x gk : Nat} {s m : List Sp} {dc tr : Int} {sv : Value} {S K : WS} {km : Int} {n : Nat} {cv : Value} {W V : World} (h : PI w gt g x gk s m dc tr sv S K km n cv W) (hb : Below W.heap.size W V) : PI w gt g x gk s m dc tr sv S K km n cv V :=
  h.chg (Chg.of (S := fun _ => False) hb) (fun _ h => h.elim) (h.vg.call hb) (h.vx.call hb) h.se
/-- Between: the document's watch has gone on. -/
structure PX (w : World) (gt g x gk : Nat) (s m : List Sp) (dc tr : Int) (sv : Value) (S S2 K : WS) (km : Int) (n : Nat) (cv : Value) (W V : World) : Prop where
  old : PI w gt g x gk s m dc tr sv S K km n cv W
  chg : Chg (fun b => b = x) W V
  vx : Blk V x 58 (S2.rcells dc)
theorem PI.xstep {w : World} {gt g x gk : Nat} {s m : List Sp} {dc tr : Int} {sv : Value} {S S2 K : WS} {km : Int} {n : Nat} {cv : Value} {W V : World} (h : PI w gt g x gk s m dc tr sv S K km n cv W) (hc : Chg (fun b => b = x) W V) (hx : Blk V x 58 (S2.rcells dc)) : PX w gt g x gk s m dc tr sv S S2 K km n cv W V := ⟨h, hc, hx⟩
theorem PX.gstep {w : World} {gt g x gk : Nat} {s m : List Sp} {dc tr : Int} {sv : Value} {S S2 K : WS} {km : Int} {n : Nat} {cv : Value} {W V U : World} (h : PX w gt g x gk s m dc tr sv S S2 K km n cv W V) (hc : Chg (fun b => b = g) V U) (hg : Blk U g 68 (S2.cells (.pointer (some ⟨gt, 0, none⟩)))) (hse : S.se ≤ S2.se ∧ S2.se ≤ S.se + 1) : PI w gt g x gk s m dc tr sv S2 K km (n + 1) cv U := by
  have l := h.old.lo
  have e := h.old.se
  exact h.old.chg (P := fun b => b = g ∨ b = x) ((h.chg.mono fun b hb => .inr hb).trans (hc.mono fun b hb => .inl hb)) (fun b hb => hb) hg (h.vx.chg hc (fun hb => by have hb : x = g := hb; omega)) (n' := n + 1) (by omega)
/-- A clone, and a copy of the document's watch. -/
theorem PI.clone {w : World} {gt g x gk gc : Nat} {s m : List Sp} {dc tr : Int} {sv : Value} {S K : WS} {km : Int} {n : Nat} {cv : Value} {W V : World} (h : PI w gt g x gk s m dc tr sv S K km n cv W) (hgc : gc = W.heap.size) (hV : V = W.alloc (.cells (S.cells (.pointer (some ⟨gt, 0, none⟩))) 68)) : PI w gt g x gk s m dc tr sv S S dc n (.pointer (some ⟨gc, 0, none⟩)) (V.setRow gk (S.rcells dc)) := by
  obtain ⟨l0, l1, l2, l3⟩ := h.lo
  have hb : Below W.heap.size W V := by rw [hV]; exact Q.alloc (Below.refl _ _) _
  have hk := h.vk.lt
  have bc : Blk V gc 68 (S.cells (.pointer (some ⟨gt, 0, none⟩))) := by rw [hV]; exact Blk.new' hgc
  have h1 := h.call hb
  have hc : Chg (fun b => b = gk) V (V.setRow gk (S.rcells dc)) := Chg.setRow _ _ _
  exact ⟨hc.below h1.bel h1.bel.size (fun b hb => by have hb : b = gk := hb; omega), h1.tk.chg hc (fun b hb => by have hb : b = gk := hb; omega), h1.vg.chg hc (fun hb => by have hb : g = gk := hb; omega), h1.vx.chg hc (fun hb => by have hb : x = gk := hb; omega), h1.vk.setRow _, h1.sk.keep (fun b hb hR => ⟨hc.block b hb (fun hp => by have hp : b = gk := hp; have := hR.2; omega), hR⟩) hc.size, h.lo, h.se, .inr ⟨gc, rfl, by omega, rfl, bc.chg hc (fun hb => by have hb : gc = gk := hb; omega)⟩⟩
theorem field_rp (a b : Value) (c d : Int) (w : World) : (Instr.field 53 (.agg #[a, b, .int .i64 c, .int .i64 d]) 1).run Tryd.prog w = .ok b w := by
  simp [Instr.field, asAgg, run_underlying Tryd.underlying53, go_sem]
attribute [local go_sem] field_rp
set_option maxRecDepth 100000 in
set_option maxHeartbeats 3200000 in
theorem wp_none (w : World) (R : Nat → Prop) (sa ma : Option Addr) (sc mc : Nat) (s m : List Sp) (dc tr : Int) (a : Option Addr) (len cap : Nat) (ops : List WO) (at_ : Int) (hs : Rd ES w R (.slice sa s.length sc) s) (hm : Rd ES w R (.slice ma m.length mc) m) (hr : ReadsW w w.heap.size a len ops) (hT : TB w ∧ TZ w ∧ WD w) (hf : ¬ ((s.length ≤ 80 ∧ m.length ≤ 80) ∧ chk s m dc tr = 0)) : Calls Tryd.prog 6 #[.agg #[.slice sa s.length sc, .slice ma m.length mc, .int .i64 dc, .int .i64 tr], .slice a len cap, .int .i64 at_] w fun e w' => e = .returned (.bool true) ∧ Below w.heap.size w w' := by
  have HT := Lib.hid hT.1
  have HZ := Lib.hid hT.2.1
  have HW := Lib.hid hT.2.2
  have AW := fun V (hV : Below w.heap.size w V) => aawake_eq V (TB.on HT.out hV) (TZ.on HZ.out hV) (WD.on HW.out hV)
  have TA : ∀ V : World, Below w.heap.size w V → Calls Tryd.prog 14 #[.agg #[.slice sa s.length sc, .slice ma m.length mc, .int .i64 dc, .int .i64 tr]] V fun e w' => e = .returned (.pointer none) ∧ Below V.heap.size V w' := fun V hV => table_none V R sa ma sc mc s m dc tr (hs.below hV) (hm.below hV) hf
  clear hs hm hr hT hf
  go_enter Tryd.func6, Tryd.ntmps6
  go_wp2_with (first
    | (go_at_call 14; (with_reducible refine (TA _ (by repeat' (first | with_reducible exact Below.refl _ _ | with_reducible assumption | with_reducible refine Q.alloc ?_ _ | with_reducible refine Q.drew ?_ | with_reducible refine Q.drewN ?_ _ | with_reducible refine Q.call ?_ (by assumption)))).mono ?_); rintro e w1 ⟨rfl, hb1⟩; have HB1 := Lib.hid (show Below w.heap.size w w1 from (by repeat' (first | with_reducible exact Below.refl _ _ | with_reducible assumption | with_reducible refine Q.alloc ?_ _ | with_reducible refine Q.drew ?_ | with_reducible refine Q.drewN ?_ _ | with_reducible refine Q.call ?_ (by assumption)))); clear hb1)
    | (go_at_call 13; (with_reducible refine (AW _ HB1.out).mono ?_); rintro e w7 ⟨rfl, hb7⟩))
  go_ret
  exact ⟨rfl, Q.call HB1.out hb7⟩
set_option maxRecDepth 100000 in
set_option maxHeartbeats 3200000 in
theorem wp_long (w : World) (R : Nat → Prop) (sa ma : Option Addr) (sc mc : Nat) (s m : List Sp) (dc tr : Int) (a : Option Addr) (len cap : Nat) (ops : List WO) (at_ : Int) (hs : Rd ES w R (.slice sa s.length sc) s) (hm : Rd ES w R (.slice ma m.length mc) m) (hr : ReadsW w w.heap.size a len ops) (hT : TB w ∧ TZ w ∧ WD w) (hf : ((s.length ≤ 80 ∧ m.length ≤ 80) ∧ chk s m dc tr = 0)) (hl : 60 < len) : Calls Tryd.prog 6 #[.agg #[.slice sa s.length sc, .slice ma m.length mc, .int .i64 dc, .int .i64 tr], .slice a len cap, .int .i64 at_] w fun e w' => e = .returned (.bool true) ∧ Below w.heap.size w w' := by
  have HT := Lib.hid hT.1
  have HZ := Lib.hid hT.2.1
  have HW := Lib.hid hT.2.2
  have AW := fun V (hV : Below w.heap.size w V) => aawake_eq V (TB.on HT.out hV) (TZ.on HZ.out hV) (WD.on HW.out hV)
  have TA : ∀ V : World, Below w.heap.size w V → Calls Tryd.prog 14 #[.agg #[.slice sa s.length sc, .slice ma m.length mc, .int .i64 dc, .int .i64 tr]] V fun e w' => ∃ gt, e = .returned (.pointer (some ⟨gt, 0, none⟩)) ∧ V.heap.size ≤ gt ∧ TK w' gt s m dc tr ∧ Below V.heap.size V w' := fun V hV => table_some V R sa ma sc mc s m dc tr (hs.below hV) (hm.below hV) hf.1 hf.2
  have hli : (60 : Int) < (len : Int) := by omega
  clear hs hm hr hT hf hl
  go_enter Tryd.func6, Tryd.ntmps6
  go_wp2_with (first
    | (go_at_call 14; (with_reducible refine (TA _ (by repeat' (first | with_reducible exact Below.refl _ _ | with_reducible assumption | with_reducible refine Q.alloc ?_ _ | with_reducible refine Q.drew ?_ | with_reducible refine Q.drewN ?_ _ | with_reducible refine Q.call ?_ (by assumption)))).mono ?_); rintro e w1 ⟨gt, rfl, hgt, hTK, hb1⟩; have HB1 := Lib.hid (show Below w.heap.size w w1 from (by repeat' (first | with_reducible exact Below.refl _ _ | with_reducible assumption | with_reducible refine Q.alloc ?_ _ | with_reducible refine Q.drew ?_ | with_reducible refine Q.drewN ?_ _ | with_reducible refine Q.call ?_ (by assumption)))); clear hb1 hgt hTK)
    | (go_at_call 13; (with_reducible refine (AW _ HB1.out).mono ?_); rintro e w7 ⟨rfl, hb7⟩))
  go_ret
  exact ⟨rfl, Q.call HB1.out hb7⟩
set_option maxRecDepth 100000 in
set_option maxHeartbeats 12800000 in
theorem wp_run (w : World) (R : Nat → Prop) (sa ma : Option Addr) (sc mc : Nat) (s m : List Sp) (dc tr : Int) (a : Option Addr) (len cap : Nat) (ops : List WO) (at_ : Int) (hs : Rd ES w R (.slice sa s.length sc) s) (hm : Rd ES w R (.slice ma m.length mc) m) (hr : ReadsW w w.heap.size a len ops) (hT : TB w ∧ TZ w ∧ WD w) (bs : ∀ y ∈ s, 0 ≤ y.b ∧ y.b ≤ 255) (bm : ∀ y ∈ m, 0 ≤ y.b ∧ y.b ≤ 255) (hf : ((s.length ≤ 80 ∧ m.length ≤ 80) ∧ chk s m dc tr = 0)) (hl : ¬ 60 < len) : Calls Tryd.prog 6 #[.agg #[.slice sa s.length sc, .slice ma m.length mc, .int .i64 dc, .int .i64 tr], .slice a len cap, .int .i64 at_] w fun e w' => e = .returned (.bool true) ∧ Below w.heap.size w w' := by
  have HT := Lib.hid hT.1
  have HZ := Lib.hid hT.2.1
  have HW := Lib.hid hT.2.2
  have AW := fun V (hV : Below w.heap.size w V) => aawake_eq V (TB.on HT.out hV) (TZ.on HZ.out hV) (WD.on HW.out hV)
  have TA : ∀ V : World, Below w.heap.size w V → Calls Tryd.prog 14 #[.agg #[.slice sa s.length sc, .slice ma m.length mc, .int .i64 dc, .int .i64 tr]] V fun e w' => ∃ gt, e = .returned (.pointer (some ⟨gt, 0, none⟩)) ∧ V.heap.size ≤ gt ∧ TK w' gt s m dc tr ∧ Below V.heap.size V w' := fun V hV => table_some V R sa ma sc mc s m dc tr (hs.below hV) (hm.below hV) hf.1 hf.2
  have hli : ¬ (60 : Int) < (len : Int) := by omega
  have PLA := fun (V : World) (h : Below w.heap.size w V) => Plain_new V R (.slice sa s.length sc) (.slice ma m.length mc) s m dc tr (hs.below h) (hm.below h) hf.1.1 hf.1.2 bs bm
  have hml : m.length ≤ 80 := hf.1.2
  have HR := Lib.hid hr
  have HBM := Lib.hid bm
  clear hs hm hr hT hf bs bm
  go_enter Tryd.func6, Tryd.ntmps6
  go_wp2_with (go_at_call 14; (with_reducible refine (TA _ (by repeat' (first | with_reducible exact Below.refl _ _ | with_reducible assumption | with_reducible refine Q.alloc ?_ _ | with_reducible refine Q.drew ?_ | with_reducible refine Q.drewN ?_ _ | with_reducible refine Q.call ?_ (by assumption)))).mono ?_); rintro e w1 ⟨gt, rfl, hgt, hTK, hb1⟩; refine Hid.out ?_)
  refine Lib.hid ?_
  have HB1 := Lib.hid (show Below w.heap.size w w1 from (by repeat' (first | with_reducible exact Below.refl _ _ | with_reducible assumption | with_reducible refine Q.alloc ?_ _ | with_reducible refine Q.drew ?_ | with_reducible refine Q.drewN ?_ _ | with_reducible refine Q.call ?_ (by assumption))))
  have HGT := Lib.hid (show w.heap.size ≤ gt by (try simp at hgt); omega)
  have HTK := Lib.hid hTK
  have HPB := Lib.hid ((Blk.new w 42 #[.slice sa s.length sc, .slice ma m.length mc, .int .i64 dc, .int .i64 tr]).call hb1)
  clear hb1 hgt hTK TA
  obtain ⟨hp, hhp⟩ : ∃ hp, hp = w.heap.size := ⟨_, rfl⟩
  rw [← hhp] at HPB ⊢
  have HHP := Lib.hid (show hp ≤ w.heap.size by omega)
  clear hhp
  go_wp2_with (go_at_call 7; (with_reducible refine (wnew_eq _ _).mono ?_); rintro e w2 ⟨rfl, hw2⟩; have HW2 := Lib.hid hw2; clear hw2; refine Hid.out ?_)
  refine Lib.hid ?_
  have hw2 := HW2.out
  clear HW2
  obtain ⟨g, hg⟩ : ∃ g, g = w1.heap.size := ⟨_, rfl⟩
  rw [← hg]
  have b12 : Below w1.heap.size w1 w2 := by rw [hw2]; exact Q.alloc (Below.refl _ _) _
  have HVG := Lib.hid (show Blk w2 g 68 #[.pointer (some ⟨gt, 0, none⟩), .int .i64 0, .int .i64 0, .int .i64 0, .int .i64 0, .int .u8 0, .int .i64 0, .int .i64 0] from by rw [hw2]; exact Blk.new' hg)
  have HPB2 := Lib.hid (HPB.out.call b12)
  have HTK2 := Lib.hid (HTK.out.call b12)
  have HB2 := Lib.hid (Q.call HB1.out b12)
  have HLG := Lib.hid (show w.heap.size ≤ gt ∧ gt < g from ⟨HGT.out, by rw [hg]; exact HTK.out.lt⟩)
  have p0 := HPB2.out.cell 0
  have p1 := HPB2.out.cell 1
  have p2 := HPB2.out.cell 2
  have p3 := HPB2.out.cell 3
  have pl := HPB2.out.lt
  have PL2 := PLA w2 HB2.out
  clear hw2 hg b12 HTK HB1 HGT HPB PLA
  go_wp2_with (go_at_call 16; (with_reducible refine PL2.mono ?_); rintro e w3 ⟨a1, n1, a2, n2, rfl, hr1, hr2, hb3⟩; refine Hid.out ?_)
  refine Lib.hid ?_
  have hgl := HVG.out.lt
  have HGL := Lib.hid hgl
  clear hgl
  have HPB3 := Lib.hid (HPB2.out.call hb3)
  have HB3 := Lib.hid (Q.call HB2.out hb3)
  have HVG3 := Lib.hid (HVG.out.call hb3)
  have HTK3 := Lib.hid (HTK2.out.call hb3)
  have HRS := Lib.hid hr2
  have HSZ := Lib.hid hb3.size
  clear p0 p1 p2 p3 pl PL2 hr1 hr2 hb3 HVG HPB2 HTK2 HB2
  have p2 := HPB3.out.cell 2
  have pl := HPB3.out.lt
  obtain ⟨x, hx⟩ : ∃ x, x = w3.heap.size := ⟨_, rfl⟩
  obtain ⟨gk, hgk⟩ : ∃ gk, gk = w3.heap.size + 1 := ⟨_, rfl⟩
  obtain ⟨W0, hW0⟩ : ∃ W0, W0 = (w3.alloc (.cells #[.int .i64 0, .int .i64 0, .int .i64 0, .int .i64 0, .int .u8 0, .int .i64 0, .int .i64 0, .int .i64 dc] 58)).alloc (.cells #[.int .i64 0, .int .i64 0, .int .i64 0, .int .i64 0, .int .u8 0, .int .i64 0, .int .i64 0, .int .i64 0] 58) := ⟨_, rfl⟩
  have hI : PI w gt g x gk s m dc tr (.slice a2 m.length n2) ⟨0, 0, 0, 0, 0, 0, 0⟩ ⟨0, 0, 0, 0, 0, 0, 0⟩ 0 0 (.pointer none) W0 := by
    have l := HLG.out
    have h2 := HVG3.out.lt
    have b3 : Below w3.heap.size w3 W0 := by rw [hW0]; exact Q.alloc (Q.alloc (Below.refl _ _) _) _
    refine ⟨Q.call HB3.out b3, HTK3.out.call b3, HVG3.out.call b3, ?_, ?_, ?_, ⟨l.1, l.2, by omega, by omega⟩, by decide, .inl rfl⟩
    · rw [hW0]; exact (Blk.new' hx).alloc _
    · rw [hW0]; exact Blk.new' (by rw [hgk]; simp)
    · exact HRS.out.keep (fun b hb hR => ⟨b3.block b hb, fun e => by have h1 := HGL.out; have h2 : w2.heap.size ≤ b := hR; omega, by rw [hx]; exact hb⟩) b3.size
  have HI := Lib.hid hI
  clear hI HLG HTK3 HVG3 HRS HB3 HPB3 HSZ
  go_wp2_with fail
  rw [← hgk, ← hx, ← hW0]
  clear hgk hx hW0 p2 pl hli
  go_loopw [13, 14] (fun cv iv wr => ∃ (k : Nat) (S K : WS) (km : Int), iv = .int .i64 (k : Int) ∧ k ≤ len ∧ PI w gt g x gk s m dc tr (.slice a2 m.length n2) S K km k cv wr) (fun _ iv _ => len - (intOf iv).toNat)
  case atStart => exact ⟨0, _, _, _, rfl, Nat.zero_le _, HI.out⟩
  case round =>
    clear HI
    obtain ⟨k, S, K, km, rfl, hk, hq⟩ := hrel
    by_cases hkn : k < len
    · obtain ⟨b, off, o, rfl, hbl, hget, c0, c1, c2, c3, c4, c5, c6, cb0, cb1, cb2, cb3⟩ := (HR.out.below hq.bel).at_ hkn
      obtain ⟨ask, cyc, rule, addr, wx, vv, tt⟩ := o
      simp only at c0 c1 c2 c3 c4 c5 c6
      have hki : (k : Int) < (len : Int) := by omega
      have hk0 : (0 : Int) ≤ (k : Int) := by omega
      have hbw : b < wr.heap.size := Nat.lt_of_lt_of_le hbl hq.bel.size
      have hxw : x < wr.heap.size := hq.vx.lt
      have hkw : gk < wr.heap.size := hq.vk.lt
      have hgw : g < wr.heap.size := hq.vg.lt
      obtain ⟨V, hV⟩ : ∃ V, V = wr.alloc (.cells #[.int .i64 ask, .int .i64 cyc, .int .i64 rule, .int .i64 addr, .bool wx, .int .u8 vv, .int .u8 tt] 27) := ⟨_, rfl⟩
      obtain ⟨hx, hhx⟩ : ∃ hx, hx = wr.heap.size := ⟨_, rfl⟩
      have bV : Below wr.heap.size wr V := by rw [hV]; exact Q.alloc (Below.refl _ _) _
      have XB : Blk V hx 27 #[.int .i64 ask, .int .i64 cyc, .int .i64 rule, .int .i64 addr, .bool wx, .int .u8 vv, .int .u8 tt] := by rw [hV]; exact Blk.new' hhx
      have HP := Lib.hid (hq.call bV)
      have HBX := Lib.hid XB
      have hne1 : hx ≠ x := by omega
      have hne2 : hx ≠ gk := by omega
      have HXX := Lib.hid hne1
      clear hget hbl cb0 cb1 cb2 cb3 hq bV XB
      by_cases hat : (k : Int) = at_
      · have CL := wclone_eq V g gt _ _ _ _ _ _ _ HP.out.vg
        obtain ⟨V1, hV1⟩ : ∃ V1, V1 = V.alloc (.cells (S.cells (.pointer (some ⟨gt, 0, none⟩))) 68) := ⟨_, rfl⟩
        obtain ⟨gc, hgc⟩ : ∃ gc, gc = V.heap.size := ⟨_, rfl⟩
        have HPC := Lib.hid (HP.out.clone hgc hV1)
        have bV1 : Below V.heap.size V V1 := by rw [hV1]; exact Q.alloc (Below.refl _ _) _
        have XB1 := HBX.out.call bV1
        have VX1 := HP.out.vx.call bV1
        have VK1 := HP.out.vk.call bV1
        have HBC := Lib.hid (XB1.chg (S := fun b => b = gk) (Chg.setRow V1 gk (S.rcells dc)) (fun h => hne2 h))
        have CL2 : Calls Tryd.prog 12 #[.pointer (some ⟨g, 0, none⟩)] V fun e w' => e = .returned (.pointer (some ⟨gc, 0, none⟩)) ∧ V1 = w' := CL.mono fun e w' h => ⟨by rw [hgc]; exact h.1, by rw [hV1]; exact h.2.symm⟩
        have e2 : (((((((V1.setCell ⟨gk, 0, none⟩ (.int .i64 S.st)).setCell ⟨gk, 1, none⟩ (.int .i64 S.ru)).setCell ⟨gk, 2, none⟩ (.int .i64 S.cy)).setCell ⟨gk, 3, none⟩ (.int .i64 S.ad)).setCell ⟨gk, 4, none⟩ (.int .u8 S.bi)).setCell ⟨gk, 5, none⟩ (.int .i64 S.la)).setCell ⟨gk, 6, none⟩ (.int .i64 S.se)).setCell ⟨gk, 7, none⟩ (.int .i64 dc) = V1.setRow gk (S.rcells dc) := by
          rw [VK1.setCell 0, VK1.setCell_setRow, VK1.setCell_setRow, VK1.setCell_setRow, VK1.setCell_setRow, VK1.setCell_setRow, VK1.setCell_setRow, VK1.setCell_setRow]
          rfl
        have HE2 := Lib.hid e2
        have hneg : ¬ g = hx := by omega
        have hnk : gk ≠ hx := by omega
        have hnx : gk ≠ x := by have := HP.out.lo; omega
        have hnx2 : x ≠ gk := by omega
        subst hat
        go_wp2_with fail
        rw [← hhx, ← hV]
        clear hV hhx c0 c1 c2 c3 c4 c5 c6 CL e2 hV1 hgc bV1
        go_wp2_with (go_at_call 12; (with_reducible refine CL2.mono ?_); rintro e w2 ⟨rfl, rfl⟩; refine Hid.out ?_)
        refine Lib.hid ?_
        clear CL2
        have y0 : V1.cell? ⟨x, 0, none⟩ = some (.int .i64 S.st) := VX1.cell 0
        have z0 : V1.cell? ⟨gk, 0, none⟩ = some (.int .i64 K.st) := VK1.cell 0
        have q0 := VK1.frozen 0
        have y1 : V1.cell? ⟨x, 1, none⟩ = some (.int .i64 S.ru) := VX1.cell 1
        have z1 : V1.cell? ⟨gk, 1, none⟩ = some (.int .i64 K.ru) := VK1.cell 1
        have q1 := VK1.frozen 1
        have y2 : V1.cell? ⟨x, 2, none⟩ = some (.int .i64 S.cy) := VX1.cell 2
        have z2 : V1.cell? ⟨gk, 2, none⟩ = some (.int .i64 K.cy) := VK1.cell 2
        have q2 := VK1.frozen 2
        have y3 : V1.cell? ⟨x, 3, none⟩ = some (.int .i64 S.ad) := VX1.cell 3
        have z3 : V1.cell? ⟨gk, 3, none⟩ = some (.int .i64 K.ad) := VK1.cell 3
        have q3 := VK1.frozen 3
        have y4 : V1.cell? ⟨x, 4, none⟩ = some (.int .u8 S.bi) := VX1.cell 4
        have z4 : V1.cell? ⟨gk, 4, none⟩ = some (.int .u8 K.bi) := VK1.cell 4
        have q4 := VK1.frozen 4
        have y5 : V1.cell? ⟨x, 5, none⟩ = some (.int .i64 S.la) := VX1.cell 5
        have z5 : V1.cell? ⟨gk, 5, none⟩ = some (.int .i64 K.la) := VK1.cell 5
        have q5 := VK1.frozen 5
        have y6 : V1.cell? ⟨x, 6, none⟩ = some (.int .i64 S.se) := VX1.cell 6
        have z6 : V1.cell? ⟨gk, 6, none⟩ = some (.int .i64 K.se) := VK1.cell 6
        have q6 := VK1.frozen 6
        have y7 : V1.cell? ⟨x, 7, none⟩ = some (.int .i64 dc) := VX1.cell 7
        have z7 : V1.cell? ⟨gk, 7, none⟩ = some (.int .i64 km) := VK1.cell 7
        have q7 := VK1.frozen 7
        have yl := VX1.lt
        have zl := VK1.lt
        have x0 := XB1.cell 0
        have x1 := XB1.cell 1
        have x2 := XB1.cell 2
        have x3 := XB1.cell 3
        have x4 := XB1.cell 4
        have x5 := XB1.cell 5
        have x6 := XB1.cell 6
        have xl := XB1.lt
        clear VX1 VK1 XB1
        by_cases hn0 : ask = 0
        · subst hn0
          cases wx
          · go_wp2_with fail
            rw [HE2.out]
            obtain ⟨V3, hV3⟩ : ∃ V3, V3 = V1.setRow gk (S.rcells dc) := ⟨_, rfl⟩
            rw [← hV3] at HPC HBC ⊢
            have HP := HPC
            have HBX := HBC
            clear HPC HBC HE2 hV3 hne1 hne2 hneg hnk hnx hnx2 y0 z0 q0 y1 z1 q1 y2 z2 q2 y3 z3 q3 y4 z4 q4 y5 z5 q5 y6 z6 q6 y7 z7 q7 yl zl x0 x1 x2 x3 x4 x5 x6 xl
            have x0 := HBX.out.cell 0
            have x1 := HBX.out.cell 1
            have x2 := HBX.out.cell 2
            have x3 := HBX.out.cell 3
            have x4 := HBX.out.cell 4
            have x5 := HBX.out.cell 5
            have x6 := HBX.out.cell 6
            have xl := HBX.out.lt
            have RS : Calls Tryd.prog 18 #[.pointer (some ⟨x, 0, none⟩), .int .i64 cyc, .int .i64 addr, .int .u8 (0)] V3 (RPostW V3 x dc (S.does dc (lkv m addr tt) ⟨0, cyc, rule, addr, false, vv, tt⟩)) := rsee_calls V3 x S dc HP.out.vx cyc addr false (lkv m addr tt) _ rfl ⟨HP.out.se.1, by have := HP.out.se.2; omega⟩
            have DV : ∀ U1 U : World, Below V3.heap.size V3 U1 → Chg (fun b => b = x) U1 U → Calls Tryd.prog 8 #[.pointer (some ⟨g, 0, none⟩), .agg #[.int .i64 0, .int .i64 cyc, .int .i64 rule, .int .i64 addr, .bool false, .int .u8 vv, .int .u8 tt]] U (DPost U g (.pointer (some ⟨gt, 0, none⟩)) (S.does dc (lkv m addr tt) ⟨0, cyc, rule, addr, false, vv, tt⟩)) := fun U1 U hV hc => does_calls U g gt S ((HP.out.call hV).vg.chg hc (fun h => by have h : g = x := h; have := HP.out.lo; omega)) s m dc tr ((HP.out.call hV).tk.chg hc (fun b hb => by have hb : b = x := hb; have := HP.out.lo; omega)) ⟨0, cyc, rule, addr, false, vv, tt⟩ ⟨HP.out.se.1, by have := HP.out.se.2; omega⟩ HP.out.lo.2.1
            have DE := S.does_se dc (lkv m addr tt) ⟨0, cyc, rule, addr, false, vv, tt⟩
            obtain ⟨Rr, hRr⟩ : ∃ Rr, Rr = S.does dc (lkv m addr tt) ⟨0, cyc, rule, addr, false, vv, tt⟩ := ⟨_, rfl⟩
            rw [← hRr] at DE DV
            rw [← hRr] at RS
            obtain ⟨E, S2⟩ := Rr
            have HDE := Lib.hid DE
            clear hRr DE
            go_wp2_with (go_at_call 18; (with_reducible refine RS.mono ?_); rintro e w3 ⟨rfl, hc3, hb3⟩; refine Hid.out ?_)
            refine Lib.hid ?_
            have DV2 := DV _ w3 (Below.refl _ _) hc3
            have HBX3 := Lib.hid ((HBX.out.call (Below.refl _ _)).chg hc3 (fun h => by have h : hx = x := h; exact HXX.out h))
            have HN3 := Lib.hid ((HP.out.call (Below.refl _ _)).xstep hc3 hb3)
            clear hc3 hb3 RS DV x0 x1 x2 x3 x4 x5 x6 xl
            have x0 := HBX3.out.cell 0
            have x1 := HBX3.out.cell 1
            have x2 := HBX3.out.cell 2
            have x3 := HBX3.out.cell 3
            have x4 := HBX3.out.cell 4
            have x5 := HBX3.out.cell 5
            have x6 := HBX3.out.cell 6
            have xl := HBX3.out.lt
            go_wp2_with (go_at_call 8; (with_reducible refine DV2.mono ?_); rintro e w4 ⟨rfl, hc4, hb4⟩; refine Hid.out ?_)
            refine Lib.hid ?_
            have HN4 := Lib.hid (HN3.out.gstep hc4 hb4 HDE.out)
            have SA := same16_eq w4 g gt x S2 dc HN4.out.vg HN4.out.vx
            clear hc4 hb4 DV2 HN3 x0 x1 x2 x3 x4 x5 x6 xl
            go_wp2_with (go_at_call 23; (with_reducible refine SA.mono ?_); rintro e w5 ⟨rfl, hb5⟩; have HB5 := Lib.hid hb5; clear hb5)
            refine ⟨⟨k + 1, S2, _, _, by simp, by omega, HN4.out.call HB5.out⟩, by simp [intOf]; omega⟩
          · go_wp2_with fail
            rw [HE2.out]
            obtain ⟨V3, hV3⟩ : ∃ V3, V3 = V1.setRow gk (S.rcells dc) := ⟨_, rfl⟩
            rw [← hV3] at HPC HBC ⊢
            have HP := HPC
            have HBX := HBC
            clear HPC HBC HE2 hV3 hne1 hne2 hneg hnk hnx hnx2 y0 z0 q0 y1 z1 q1 y2 z2 q2 y3 z3 q3 y4 z4 q4 y5 z5 q5 y6 z6 q6 y7 z7 q7 yl zl x0 x1 x2 x3 x4 x5 x6 xl
            have CB := fun y : BW V3 => Bits_eq y.val _ (.slice a2 m.length n2) m addr (HP.out.sk.below y.has) (by omega) HBM.out
            have LA : ∀ y : BW V3, y.val.cell? ⟨hx, 3, none⟩ = some (.int .i64 addr) := fun y => (HBX.out.call y.has).cell 3
            have LT : ∀ y : BW V3, y.val.cell? ⟨hx, 6, none⟩ = some (.int .u8 tt) := fun y => (HBX.out.call y.has).cell 6
            have hxV : hx < V3.heap.size := HBX.out.lt
            refine wp_region_below (by kernel_rfl) (by kernel_rfl) ?_
            repeat (go_big_quiet_step ((go_at_call 17; exact calls_bw (CB _))))
            refine wpQuiet_nil ?_
            first | (intro w9 hw9; obtain ⟨y9, rfl⟩ := hw9) | intro y9
            have HP := Lib.hid (HP.out.call y9.has)
            have HBX := Lib.hid (HBX.out.call y9.has)
            clear CB LA LT hxV
            have x0 := HBX.out.cell 0
            have x1 := HBX.out.cell 1
            have x2 := HBX.out.cell 2
            have x3 := HBX.out.cell 3
            have x4 := HBX.out.cell 4
            have x5 := HBX.out.cell 5
            have x6 := HBX.out.cell 6
            have xl := HBX.out.lt
            have RS : Calls Tryd.prog 18 #[.pointer (some ⟨x, 0, none⟩), .int .i64 cyc, .int .i64 addr, .int .u8 (bits .and .u8 (bitsL m addr) tt)] y9.val (RPostW y9.val x dc (S.does dc (lkv m addr tt) ⟨0, cyc, rule, addr, true, vv, tt⟩)) := rsee_calls y9.val x S dc HP.out.vx cyc addr true (lkv m addr tt) _ (by rw [if_pos rfl]; rfl) ⟨HP.out.se.1, by have := HP.out.se.2; omega⟩
            have DV : ∀ U1 U : World, Below y9.val.heap.size y9.val U1 → Chg (fun b => b = x) U1 U → Calls Tryd.prog 8 #[.pointer (some ⟨g, 0, none⟩), .agg #[.int .i64 0, .int .i64 cyc, .int .i64 rule, .int .i64 addr, .bool true, .int .u8 vv, .int .u8 tt]] U (DPost U g (.pointer (some ⟨gt, 0, none⟩)) (S.does dc (lkv m addr tt) ⟨0, cyc, rule, addr, true, vv, tt⟩)) := fun U1 U hV hc => does_calls U g gt S ((HP.out.call hV).vg.chg hc (fun h => by have h : g = x := h; have := HP.out.lo; omega)) s m dc tr ((HP.out.call hV).tk.chg hc (fun b hb => by have hb : b = x := hb; have := HP.out.lo; omega)) ⟨0, cyc, rule, addr, true, vv, tt⟩ ⟨HP.out.se.1, by have := HP.out.se.2; omega⟩ HP.out.lo.2.1
            have DE := S.does_se dc (lkv m addr tt) ⟨0, cyc, rule, addr, true, vv, tt⟩
            obtain ⟨Rr, hRr⟩ : ∃ Rr, Rr = S.does dc (lkv m addr tt) ⟨0, cyc, rule, addr, true, vv, tt⟩ := ⟨_, rfl⟩
            rw [← hRr] at DE DV
            rw [← hRr] at RS
            obtain ⟨E, S2⟩ := Rr
            have HDE := Lib.hid DE
            clear hRr DE
            go_wp2_with (go_at_call 18; (with_reducible refine RS.mono ?_); rintro e w3 ⟨rfl, hc3, hb3⟩; refine Hid.out ?_)
            refine Lib.hid ?_
            have DV2 := DV _ w3 (Below.refl _ _) hc3
            have HBX3 := Lib.hid ((HBX.out.call (Below.refl _ _)).chg hc3 (fun h => by have h : hx = x := h; exact HXX.out h))
            have HN3 := Lib.hid ((HP.out.call (Below.refl _ _)).xstep hc3 hb3)
            clear hc3 hb3 RS DV x0 x1 x2 x3 x4 x5 x6 xl
            have x0 := HBX3.out.cell 0
            have x1 := HBX3.out.cell 1
            have x2 := HBX3.out.cell 2
            have x3 := HBX3.out.cell 3
            have x4 := HBX3.out.cell 4
            have x5 := HBX3.out.cell 5
            have x6 := HBX3.out.cell 6
            have xl := HBX3.out.lt
            go_wp2_with (go_at_call 8; (with_reducible refine DV2.mono ?_); rintro e w4 ⟨rfl, hc4, hb4⟩; refine Hid.out ?_)
            refine Lib.hid ?_
            have HN4 := Lib.hid (HN3.out.gstep hc4 hb4 HDE.out)
            have SA := same16_eq w4 g gt x S2 dc HN4.out.vg HN4.out.vx
            clear hc4 hb4 DV2 HN3 x0 x1 x2 x3 x4 x5 x6 xl
            go_wp2_with (go_at_call 23; (with_reducible refine SA.mono ?_); rintro e w5 ⟨rfl, hb5⟩; have HB5 := Lib.hid hb5; clear hb5)
            refine ⟨⟨k + 1, S2, _, _, by simp, by omega, HN4.out.call HB5.out⟩, by simp [intOf]; omega⟩
        · have e0 : (ask == 0) = false := beq_eq_false_iff_ne.2 hn0
          by_cases hn1 : ask = 1
          · subst hn1
            clear hn0
            go_wp2_with fail
            rw [HE2.out]
            obtain ⟨V3, hV3⟩ : ∃ V3, V3 = V1.setRow gk (S.rcells dc) := ⟨_, rfl⟩
            rw [← hV3] at HPC HBC ⊢
            have HP := HPC
            have HBX := HBC
            clear HPC HBC HE2 hV3 hne1 hne2 hneg hnk hnx hnx2 y0 z0 q0 y1 z1 q1 y2 z2 q2 y3 z3 q3 y4 z4 q4 y5 z5 q5 y6 z6 q6 y7 z7 q7 yl zl x0 x1 x2 x3 x4 x5 x6 xl
            have x0 := HBX.out.cell 0
            have x1 := HBX.out.cell 1
            have x2 := HBX.out.cell 2
            have x3 := HBX.out.cell 3
            have x4 := HBX.out.cell 4
            have x5 := HBX.out.cell 5
            have x6 := HBX.out.cell 6
            have xl := HBX.out.lt
            have RS : Calls Tryd.prog 19 #[.pointer (some ⟨x, 0, none⟩), .int .i64 cyc] V3 (RPostW V3 x dc (S.does dc (lkv m addr tt) ⟨1, cyc, rule, addr, wx, vv, tt⟩)) := rtold_calls V3 x S dc HP.out.vx cyc
            have DV : ∀ U1 U : World, Below V3.heap.size V3 U1 → Chg (fun b => b = x) U1 U → Calls Tryd.prog 8 #[.pointer (some ⟨g, 0, none⟩), .agg #[.int .i64 1, .int .i64 cyc, .int .i64 rule, .int .i64 addr, .bool wx, .int .u8 vv, .int .u8 tt]] U (DPost U g (.pointer (some ⟨gt, 0, none⟩)) (S.does dc (lkv m addr tt) ⟨1, cyc, rule, addr, wx, vv, tt⟩)) := fun U1 U hV hc => does_calls U g gt S ((HP.out.call hV).vg.chg hc (fun h => by have h : g = x := h; have := HP.out.lo; omega)) s m dc tr ((HP.out.call hV).tk.chg hc (fun b hb => by have hb : b = x := hb; have := HP.out.lo; omega)) ⟨1, cyc, rule, addr, wx, vv, tt⟩ ⟨HP.out.se.1, by have := HP.out.se.2; omega⟩ HP.out.lo.2.1
            have DE := S.does_se dc (lkv m addr tt) ⟨1, cyc, rule, addr, wx, vv, tt⟩
            obtain ⟨Rr, hRr⟩ : ∃ Rr, Rr = S.does dc (lkv m addr tt) ⟨1, cyc, rule, addr, wx, vv, tt⟩ := ⟨_, rfl⟩
            rw [← hRr] at DE DV
            rw [← hRr] at RS
            obtain ⟨E, S2⟩ := Rr
            have HDE := Lib.hid DE
            clear hRr DE
            go_wp2_with (go_at_call 19; (with_reducible refine RS.mono ?_); rintro e w3 ⟨rfl, hc3, hb3⟩; refine Hid.out ?_)
            refine Lib.hid ?_
            have DV2 := DV _ w3 (Below.refl _ _) hc3
            have HBX3 := Lib.hid ((HBX.out.call (Below.refl _ _)).chg hc3 (fun h => by have h : hx = x := h; exact HXX.out h))
            have HN3 := Lib.hid ((HP.out.call (Below.refl _ _)).xstep hc3 hb3)
            clear hc3 hb3 RS DV x0 x1 x2 x3 x4 x5 x6 xl
            have x0 := HBX3.out.cell 0
            have x1 := HBX3.out.cell 1
            have x2 := HBX3.out.cell 2
            have x3 := HBX3.out.cell 3
            have x4 := HBX3.out.cell 4
            have x5 := HBX3.out.cell 5
            have x6 := HBX3.out.cell 6
            have xl := HBX3.out.lt
            go_wp2_with (go_at_call 8; (with_reducible refine DV2.mono ?_); rintro e w4 ⟨rfl, hc4, hb4⟩; refine Hid.out ?_)
            refine Lib.hid ?_
            have HN4 := Lib.hid (HN3.out.gstep hc4 hb4 HDE.out)
            have SA := same16_eq w4 g gt x S2 dc HN4.out.vg HN4.out.vx
            clear hc4 hb4 DV2 HN3 x0 x1 x2 x3 x4 x5 x6 xl
            go_wp2_with (go_at_call 23; (with_reducible refine SA.mono ?_); rintro e w5 ⟨rfl, hb5⟩; have HB5 := Lib.hid hb5; clear hb5)
            refine ⟨⟨k + 1, S2, _, _, by simp, by omega, HN4.out.call HB5.out⟩, by simp [intOf]; omega⟩
          · have e1 : (ask == 1) = false := beq_eq_false_iff_ne.2 hn1
            go_wp2_with fail
            rw [HE2.out]
            obtain ⟨V3, hV3⟩ : ∃ V3, V3 = V1.setRow gk (S.rcells dc) := ⟨_, rfl⟩
            rw [← hV3] at HPC HBC ⊢
            have HP := HPC
            have HBX := HBC
            clear HPC HBC HE2 hV3 hne1 hne2 hneg hnk hnx hnx2 y0 z0 q0 y1 z1 q1 y2 z2 q2 y3 z3 q3 y4 z4 q4 y5 z5 q5 y6 z6 q6 y7 z7 q7 yl zl x0 x1 x2 x3 x4 x5 x6 xl
            have x0 := HBX.out.cell 0
            have x1 := HBX.out.cell 1
            have x2 := HBX.out.cell 2
            have x3 := HBX.out.cell 3
            have x4 := HBX.out.cell 4
            have x5 := HBX.out.cell 5
            have x6 := HBX.out.cell 6
            have xl := HBX.out.lt
            have hdd : S.does dc (lkv m addr tt) ⟨ask, cyc, rule, addr, wx, vv, tt⟩ = S.brk rule cyc addr tt := by unfold WS.does; rw [if_neg hn0, if_neg hn1]
            have RS : ∀ U, Below V3.heap.size V3 U → Calls Tryd.prog 20 #[.pointer (some ⟨x, 0, none⟩), .agg #[.int .i64 rule, .int .i64 cyc, .int .i64 addr, .int .u8 tt]] U (fun e w' => RPostW U x dc (S.does dc (lkv m addr tt) ⟨ask, cyc, rule, addr, wx, vv, tt⟩) e w' ∧ Below V3.heap.size V3 U) := fun U hV => (rbrk_calls U x S dc (HP.out.call hV).vx rule cyc addr tt).mono fun e w' h => ⟨by rw [hdd]; exact h, hV⟩
            have BE := fun U => broken_eq U ⟨ask, cyc, rule, addr, wx, vv, tt⟩
            have PE := fun U => aplain_eq U rule cyc addr tt
            (try simp only at BE)
            clear hdd hn0 hn1
            have DV : ∀ U1 U : World, Below V3.heap.size V3 U1 → Chg (fun b => b = x) U1 U → Calls Tryd.prog 8 #[.pointer (some ⟨g, 0, none⟩), .agg #[.int .i64 ask, .int .i64 cyc, .int .i64 rule, .int .i64 addr, .bool wx, .int .u8 vv, .int .u8 tt]] U (DPost U g (.pointer (some ⟨gt, 0, none⟩)) (S.does dc (lkv m addr tt) ⟨ask, cyc, rule, addr, wx, vv, tt⟩)) := fun U1 U hV hc => does_calls U g gt S ((HP.out.call hV).vg.chg hc (fun h => by have h : g = x := h; have := HP.out.lo; omega)) s m dc tr ((HP.out.call hV).tk.chg hc (fun b hb => by have hb : b = x := hb; have := HP.out.lo; omega)) ⟨ask, cyc, rule, addr, wx, vv, tt⟩ ⟨HP.out.se.1, by have := HP.out.se.2; omega⟩ HP.out.lo.2.1
            have DE := S.does_se dc (lkv m addr tt) ⟨ask, cyc, rule, addr, wx, vv, tt⟩
            obtain ⟨Rr, hRr⟩ : ∃ Rr, Rr = S.does dc (lkv m addr tt) ⟨ask, cyc, rule, addr, wx, vv, tt⟩ := ⟨_, rfl⟩
            rw [← hRr] at DE DV
            simp only [← hRr] at RS
            obtain ⟨E, S2⟩ := Rr
            have HDE := Lib.hid DE
            clear hRr DE
            go_wp2_with (first
              | (go_at_call 22; (with_reducible refine (BE _).mono ?_); rintro e v1 ⟨rfl, bb1⟩)
              | (go_at_call 21; (with_reducible refine (PE _).mono ?_); rintro e v2 ⟨rfl, bb2⟩)
              | (go_at_call 20; (with_reducible refine (RS _ (by repeat' (first | with_reducible exact Below.refl _ _ | with_reducible assumption | with_reducible refine Q.alloc ?_ _ | with_reducible refine Q.drew ?_ | with_reducible refine Q.drewN ?_ _ | with_reducible refine Q.call ?_ (by assumption)))).mono ?_); rintro e w3 ⟨⟨rfl, hc3, hb3⟩, hv3⟩; refine Hid.out ?_))
            refine Lib.hid ?_
            have hbv : Below V3.heap.size V3 _ := hv3
            have DV2 := DV _ w3 hbv hc3
            have HBX3 := Lib.hid ((HBX.out.call hbv).chg hc3 (fun h => by have h : hx = x := h; exact HXX.out h))
            have HN3 := Lib.hid ((HP.out.call hbv).xstep hc3 hb3)
            clear hc3 hb3 RS DV bb1 bb2 hv3 hbv BE PE x0 x1 x2 x3 x4 x5 x6 xl
            have x0 := HBX3.out.cell 0
            have x1 := HBX3.out.cell 1
            have x2 := HBX3.out.cell 2
            have x3 := HBX3.out.cell 3
            have x4 := HBX3.out.cell 4
            have x5 := HBX3.out.cell 5
            have x6 := HBX3.out.cell 6
            have xl := HBX3.out.lt
            go_wp2_with (go_at_call 8; (with_reducible refine DV2.mono ?_); rintro e w4 ⟨rfl, hc4, hb4⟩; refine Hid.out ?_)
            refine Lib.hid ?_
            have HN4 := Lib.hid (HN3.out.gstep hc4 hb4 HDE.out)
            have SA := same16_eq w4 g gt x S2 dc HN4.out.vg HN4.out.vx
            clear hc4 hb4 DV2 HN3 x0 x1 x2 x3 x4 x5 x6 xl
            go_wp2_with (go_at_call 23; (with_reducible refine SA.mono ?_); rintro e w5 ⟨rfl, hb5⟩; have HB5 := Lib.hid hb5; clear hb5)
            refine ⟨⟨k + 1, S2, _, _, by simp, by omega, HN4.out.call HB5.out⟩, by simp [intOf]; omega⟩
      · have eat : ((k : Int) == at_) = false := beq_eq_false_iff_ne.2 hat
        by_cases hn0 : ask = 0
        · subst hn0
          cases wx
          · go_wp2_with fail
            rw [← hhx, ← hV]
            clear hV hhx hne1 hne2 c0 c1 c2 c3 c4 c5 c6
            have x0 := HBX.out.cell 0
            have x1 := HBX.out.cell 1
            have x2 := HBX.out.cell 2
            have x3 := HBX.out.cell 3
            have x4 := HBX.out.cell 4
            have x5 := HBX.out.cell 5
            have x6 := HBX.out.cell 6
            have xl := HBX.out.lt
            have RS : Calls Tryd.prog 18 #[.pointer (some ⟨x, 0, none⟩), .int .i64 cyc, .int .i64 addr, .int .u8 (0)] V (RPostW V x dc (S.does dc (lkv m addr tt) ⟨0, cyc, rule, addr, false, vv, tt⟩)) := rsee_calls V x S dc HP.out.vx cyc addr false (lkv m addr tt) _ rfl ⟨HP.out.se.1, by have := HP.out.se.2; omega⟩
            have DV : ∀ U1 U : World, Below V.heap.size V U1 → Chg (fun b => b = x) U1 U → Calls Tryd.prog 8 #[.pointer (some ⟨g, 0, none⟩), .agg #[.int .i64 0, .int .i64 cyc, .int .i64 rule, .int .i64 addr, .bool false, .int .u8 vv, .int .u8 tt]] U (DPost U g (.pointer (some ⟨gt, 0, none⟩)) (S.does dc (lkv m addr tt) ⟨0, cyc, rule, addr, false, vv, tt⟩)) := fun U1 U hV hc => does_calls U g gt S ((HP.out.call hV).vg.chg hc (fun h => by have h : g = x := h; have := HP.out.lo; omega)) s m dc tr ((HP.out.call hV).tk.chg hc (fun b hb => by have hb : b = x := hb; have := HP.out.lo; omega)) ⟨0, cyc, rule, addr, false, vv, tt⟩ ⟨HP.out.se.1, by have := HP.out.se.2; omega⟩ HP.out.lo.2.1
            have DE := S.does_se dc (lkv m addr tt) ⟨0, cyc, rule, addr, false, vv, tt⟩
            obtain ⟨Rr, hRr⟩ : ∃ Rr, Rr = S.does dc (lkv m addr tt) ⟨0, cyc, rule, addr, false, vv, tt⟩ := ⟨_, rfl⟩
            rw [← hRr] at DE DV
            rw [← hRr] at RS
            obtain ⟨E, S2⟩ := Rr
            have HDE := Lib.hid DE
            clear hRr DE
            go_wp2_with (go_at_call 18; (with_reducible refine RS.mono ?_); rintro e w3 ⟨rfl, hc3, hb3⟩; refine Hid.out ?_)
            refine Lib.hid ?_
            have DV2 := DV _ w3 (Below.refl _ _) hc3
            have HBX3 := Lib.hid ((HBX.out.call (Below.refl _ _)).chg hc3 (fun h => by have h : hx = x := h; exact HXX.out h))
            have HN3 := Lib.hid ((HP.out.call (Below.refl _ _)).xstep hc3 hb3)
            clear hc3 hb3 RS DV x0 x1 x2 x3 x4 x5 x6 xl
            have x0 := HBX3.out.cell 0
            have x1 := HBX3.out.cell 1
            have x2 := HBX3.out.cell 2
            have x3 := HBX3.out.cell 3
            have x4 := HBX3.out.cell 4
            have x5 := HBX3.out.cell 5
            have x6 := HBX3.out.cell 6
            have xl := HBX3.out.lt
            go_wp2_with (go_at_call 8; (with_reducible refine DV2.mono ?_); rintro e w4 ⟨rfl, hc4, hb4⟩; refine Hid.out ?_)
            refine Lib.hid ?_
            have HN4 := Lib.hid (HN3.out.gstep hc4 hb4 HDE.out)
            have SA := same16_eq w4 g gt x S2 dc HN4.out.vg HN4.out.vx
            clear hc4 hb4 DV2 HN3 x0 x1 x2 x3 x4 x5 x6 xl
            go_wp2_with (go_at_call 23; (with_reducible refine SA.mono ?_); rintro e w5 ⟨rfl, hb5⟩; have HB5 := Lib.hid hb5; clear hb5)
            refine ⟨⟨k + 1, S2, _, _, by simp, by omega, HN4.out.call HB5.out⟩, by simp [intOf]; omega⟩
          · go_wp2_with fail
            rw [← hhx, ← hV]
            clear hV hhx hne1 hne2 c0 c1 c2 c3 c4 c5 c6
            have CB := fun y : BW V => Bits_eq y.val _ (.slice a2 m.length n2) m addr (HP.out.sk.below y.has) (by omega) HBM.out
            have LA : ∀ y : BW V, y.val.cell? ⟨hx, 3, none⟩ = some (.int .i64 addr) := fun y => (HBX.out.call y.has).cell 3
            have LT : ∀ y : BW V, y.val.cell? ⟨hx, 6, none⟩ = some (.int .u8 tt) := fun y => (HBX.out.call y.has).cell 6
            have hxV : hx < V.heap.size := HBX.out.lt
            refine wp_region_below (by kernel_rfl) (by kernel_rfl) ?_
            repeat (go_big_quiet_step ((go_at_call 17; exact calls_bw (CB _))))
            refine wpQuiet_nil ?_
            first | (intro w9 hw9; obtain ⟨y9, rfl⟩ := hw9) | intro y9
            have HP := Lib.hid (HP.out.call y9.has)
            have HBX := Lib.hid (HBX.out.call y9.has)
            clear CB LA LT hxV
            have x0 := HBX.out.cell 0
            have x1 := HBX.out.cell 1
            have x2 := HBX.out.cell 2
            have x3 := HBX.out.cell 3
            have x4 := HBX.out.cell 4
            have x5 := HBX.out.cell 5
            have x6 := HBX.out.cell 6
            have xl := HBX.out.lt
            have RS : Calls Tryd.prog 18 #[.pointer (some ⟨x, 0, none⟩), .int .i64 cyc, .int .i64 addr, .int .u8 (bits .and .u8 (bitsL m addr) tt)] y9.val (RPostW y9.val x dc (S.does dc (lkv m addr tt) ⟨0, cyc, rule, addr, true, vv, tt⟩)) := rsee_calls y9.val x S dc HP.out.vx cyc addr true (lkv m addr tt) _ (by rw [if_pos rfl]; rfl) ⟨HP.out.se.1, by have := HP.out.se.2; omega⟩
            have DV : ∀ U1 U : World, Below y9.val.heap.size y9.val U1 → Chg (fun b => b = x) U1 U → Calls Tryd.prog 8 #[.pointer (some ⟨g, 0, none⟩), .agg #[.int .i64 0, .int .i64 cyc, .int .i64 rule, .int .i64 addr, .bool true, .int .u8 vv, .int .u8 tt]] U (DPost U g (.pointer (some ⟨gt, 0, none⟩)) (S.does dc (lkv m addr tt) ⟨0, cyc, rule, addr, true, vv, tt⟩)) := fun U1 U hV hc => does_calls U g gt S ((HP.out.call hV).vg.chg hc (fun h => by have h : g = x := h; have := HP.out.lo; omega)) s m dc tr ((HP.out.call hV).tk.chg hc (fun b hb => by have hb : b = x := hb; have := HP.out.lo; omega)) ⟨0, cyc, rule, addr, true, vv, tt⟩ ⟨HP.out.se.1, by have := HP.out.se.2; omega⟩ HP.out.lo.2.1
            have DE := S.does_se dc (lkv m addr tt) ⟨0, cyc, rule, addr, true, vv, tt⟩
            obtain ⟨Rr, hRr⟩ : ∃ Rr, Rr = S.does dc (lkv m addr tt) ⟨0, cyc, rule, addr, true, vv, tt⟩ := ⟨_, rfl⟩
            rw [← hRr] at DE DV
            rw [← hRr] at RS
            obtain ⟨E, S2⟩ := Rr
            have HDE := Lib.hid DE
            clear hRr DE
            go_wp2_with (go_at_call 18; (with_reducible refine RS.mono ?_); rintro e w3 ⟨rfl, hc3, hb3⟩; refine Hid.out ?_)
            refine Lib.hid ?_
            have DV2 := DV _ w3 (Below.refl _ _) hc3
            have HBX3 := Lib.hid ((HBX.out.call (Below.refl _ _)).chg hc3 (fun h => by have h : hx = x := h; exact HXX.out h))
            have HN3 := Lib.hid ((HP.out.call (Below.refl _ _)).xstep hc3 hb3)
            clear hc3 hb3 RS DV x0 x1 x2 x3 x4 x5 x6 xl
            have x0 := HBX3.out.cell 0
            have x1 := HBX3.out.cell 1
            have x2 := HBX3.out.cell 2
            have x3 := HBX3.out.cell 3
            have x4 := HBX3.out.cell 4
            have x5 := HBX3.out.cell 5
            have x6 := HBX3.out.cell 6
            have xl := HBX3.out.lt
            go_wp2_with (go_at_call 8; (with_reducible refine DV2.mono ?_); rintro e w4 ⟨rfl, hc4, hb4⟩; refine Hid.out ?_)
            refine Lib.hid ?_
            have HN4 := Lib.hid (HN3.out.gstep hc4 hb4 HDE.out)
            have SA := same16_eq w4 g gt x S2 dc HN4.out.vg HN4.out.vx
            clear hc4 hb4 DV2 HN3 x0 x1 x2 x3 x4 x5 x6 xl
            go_wp2_with (go_at_call 23; (with_reducible refine SA.mono ?_); rintro e w5 ⟨rfl, hb5⟩; have HB5 := Lib.hid hb5; clear hb5)
            refine ⟨⟨k + 1, S2, _, _, by simp, by omega, HN4.out.call HB5.out⟩, by simp [intOf]; omega⟩
        · have e0 : (ask == 0) = false := beq_eq_false_iff_ne.2 hn0
          by_cases hn1 : ask = 1
          · subst hn1
            clear hn0
            go_wp2_with fail
            rw [← hhx, ← hV]
            clear hV hhx hne1 hne2 c0 c1 c2 c3 c4 c5 c6
            have x0 := HBX.out.cell 0
            have x1 := HBX.out.cell 1
            have x2 := HBX.out.cell 2
            have x3 := HBX.out.cell 3
            have x4 := HBX.out.cell 4
            have x5 := HBX.out.cell 5
            have x6 := HBX.out.cell 6
            have xl := HBX.out.lt
            have RS : Calls Tryd.prog 19 #[.pointer (some ⟨x, 0, none⟩), .int .i64 cyc] V (RPostW V x dc (S.does dc (lkv m addr tt) ⟨1, cyc, rule, addr, wx, vv, tt⟩)) := rtold_calls V x S dc HP.out.vx cyc
            have DV : ∀ U1 U : World, Below V.heap.size V U1 → Chg (fun b => b = x) U1 U → Calls Tryd.prog 8 #[.pointer (some ⟨g, 0, none⟩), .agg #[.int .i64 1, .int .i64 cyc, .int .i64 rule, .int .i64 addr, .bool wx, .int .u8 vv, .int .u8 tt]] U (DPost U g (.pointer (some ⟨gt, 0, none⟩)) (S.does dc (lkv m addr tt) ⟨1, cyc, rule, addr, wx, vv, tt⟩)) := fun U1 U hV hc => does_calls U g gt S ((HP.out.call hV).vg.chg hc (fun h => by have h : g = x := h; have := HP.out.lo; omega)) s m dc tr ((HP.out.call hV).tk.chg hc (fun b hb => by have hb : b = x := hb; have := HP.out.lo; omega)) ⟨1, cyc, rule, addr, wx, vv, tt⟩ ⟨HP.out.se.1, by have := HP.out.se.2; omega⟩ HP.out.lo.2.1
            have DE := S.does_se dc (lkv m addr tt) ⟨1, cyc, rule, addr, wx, vv, tt⟩
            obtain ⟨Rr, hRr⟩ : ∃ Rr, Rr = S.does dc (lkv m addr tt) ⟨1, cyc, rule, addr, wx, vv, tt⟩ := ⟨_, rfl⟩
            rw [← hRr] at DE DV
            rw [← hRr] at RS
            obtain ⟨E, S2⟩ := Rr
            have HDE := Lib.hid DE
            clear hRr DE
            go_wp2_with (go_at_call 19; (with_reducible refine RS.mono ?_); rintro e w3 ⟨rfl, hc3, hb3⟩; refine Hid.out ?_)
            refine Lib.hid ?_
            have DV2 := DV _ w3 (Below.refl _ _) hc3
            have HBX3 := Lib.hid ((HBX.out.call (Below.refl _ _)).chg hc3 (fun h => by have h : hx = x := h; exact HXX.out h))
            have HN3 := Lib.hid ((HP.out.call (Below.refl _ _)).xstep hc3 hb3)
            clear hc3 hb3 RS DV x0 x1 x2 x3 x4 x5 x6 xl
            have x0 := HBX3.out.cell 0
            have x1 := HBX3.out.cell 1
            have x2 := HBX3.out.cell 2
            have x3 := HBX3.out.cell 3
            have x4 := HBX3.out.cell 4
            have x5 := HBX3.out.cell 5
            have x6 := HBX3.out.cell 6
            have xl := HBX3.out.lt
            go_wp2_with (go_at_call 8; (with_reducible refine DV2.mono ?_); rintro e w4 ⟨rfl, hc4, hb4⟩; refine Hid.out ?_)
            refine Lib.hid ?_
            have HN4 := Lib.hid (HN3.out.gstep hc4 hb4 HDE.out)
            have SA := same16_eq w4 g gt x S2 dc HN4.out.vg HN4.out.vx
            clear hc4 hb4 DV2 HN3 x0 x1 x2 x3 x4 x5 x6 xl
            go_wp2_with (go_at_call 23; (with_reducible refine SA.mono ?_); rintro e w5 ⟨rfl, hb5⟩; have HB5 := Lib.hid hb5; clear hb5)
            refine ⟨⟨k + 1, S2, _, _, by simp, by omega, HN4.out.call HB5.out⟩, by simp [intOf]; omega⟩
          · have e1 : (ask == 1) = false := beq_eq_false_iff_ne.2 hn1
            go_wp2_with fail
            rw [← hhx, ← hV]
            clear hV hhx hne1 hne2 c0 c1 c2 c3 c4 c5 c6
            have x0 := HBX.out.cell 0
            have x1 := HBX.out.cell 1
            have x2 := HBX.out.cell 2
            have x3 := HBX.out.cell 3
            have x4 := HBX.out.cell 4
            have x5 := HBX.out.cell 5
            have x6 := HBX.out.cell 6
            have xl := HBX.out.lt
            have hdd : S.does dc (lkv m addr tt) ⟨ask, cyc, rule, addr, wx, vv, tt⟩ = S.brk rule cyc addr tt := by unfold WS.does; rw [if_neg hn0, if_neg hn1]
            have RS : ∀ U, Below V.heap.size V U → Calls Tryd.prog 20 #[.pointer (some ⟨x, 0, none⟩), .agg #[.int .i64 rule, .int .i64 cyc, .int .i64 addr, .int .u8 tt]] U (fun e w' => RPostW U x dc (S.does dc (lkv m addr tt) ⟨ask, cyc, rule, addr, wx, vv, tt⟩) e w' ∧ Below V.heap.size V U) := fun U hV => (rbrk_calls U x S dc (HP.out.call hV).vx rule cyc addr tt).mono fun e w' h => ⟨by rw [hdd]; exact h, hV⟩
            have BE := fun U => broken_eq U ⟨ask, cyc, rule, addr, wx, vv, tt⟩
            have PE := fun U => aplain_eq U rule cyc addr tt
            (try simp only at BE)
            clear hdd hn0 hn1
            have DV : ∀ U1 U : World, Below V.heap.size V U1 → Chg (fun b => b = x) U1 U → Calls Tryd.prog 8 #[.pointer (some ⟨g, 0, none⟩), .agg #[.int .i64 ask, .int .i64 cyc, .int .i64 rule, .int .i64 addr, .bool wx, .int .u8 vv, .int .u8 tt]] U (DPost U g (.pointer (some ⟨gt, 0, none⟩)) (S.does dc (lkv m addr tt) ⟨ask, cyc, rule, addr, wx, vv, tt⟩)) := fun U1 U hV hc => does_calls U g gt S ((HP.out.call hV).vg.chg hc (fun h => by have h : g = x := h; have := HP.out.lo; omega)) s m dc tr ((HP.out.call hV).tk.chg hc (fun b hb => by have hb : b = x := hb; have := HP.out.lo; omega)) ⟨ask, cyc, rule, addr, wx, vv, tt⟩ ⟨HP.out.se.1, by have := HP.out.se.2; omega⟩ HP.out.lo.2.1
            have DE := S.does_se dc (lkv m addr tt) ⟨ask, cyc, rule, addr, wx, vv, tt⟩
            obtain ⟨Rr, hRr⟩ : ∃ Rr, Rr = S.does dc (lkv m addr tt) ⟨ask, cyc, rule, addr, wx, vv, tt⟩ := ⟨_, rfl⟩
            rw [← hRr] at DE DV
            simp only [← hRr] at RS
            obtain ⟨E, S2⟩ := Rr
            have HDE := Lib.hid DE
            clear hRr DE
            go_wp2_with (first
              | (go_at_call 22; (with_reducible refine (BE _).mono ?_); rintro e v1 ⟨rfl, bb1⟩)
              | (go_at_call 21; (with_reducible refine (PE _).mono ?_); rintro e v2 ⟨rfl, bb2⟩)
              | (go_at_call 20; (with_reducible refine (RS _ (by repeat' (first | with_reducible exact Below.refl _ _ | with_reducible assumption | with_reducible refine Q.alloc ?_ _ | with_reducible refine Q.drew ?_ | with_reducible refine Q.drewN ?_ _ | with_reducible refine Q.call ?_ (by assumption)))).mono ?_); rintro e w3 ⟨⟨rfl, hc3, hb3⟩, hv3⟩; refine Hid.out ?_))
            refine Lib.hid ?_
            have hbv : Below V.heap.size V _ := hv3
            have DV2 := DV _ w3 hbv hc3
            have HBX3 := Lib.hid ((HBX.out.call hbv).chg hc3 (fun h => by have h : hx = x := h; exact HXX.out h))
            have HN3 := Lib.hid ((HP.out.call hbv).xstep hc3 hb3)
            clear hc3 hb3 RS DV bb1 bb2 hv3 hbv BE PE x0 x1 x2 x3 x4 x5 x6 xl
            have x0 := HBX3.out.cell 0
            have x1 := HBX3.out.cell 1
            have x2 := HBX3.out.cell 2
            have x3 := HBX3.out.cell 3
            have x4 := HBX3.out.cell 4
            have x5 := HBX3.out.cell 5
            have x6 := HBX3.out.cell 6
            have xl := HBX3.out.lt
            go_wp2_with (go_at_call 8; (with_reducible refine DV2.mono ?_); rintro e w4 ⟨rfl, hc4, hb4⟩; refine Hid.out ?_)
            refine Lib.hid ?_
            have HN4 := Lib.hid (HN3.out.gstep hc4 hb4 HDE.out)
            have SA := same16_eq w4 g gt x S2 dc HN4.out.vg HN4.out.vx
            clear hc4 hb4 DV2 HN3 x0 x1 x2 x3 x4 x5 x6 xl
            go_wp2_with (go_at_call 23; (with_reducible refine SA.mono ?_); rintro e w5 ⟨rfl, hb5⟩; have HB5 := Lib.hid hb5; clear hb5)
            refine ⟨⟨k + 1, S2, _, _, by simp, by omega, HN4.out.call HB5.out⟩, by simp [intOf]; omega⟩
    · have hki : ¬ (k : Int) < (len : Int) := by omega
      have AE := AW wr hq.bel
      have HQB := Lib.hid hq.bel
      rcases hq.cl with e | ⟨gc, e, h1, h2, h3⟩
      · subst e
        clear hq AW HR
        go_wp2_with (go_at_call 13; (with_reducible refine AE.mono ?_); rintro e w6 ⟨rfl, hb6⟩)
        go_ret
        exact ⟨rfl, Q.call HQB.out hb6⟩
      · subst e
        subst h2
        have SA := same16_eq wr gc gt gk K km h3 hq.vk
        have AE2 := fun V (hV : Below wr.heap.size wr V) => AW V (Q.call HQB.out hV)
        clear hq AW HR AE h1 h3
        go_wp2_with (first
          | (go_at_call 23; (with_reducible refine SA.mono ?_); rintro e w5 ⟨rfl, hb5⟩)
          | (go_at_call 13; (with_reducible refine (AE2 _ hb5).mono ?_); rintro e w6 ⟨rfl, hb6⟩))
        go_ret
        exact ⟨rfl, Q.call (Q.call HQB.out hb5) hb6⟩
end Go.Proofs.YtndjicomgdcfkaaDoor
