/- A watch: its table; See, Told. (printed by gen/wa3.py) -/
import Derived.Test.YtndjicomgdcfkaaDoorWa2
import Derived.Test.YtndjicomgdcfkaaDoorLt2
import Derived.Deep.RegionWith
namespace Go.Proofs.YtndjicomgdcfkaaDoor
set_option linter.unusedVariables false
set_option linter.unusedSimpArgs false
open Go.RowKit
attribute [local go_sem ↓] Go.wp_at_zero Go.wp_at_succ

/-- A policy's table lies at block gt, what it reads below it. -/
structure TK (W : World) (gt : Nat) (s m : List Sp) (dc tr : Int) : Prop where
  ok : chk s m dc tr = 0
  ls : s.length ≤ 80
  lm : m.length ≤ 80
  tab : ∃ v1 v2, Tab W gt v1 v2 dc tr (fillT (srt s) (fun _ => 0)) (fillT (srt m) (fun _ => 0)) ∧ Rd ES W (fun b => b < gt) v1 (srt s) ∧ Rd ES W (fun b => b < gt) v2 (srt m)
theorem TK.chg {S : Nat → Prop} {W W' : World} {gt : Nat} {s m : List Sp} {dc tr : Int} (h : TK W gt s m dc tr) (hc : Chg S W W') (hS : ∀ b, S b → gt < b) : TK W' gt s m dc tr := by
  obtain ⟨h0, h1, h2, v1, v2, ⟨M, hM, hB⟩, r1, r2⟩ := h
  have hne : ∀ b, b ≤ gt → ¬ S b := fun b hb hs => by have := hS b hs; omega
  exact ⟨h0, h1, h2, v1, v2, ⟨M, hM, hB.chg hc (hne _ (Nat.le_refl _))⟩, r1.keep (fun b hb hR => ⟨hc.block b hb (hne b (Nat.le_of_lt hR)), hR⟩) hc.size, r2.keep (fun b hb hR => ⟨hc.block b hb (hne b (Nat.le_of_lt hR)), hR⟩) hc.size⟩
theorem TK.call {W W' : World} {gt : Nat} {s m : List Sp} {dc tr : Int} (h : TK W gt s m dc tr) (hb : Below W.heap.size W W') : TK W' gt s m dc tr := h.chg (Chg.of (S := fun _ => False) hb) (fun _ h => h.elim)
theorem TK.lt {W : World} {gt : Nat} {s m : List Sp} {dc tr : Int} (h : TK W gt s m dc tr) : gt < W.heap.size := by
  obtain ⟨v1, v2, ht, _⟩ := h.tab
  exact ht.lt
/-- Which bits of a record leak. -/
def lkv (m : List Sp) (x bt : Int) : Int := bits .and .u8 (bitsL m x) bt
theorem leaks_tk (w : World) (gt : Nat) (s m : List Sp) (dc tr : Int) (hT : TK w gt s m dc tr) (x bv bt : Int) : Calls Tryd.prog 34 #[.pointer (some ⟨gt, 0, none⟩), .int .i64 x, .agg #[.int .u8 bv, .int .u8 bt]] w fun e w' => e = .returned (.int .u8 (lkv m x bt)) ∧ Below w.heap.size w w' := by
  obtain ⟨v1, v2, ht, _⟩ := hT.tab
  have h := leaks_eq w gt x bv bt v1 v2 dc tr _ _ ht
  rw [(chk_tell hT.ok x).2] at h
  exact h
theorem policy_tk (w : World) (gt : Nat) (s m : List Sp) (dc tr : Int) (hT : TK w gt s m dc tr) : Calls Tryd.prog 37 #[.pointer (some ⟨gt, 0, none⟩)] w fun e w' => ∃ a1 c1 a2 c2, e = .returned (.agg #[.slice a1 s.length c1, .slice a2 m.length c2, .int .i64 dc, .int .i64 tr]) ∧ Below w.heap.size w w' := by
  obtain ⟨v1, v2, ht, h1, h2⟩ := hT.tab
  refine (policy_some w gt _ v1 v2 (srt s) (srt m) dc tr _ _ ht h1 h2 (by rw [srt_length]; have := hT.ls; omega) (by rw [srt_length]; have := hT.lm; omega)).mono ?_
  rintro e w' ⟨a1, c1, a2, c2, he, _, _, hb⟩
  rw [srt_length, srt_length] at he
  exact ⟨a1, c1, a2, c2, he, hb⟩
theorem field_pol (a b : Value) (c d : Int) (w : World) : (Instr.field 42 (.agg #[a, b, .int .i64 c, .int .i64 d]) 2).run Tryd.prog w = .ok (.int .i64 c) w := by
  simp [Instr.field, asAgg, run_underlying Tryd.underlying42, go_sem]
attribute [local go_sem] field_pol
theorem told_nil (w : World) (n : Int) : Calls Tryd.prog 25 #[.pointer none, .int .i64 n] w fun e w' => e = .returned (.int .i64 2) ∧ w = w' := by
  go_enter Tryd.func25, Tryd.ntmps25
  go_wp2_with (go_at_call 36; (with_reducible refine (goes_nil _).mono ?_); rintro e w1 ⟨rfl, rfl⟩)
  go_ret
  exact ⟨rfl, rfl⟩
theorem told_halt (w : World) (g gt : Nat) (st ru cy ad bi la se : Int) (hB : Blk w g 68 #[.pointer (some ⟨gt, 0, none⟩), .int .i64 st, .int .i64 ru, .int .i64 cy, .int .i64 ad, .int .u8 bi, .int .i64 la, .int .i64 se]) (n : Int) (h0 : ¬ st = 0) : Calls Tryd.prog 25 #[.pointer (some ⟨g, 0, none⟩), .int .i64 n] w fun e w' => e = .returned (.int .i64 19) ∧ w = w' := by
  have GO := goes_not w g _ st ru cy ad bi la se hB h0
  clear hB h0
  go_enter Tryd.func25, Tryd.ntmps25
  go_wp2_with (go_at_call 36; (with_reducible refine GO.mono ?_); rintro e w1 ⟨rfl, rfl⟩)
  go_ret
  exact ⟨rfl, rfl⟩
theorem told_low (w : World) (g gt : Nat) (st ru cy ad bi la se : Int) (hB : Blk w g 68 #[.pointer (some ⟨gt, 0, none⟩), .int .i64 st, .int .i64 ru, .int .i64 cy, .int .i64 ad, .int .u8 bi, .int .i64 la, .int .i64 se]) (n : Int) (h0 : st = 0) (hn : n < 0) : Calls Tryd.prog 25 #[.pointer (some ⟨g, 0, none⟩), .int .i64 n] w fun e w' => e = .returned (.int .i64 10) ∧ w = w' := by
  have GO := goes_yes w g _ st ru cy ad bi la se hB h0
  clear hB h0
  go_enter Tryd.func25, Tryd.ntmps25
  go_wp2_with (go_at_call 36; (with_reducible refine GO.mono ?_); rintro e w1 ⟨rfl, rfl⟩)
  go_ret
  exact ⟨rfl, rfl⟩
set_option maxHeartbeats 1600000 in
theorem told_few (w : World) (g gt : Nat) (st ru cy ad bi la se : Int) (hB : Blk w g 68 #[.pointer (some ⟨gt, 0, none⟩), .int .i64 st, .int .i64 ru, .int .i64 cy, .int .i64 ad, .int .u8 bi, .int .i64 la, .int .i64 se]) (s m : List Sp) (dc tr : Int) (hT : TK w gt s m dc tr) (n : Int) (h0 : st = 0) (hn : ¬ n < 0) (hd : ¬ dc < n) : Calls Tryd.prog 25 #[.pointer (some ⟨g, 0, none⟩), .int .i64 n] w fun e w' => e = .returned (.int .i64 0) ∧ Below w.heap.size w w' := by
  have GO := goes_yes w g _ st ru cy ad bi la se hB h0
  have PO := policy_tk w gt s m dc tr hT
  have c0 := hB.cell 0
  have hlt := hB.lt
  clear hB h0 hT
  go_enter Tryd.func25, Tryd.ntmps25
  go_wp2_with (first
    | (go_at_call 36; (with_reducible refine GO.mono ?_); rintro e w1 ⟨rfl, rfl⟩)
    | (go_at_call 37; (with_reducible refine PO.mono ?_); rintro e w2 ⟨a1, c1, a2, c2, rfl, hb2⟩))
  go_ret
  exact ⟨rfl, hb2⟩
set_option maxHeartbeats 1600000 in
theorem told_full (w : World) (g gt : Nat) (st ru cy ad bi la se : Int) (hB : Blk w g 68 #[.pointer (some ⟨gt, 0, none⟩), .int .i64 st, .int .i64 ru, .int .i64 cy, .int .i64 ad, .int .u8 bi, .int .i64 la, .int .i64 se]) (s m : List Sp) (dc tr : Int) (hT : TK w gt s m dc tr) (n : Int) (h0 : st = 0) (hn : ¬ n < 0) (hd : dc < n) : Calls Tryd.prog 25 #[.pointer (some ⟨g, 0, none⟩), .int .i64 n] w fun e w' => e = .returned (.int .i64 18) ∧ Chg (fun b => b = g) w w' ∧ Blk w' g 68 #[.pointer (some ⟨gt, 0, none⟩), .int .i64 18, .int .i64 ru, .int .i64 cy, .int .i64 ad, .int .u8 bi, .int .i64 la, .int .i64 se] := by
  have GO := goes_yes w g _ st ru cy ad bi la se hB h0
  have PO := policy_tk w gt s m dc tr hT
  have SP := fun V (hV : Below w.heap.size w V) => stop_eq V g _ st ru cy ad bi la se (hB.call hV) 18
  have c0 := hB.cell 0
  have hlt := hB.lt
  have HB := Lib.hid hB
  clear hB h0 hT
  go_enter Tryd.func25, Tryd.ntmps25
  go_wp2_with (first
    | (go_at_call 36; (with_reducible refine GO.mono ?_); rintro e w1 ⟨rfl, rfl⟩)
    | (go_at_call 37; (with_reducible refine PO.mono ?_); rintro e w2 ⟨a1, c1, a2, c2, rfl, hb2⟩)
    | (go_at_call 35; (with_reducible refine (SP _ hb2).mono ?_); rintro e w3 ⟨rfl, rfl⟩))
  go_ret
  exact ⟨rfl, (Chg.of hb2).trans (Chg.setRow _ _ _), (HB.out.call hb2).setRow _⟩
theorem see_err (w : World) (P : Value) (c a : Int) (wr : Bool) (bv bt E : Int) (hE : ¬ E = 0) (IN : ∀ V, Below w.heap.size w V → Calls Tryd.prog 33 #[P, .agg #[.int .i64 4, .int .i64 c, .int .i64 a, .int .u8 0]] V fun e w' => e = .returned (.int .i64 E) ∧ Below V.heap.size V w') : Calls Tryd.prog 24 #[P, .int .i64 c, .agg #[.int .i64 a, .bool wr, .int .u8 bv, .int .u8 bt]] w fun e w' => e = .returned (.int .i64 E) ∧ Below w.heap.size w w' := by
  have e1 : (E == 0) = false := beq_eq_false_iff_ne.2 hE
  clear hE
  go_enter Tryd.func24, Tryd.ntmps24
  go_wp2_with (go_at_call 33; (with_reducible refine (IN _ (by repeat' (first | with_reducible exact Below.refl _ _ | with_reducible assumption | with_reducible refine Q.alloc ?_ _ | with_reducible refine Q.drew ?_ | with_reducible refine Q.drewN ?_ _ | with_reducible refine Q.call ?_ (by assumption)))).mono ?_); rintro e w1 ⟨rfl, hb1⟩)
  go_ret
  exact ⟨rfl, (by repeat' (first | with_reducible exact Below.refl _ _ | with_reducible assumption | with_reducible refine Q.alloc ?_ _ | with_reducible refine Q.drew ?_ | with_reducible refine Q.drewN ?_ _ | with_reducible refine Q.call ?_ (by assumption)))⟩
theorem see_fin {w wf : World} {g gt : Nat} {st ru cy ad bi c se : Int} (hB : Blk wf g 68 #[.pointer (some ⟨gt, 0, none⟩), .int .i64 st, .int .i64 ru, .int .i64 cy, .int .i64 ad, .int .u8 bi, .int .i64 c, .int .i64 se]) (hC : Chg (fun b => b = g) w wf) :
    Chg (fun b => b = g) w (wf.setCell ⟨g, 7, none⟩ (.int .i64 (se + 1))) ∧ Blk (wf.setCell ⟨g, 7, none⟩ (.int .i64 (se + 1))) g 68 #[.pointer (some ⟨gt, 0, none⟩), .int .i64 st, .int .i64 ru, .int .i64 cy, .int .i64 ad, .int .u8 bi, .int .i64 c, .int .i64 (se + 1)] := by
  rw [hB.setCell]
  exact ⟨hC.trans (Chg.setRow _ _ _), hB.setRow _⟩
set_option maxHeartbeats 3200000 in
set_option maxRecDepth 100000 in
theorem see_ok (w : World) (g gt : Nat) (st ru cy ad bi la se : Int) (hB : Blk w g 68 #[.pointer (some ⟨gt, 0, none⟩), .int .i64 st, .int .i64 ru, .int .i64 cy, .int .i64 ad, .int .u8 bi, .int .i64 la, .int .i64 se]) (s m : List Sp) (dc tr : Int) (hT : TK w gt s m dc tr) (c a : Int) (wr : Bool) (bv bt k : Int) (hk : k = lkv m a bt) (h0 : st = 0) (hF : alF 4 c a = true) (hc : ¬ c < la) (hs : 0 ≤ se ∧ se ≤ 1000) (hg : gt < g) (E : Int) (CS : Array Value) (hR : if wr = true ∧ k ≠ 0 then E = 20 ∧ CS = #[.pointer (some ⟨gt, 0, none⟩), .int .i64 20, .int .i64 4, .int .i64 c, .int .i64 a, .int .u8 k, .int .i64 c, .int .i64 se] else E = 0 ∧ CS = #[.pointer (some ⟨gt, 0, none⟩), .int .i64 st, .int .i64 ru, .int .i64 cy, .int .i64 ad, .int .u8 bi, .int .i64 c, .int .i64 (se + 1)]) : Calls Tryd.prog 24 #[.pointer (some ⟨g, 0, none⟩), .int .i64 c, .agg #[.int .i64 a, .bool wr, .int .u8 bv, .int .u8 bt]] w fun e w' => e = .returned (.int .i64 E) ∧ Chg (fun b => b = g) w w' ∧ Blk w' g 68 CS := by
  have HR := Lib.hid hR
  clear hR
  have HB := Lib.hid hB
  have IN := fun V (hV : Below w.heap.size w V) => in_ok V g _ st ru cy ad bi la se (hB.call hV) 4 c a 0 h0 hF hc
  have LK := fun V (hV : TK V gt s m dc tr) => leaks_tk V gt s m dc tr hV a bv bt
  rw [← hk] at LK
  have hlt := hB.lt
  obtain ⟨W, hW⟩ : ∃ W, W = (w.alloc (.cells #[.int .i64 a, .bool wr, .int .u8 bv, .int .u8 bt] 25)).alloc (.cells #[.int .i64 4, .int .i64 c, .int .i64 a, .int .u8 0] 47) := ⟨_, rfl⟩
  obtain ⟨hx, hhx⟩ : ∃ hx, hx = w.heap.size := ⟨_, rfl⟩
  obtain ⟨hy, hhy⟩ : ∃ hy, hy = w.heap.size + 1 := ⟨_, rfl⟩
  have bW : Below w.heap.size w W := by rw [hW]; exact (by repeat' (first | with_reducible exact Below.refl _ _ | with_reducible assumption | with_reducible refine Q.alloc ?_ _ | with_reducible refine Q.drew ?_ | with_reducible refine Q.drewN ?_ _ | with_reducible refine Q.call ?_ (by assumption)))
  have XB : Blk W hx 25 #[.int .i64 a, .bool wr, .int .u8 bv, .int .u8 bt] := by rw [hW]; exact (Blk.new' hhx).alloc _
  have YB : Blk W hy 47 #[.int .i64 4, .int .i64 c, .int .i64 a, .int .u8 0] := by rw [hW]; exact Blk.new' (by rw [hhy]; simp)
  have hnx : hx ≠ g := by omega
  have hny : hy ≠ g := by omega
  have hxy : hx ≠ hy := by omega
  have y0 := YB.cell 0
  have y1 := YB.cell 1
  have y2 := YB.cell 2
  have y3 := YB.cell 3
  have hyl := YB.lt
  have I2 := IN W bW
  have HBW := Lib.hid bW
  have HXB := Lib.hid XB
  have HYB := Lib.hid YB
  have HNX := Lib.hid hnx
  have HNY := Lib.hid hny
  have HXY := Lib.hid hxy
  have HG := Lib.hid hg
  have HTK := Lib.hid hT
  have hyw : w.heap.size ≤ hy := by omega
  have HYW := Lib.hid hyw
  clear hB h0 hF hc IN bW XB YB hlt hnx hny hk hT hg hxy hyw
  go_enter Tryd.func24, Tryd.ntmps24
  go_wp2_with fail
  rw [← hhy, ← hhx, ← hW]
  clear hW hhx hhy
  go_wp2_with (go_at_call 33; (with_reducible refine I2.mono ?_); rintro e w1 ⟨rfl, hch, hb1⟩; refine Hid.out ?_)
  refine Lib.hid ?_
  clear y0 y1 y2 y3 hyl I2
  have XB1 := HXB.out.chg hch (fun h => HNX.out h)
  have YB1 := HYB.out.chg hch (fun h => HNY.out h)
  have TK1 := (HTK.out.call HBW.out).chg hch (fun b h => by have h : b = g := h; rw [h]; exact HG.out)
  have x0 := XB1.cell 0
  have x2 := XB1.cell 2
  have x3 := XB1.cell 3
  have hxl := XB1.lt
  have hyl := YB1.lt
  have g0 := hb1.cell 0
  have hgl := hb1.lt
  have HX1 := Lib.hid XB1
  have HY1 := Lib.hid YB1
  have HG1 := Lib.hid hb1
  have HT1 := Lib.hid TK1
  have HC1 := Lib.hid ((Chg.of HBW.out).trans hch)
  clear XB1 YB1 TK1 hb1 hch
  go_wp2_with fail
  go_region_with (go_at_call 34; (with_reducible refine (LK _ (HT1.out.call (by repeat' (first | with_reducible exact Below.refl _ _ | with_reducible assumption | with_reducible refine Q.alloc ?_ _ | with_reducible refine Q.drew ?_ | with_reducible refine Q.drewN ?_ _ | with_reducible refine Q.call ?_ (by assumption))))).mono ?_); rintro e wa ⟨rfl, hba⟩; have YBa := HY1.out.call (show Below w1.heap.size w1 wa from (by repeat' (first | with_reducible exact Below.refl _ _ | with_reducible assumption | with_reducible refine Q.alloc ?_ _ | with_reducible refine Q.drew ?_ | with_reducible refine Q.drewN ?_ _ | with_reducible refine Q.call ?_ (by assumption)))); have ya := YBa.cell 3; have yf := YBa.frozen 3; have yl := YBa.lt)
  all_goals
    have BA : Below w1.heap.size w1 wa := (by repeat' (first | with_reducible exact Below.refl _ _ | with_reducible assumption | with_reducible refine Q.alloc ?_ _ | with_reducible refine Q.drew ?_ | with_reducible refine Q.drewN ?_ _ | with_reducible refine Q.call ?_ (by assumption)))
    have HXa := Lib.hid (HX1.out.call BA)
    have HGa := Lib.hid (HG1.out.call BA)
    have HCa := Lib.hid ((HC1.out.trans (Chg.of BA)))
    have e2 : wa.setCell ⟨hy, 3, none⟩ (.int .u8 k) = wa.setRow hy #[.int .i64 4, .int .i64 c, .int .i64 a, .int .u8 k] := by
      rw [YBa.setCell 3]
      rfl
    have HE2 := Lib.hid e2
    have HY2 := Lib.hid (YBa.setRow #[.int .i64 4, .int .i64 c, .int .i64 a, .int .u8 k])
    have HC2 := Lib.hid (show Chg (fun b => b = hy) wa (wa.setRow hy #[.int .i64 4, .int .i64 c, .int .i64 a, .int .u8 k]) from Chg.setRow _ _ _)
    clear e2 YBa ya yf yl hba x0 x2 x3 hxl hyl g0 hgl LK BA
    rw [HE2.out]
    obtain ⟨wf, hwf⟩ : ∃ wf, wf = wa.setRow hy #[.int .i64 4, .int .i64 c, .int .i64 a, .int .u8 k] := ⟨_, rfl⟩
    rw [← hwf] at HY2 HC2 ⊢
    clear hwf HE2
    have HGf := Lib.hid (HGa.out.chg HC2.out (fun h => HNY.out h.symm))
    have HXf := Lib.hid (HXa.out.chg HC2.out (fun h => HXY.out h))
    have HCf := Lib.hid (show Chg (fun b => b = g) w wf from ⟨HC2.out.os.trans HCa.out.os, HC2.out.tape.trans HCa.out.tape, HC2.out.output.trans HCa.out.output, Nat.le_trans HCa.out.size HC2.out.size, fun b hb hS => (HC2.out.block b (Nat.lt_of_lt_of_le hb HCa.out.size) (fun h => by have h : b = hy := h; have := HYW.out; omega)).trans (HCa.out.block b hb hS)⟩)
    have y0 := HY2.out.cell 0
    have y1 := HY2.out.cell 1
    have y2 := HY2.out.cell 2
    have y3 := HY2.out.cell 3
    have hyl := HY2.out.lt
    have x1 := HXf.out.cell 1
    have hxl := HXf.out.lt
    have g7 := HGf.out.cell 7
    have f7 := HGf.out.frozen 7
    have g2 := HGf.out.cell 2
    have g3 := HGf.out.cell 3
    have g4 := HGf.out.cell 4
    have g5 := HGf.out.cell 5
    have f2 := HGf.out.frozen 2
    have f3 := HGf.out.frozen 3
    have f4 := HGf.out.frozen 4
    have f5 := HGf.out.frozen 5
    have hgl := HGf.out.lt
    cases wr
    · have hif : ¬ (false = true ∧ k ≠ 0) := fun h => by cases h.1
      obtain ⟨rfl, rfl⟩ : E = 0 ∧ CS = #[.pointer (some ⟨gt, 0, none⟩), .int .i64 st, .int .i64 ru, .int .i64 cy, .int .i64 ad, .int .u8 bi, .int .i64 c, .int .i64 (se + 1)] := by have h := HR.out; rwa [if_neg hif] at h
      clear HR
      go_wp2_with fail
      go_ret
      exact ⟨rfl, see_fin HGf.out HCf.out⟩
    · by_cases hk0 : k = 0
      · have hif : ¬ (true = true ∧ k ≠ 0) := fun h => h.2 hk0
        obtain ⟨rfl, rfl⟩ : E = 0 ∧ CS = #[.pointer (some ⟨gt, 0, none⟩), .int .i64 st, .int .i64 ru, .int .i64 cy, .int .i64 ad, .int .u8 bi, .int .i64 c, .int .i64 (se + 1)] := by have h := HR.out; rwa [if_neg hif] at h
        clear HR
        subst hk0
        go_wp2_with fail
        go_ret
        exact ⟨rfl, see_fin HGf.out HCf.out⟩
      · have hif : true = true ∧ k ≠ 0 := ⟨rfl, hk0⟩
        obtain ⟨rfl, rfl⟩ : E = 20 ∧ CS = #[.pointer (some ⟨gt, 0, none⟩), .int .i64 20, .int .i64 4, .int .i64 c, .int .i64 a, .int .u8 k, .int .i64 c, .int .i64 se] := by have h := HR.out; rwa [if_pos hif] at h
        clear HR
        have hkb : (k == 0) = false := beq_eq_false_iff_ne.2 hk0
        clear hif hk0
        have e2 : (((wf.setCell ⟨g, 2, none⟩ (.int .i64 4)).setCell ⟨g, 3, none⟩ (.int .i64 c)).setCell ⟨g, 4, none⟩ (.int .i64 a)).setCell ⟨g, 5, none⟩ (.int .u8 k) = wf.setRow g #[.pointer (some ⟨gt, 0, none⟩), .int .i64 st, .int .i64 4, .int .i64 c, .int .i64 a, .int .u8 k, .int .i64 c, .int .i64 se] := by
          rw [HGf.out.setCell 2, HGf.out.setCell_setRow, HGf.out.setCell_setRow, HGf.out.setCell_setRow]
          rfl
        have HE2 := Lib.hid e2
        have HB2 := Lib.hid (HGf.out.setRow #[.pointer (some ⟨gt, 0, none⟩), .int .i64 st, .int .i64 4, .int .i64 c, .int .i64 a, .int .u8 k, .int .i64 c, .int .i64 se])
        have HC3 := Lib.hid (HCf.out.trans (Chg.setRow wf g #[.pointer (some ⟨gt, 0, none⟩), .int .i64 st, .int .i64 4, .int .i64 c, .int .i64 a, .int .u8 k, .int .i64 c, .int .i64 se]))
        clear e2
        go_wp2_with fail
        rw [HE2.out]
        obtain ⟨wz, hwz⟩ : ∃ wz, wz = wf.setRow g #[.pointer (some ⟨gt, 0, none⟩), .int .i64 st, .int .i64 4, .int .i64 c, .int .i64 a, .int .u8 k, .int .i64 c, .int .i64 se] := ⟨_, rfl⟩
        rw [← hwz] at HB2 HC3 ⊢
        clear y0 y1 y2 y3 x1 g7 f7 g2 g3 g4 g5 f2 f3 f4 f5 hwz HE2 hyl hxl hgl
        have SP := stop_eq wz g _ st 4 c a k c se HB2.out 20
        go_wp2_with (go_at_call 35; (with_reducible refine SP.mono ?_); rintro e w2 ⟨rfl, rfl⟩)
        go_ret
        exact ⟨rfl, HC3.out.trans (Chg.setRow _ _ _), HB2.out.setRow _⟩
end Go.Proofs.YtndjicomgdcfkaaDoor
