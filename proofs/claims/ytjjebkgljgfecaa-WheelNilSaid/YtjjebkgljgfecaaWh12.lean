/- The wheel: nil ones; the walk of WheelNil. (printed by gen/wh12.py) -/
import Derived.Test.YtjjebkgljgfecaaWh10
namespace Go.Proofs.Ytjjebkgljgfecaa
set_option linter.unusedVariables false
set_option linter.unusedSimpArgs false
open Go.RowKit
attribute [local go_sem] run_store_complex run_store_float
attribute [local go_sem ↓] Go.wp_at_zero Go.wp_at_succ

theorem eqlw_nil_some (a : Addr) (w : World) : (binOp .eql 31 (.pointer none) (.pointer (some a))).run Try.prog w = .ok (.bool false) w := by
  have h : ∀ d : Nat, (Op.equalIn (d + 1) 31 (.pointer none) (.pointer (some a))).run Try.prog w = .ok false w := fun d => by
    simp [Op.equalIn, run_underlying Try.underlying31, go_sem]
  simp only [binOp]
  simp [Op.equal, Op.maxDepth, h 9999]
attribute [local go_sem] eqlw_nil_some
theorem wwrite_nil (r v t : Int) (w : World) :
    Calls Try.prog 12 #[.pointer none, .int .i64 r, .agg #[.int .u8 v, .int .u8 t]] w fun e w' => e = .returned (.tuple #[.int .i64 0, .int .i64 2]) ∧ Below w.heap.size w w' := by
  go_enter Try.func12, Try.ntmps12
  go_wp2
  go_returns
  exact ⟨rfl, Q.alloc (Below.refl _ _) _⟩
theorem wread_nil (r : Int) (w : World) :
    Calls Try.prog 17 #[.pointer none, .int .i64 r] w fun e w' => e = .returned (.tuple #[.agg #[.int .u8 0, .int .u8 0], .int .i64 2]) ∧ Below w.heap.size w w' := by
  go_enter Try.func17, Try.ntmps17
  go_wp2
  go_returns
  exact ⟨rfl, Q.alloc (Below.refl _ _) _⟩
theorem wat_nil (w : World) : Calls Try.prog 13 #[.pointer none] w fun e w' => e = .returned (.complex .f64 0 0) ∧ w' = w := by
  go_enter Try.func13, Try.ntmps13
  go_wp2
  go_returns
  exact ⟨rfl, rfl⟩
theorem wway_nil (w : World) : Calls Try.prog 14 #[.pointer none] w fun e w' => e = .returned (.complex .f64 0 0) ∧ w' = w := by
  go_enter Try.func14, Try.ntmps14
  go_wp2
  go_returns
  exact ⟨rfl, rfl⟩
theorem wclone_nil (w : World) : Calls Try.prog 15 #[.pointer none] w fun e w' => e = .returned (.pointer none) ∧ w' = w := by
  go_enter Try.func15, Try.ntmps15
  go_wp2
  go_returns
  exact ⟨rfl, rfl⟩
theorem wsame_nn (w : World) : Calls Try.prog 16 #[.pointer none, .pointer none] w fun e w' => e = .returned (.bool true) ∧ w' = w := by
  go_enter Try.func16, Try.ntmps16
  go_wp2
  go_returns
  exact ⟨rfl, rfl⟩
theorem wsame_ng (g : Nat) (w : World) : Calls Try.prog 16 #[.pointer none, .pointer (some ⟨g, 0, none⟩)] w fun e w' => e = .returned (.bool false) ∧ w' = w := by
  go_enter Try.func16, Try.ntmps16
  go_wp2
  go_returns
  exact ⟨rfl, rfl⟩
theorem wsame_gn (g : Nat) (w : World) : Calls Try.prog 16 #[.pointer (some ⟨g, 0, none⟩), .pointer none] w fun e w' => e = .returned (.bool false) ∧ w' = w := by
  go_enter Try.func16, Try.ntmps16
  go_wp2
  go_returns
  exact ⟨rfl, rfl⟩
theorem eqB_comm (s t : St) : s.eqB t = t.eqB s := by
  unfold St.eqB
  simp only [eq_comm]
theorem cellw {w W : World} {B b o : Nat} {v : Option Value} (hB : Below B w W) (hb : b < B) (c : w.cell? ⟨b, o, none⟩ = v) : W.cell? ⟨b, o, none⟩ = v := (hB.cell (p := ⟨b, o, none⟩) hb).trans c

/-- Two wheels, and the box of the rows of calls. -/
def NilMid (w0 : World) (g h bx : Nat) (s t : St) (p q : Value) (w : World) : Prop :=
  s.ok ∧ t.ok ∧ Blk w g 57 s.cells ∧ Blk w h 57 t.cells ∧ Blk w bx 51 #[p, q] ∧ Below w0.heap.size w0 w
theorem NilMid.call {w0 w w' : World} {g h bx : Nat} {s t : St} {p q : Value} (hm : NilMid w0 g h bx s t p q w) (hb : Below w.heap.size w w') (hw : w0.heap.size ≤ g) : NilMid w0 g h bx s t p q w' :=
  ⟨hm.1, hm.2.1, hm.2.2.1.call hb, hm.2.2.2.1.call hb, hm.2.2.2.2.1.call hb, Q.call hm.2.2.2.2.2 hb⟩
theorem NilMid.B {w0 w : World} {g h bx : Nat} {s t : St} {p q : Value} (hm : NilMid w0 g h bx s t p q w) : Below w0.heap.size w0 w := hm.2.2.2.2.2
theorem NilMid.one {w0 w w' : World} {g h bx : Nat} {s t s2 : St} {p q : Value} (hm : NilMid w0 g h bx s t p q w) (hd : w0.heap.size ≤ bx ∧ bx < g ∧ g < h) (h2 : s2.ok) (hc : Chg (· = g) w w') (hb : Blk w' g 57 s2.cells) : NilMid w0 g h bx s2 t p q w' :=
  ⟨h2, hm.2.1, hb, hm.2.2.2.1.chg hc (by omega), hm.2.2.2.2.1.chg hc (by omega), hc.below hm.2.2.2.2.2 hm.2.2.2.2.2.size (fun b e => by omega)⟩
theorem NilMid.two {w0 w w' : World} {g h bx : Nat} {s t t2 : St} {p q : Value} (hm : NilMid w0 g h bx s t p q w) (hd : w0.heap.size ≤ bx ∧ bx < g ∧ g < h) (h2 : t2.ok) (hc : Chg (· = h) w w') (hb : Blk w' h 57 t2.cells) : NilMid w0 g h bx s t2 p q w' :=
  ⟨hm.1, h2, hm.2.2.1.chg hc (by omega), hb, hm.2.2.2.2.1.chg hc (by omega), hc.below hm.2.2.2.2.2 hm.2.2.2.2.2.size (fun b e => by omega)⟩

set_option maxRecDepth 100000 in
set_option maxHeartbeats 6400000 in
theorem wheelNil_walk (r v t : Int) (a0 a1 : Option Addr) (n0 n1 c0 c1 : Nat) (l0 l1 : List WOp) (w : World) (hl0 : n0 ≤ maxLen) (hl1 : n1 ≤ maxLen) (hr0 : ReadsW w w.heap.size a0 n0 l0) (hr1 : ReadsW w w.heap.size a1 n1 l1) :
    Calls Try.prog 6 #[.agg #[.int .i64 r, .int .u8 v, .int .u8 t], .agg #[.slice a0 n0 c0, .slice a1 n1 c1]] w fun e w' => e = .returned (.bool true) ∧ Below w.heap.size w w' := by
  have HR0 := Lib.hid hr0
  have HR1 := Lib.hid hr1
  have hl63 : (n0 : Int) ≤ 9223372036854775807 := by unfold maxLen at hl0; omega
  have hl64 : (n1 : Int) ≤ 9223372036854775807 := by unfold maxLen at hl1; omega
  clear hr0 hr1 hl0 hl1
  by_cases hok : n0 ≤ 100 ∧ n1 ≤ 100
  · obtain ⟨hn0, hn1⟩ := hok
    go_enter Try.func6, Try.ntmps6
    go_wp2_with fail
    (with_reducible refine (wwrite_nil r v t _).mono ?_)
    rintro e w1 ⟨rfl, hb1⟩
    have ko := ((Blk.new w 39 #[.int .i64 r, .int .u8 v, .int .u8 t]).alloc (.cells #[.slice a0 n0 c0, .slice a1 n1 c1] 51)).call hb1
    have kl : Blk w1 (w.heap.size + 1) 51 #[.slice a0 n0 c0, .slice a1 n1 c1] := Blk.call (Blk.new' (by simp)) hb1
    have B1 := Q.call (Q.alloc (Q.alloc (Below.refl _ w) _) _) hb1
    have o0 := ko.cell 0
    clear hb1
    go_wp2_with fail
    (with_reducible refine (wread_nil r _).mono ?_)
    rintro e w2 ⟨rfl, hb2⟩
    have kl2 := kl.call hb2
    have B2 := Q.call B1 hb2
    clear hb2 o0 ko kl B1
    go_wp2_with fail
    (with_reducible refine (newS_calls _).mono ?_)
    rintro e w3 ⟨rfl, hw3⟩
    have b3 : Below w2.heap.size w2 w3 := by rw [hw3]; exact Q.alloc (Q.alloc (Below.refl _ _) _) _
    have g3 : Blk w3 (w2.heap.size + 1) 57 St.init.cells := by rw [hw3]; exact Blk.new' (by simp)
    have y3 : Blk w3 w2.heap.size 37 #[.int .u8 0, .int .u8 0] := by rw [hw3]; exact (Blk.new _ _ _).alloc _
    have kl3 := kl2.call b3
    have B3 := Q.call B2 b3
    have n3 : w.heap.size + 1 < w2.heap.size := kl2.lt
    have sz : (w2.alloc (.cells #[.int .u8 0, .int .u8 0] 37)).heap.size = w2.heap.size + 1 := by simp
    rw [sz]
    clear hw3 b3 kl2 B2 sz
    go_wp2_with fail
    (with_reducible refine (newS_calls _).mono ?_)
    rintro e w4 ⟨rfl, hw4⟩
    have b4 : Below w3.heap.size w3 w4 := by rw [hw4]; exact Q.alloc (Below.refl _ _) _
    have h4 : Blk w4 w3.heap.size 57 St.init.cells := by rw [hw4]; exact Blk.new _ _ _
    have n4 : w2.heap.size + 1 < w3.heap.size := g3.lt
    have y4 := y3.call b4
    have hm : NilMid w (w2.heap.size + 1) w3.heap.size (w.heap.size + 1) St.init St.init (.slice a0 n0 c0) (.slice a1 n1 c1) w4 := ⟨St.ok_init, St.ok_init, g3.call b4, h4, kl3.call b4, Q.call B3 b4⟩
    have d0 := y4.cell 0
    have d1 := y4.cell 1
    clear hw4 b4 h4 g3 y3 kl3 B3 y4
    generalize w3.heap.size = h at *
    generalize w2.heap.size = gg at *
    have i0 := zero_eq
    have HM := Lib.hid hm
    clear hm
    go_wp2_with (first
      | (go_at_call 13; (with_reducible refine (wat_nil _).mono ?_); rintro e w13 ⟨rfl, rfl⟩)
      | (go_at_call 14; (with_reducible refine (wway_nil _).mono ?_); rintro e w13 ⟨rfl, rfl⟩)
      | (go_at_call 15; (with_reducible refine (wclone_nil _).mono ?_); rintro e w13 ⟨rfl, rfl⟩)
      | (go_at_call 16; first | ((with_reducible refine (wsame_nn _).mono ?_); rintro e w13 ⟨rfl, rfl⟩) | ((with_reducible refine (wsame_ng _ _).mono ?_); rintro e w13 ⟨rfl, rfl⟩) | ((with_reducible refine (wsame_gn _ _).mono ?_); rintro e w13 ⟨rfl, rfl⟩)))
    go_loopw [12] (fun v wr => ∃ (k : Nat) (s t : St), v = .int .i64 (k : Int) ∧ k ≤ n0 ∧ NilMid w (gg + 1) h (w.heap.size + 1) s t (.slice a0 n0 c0) (.slice a1 n1 c1) wr)
      (fun v _ => n0 - (intOf v).toNat)
    case atStart => exact ⟨0, _, _, rfl, Nat.zero_le _, HM.out⟩
    case round =>
      clear HM
      obtain ⟨k, s, t, rfl, hk, hm⟩ := hrel
      have e0 : wr.cell? ⟨w.heap.size + 1, 0, none⟩ = some (.slice a0 n0 c0) := hm.2.2.2.2.1.cell 0
      have e1 : wr.cell? ⟨w.heap.size + 1, 1, none⟩ = some (.slice a1 n1 c1) := hm.2.2.2.2.1.cell 1
      by_cases hkn : k < n0
      · obtain ⟨b, off, o, rfl, hbl, hget, C0, C1, C2, C3, C4⟩ := HR0.out.at_ hkn
        have hki : (k : Int) < (n0 : Int) := by omega
        have hk0 : (0 : Int) ≤ (k : Int) := by omega
        have hbw := hm.B
        have d0 := cellw hbw hbl C0
        have d1 := cellw hbw hbl C1
        have d2 := cellw hbw hbl C2
        have C := fun V hV => write_calls V (gg + 1) s o.r o.v o.t hm.1 ⟨C3, C4⟩ hV
        have hso := St.ok_put hm.1 o.r o.t ⟨C3, C4⟩
        have HM := Lib.hid hm
        have HS := Lib.hid hso
        have HG := Lib.hid (hm.2.2.1)
        clear hget hm hso C0 C1 C2 hbw
        go_wp2_with fail
        go_region_with ((go_at_call 12; (with_reducible refine (C _ (by repeat' (first | exact HG.out | with_reducible refine Blk.drew ?_ | with_reducible refine Blk.drewN ?_ _))).mono ?_); rintro e w5 ⟨rfl, hg5, hc5⟩))
        all_goals
          have hm5 := (HM.out.call (Q.drew (Below.refl _ _)) (by omega)).one (by omega) HS.out hc5 hg5
          go_wp2
          refine ⟨⟨k + 1, _, _, by simp, by omega, hm5⟩, by simp [intOf]; omega⟩
      · obtain rfl : n0 = k := by omega
        have HM := Lib.hid hm
        clear hm
        go_wp2_with fail
        clear e0 e1
        go_loopw [13] (fun v wr => ∃ (k : Nat) (s t : St), v = .int .i64 (k : Int) ∧ k ≤ n1 ∧ NilMid w (gg + 1) h (w.heap.size + 1) s t (.slice a0 n0 c0) (.slice a1 n1 c1) wr)
          (fun v _ => n1 - (intOf v).toNat)
        case atStart => exact ⟨0, _, _, rfl, Nat.zero_le _, HM.out⟩
        case round =>
          clear HM
          obtain ⟨k, s, t, rfl, hk, hm⟩ := hrel
          have e0 : wr.cell? ⟨w.heap.size + 1, 0, none⟩ = some (.slice a0 n0 c0) := hm.2.2.2.2.1.cell 0
          have e1 : wr.cell? ⟨w.heap.size + 1, 1, none⟩ = some (.slice a1 n1 c1) := hm.2.2.2.2.1.cell 1
          by_cases hkn : k < n1
          · obtain ⟨b, off, o, rfl, hbl, hget, C0, C1, C2, C3, C4⟩ := HR1.out.at_ hkn
            have hki : (k : Int) < (n1 : Int) := by omega
            have hk0 : (0 : Int) ≤ (k : Int) := by omega
            have hbw := hm.B
            have d0 := cellw hbw hbl C0
            have d1 := cellw hbw hbl C1
            have d2 := cellw hbw hbl C2
            have C := fun V hV => write_calls V h t o.r o.v o.t hm.2.1 ⟨C3, C4⟩ hV
            have hso := St.ok_put hm.2.1 o.r o.t ⟨C3, C4⟩
            have HM := Lib.hid hm
            have HS := Lib.hid hso
            have HG := Lib.hid (hm.2.2.2.1)
            clear hget hm hso C0 C1 C2 hbw
            go_wp2_with fail
            go_region_with ((go_at_call 12; (with_reducible refine (C _ (by repeat' (first | exact HG.out | with_reducible refine Blk.drew ?_ | with_reducible refine Blk.drewN ?_ _))).mono ?_); rintro e w5 ⟨rfl, hg5, hc5⟩))
            all_goals
              have hm5 := (HM.out.call (Q.drew (Below.refl _ _)) (by omega)).two (by omega) HS.out hc5 hg5
              go_wp2
              refine ⟨⟨k + 1, _, _, by simp, by omega, hm5⟩, by simp [intOf]; omega⟩
          · obtain rfl : n1 = k := by omega
            have HM := Lib.hid hm
            clear hm
            go_wp2_with fail
            clear e0 e1
            have hs := HM.out.1
            have ht := HM.out.2.1
            have hg := HM.out.2.2.1
            have hh := HM.out.2.2.2.1
            have B0 := HM.out.B
            clear HM
            go_wp2_with fail
            (with_reducible refine (readS_calls _ (gg + 1) s 0 hs hg).mono ?_)
            rintro e w6 ⟨rfl, hb6⟩
            have g6 := (hg.call hb6).call (Q.alloc (Below.refl _ _) (.cells #[.int .u8 s.v, .int .u8 0] 37))
            have h6 := (hh.call hb6).call (Q.alloc (Below.refl _ _) (.cells #[.int .u8 s.v, .int .u8 0] 37))
            have B6 := Q.alloc (Q.call B0 hb6) (.cells #[.int .u8 s.v, .int .u8 0] 37)
            have y6 := Blk.new w6 37 #[.int .u8 s.v, .int .u8 0]
            clear hg hh B0 hb6
            rw [show s.byteOf 0 = s.v from rfl, show readErr 0 = 0 from rfl]
            go_wp2_with fail
            (with_reducible refine (readS_calls _ h t 0 ht h6).mono ?_)
            rintro e w7 ⟨rfl, hb7⟩
            have g7 := (g6.call hb7).call (Q.alloc (Below.refl _ _) (.cells #[.int .u8 t.v, .int .u8 0] 37))
            have h7 := (h6.call hb7).call (Q.alloc (Below.refl _ _) (.cells #[.int .u8 t.v, .int .u8 0] 37))
            have B7 := Q.alloc (Q.call B6 hb7) (.cells #[.int .u8 t.v, .int .u8 0] 37)
            have y7 := (y6.call hb7).call (Q.alloc (Below.refl _ _) (.cells #[.int .u8 t.v, .int .u8 0] 37))
            have z7 := Blk.new w7 37 #[.int .u8 t.v, .int .u8 0]
            clear g6 h6 B6 y6 hb7
            rw [show t.byteOf 0 = t.v from rfl, show readErr 0 = 0 from rfl]
            go_wp2_with fail
            have d0 := y7.cell 0
            have d1 := y7.cell 1
            have d2 := z7.cell 0
            have d3 := z7.cell 1
            have ly := y7.lt
            have lz := z7.lt
            have A1 := fun V hV => atS_calls V (gg + 1) s hV
            have A2 := fun V hV => atS_calls V h t hV
            have Y1 := fun V hV => wayS_calls V (gg + 1) s hV
            have Y2 := fun V hV => wayS_calls V h t hV
            have S1 := fun V hV kV => same_calls V (gg + 1) h s t hs ht hV kV
            have S2 := fun V hV kV => same_calls V h (gg + 1) t s ht hs hV kV
            rw [eqB_comm t s] at S2
            obtain ⟨hk1, hX, hY, hv⟩ := hs
            obtain ⟨hk2, hX2, hY2, hv2⟩ := ht
            have f1 := fo_cmp s.X t.X (by omega) (by omega)
            have f2 := fo_cmp s.Y t.Y (by omega) (by omega)
            have f3 := fo_cmp (wx s.k) (wx t.k) (by have := bnd_way s.k; omega) (by have := bnd_way t.k; omega)
            have f4 := fo_cmp (wy s.k) (wy t.k) (by have := bnd_way s.k; omega) (by have := bnd_way t.k; omega)
            have f5 : (s.v == t.v) = decide (s.v = t.v) := rfl
            have P : s.eqB t = ((FloatKind.f64.format.order (floatOfInt .f64 s.X) (floatOfInt .f64 t.X) == some .eq && FloatKind.f64.format.order (floatOfInt .f64 s.Y) (floatOfInt .f64 t.Y) == some .eq) && (FloatKind.f64.format.order (floatOfInt .f64 (wx s.k)) (floatOfInt .f64 (wx t.k)) == some .eq && FloatKind.f64.format.order (floatOfInt .f64 (wy s.k)) (floatOfInt .f64 (wy t.k)) == some .eq) && (s.v == t.v)) := by
              rw [f1, f2, f3, f4, f5]
              rfl
            rw [P] at S1 S2
            clear f1 f2 f3 f4 f5 P hX hY hv hX2 hY2 hv2 hk1 hk2
            have HG := Lib.hid g7
            have HH := Lib.hid h7
            clear g7 h7 y7 z7
            generalize w7.alloc (.cells #[.int .u8 t.v, .int .u8 0] 37) = W at *
            generalize hp1 : (FloatKind.f64.format.order (floatOfInt .f64 s.X) (floatOfInt .f64 t.X) == some .eq && FloatKind.f64.format.order (floatOfInt .f64 s.Y) (floatOfInt .f64 t.Y) == some .eq) = p1 at S1 S2
            generalize hp2 : (FloatKind.f64.format.order (floatOfInt .f64 (wx s.k)) (floatOfInt .f64 (wx t.k)) == some .eq && FloatKind.f64.format.order (floatOfInt .f64 (wy s.k)) (floatOfInt .f64 (wy t.k)) == some .eq) = p2 at S1 S2
            generalize hp3 : (s.v == t.v) = p3 at S1 S2
            unfold fo at A1 A2 Y1 Y2
            generalize floatOfInt .f64 s.X = a1 at *
            generalize floatOfInt .f64 s.Y = a2 at *
            generalize floatOfInt .f64 (wx s.k) = a3 at *
            generalize floatOfInt .f64 (wy s.k) = a4 at *
            generalize floatOfInt .f64 t.X = b1 at *
            generalize floatOfInt .f64 t.Y = b2 at *
            generalize floatOfInt .f64 (wx t.k) = b3 at *
            generalize floatOfInt .f64 (wy t.k) = b4 at *
            generalize s.v = a5 at *
            generalize t.v = b5 at *
            cases p1 <;> cases p2 <;> cases p3 <;> simp only [Bool.and_true, Bool.and_false, Bool.true_and, Bool.false_and] at S1 S2
            all_goals
              go_wp2_with (first
                | (go_at_call 13; first | ((with_reducible refine (A1 _ HG.out).mono ?_); rintro e w13 ⟨rfl, rfl⟩) | ((with_reducible refine (A2 _ HH.out).mono ?_); rintro e w13 ⟨rfl, rfl⟩))
                | (go_at_call 14; first | ((with_reducible refine (Y1 _ HG.out).mono ?_); rintro e w13 ⟨rfl, rfl⟩) | ((with_reducible refine (Y2 _ HH.out).mono ?_); rintro e w13 ⟨rfl, rfl⟩))
                | (go_at_call 16; first | ((with_reducible refine (S1 _ HG.out HH.out).mono ?_); rintro e w13 ⟨rfl, n13, rfl⟩) | ((with_reducible refine (S2 _ (HH.out.drewN _) (HG.out.drewN _)).mono ?_); rintro e w14 ⟨rfl, n14, rfl⟩))
                | (go_at_call 9; (with_reducible refine (awake12_calls _).mono ?_); rintro e w15 ⟨rfl, b15⟩))
              go_returns
              exact ⟨rfl, Q.call (by repeat' (first | exact B7 | with_reducible refine Q.drewN ?_ _ | with_reducible refine Q.drew ?_)) b15⟩
  · go_enter Try.func6, Try.ntmps6
    go_wp2_with (go_at_call 9; (with_reducible refine (awake12_calls _).mono ?_); rintro e w3 ⟨rfl, b3⟩)
    all_goals
      go_returns
      exact ⟨rfl, Q.call (Q.alloc (Q.alloc (Below.refl _ _) _) _) b3⟩
end Go.Proofs.Ytjjebkgljgfecaa
