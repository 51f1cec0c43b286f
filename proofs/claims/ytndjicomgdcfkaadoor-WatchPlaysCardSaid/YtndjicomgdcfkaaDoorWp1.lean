/- The document's watch: Broken, See, Told. (printed by gen/wp1.py) -/
import Derived.Test.YtndjicomgdcfkaaDoorWa4
namespace Go.Proofs.YtndjicomgdcfkaaDoor
set_option linter.unusedVariables false
set_option linter.unusedSimpArgs false
open Go.RowKit
attribute [local go_sem ↓] Go.wp_at_zero Go.wp_at_succ

@[reducible] def WS.rcells (may : Int) (s : WS) : Array Value := #[.int .i64 s.st, .int .i64 s.ru, .int .i64 s.cy, .int .i64 s.ad, .int .u8 s.bi, .int .i64 s.la, .int .i64 s.se, .int .i64 may]
theorem rbrk_halt (w : World) (x : Nat) (st ru cy ad bi la se may : Int) (hB : Blk w x 58 #[.int .i64 st, .int .i64 ru, .int .i64 cy, .int .i64 ad, .int .u8 bi, .int .i64 la, .int .i64 se, .int .i64 may]) (r c a b : Int) (h0 : ¬ st = 0) : Calls Tryd.prog 20 #[.pointer (some ⟨x, 0, none⟩), .agg #[.int .i64 r, .int .i64 c, .int .i64 a, .int .u8 b]] w fun e w' => e = .returned (.int .i64 19) ∧ Below w.heap.size w w' := by
  have e1 : (st == 0) = false := beq_eq_false_iff_ne.2 h0
  have c0 := hB.cell 0
  have hlt := hB.lt
  clear hB h0
  go_enter Tryd.func20, Tryd.ntmps20
  go_wp2_with fail
  go_ret
  exact ⟨rfl, (by repeat' (first | with_reducible exact Below.refl _ _ | with_reducible assumption | with_reducible refine Q.alloc ?_ _ | with_reducible refine Q.drew ?_ | with_reducible refine Q.drewN ?_ _ | with_reducible refine Q.call ?_ (by assumption)))⟩
theorem rbrk_bad (w : World) (x : Nat) (st ru cy ad bi la se may : Int) (hB : Blk w x 58 #[.int .i64 st, .int .i64 ru, .int .i64 cy, .int .i64 ad, .int .u8 bi, .int .i64 la, .int .i64 se, .int .i64 may]) (r c a b : Int) (h0 : st = 0) (hF : alF r c a = false) : Calls Tryd.prog 20 #[.pointer (some ⟨x, 0, none⟩), .agg #[.int .i64 r, .int .i64 c, .int .i64 a, .int .u8 b]] w fun e w' => e = .returned (.int .i64 10) ∧ Below w.heap.size w w' := by
  subst h0
  have FI := fun V => rafits_eq V r c a b false hF.symm
  have c0 := hB.cell 0
  have hlt := hB.lt
  clear hB hF
  go_enter Tryd.func20, Tryd.ntmps20
  go_wp2_with (go_at_call 32; (with_reducible refine (FI _).mono ?_); rintro e w2 ⟨rfl, hb2⟩)
  go_ret
  exact ⟨rfl, (by repeat' (first | with_reducible exact Below.refl _ _ | with_reducible assumption | with_reducible refine Q.alloc ?_ _ | with_reducible refine Q.drew ?_ | with_reducible refine Q.drewN ?_ _ | with_reducible refine Q.call ?_ (by assumption)))⟩
theorem rbrk_old (w : World) (x : Nat) (st ru cy ad bi la se may : Int) (hB : Blk w x 58 #[.int .i64 st, .int .i64 ru, .int .i64 cy, .int .i64 ad, .int .u8 bi, .int .i64 la, .int .i64 se, .int .i64 may]) (r c a b : Int) (h0 : st = 0) (hF : alF r c a = true) (hc : c < la) : Calls Tryd.prog 20 #[.pointer (some ⟨x, 0, none⟩), .agg #[.int .i64 r, .int .i64 c, .int .i64 a, .int .u8 b]] w fun e w' => e = .returned (.int .i64 21) ∧ Below w.heap.size w w' := by
  subst h0
  have FI := fun V => rafits_eq V r c a b true hF.symm
  have c0 := hB.cell 0
  have hlt := hB.lt
  obtain ⟨W, hW⟩ : ∃ W, W = w.alloc (.cells #[.int .i64 r, .int .i64 c, .int .i64 a, .int .u8 b] 56) := ⟨_, rfl⟩
  obtain ⟨hx, hhx⟩ : ∃ hx, hx = w.heap.size := ⟨_, rfl⟩
  have bW : Below w.heap.size w W := by rw [hW]; exact (by repeat' (first | with_reducible exact Below.refl _ _ | with_reducible assumption | with_reducible refine Q.alloc ?_ _ | with_reducible refine Q.drew ?_ | with_reducible refine Q.drewN ?_ _ | with_reducible refine Q.call ?_ (by assumption)))
  have YB : Blk W hx 56 #[.int .i64 r, .int .i64 c, .int .i64 a, .int .u8 b] := by rw [hW]; exact Blk.new' hhx
  have hyw : w.heap.size ≤ hx := by omega
  have HYW := Lib.hid hyw
  have HBW := Lib.hid bW
  have HB1 := Lib.hid (hB.call bW)
  have HY1 := Lib.hid YB
  have d1 : decide (c < la) = true := decide_eq_true hc
  clear hB hF YB bW hyw
  go_enter Tryd.func20, Tryd.ntmps20
  go_wp2_with (go_at_call 32; (with_reducible refine (FI _).mono ?_); rintro e w2 ⟨rfl, hb2⟩; refine Hid.out ?_)
  refine Lib.hid ?_
  rw [← hW] at hb2
  have HB2 := Lib.hid (HB1.out.call hb2)
  have HY2 := Lib.hid (HY1.out.call hb2)
  have HBW2 := Lib.hid (Q.call HBW.out hb2)
  rw [← hhx]
  have x0 := HY2.out.cell 0
  have x1 := HY2.out.cell 1
  have x2 := HY2.out.cell 2
  have x3 := HY2.out.cell 3
  have hxl := HY2.out.lt
  have r0 := HB2.out.cell 0
  have f0 := HB2.out.frozen 0
  have r1 := HB2.out.cell 1
  have f1 := HB2.out.frozen 1
  have r2 := HB2.out.cell 2
  have f2 := HB2.out.frozen 2
  have r3 := HB2.out.cell 3
  have f3 := HB2.out.frozen 3
  have r4 := HB2.out.cell 4
  have f4 := HB2.out.frozen 4
  have r5 := HB2.out.cell 5
  have f5 := HB2.out.frozen 5
  have r6 := HB2.out.cell 6
  have f6 := HB2.out.frozen 6
  have r7 := HB2.out.cell 7
  have f7 := HB2.out.frozen 7
  have hrl := HB2.out.lt
  clear hW hhx hb2 c0 hlt FI hc
  go_wp2_with fail
  go_quiet (fail)
  go_wp2_with fail
  go_ret
  exact ⟨rfl, Q.call HBW2.out (Q.drewN (Below.refl _ _) _)⟩
set_option maxHeartbeats 1600000 in
theorem rbrk_ok (w : World) (x : Nat) (st ru cy ad bi la se may : Int) (hB : Blk w x 58 #[.int .i64 st, .int .i64 ru, .int .i64 cy, .int .i64 ad, .int .u8 bi, .int .i64 la, .int .i64 se, .int .i64 may]) (r c a b : Int) (h0 : st = 0) (hF : alF r c a = true) (hc : ¬ c < la) : Calls Tryd.prog 20 #[.pointer (some ⟨x, 0, none⟩), .agg #[.int .i64 r, .int .i64 c, .int .i64 a, .int .u8 b]] w fun e w' => e = .returned (.int .i64 20) ∧ Chg (fun b => b = x) w w' ∧ Blk w' x 58 #[.int .i64 20, .int .i64 r, .int .i64 c, .int .i64 a, .int .u8 b, .int .i64 c, .int .i64 se, .int .i64 may] := by
  subst h0
  have FI := fun V => rafits_eq V r c a b true hF.symm
  have c0 := hB.cell 0
  have hlt := hB.lt
  obtain ⟨W, hW⟩ : ∃ W, W = w.alloc (.cells #[.int .i64 r, .int .i64 c, .int .i64 a, .int .u8 b] 56) := ⟨_, rfl⟩
  obtain ⟨hx, hhx⟩ : ∃ hx, hx = w.heap.size := ⟨_, rfl⟩
  have bW : Below w.heap.size w W := by rw [hW]; exact (by repeat' (first | with_reducible exact Below.refl _ _ | with_reducible assumption | with_reducible refine Q.alloc ?_ _ | with_reducible refine Q.drew ?_ | with_reducible refine Q.drewN ?_ _ | with_reducible refine Q.call ?_ (by assumption)))
  have YB : Blk W hx 56 #[.int .i64 r, .int .i64 c, .int .i64 a, .int .u8 b] := by rw [hW]; exact Blk.new' hhx
  have hyw : w.heap.size ≤ hx := by omega
  have HYW := Lib.hid hyw
  have HBW := Lib.hid bW
  have HB1 := Lib.hid (hB.call bW)
  have HY1 := Lib.hid YB
  have d1 : decide (c < la) = false := decide_eq_false hc
  clear hB hF YB bW hyw
  go_enter Tryd.func20, Tryd.ntmps20
  go_wp2_with (go_at_call 32; (with_reducible refine (FI _).mono ?_); rintro e w2 ⟨rfl, hb2⟩; refine Hid.out ?_)
  refine Lib.hid ?_
  rw [← hW] at hb2
  have HB2 := Lib.hid (HB1.out.call hb2)
  have HY2 := Lib.hid (HY1.out.call hb2)
  have HBW2 := Lib.hid (Q.call HBW.out hb2)
  rw [← hhx]
  have x0 := HY2.out.cell 0
  have x1 := HY2.out.cell 1
  have x2 := HY2.out.cell 2
  have x3 := HY2.out.cell 3
  have hxl := HY2.out.lt
  have r0 := HB2.out.cell 0
  have f0 := HB2.out.frozen 0
  have r1 := HB2.out.cell 1
  have f1 := HB2.out.frozen 1
  have r2 := HB2.out.cell 2
  have f2 := HB2.out.frozen 2
  have r3 := HB2.out.cell 3
  have f3 := HB2.out.frozen 3
  have r4 := HB2.out.cell 4
  have f4 := HB2.out.frozen 4
  have r5 := HB2.out.cell 5
  have f5 := HB2.out.frozen 5
  have r6 := HB2.out.cell 6
  have f6 := HB2.out.frozen 6
  have r7 := HB2.out.cell 7
  have f7 := HB2.out.frozen 7
  have hrl := HB2.out.lt
  have hne : hx ≠ x := by omega
  have e2 : ∀ n, ((((((w2.drewN n).setCell ⟨x, 5, none⟩ (.int .i64 c)).setCell ⟨x, 1, none⟩ (.int .i64 r)).setCell ⟨x, 2, none⟩ (.int .i64 c)).setCell ⟨x, 3, none⟩ (.int .i64 a)).setCell ⟨x, 4, none⟩ (.int .u8 b)).setCell ⟨x, 0, none⟩ (.int .i64 20) = (w2.drewN n).setRow x #[.int .i64 20, .int .i64 r, .int .i64 c, .int .i64 a, .int .u8 b, .int .i64 c, .int .i64 se, .int .i64 may] := fun n => by
    have hq := HB2.out.drewN n
    rw [hq.setCell 5, hq.setCell_setRow, hq.setCell_setRow, hq.setCell_setRow, hq.setCell_setRow, hq.setCell_setRow]
    rfl
  have HE2 := Lib.hid e2
  clear hW hhx hb2 c0 hlt FI hc e2
  go_wp2_with fail
  go_quiet (fail)
  go_wp2_with fail
  rw [HE2.out]
  go_ret
  exact ⟨rfl, (Chg.of (Q.drewN HBW2.out _)).trans (Chg.setRow _ _ _), (HB2.out.drewN _).setRow _⟩
def RPostW (w : World) (x : Nat) (may : Int) (R : Int × WS) (e : Ending) (w' : World) : Prop := e = .returned (.int .i64 R.1) ∧ Chg (fun b => b = x) w w' ∧ Blk w' x 58 (R.2.rcells may)
theorem rbrk_calls (w : World) (x : Nat) (S : WS) (may : Int) (hB : Blk w x 58 (S.rcells may)) (r c a b : Int) : Calls Tryd.prog 20 #[.pointer (some ⟨x, 0, none⟩), .agg #[.int .i64 r, .int .i64 c, .int .i64 a, .int .u8 b]] w (RPostW w x may (S.brk r c a b)) := by
  unfold WS.brk
  obtain ⟨st, ru, cy, ad, bi, la, se⟩ := S
  simp only at hB ⊢
  by_cases h0 : st = 0
  · cases hF : alF r c a
    · rw [show inE st la r c a = 10 by unfold inE; rw [if_pos h0, hF]; rfl]
      exact (rbrk_bad w x _ _ _ _ _ _ _ _ hB r c a b h0 hF).mono fun e w' ⟨he, hb⟩ => ⟨he, Chg.of hb, hB.call hb⟩
    · by_cases hc : c < la
      · rw [show inE st la r c a = 21 by unfold inE; rw [if_pos h0, hF, if_pos rfl, if_pos hc]]
        exact (rbrk_old w x _ _ _ _ _ _ _ _ hB r c a b h0 hF hc).mono fun e w' ⟨he, hb⟩ => ⟨he, Chg.of hb, hB.call hb⟩
      · rw [show inE st la r c a = 0 by unfold inE; rw [if_pos h0, hF, if_pos rfl, if_neg hc]]
        exact rbrk_ok w x _ _ _ _ _ _ _ _ hB r c a b h0 hF hc
  · rw [show inE st la r c a = 19 by unfold inE; rw [if_neg h0]]
    exact (rbrk_halt w x _ _ _ _ _ _ _ _ hB r c a b h0).mono fun e w' ⟨he, hb⟩ => ⟨he, Chg.of hb, hB.call hb⟩
/-- See, where it goes on. -/
theorem rsee_go (w : World) (x : Nat) (st ru cy ad bi la se may : Int) (hB : Blk w x 58 #[.int .i64 st, .int .i64 ru, .int .i64 cy, .int .i64 ad, .int .u8 bi, .int .i64 la, .int .i64 se, .int .i64 may]) (c a : Int) (h0 : st = 0) (hF : alF 4 c a = true) (hc : ¬ c < la) (hs : 0 ≤ se ∧ se ≤ 1000) : Calls Tryd.prog 18 #[.pointer (some ⟨x, 0, none⟩), .int .i64 c, .int .i64 a, .int .u8 0] w fun e w' => e = .returned (.int .i64 0) ∧ Chg (fun b => b = x) w w' ∧ Blk w' x 58 #[.int .i64 st, .int .i64 ru, .int .i64 cy, .int .i64 ad, .int .u8 bi, .int .i64 c, .int .i64 (se + 1), .int .i64 may] := by
  subst h0
  have FI := fun V => rafits_eq V 4 c a 0 true hF.symm
  have c0 := hB.cell 0
  have hlt := hB.lt
  have hcl : la ≤ c := by omega
  have HB := Lib.hid hB
  clear hF hc hB
  go_enter Tryd.func18, Tryd.ntmps18
  go_wp2_with (go_at_call 32; (with_reducible refine (FI _).mono ?_); rintro e w2 ⟨rfl, hb2⟩; have HB2 := (HB.out.alloc _).call hb2; have r5 := HB2.cell 5; have r6 := HB2.cell 6; have f5 := HB2.frozen 5; have f6 := HB2.frozen 6; have hrl := HB2.lt)
  have e2 : (w2.setCell ⟨x, 5, none⟩ (.int .i64 c)).setCell ⟨x, 6, none⟩ (.int .i64 (se + 1)) = w2.setRow x #[.int .i64 0, .int .i64 ru, .int .i64 cy, .int .i64 ad, .int .u8 bi, .int .i64 c, .int .i64 (se + 1), .int .i64 may] := by
    rw [HB2.setCell 5, HB2.setCell_setRow]
    rfl
  rw [e2]
  go_ret
  exact ⟨rfl, (Chg.of (show Below w.heap.size w w2 from (by repeat' (first | with_reducible exact Below.refl _ _ | with_reducible assumption | with_reducible refine Q.alloc ?_ _ | with_reducible refine Q.drew ?_ | with_reducible refine Q.drewN ?_ _ | with_reducible refine Q.call ?_ (by assumption))))).trans (Chg.setRow _ _ _), HB2.setRow _⟩
/-- See, where it asks Broken. -/
theorem rsee_brk (w : World) (x : Nat) (S : WS) (may : Int) (hB : Blk w x 58 (S.rcells may)) (c a k : Int) (hn : ¬ (inE S.st S.la 4 c a = 0 ∧ k = 0)) : Calls Tryd.prog 18 #[.pointer (some ⟨x, 0, none⟩), .int .i64 c, .int .i64 a, .int .u8 k] w (RPostW w x may (S.brk 4 c a k)) := by
  have BK := fun V (hV : Below w.heap.size w V) => rbrk_calls V x S may (hB.call hV) 4 c a k
  generalize S.brk 4 c a k = R at BK ⊢
  obtain ⟨st, ru, cy, ad, bi, la, se⟩ := S
  simp only at hB hn
  have c0 := hB.cell 0
  have hlt := hB.lt
  have HB := Lib.hid hB
  by_cases h0 : st = 0
  · cases hF : alF 4 c a
    · subst h0
      have FI := fun V => rafits_eq V 4 c a k false hF.symm
      clear hB hn hF
      go_enter Tryd.func18, Tryd.ntmps18
      go_wp2_with (first
        | (go_at_call 32; (with_reducible refine (FI _).mono ?_); rintro e w2 ⟨rfl, hb2⟩; obtain ⟨hc2, hf2, hz2⟩ := bcell hb2; have z2 : w.heap.size < w2.heap.size := (by (try simp only [World.size_alloc] at hz2); omega); have HB2 := Lib.hid (show Below w.heap.size w w2 from (by repeat' (first | with_reducible exact Below.refl _ _ | with_reducible assumption | with_reducible refine Q.alloc ?_ _ | with_reducible refine Q.drew ?_ | with_reducible refine Q.drewN ?_ _ | with_reducible refine Q.call ?_ (by assumption)))))
        | (go_at_call 20; (with_reducible refine (BK _ HB2.out).mono ?_); rintro e w3 ⟨rfl, hch, hb3⟩; have HC := Lib.hid hch; have HB3 := Lib.hid hb3; clear hch hb3))
      go_ret
      exact ⟨rfl, (Chg.of HB2.out).trans HC.out, HB3.out⟩
    · by_cases hc : c < la
      · have hcl : ¬ la ≤ c := by omega
        subst h0
        have FI := fun V => rafits_eq V 4 c a k true hF.symm
        clear hB hn hF hc
        go_enter Tryd.func18, Tryd.ntmps18
        go_wp2_with (first
          | (go_at_call 32; (with_reducible refine (FI _).mono ?_); rintro e w2 ⟨rfl, hb2⟩; have r5 := ((HB.out.alloc _).call hb2).cell 5; have hrl := ((HB.out.alloc _).call hb2).lt; have yb := (Blk.new w 56 #[.int .i64 4, .int .i64 c, .int .i64 a, .int .u8 k]).call hb2; have y0 := yb.cell 0; have y1 := yb.cell 1; have y2 := yb.cell 2; have y3 := yb.cell 3; have yl := yb.lt; clear yb; have HB2 := Lib.hid (show Below w.heap.size w w2 from (by repeat' (first | with_reducible exact Below.refl _ _ | with_reducible assumption | with_reducible refine Q.alloc ?_ _ | with_reducible refine Q.drew ?_ | with_reducible refine Q.drewN ?_ _ | with_reducible refine Q.call ?_ (by assumption)))))
          | (go_at_call 20; (with_reducible refine (BK _ HB2.out).mono ?_); rintro e w3 ⟨rfl, hch, hb3⟩; have HC := Lib.hid hch; have HB3 := Lib.hid hb3; clear hch hb3))
        go_ret
        exact ⟨rfl, (Chg.of HB2.out).trans HC.out, HB3.out⟩
      · have hcl : la ≤ c := by omega
        have hk : ¬ k = 0 := fun h => hn ⟨by unfold inE; rw [if_pos h0, hF, if_pos rfl, if_neg hc], h⟩
        have ek : (k == 0) = false := beq_eq_false_iff_ne.2 hk
        subst h0
        have FI := fun V => rafits_eq V 4 c a k true hF.symm
        clear hB hn hF hc hk
        go_enter Tryd.func18, Tryd.ntmps18
        go_wp2_with (first
          | (go_at_call 32; (with_reducible refine (FI _).mono ?_); rintro e w2 ⟨rfl, hb2⟩; have r5 := ((HB.out.alloc _).call hb2).cell 5; have hrl := ((HB.out.alloc _).call hb2).lt; have yb := (Blk.new w 56 #[.int .i64 4, .int .i64 c, .int .i64 a, .int .u8 k]).call hb2; have y0 := yb.cell 0; have y1 := yb.cell 1; have y2 := yb.cell 2; have y3 := yb.cell 3; have yl := yb.lt; clear yb; have HB2 := Lib.hid (show Below w.heap.size w w2 from (by repeat' (first | with_reducible exact Below.refl _ _ | with_reducible assumption | with_reducible refine Q.alloc ?_ _ | with_reducible refine Q.drew ?_ | with_reducible refine Q.drewN ?_ _ | with_reducible refine Q.call ?_ (by assumption)))))
          | (go_at_call 20; (with_reducible refine (BK _ HB2.out).mono ?_); rintro e w3 ⟨rfl, hch, hb3⟩; have HC := Lib.hid hch; have HB3 := Lib.hid hb3; clear hch hb3))
        go_ret
        exact ⟨rfl, (Chg.of HB2.out).trans HC.out, HB3.out⟩
  · have e1 : (st == 0) = false := beq_eq_false_iff_ne.2 h0
    clear hB hn h0
    go_enter Tryd.func18, Tryd.ntmps18
    go_wp2_with (go_at_call 20; (with_reducible refine (BK _ (by repeat' (first | with_reducible exact Below.refl _ _ | with_reducible assumption | with_reducible refine Q.alloc ?_ _ | with_reducible refine Q.drew ?_ | with_reducible refine Q.drewN ?_ _ | with_reducible refine Q.call ?_ (by assumption)))).mono ?_); rintro e w3 ⟨rfl, hch, hb3⟩; have HC := Lib.hid hch; have HB3 := Lib.hid hb3; clear hch hb3)
    go_ret
    exact ⟨rfl, (Chg.of (show Below w.heap.size w _ from (by repeat' (first | with_reducible exact Below.refl _ _ | with_reducible assumption | with_reducible refine Q.alloc ?_ _ | with_reducible refine Q.drew ?_ | with_reducible refine Q.drewN ?_ _ | with_reducible refine Q.call ?_ (by assumption))))).trans HC.out, HB3.out⟩
theorem rsee_calls (w : World) (x : Nat) (S : WS) (may : Int) (hB : Blk w x 58 (S.rcells may)) (c a : Int) (wr : Bool) (k L : Int) (hL : L = if wr = true then k else 0) (hs : 0 ≤ S.se ∧ S.se ≤ 1000) : Calls Tryd.prog 18 #[.pointer (some ⟨x, 0, none⟩), .int .i64 c, .int .i64 a, .int .u8 L] w (RPostW w x may (S.see c a wr k)) := by
  by_cases hn : inE S.st S.la 4 c a = 0 ∧ L = 0
  · obtain ⟨hE, h0⟩ := hn
    obtain ⟨g0, hF, hc⟩ := inE_ok hE
    have hr : S.see c a wr k = (0, ⟨S.st, S.ru, S.cy, S.ad, S.bi, c, S.se + 1⟩) := by
      unfold WS.see
      rw [if_pos hE, if_neg]
      rintro ⟨h1, h2⟩
      rw [if_pos h1] at hL
      exact h2 (hL.symm.trans h0)
    rw [hr, h0]
    exact rsee_go w x _ _ _ _ _ _ _ _ hB c a g0 hF hc hs
  · have hr : S.see c a wr k = S.brk 4 c a L := by
      unfold WS.see WS.brk
      by_cases hE : inE S.st S.la 4 c a = 0
      · have h0 : ¬ L = 0 := fun h => hn ⟨hE, h⟩
        rw [if_pos hE, if_pos hE]
        by_cases hw : wr = true
        · rw [if_pos hw] at hL
          subst hL
          rw [if_pos ⟨hw, h0⟩]
        · rw [if_neg hw] at hL
          exact absurd hL h0
      · rw [if_neg hE, if_neg hE]
    rw [hr]
    exact rsee_brk w x S may hB c a L hn
theorem rtold_calls (w : World) (x : Nat) (S : WS) (may : Int) (hB : Blk w x 58 (S.rcells may)) (n : Int) : Calls Tryd.prog 19 #[.pointer (some ⟨x, 0, none⟩), .int .i64 n] w (RPostW w x may (S.told may n)) := by
  unfold WS.told
  obtain ⟨st, ru, cy, ad, bi, la, se⟩ := S
  simp only at hB ⊢
  have c0 := hB.cell 0
  have f0 := hB.frozen 0
  have c7 := hB.cell 7
  have hlt := hB.lt
  have HB := Lib.hid hB
  by_cases h0 : st = 0
  · subst h0
    rw [if_pos rfl]
    by_cases hn : n < 0
    · rw [if_pos hn]
      clear hB
      go_enter Tryd.func19, Tryd.ntmps19
      go_wp2_with fail
      go_ret
      exact ⟨rfl, Chg.refl _ _, HB.out⟩
    · rw [if_neg hn]
      by_cases hm : may < n
      · rw [if_pos hm]
        clear hB
        go_enter Tryd.func19, Tryd.ntmps19
        go_wp2_with fail
        go_ret
        exact ⟨rfl, set_one HB.out (Below.refl _ _)⟩
      · rw [if_neg hm]
        clear hB
        go_enter Tryd.func19, Tryd.ntmps19
        go_wp2_with fail
        go_ret
        exact ⟨rfl, Chg.refl _ _, HB.out⟩
  · rw [if_neg h0]
    have e1 : (st == 0) = false := beq_eq_false_iff_ne.2 h0
    clear hB h0
    go_enter Tryd.func19, Tryd.ntmps19
    go_wp2_with fail
    go_ret
    exact ⟨rfl, Chg.refl _ _, HB.out⟩
end Go.Proofs.YtndjicomgdcfkaaDoor
