/- A watch: its calls as the plain law has them; table; WatchNil. (printed by gen/wa4.py) -/
import Derived.Test.YtndjicomgdcfkaaDoorWa3
import Derived.Test.YtndjicomgdcfkaaDoorWt8
namespace Go.Proofs.YtndjicomgdcfkaaDoor
set_option linter.unusedVariables false
set_option linter.unusedSimpArgs false
open Go.RowKit
attribute [local go_sem ↓] Go.wp_at_zero Go.wp_at_succ

theorem in_err (w : World) (g gt : Nat) (S : WS) (hB : Blk w g 68 (S.cells (.pointer (some ⟨gt, 0, none⟩)))) (r c a b : Int) (hE : ¬ inE S.st S.la r c a = 0) : Calls Tryd.prog 33 #[.pointer (some ⟨g, 0, none⟩), .agg #[.int .i64 r, .int .i64 c, .int .i64 a, .int .u8 b]] w fun e w' => e = .returned (.int .i64 (inE S.st S.la r c a)) ∧ Below w.heap.size w w' := by
  obtain ⟨st, ru, cy, ad, bi, la, se⟩ := S
  unfold inE at hE ⊢
  simp only at hE ⊢
  by_cases h0 : st = 0
  · rw [if_pos h0] at hE ⊢
    cases hF : alF r c a
    · exact in_bad w g _ st ru cy ad bi la se hB r c a b h0 hF
    · rw [hF, if_pos rfl] at hE
      rw [if_pos rfl]
      by_cases hc : c < la
      · rw [if_pos hc]
        exact in_old w g _ st ru cy ad bi la se hB r c a b h0 hF hc
      · rw [if_neg hc] at hE
        exact absurd rfl hE
  · rw [if_neg h0]
    exact in_halt w g _ st ru cy ad bi la se hB r c a b h0
theorem inE_ok {st la r c a : Int} (h : inE st la r c a = 0) : st = 0 ∧ alF r c a = true ∧ ¬ c < la := by
  unfold inE at h
  split at h
  · split at h
    · split at h
      · cases h
      · exact ⟨‹_›, ‹_›, ‹_›⟩
    · cases h
  · cases h
theorem brk_calls (w : World) (g gt : Nat) (S : WS) (hB : Blk w g 68 (S.cells (.pointer (some ⟨gt, 0, none⟩)))) (r c a b : Int) : Calls Tryd.prog 26 #[.pointer (some ⟨g, 0, none⟩), .agg #[.int .i64 r, .int .i64 c, .int .i64 a, .int .u8 b]] w fun e w' => e = .returned (.int .i64 (S.brk r c a b).1) ∧ Chg (fun b => b = g) w w' ∧ Blk w' g 68 ((S.brk r c a b).2.cells (.pointer (some ⟨gt, 0, none⟩))) := by
  unfold WS.brk
  by_cases hE : inE S.st S.la r c a = 0
  · rw [if_pos hE]
    obtain ⟨h0, hF, hc⟩ := inE_ok hE
    exact brk_ok w g _ _ _ _ _ _ _ _ hB r c a b h0 hF hc
  · rw [if_neg hE]
    exact (brk_err w _ r c a b _ hE (fun V hV => in_err V g gt S (hB.call hV) r c a b hE)).mono fun e w' ⟨he, hb⟩ => ⟨he, Chg.of hb, hB.call hb⟩
theorem told_calls (w : World) (g gt : Nat) (S : WS) (hB : Blk w g 68 (S.cells (.pointer (some ⟨gt, 0, none⟩)))) (s m : List Sp) (dc tr : Int) (hT : TK w gt s m dc tr) (n : Int) : Calls Tryd.prog 25 #[.pointer (some ⟨g, 0, none⟩), .int .i64 n] w fun e w' => e = .returned (.int .i64 (S.told dc n).1) ∧ Chg (fun b => b = g) w w' ∧ Blk w' g 68 ((S.told dc n).2.cells (.pointer (some ⟨gt, 0, none⟩))) := by
  unfold WS.told
  by_cases h0 : S.st = 0
  · rw [if_pos h0]
    by_cases hn : n < 0
    · rw [if_pos hn]
      exact (told_low w g gt _ _ _ _ _ _ _ hB n h0 hn).mono fun e w' ⟨he, hw⟩ => ⟨he, by subst hw; exact Chg.refl _ _, by subst hw; exact hB⟩
    · rw [if_neg hn]
      by_cases hd : dc < n
      · rw [if_pos hd]
        exact told_full w g gt _ _ _ _ _ _ _ hB s m dc tr hT n h0 hn hd
      · rw [if_neg hd]
        exact (told_few w g gt _ _ _ _ _ _ _ hB s m dc tr hT n h0 hn hd).mono fun e w' ⟨he, hb⟩ => ⟨he, Chg.of hb, hB.call hb⟩
  · rw [if_neg h0]
    exact (told_halt w g gt _ _ _ _ _ _ _ hB n h0).mono fun e w' ⟨he, hw⟩ => ⟨he, by subst hw; exact Chg.refl _ _, by subst hw; exact hB⟩
theorem see_calls (w : World) (g gt : Nat) (S : WS) (hB : Blk w g 68 (S.cells (.pointer (some ⟨gt, 0, none⟩)))) (s m : List Sp) (dc tr : Int) (hT : TK w gt s m dc tr) (c a : Int) (wr : Bool) (bv bt k : Int) (hk : k = lkv m a bt) (hs : 0 ≤ S.se ∧ S.se ≤ 1000) (hg : gt < g) : Calls Tryd.prog 24 #[.pointer (some ⟨g, 0, none⟩), .int .i64 c, .agg #[.int .i64 a, .bool wr, .int .u8 bv, .int .u8 bt]] w fun e w' => e = .returned (.int .i64 (S.see c a wr k).1) ∧ Chg (fun b => b = g) w w' ∧ Blk w' g 68 ((S.see c a wr k).2.cells (.pointer (some ⟨gt, 0, none⟩))) := by
  unfold WS.see
  by_cases hE : inE S.st S.la 4 c a = 0
  · rw [if_pos hE]
    obtain ⟨h0, hF, hc⟩ := inE_ok hE
    exact see_ok w g gt _ _ _ _ _ _ _ hB s m dc tr hT c a wr bv bt k hk h0 hF hc hs hg _ _ (by
      by_cases h : wr = true ∧ k ≠ 0
      · rw [if_pos h, if_pos h]; exact ⟨rfl, rfl⟩
      · rw [if_neg h, if_neg h]; exact ⟨rfl, rfl⟩)
  · rw [if_neg hE]
    exact (see_err w _ c a wr bv bt _ hE (fun V hV => in_err V g gt S (hB.call hV) 4 c a 0 hE)).mono fun e w' ⟨he, hb⟩ => ⟨he, Chg.of hb, hB.call hb⟩
theorem broken_eq (w : World) (o : WO) : Calls Tryd.prog 22 #[.agg o.cells] w fun e w' => e = .returned (.agg #[.int .i64 o.rule, .int .i64 o.cyc, .int .i64 o.addr, .int .u8 o.t]) ∧ Below w.heap.size w w' := by
  obtain ⟨ask, cyc, rule, addr, wr, v, t⟩ := o
  go_enter Tryd.func22, Tryd.ntmps22
  go_wp2
  go_returns
  exact ⟨rfl, (by repeat' (first | with_reducible exact Below.refl _ _ | with_reducible assumption | with_reducible refine Q.alloc ?_ _ | with_reducible refine Q.drew ?_ | with_reducible refine Q.drewN ?_ _ | with_reducible refine Q.call ?_ (by assumption)))⟩
/-- A call's answer, and what becomes of the watch. -/
def DPost (w : World) (g : Nat) (p : Value) (R : Int × WS) (e : Ending) (w' : World) : Prop := e = .returned (.int .i64 R.1) ∧ Chg (fun b => b = g) w w' ∧ Blk w' g 68 (R.2.cells p)
set_option maxHeartbeats 1600000 in
theorem does_calls (w : World) (g gt : Nat) (S : WS) (hB : Blk w g 68 (S.cells (.pointer (some ⟨gt, 0, none⟩)))) (s m : List Sp) (dc tr : Int) (hT : TK w gt s m dc tr) (o : WO) (hs : 0 ≤ S.se ∧ S.se ≤ 1000) (hg : gt < g) : Calls Tryd.prog 8 #[.pointer (some ⟨g, 0, none⟩), .agg o.cells] w (DPost w g (.pointer (some ⟨gt, 0, none⟩)) (S.does dc (lkv m o.addr o.t) o)) := by
  have BW : Below w.heap.size w (w.alloc (.cells o.cells 27)) := (by repeat' (first | with_reducible exact Below.refl _ _ | with_reducible assumption | with_reducible refine Q.alloc ?_ _ | with_reducible refine Q.drew ?_ | with_reducible refine Q.drewN ?_ _ | with_reducible refine Q.call ?_ (by assumption)))
  have SE := see_calls _ g gt S (hB.call BW) s m dc tr (hT.call BW) o.cyc o.addr o.wr o.v o.t _ rfl hs hg
  have TO := told_calls _ g gt S (hB.call BW) s m dc tr (hT.call BW) o.cyc
  have BK := fun V (hV : Below w.heap.size w V) => brk_calls V g gt S (hB.call hV) o.rule o.cyc o.addr o.t
  have BE := fun V => broken_eq V o
  have HBW := Lib.hid BW
  unfold WS.does
  obtain ⟨ask, cyc, rule, addr, wr, v, t⟩ := o
  simp only at SE TO BK BE ⊢
  by_cases h0 : ask = 0
  · rw [if_pos h0]
    subst h0
    generalize S.see cyc addr wr (lkv m addr t) = R at SE ⊢
    clear TO BK BE hB hT hs hg BW
    go_enter Tryd.func8, Tryd.ntmps8
    go_wp2_with (go_at_call 24; (with_reducible refine SE.mono ?_); rintro e w1 ⟨rfl, hch, hb1⟩; have HC1 := Lib.hid hch; have HB1 := Lib.hid hb1; clear hch hb1)
    go_ret
    exact ⟨rfl, (Chg.of HBW.out).trans HC1.out, HB1.out⟩
  · rw [if_neg h0]
    have e0 : (ask == 0) = false := beq_eq_false_iff_ne.2 h0
    by_cases h1 : ask = 1
    · rw [if_pos h1]
      subst h1
      generalize S.told dc cyc = R at TO ⊢
      clear SE BK BE hB hT hs hg BW h0
      go_enter Tryd.func8, Tryd.ntmps8
      go_wp2_with (go_at_call 25; (with_reducible refine TO.mono ?_); rintro e w1 ⟨rfl, hch, hb1⟩; have HC1 := Lib.hid hch; have HB1 := Lib.hid hb1; clear hch hb1)
      go_ret
      exact ⟨rfl, (Chg.of HBW.out).trans HC1.out, HB1.out⟩
    · rw [if_neg h1]
      have e1 : (ask == 1) = false := beq_eq_false_iff_ne.2 h1
      generalize S.brk rule cyc addr t = R at BK ⊢
      clear SE TO hB hT hs hg BW h0 h1
      go_enter Tryd.func8, Tryd.ntmps8
      go_wp2_with (first
        | (go_at_call 22; (with_reducible refine (BE _).mono ?_); rintro e w1 ⟨rfl, hb1⟩; have HC0 := Lib.hid (Q.call HBW.out hb1); clear hb1)
        | (go_at_call 26; (with_reducible refine (BK _ HC0.out).mono ?_); rintro e w2 ⟨rfl, hch, hb2⟩; have HC1 := Lib.hid hch; have HB1 := Lib.hid hb2; clear hch hb2))
      go_ret
      exact ⟨rfl, (Chg.of HC0.out).trans HC1.out, HB1.out⟩
theorem brk_nil (w : World) (r c a b : Int) : Calls Tryd.prog 26 #[.pointer none, .agg #[.int .i64 r, .int .i64 c, .int .i64 a, .int .u8 b]] w fun e w' => e = .returned (.int .i64 2) ∧ Below w.heap.size w w' := brk_err w (.pointer none) r c a b 2 (by decide) (fun V _ => in_nil V r c a b)
theorem see_nil (w : World) (c a : Int) (wr : Bool) (bv bt : Int) : Calls Tryd.prog 24 #[.pointer none, .int .i64 c, .agg #[.int .i64 a, .bool wr, .int .u8 bv, .int .u8 bt]] w fun e w' => e = .returned (.int .i64 2) ∧ Below w.heap.size w w' := see_err w (.pointer none) c a wr bv bt 2 (by decide) (fun V _ => in_nil V 4 c a 0)
set_option maxHeartbeats 1600000 in
theorem does_nil (w : World) (o : WO) : Calls Tryd.prog 8 #[.pointer none, .agg o.cells] w fun e w' => e = .returned (.int .i64 2) ∧ Below w.heap.size w w' := by
  have BE := fun V => broken_eq V o
  obtain ⟨ask, cyc, rule, addr, wr, v, t⟩ := o
  simp only at BE
  by_cases h0 : ask = 0
  · subst h0
    go_enter Tryd.func8, Tryd.ntmps8
    go_wp2_with (go_at_call 24; (with_reducible refine (see_nil _ _ _ _ _ _).mono ?_); rintro e w1 ⟨rfl, hb1⟩)
    go_ret
    exact ⟨rfl, (by repeat' (first | with_reducible exact Below.refl _ _ | with_reducible assumption | with_reducible refine Q.alloc ?_ _ | with_reducible refine Q.drew ?_ | with_reducible refine Q.drewN ?_ _ | with_reducible refine Q.call ?_ (by assumption)))⟩
  · have e0 : (ask == 0) = false := beq_eq_false_iff_ne.2 h0
    by_cases h1 : ask = 1
    · subst h1
      go_enter Tryd.func8, Tryd.ntmps8
      go_wp2_with (go_at_call 25; (with_reducible refine (told_nil _ _).mono ?_); rintro e w1 ⟨rfl, rfl⟩)
      go_ret
      exact ⟨rfl, (by repeat' (first | with_reducible exact Below.refl _ _ | with_reducible assumption | with_reducible refine Q.alloc ?_ _ | with_reducible refine Q.drew ?_ | with_reducible refine Q.drewN ?_ _ | with_reducible refine Q.call ?_ (by assumption)))⟩
    · have e1 : (ask == 1) = false := beq_eq_false_iff_ne.2 h1
      clear h0 h1
      go_enter Tryd.func8, Tryd.ntmps8
      go_wp2_with (first
        | (go_at_call 22; (with_reducible refine (BE _).mono ?_); rintro e w1 ⟨rfl, hb1⟩)
        | (go_at_call 26; (with_reducible refine (brk_nil _ _ _ _ _).mono ?_); rintro e w2 ⟨rfl, hb2⟩))
      go_ret
      exact ⟨rfl, (by repeat' (first | with_reducible exact Below.refl _ _ | with_reducible assumption | with_reducible refine Q.alloc ?_ _ | with_reducible refine Q.drew ?_ | with_reducible refine Q.drewN ?_ _ | with_reducible refine Q.call ?_ (by assumption)))⟩
set_option maxHeartbeats 1600000 in
theorem table_none (w : World) (R : Nat → Prop) (sa ma : Option Addr) (sc mc : Nat) (s m : List Sp) (dc tr : Int) (hs : Rd ES w R (.slice sa s.length sc) s) (hm : Rd ES w R (.slice ma m.length mc) m) (hf : ¬ ((s.length ≤ 80 ∧ m.length ≤ 80) ∧ chk s m dc tr = 0)) : Calls Tryd.prog 14 #[.agg #[.slice sa s.length sc, .slice ma m.length mc, .int .i64 dc, .int .i64 tr]] w fun e w' => e = .returned (.pointer none) ∧ Below w.heap.size w w' := by
  by_cases h1 : s.length ≤ 80 ∧ m.length ≤ 80
  · have hC : ¬ chk s m dc tr = 0 := fun h => hf ⟨h1, h⟩
    have FW := fun V => few_eq V sa ma s.length m.length sc mc dc tr true (decide_eq_true h1).symm
    have NW := fun V (hV : Below w.heap.size w V) => new_bad V R _ _ s m dc tr (hs.below hV) (hm.below hV) (by omega) (by omega) _ rfl hC
    obtain ⟨C, hC'⟩ : ∃ C, C = chk s m dc tr := ⟨_, rfl⟩
    rw [← hC'] at NW hC
    have hcb : (C == 0) = false := beq_eq_false_iff_ne.2 hC
    clear hs hm hf hC hC' h1
    go_enter Tryd.func14, Tryd.ntmps14
    go_wp2_with (first
      | (go_at_call 28; (with_reducible refine (FW _).mono ?_); rintro e w1 ⟨rfl, hb1⟩; obtain ⟨hc1, hf1, hz1⟩ := bcell hb1; have z1 : w.heap.size < w1.heap.size := (by (try simp only [World.size_alloc] at hz1); omega))
      | (go_at_call 29; (with_reducible refine (NW _ (by repeat' (first | with_reducible exact Below.refl _ _ | with_reducible assumption | with_reducible refine Q.alloc ?_ _ | with_reducible refine Q.drew ?_ | with_reducible refine Q.drewN ?_ _ | with_reducible refine Q.call ?_ (by assumption)))).mono ?_); rintro e w2 ⟨rfl, hb2⟩))
    go_ret
    exact ⟨rfl, (by repeat' (first | with_reducible exact Below.refl _ _ | with_reducible assumption | with_reducible refine Q.alloc ?_ _ | with_reducible refine Q.drew ?_ | with_reducible refine Q.drewN ?_ _ | with_reducible refine Q.call ?_ (by assumption)))⟩
  · have FW := fun V => few_eq V sa ma s.length m.length sc mc dc tr false (decide_eq_false h1).symm
    clear hs hm hf h1
    go_enter Tryd.func14, Tryd.ntmps14
    go_wp2_with (go_at_call 28; (with_reducible refine (FW _).mono ?_); rintro e w1 ⟨rfl, hb1⟩)
    go_ret
    exact ⟨rfl, (by repeat' (first | with_reducible exact Below.refl _ _ | with_reducible assumption | with_reducible refine Q.alloc ?_ _ | with_reducible refine Q.drew ?_ | with_reducible refine Q.drewN ?_ _ | with_reducible refine Q.call ?_ (by assumption)))⟩
set_option maxHeartbeats 1600000 in
theorem table_some (w : World) (R : Nat → Prop) (sa ma : Option Addr) (sc mc : Nat) (s m : List Sp) (dc tr : Int) (hs : Rd ES w R (.slice sa s.length sc) s) (hm : Rd ES w R (.slice ma m.length mc) m) (h1 : s.length ≤ 80 ∧ m.length ≤ 80) (hC : chk s m dc tr = 0) : Calls Tryd.prog 14 #[.agg #[.slice sa s.length sc, .slice ma m.length mc, .int .i64 dc, .int .i64 tr]] w fun e w' => ∃ gt, e = .returned (.pointer (some ⟨gt, 0, none⟩)) ∧ w.heap.size ≤ gt ∧ TK w' gt s m dc tr ∧ Below w.heap.size w w' := by
  have FW := fun V => few_eq V sa ma s.length m.length sc mc dc tr true (decide_eq_true h1).symm
  have NW := fun V (hV : Below w.heap.size w V) => new_ok V R _ _ s m dc tr (hs.below hV) (hm.below hV) (by omega) (by omega) hC
  have HC := Lib.hid hC
  have H1 := Lib.hid h1
  clear hs hm hC h1
  go_enter Tryd.func14, Tryd.ntmps14
  go_wp2_with (first
    | (go_at_call 28; (with_reducible refine (FW _).mono ?_); rintro e w1 ⟨rfl, hb1⟩; obtain ⟨hc1, hf1, hz1⟩ := bcell hb1; have z1 : w.heap.size < w1.heap.size := (by (try simp only [World.size_alloc] at hz1); omega))
    | (go_at_call 29; have HB1 := Lib.hid (show Below w.heap.size w w1 from (by repeat' (first | with_reducible exact Below.refl _ _ | with_reducible assumption | with_reducible refine Q.alloc ?_ _ | with_reducible refine Q.drew ?_ | with_reducible refine Q.drewN ?_ _ | with_reducible refine Q.call ?_ (by assumption)))); (with_reducible refine (NW _ HB1.out).mono ?_); rintro e w2 ⟨gt, v1, v2, rfl, hgt, hN, hTb⟩; have HN := Lib.hid hN; have HTb := Lib.hid hTb; have HGT := Lib.hid hgt; clear hN hTb hgt))
  go_ret
  exact ⟨gt, rfl, Nat.le_trans HB1.out.size HGT.out, ⟨HC.out, H1.out.1, H1.out.2, v1, v2, HTb.out, HN.out.rs.keep (fun b _ h => ⟨rfl, h.1⟩) (Nat.le_refl _), HN.out.rm.keep (fun b _ h => ⟨rfl, h.1⟩) (Nat.le_refl _)⟩, Q.call HB1.out HN.out.bel⟩
set_option maxHeartbeats 1600000 in
theorem watchNil_walk (w : World) (o : WO) (hT : TB w ∧ TZ w ∧ WD w) : Calls Tryd.prog 3 #[.agg o.cells] w fun e w' => e = .returned (.bool true) ∧ Below w.heap.size w w' := by
  have HT := Lib.hid hT.1
  have HZ := Lib.hid hT.2.1
  have HW := Lib.hid hT.2.2
  have AW := fun V (hV : Below w.heap.size w V) => aawake_eq V (TB.on HT.out hV) (TZ.on HZ.out hV) (WD.on HW.out hV)
  have DN := fun V => does_nil V o
  obtain ⟨ask, cyc, rule, addr, wr, v, t⟩ := o
  (try simp only at DN)
  clear hT
  go_enter Tryd.func3, Tryd.ntmps3
  go_wp2_with (first
    | (go_at_call 7; (with_reducible refine (wnew_nil _).mono ?_); rintro e w1 ⟨rfl, rfl⟩)
    | (go_at_call 8; (with_reducible refine (DN _).mono ?_); rintro e w2 ⟨rfl, hb2⟩)
    | (go_at_call 9; (with_reducible refine (state_nil _).mono ?_); rintro e w3 ⟨rfl, rfl⟩)
    | (go_at_call 10; (with_reducible refine (alarms_nil _).mono ?_); rintro e w4 ⟨rfl, rfl⟩)
    | (go_at_call 11; (with_reducible refine (seen_nil _).mono ?_); rintro e w5 ⟨rfl, rfl⟩)
    | (go_at_call 12; (with_reducible refine (wclone_nil _).mono ?_); rintro e w6 ⟨rfl, rfl⟩)
    | (go_at_call 13; (with_reducible refine (AW _ (by repeat' (first | with_reducible exact Below.refl _ _ | with_reducible assumption | with_reducible refine Q.alloc ?_ _ | with_reducible refine Q.drew ?_ | with_reducible refine Q.drewN ?_ _ | with_reducible refine Q.call ?_ (by assumption)))).mono ?_); rintro e w7 ⟨rfl, hb7⟩))
  go_ret
  exact ⟨rfl, (by repeat' (first | with_reducible exact Below.refl _ _ | with_reducible assumption | with_reducible refine Q.alloc ?_ _ | with_reducible refine Q.drew ?_ | with_reducible refine Q.drewN ?_ _ | with_reducible refine Q.call ?_ (by assumption)))⟩
end Go.Proofs.YtndjicomgdcfkaaDoor
