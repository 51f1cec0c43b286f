/- Ports: does, with a frame: what a copy of the document's ports reads stays. (printed by gen/po23.py) -/
import Derived.Test.YteciicojnodibaaPo22
namespace Go.Proofs.Yteciicojnodibaa
set_option linter.unusedVariables false
set_option linter.unusedSimpArgs false
open Go.RowKit
attribute [local go_sem ↓] Go.wp_at_zero Go.wp_at_succ

def BothF (F : Nat → Nat → Prop) (w : World) (col : Nat → Nat) (g x : Nat) (s : PS) : Prop := s.ok ∧ (∃ v, IsP w col 1 g v s) ∧ ∃ u, IsR w col 2 x u s ∧ Frz F w col x u s
/-- Both behind a call upon one, then upon the other one. -/
theorem both_finF {F : Nat → Nat → Prop} {w V w1 V2 w2 W : World} {col : Nat → Nat} {g x : Nat} {s s' : PS} {pv pv1 : PV} {ru ru2 : RV} (hok : s'.ok) (hV : Below w.heap.size w V) (hr : IsR w col 2 x ru s)
    (hp1 : IsP w1 (paint (paint col w.heap.size 9) V.heap.size 1) 1 g pv1 s') (hc1 : Chg (fun b => paint col w.heap.size 9 b = 1) V w1) (hV2 : Below w1.heap.size w1 V2)
    (hr2 : IsR w2 (paint (paint (paint col w.heap.size 9) V.heap.size 1) V2.heap.size 2) 2 x ru2 s') (hc2 : Chg (fun b => paint (paint col w.heap.size 9) V.heap.size 1 b = 2) V2 w2) (hk2 : ∀ F, Frz F V2 (paint (paint col w.heap.size 9) V.heap.size 1) x ru s → Frz F w2 (paint (paint (paint col w.heap.size 9) V.heap.size 1) V2.heap.size 2) x ru2 s' ∧ KeepsF F V2 w2) (hfz : Frz F w col x ru s) (hW : Below w2.heap.size w2 W) :
    ∃ col', Same w.heap.size col col' ∧ BothF F W col' g x s' ∧ Chg (isOneOrTwo col) w W ∧ KeepsF F w W := by
  have s1 := hV.size
  have s2 := hc1.size
  have s3 := hV2.size
  have s4 := hc2.size
  obtain ⟨f1, k1⟩ := hfz.below hV (col' := paint col w.heap.size 9) (fun b hb => paint_old hb)
  obtain ⟨f2, k2⟩ := f1.chg (col' := paint (paint col w.heap.size 9) V.heap.size 1) hc1 (fun b hb _ h1 h2 => h1 h2) (fun b hb => paint_old hb)
  obtain ⟨f3, k3⟩ := f2.below hV2 (col' := paint (paint col w.heap.size 9) V.heap.size 1) (fun b hb => rfl)
  obtain ⟨f4, k4⟩ := hk2 F f3
  obtain ⟨f5, k5⟩ := f4.below hW (col' := paint (paint (paint col w.heap.size 9) V.heap.size 1) V2.heap.size 2) (fun b hb => rfl)
  refine ⟨paint (paint (paint col w.heap.size 9) V.heap.size 1) V2.heap.size 2, ?_, ⟨hok, ⟨pv1, ?_⟩, ru2, hr2.call hW, f5⟩, ?_, (((k1.trans k2).trans k3).trans k4).trans k5⟩
  · intro b hb
    rw [paint_old (by omega), paint_old (by omega), paint_old hb]
  · exact ((hp1.call hV2).other hc2 (by decide) (by decide) 2).call hW
  · have a1 : Chg (isOneOrTwo col) w w1 := (Chg.of (S := fun _ => False) hV).trans2 hc1 (fun _ _ h => h.elim) (fun b hb h => by rw [paint_old hb] at h; exact .inl h)
    have a2 : Chg (isOneOrTwo col) w w2 := (a1.trans (.of hV2)).trans2 hc2 (fun _ _ h => h) (fun b hb h => by rw [paint_old (by omega), paint_old hb] at h; exact .inr h)
    exact a2.trans (.of hW)
set_option maxHeartbeats 1600000 in
theorem does_readF (F : Nat → Nat → Prop) (w : World) (col : Nat → Nat) (g x : Nat) (s : PS) (r v t cyc : Int) (hb : BothF F w col g x s) :
    Calls Try.prog 9 #[.pointer (some ⟨g, 0, none⟩), .pointer (some ⟨x, 0, none⟩), .agg #[.int .i64 0, .int .i64 r, .int .u8 v, .int .u8 t, .int .i64 cyc]] w fun e w' => e = .returned (.bool true) ∧ ∃ col', Same w.heap.size col col' ∧ BothF F w' col' g x (s.took r) ∧ Chg (isOneOrTwo col) w w' ∧ KeepsF F w w' := by
  obtain ⟨hok, ⟨pv, hp⟩, ru, hr, hfz⟩ := hb
  have HFZ := Lib.hid hfz
  clear hfz
  have b0 := Q.alloc (Below.refl _ w) (.cells #[.int .i64 0, .int .i64 r, .int .u8 v, .int .u8 t, .int .i64 cyc] 37)
  have k0 := Blk.new w 37 #[.int .i64 0, .int .i64 r, .int .u8 v, .int .u8 t, .int .i64 cyc]
  have HP := Lib.hid (hp.new b0 9)
  have HR := Lib.hid (hr.new b0 9)
  have HR0 := Lib.hid hr
  have HK := Lib.hid hok
  clear hp hr hok
  go_enter Try.func9, Try.ntmps9
  go_wp2_with fail
  generalize hV : w.alloc (.cells #[.int .i64 0, .int .i64 r, .int .u8 v, .int .u8 t, .int .i64 cyc] 37) = V at *
  (with_reducible refine (pread_calls V _ 1 g pv s r HP.out HK.out (by decide)).mono ?_)
  rintro e w1 ⟨rfl, pv1, hp1, hc1⟩
  have k1 := k0.chg hc1 (by rw [paint_new (Nat.le_refl _)]; decide)
  have hr1 := HR.out.other hc1 (by decide) (by decide) 1
  have c1 := k1.cell 1
  have l1 := k1.lt
  have ne1 : w.heap.size ≠ w1.heap.size := by omega
  have b1 := Q.alloc (Below.refl _ w1) (.cells #[.int .u8 (s.rd r).1, .int .u8 (s.rd r).2] 23)
  have j1 := Blk.new w1 23 #[.int .u8 (s.rd r).1, .int .u8 (s.rd r).2]
  have HP1 := Lib.hid hp1
  have HC1 := Lib.hid hc1
  have HR1 := Lib.hid (hr1.call b1)
  have HB0 := Lib.hid b0
  have HB1 := Lib.hid b1
  have HV := Lib.hid hV
  have hsz := Nat.le_trans b0.size hc1.size
  have hszV : V.heap.size ≤ w1.heap.size := hc1.size
  clear hp1 hc1 hr1 b0 b1 k0 hV
  go_wp2_with fail
  generalize w1.alloc (.cells #[.int .u8 (s.rd r).1, .int .u8 (s.rd r).2] 23) = V2 at *
  (with_reducible refine (rread_callsF V2 _ 2 x ru s r HR1.out HK.out (by decide)).mono ?_)
  rintro e w2 hpost
  obtain ⟨rfl, ru2, hr2, hc2, hk2⟩ := hpost
  have j2 := j1.chg hc2 (by rw [paint_new hszV]; decide)
  have d0 := j2.cell 0
  have d1 := j2.cell 1
  have l2 := j2.lt
  have HF := Lib.hid (both_finF (F := F) (W := w2.alloc (.cells #[.int .u8 (s.rd r).1, .int .u8 (s.rd r).2] 23)) (pv := pv) (PS.ok_took HK.out r) HB0.out HR0.out HP1.out HC1.out HB1.out hr2 hc2 hk2 HFZ.out (Q.alloc (Below.refl _ _) _))
  clear hr2 hc2 hk2 j1 j2 c1 l1 k1
  go_wp2
  go_returns
  exact ⟨rfl, HF.out⟩
set_option maxHeartbeats 1600000 in
theorem does_writeF (F : Nat → Nat → Prop) (w : World) (col : Nat → Nat) (g x : Nat) (s : PS) (ask r v t cyc : Int) (h0 : ask ≠ 0) (ht : 0 ≤ t) (hb : BothF F w col g x s) :
    Calls Try.prog 9 #[.pointer (some ⟨g, 0, none⟩), .pointer (some ⟨x, 0, none⟩), .agg #[.int .i64 ask, .int .i64 r, .int .u8 v, .int .u8 t, .int .i64 cyc]] w fun e w' => e = .returned (.bool true) ∧ ∃ col', Same w.heap.size col col' ∧ BothF F w' col' g x (s.wrote r v t cyc) ∧ Chg (isOneOrTwo col) w w' ∧ KeepsF F w w' := by
  obtain ⟨hok, ⟨pv, hp⟩, ru, hr, hfz⟩ := hb
  have HFZ := Lib.hid hfz
  clear hfz
  have e0 : (ask == 0) = false := beq_eq_false_iff_ne.2 h0
  have b0 := Q.alloc (Below.refl _ w) (.cells #[.int .i64 ask, .int .i64 r, .int .u8 v, .int .u8 t, .int .i64 cyc] 37)
  have k0 := Blk.new w 37 #[.int .i64 ask, .int .i64 r, .int .u8 v, .int .u8 t, .int .i64 cyc]
  have HP := Lib.hid (hp.new b0 9)
  have HR := Lib.hid (hr.new b0 9)
  have HR0 := Lib.hid hr
  have HK := Lib.hid hok
  have HT := Lib.hid ht
  clear hp hr hok ht h0
  go_enter Try.func9, Try.ntmps9
  go_wp2_with fail
  generalize hV : w.alloc (.cells #[.int .i64 ask, .int .i64 r, .int .u8 v, .int .u8 t, .int .i64 cyc] 37) = V at *
  (with_reducible refine (pwrite_calls V _ 1 g pv s r v t cyc HP.out (by decide)).mono ?_)
  rintro e w1 ⟨rfl, pv1, hp1, hc1⟩
  have k1 := k0.chg hc1 (by rw [paint_new (Nat.le_refl _)]; decide)
  have hr1 := HR.out.other hc1 (by decide) (by decide) 1
  have c1 := k1.cell 1
  have c2 := k1.cell 2
  have c3 := k1.cell 3
  have c4 := k1.cell 4
  have l1 := k1.lt
  have HP1 := Lib.hid hp1
  have HC1 := Lib.hid hc1
  have HR1 := Lib.hid hr1
  have HB0 := Lib.hid b0
  have HV := Lib.hid hV
  clear hp1 hc1 hr1 b0 k0 hV
  go_wp2_with fail
  (with_reducible refine (rwrite_callsF w1 _ 2 x ru s r v t cyc HT.out HR1.out (by decide)).mono ?_)
  rintro e w2 hpost
  obtain ⟨rfl, ru2, hr2, hc2, hk2⟩ := hpost
  have HF := Lib.hid (both_finF (F := F) (pv := pv) (PS.ok_wrote HK.out r v t cyc) HB0.out HR0.out HP1.out HC1.out (Below.refl _ _) hr2 hc2 hk2 HFZ.out (Below.refl _ _))
  clear hr2 hc2 hk2 c1 c2 c3 c4 l1 k1
  go_wp2
  go_returns
  exact ⟨rfl, HF.out⟩
theorem does_callsF (F : Nat → Nat → Prop) (w : World) (col : Nat → Nat) (g x : Nat) (s : PS) (o : POp) (ht : 0 ≤ o.t) (hb : BothF F w col g x s) :
    Calls Try.prog 9 #[.pointer (some ⟨g, 0, none⟩), .pointer (some ⟨x, 0, none⟩), .agg o.cells] w fun e w' => e = .returned (.bool true) ∧ ∃ col', Same w.heap.size col col' ∧ BothF F w' col' g x (s.step o) ∧ Chg (isOneOrTwo col) w w' ∧ KeepsF F w w' := by
  obtain ⟨ask, r, v, t, cyc⟩ := o
  unfold PS.step
  by_cases h0 : ask = 0
  · subst h0
    rw [if_pos rfl]
    exact does_readF F w col g x s r v t cyc hb
  · rw [if_neg h0]
    exact does_writeF F w col g x s ask r v t cyc h0 ht hb
end Go.Proofs.Yteciicojnodibaa
