/- Ports: New, Out, Kept, Log, Left; does. (printed by gen/po8.py) -/
import Derived.Test.YteciicojnodibaaPo7
namespace Go.Proofs.Yteciicojnodibaa
set_option linter.unusedVariables false
set_option linter.unusedSimpArgs false
open Go.RowKit
attribute [local go_sem ↓] Go.wp_at_zero Go.wp_at_succ

theorem pout_calls (w : World) (col : Nat → Nat) (c g : Nat) (v : PV) (s : PS) (hp : IsP w col c g v s) (hs : s.ok) :
    Calls Try.prog 17 #[.pointer (some ⟨g, 0, none⟩)] w fun e w' => ∃ sv, e = .returned sv ∧ w'.ownsRow w.heap.size 5 1 sv s.out.length (EU.row s.out) ∧ Below w.heap.size w w' := by
  have C := clone_U v.out s.out _ w (by have := hs.out; omega) hp.out.rd
  have c0 : w.cell? ⟨g, 2, none⟩ = some v.out := hp.blk.cell 2
  obtain ⟨a, cap, hv, hcap⟩ := own_slice hp.out.1
  rw [hv] at c0 C
  clear hp hs hv
  go_enter Try.func17, Try.ntmps17
  go_wp2_with fail
  (with_reducible refine C.mono ?_)
  rintro e w1 ⟨sv, rfl, ho1, hb1⟩
  have H1 := Lib.hid ho1
  have H2 := Lib.hid hb1
  clear ho1 hb1
  go_wp2
  go_returns
  exact ⟨sv, rfl, H1.out, H2.out⟩
theorem pkept_calls (w : World) (col : Nat → Nat) (c g : Nat) (v : PV) (s : PS) (hp : IsP w col c g v s) (hs : s.ok) :
    Calls Try.prog 18 #[.pointer (some ⟨g, 0, none⟩)] w fun e w' => ∃ sv, e = .returned sv ∧ w'.ownsRow w.heap.size 23 2 sv s.kept.length (EB.row s.kept) ∧ Below w.heap.size w w' := by
  have C := clone_B v.kept s.kept _ w (by have := hs.kept; omega) hp.kept.rd
  have c0 : w.cell? ⟨g, 3, none⟩ = some v.kept := hp.blk.cell 3
  obtain ⟨a, cap, hv, hcap⟩ := own_slice hp.kept.1
  rw [hv] at c0 C
  clear hp hs hv
  go_enter Try.func18, Try.ntmps18
  go_wp2_with fail
  (with_reducible refine C.mono ?_)
  rintro e w1 ⟨sv, rfl, ho1, hb1⟩
  have H1 := Lib.hid ho1
  have H2 := Lib.hid hb1
  clear ho1 hb1
  go_wp2
  go_returns
  exact ⟨sv, rfl, H1.out, H2.out⟩
theorem plog_calls (w : World) (col : Nat → Nat) (c g : Nat) (v : PV) (s : PS) (hp : IsP w col c g v s) (hs : s.ok) :
    Calls Try.prog 19 #[.pointer (some ⟨g, 0, none⟩)] w fun e w' => ∃ sv, e = .returned sv ∧ w'.ownsRow w.heap.size 58 2 sv s.log.length (EE.row s.log) ∧ Below w.heap.size w w' := by
  have C := clone_E v.log s.log _ w (by have := hs.log; omega) hp.log.rd
  have c0 : w.cell? ⟨g, 4, none⟩ = some v.log := hp.blk.cell 4
  obtain ⟨a, cap, hv, hcap⟩ := own_slice hp.log.1
  rw [hv] at c0 C
  clear hp hs hv
  go_enter Try.func19, Try.ntmps19
  go_wp2_with fail
  (with_reducible refine C.mono ?_)
  rintro e w1 ⟨sv, rfl, ho1, hb1⟩
  have H1 := Lib.hid ho1
  have H2 := Lib.hid hb1
  clear ho1 hb1
  go_wp2
  go_returns
  exact ⟨sv, rfl, H1.out, H2.out⟩
def PS.left (s : PS) (r : Int) : Int := if r = 0 then s.pub.length else if r = 1 then s.sec.length else 0
theorem pleft_calls (w : World) (col : Nat → Nat) (c g : Nat) (v : PV) (s : PS) (r : Int) (hp : IsP w col c g v s) :
    Calls Try.prog 20 #[.pointer (some ⟨g, 0, none⟩), .int .i64 r] w fun e w' => e = .returned (.int .i64 (s.left r)) ∧ w' = w := by
  have c0 : w.cell? ⟨g, 0, none⟩ = some v.pub := hp.blk.cell 0
  have c1 : w.cell? ⟨g, 1, none⟩ = some v.sec := hp.blk.cell 1
  obtain ⟨a, cap, hv, -⟩ := hp.pub
  obtain ⟨a2, cap2, hv2, -⟩ := hp.sec
  rw [hv] at c0
  rw [hv2] at c1
  clear hp hv hv2
  by_cases h0 : r = 0
  · subst h0
    rw [show s.left 0 = s.pub.length from rfl]
    go_enter Try.func20, Try.ntmps20
    go_wp2
    go_returns
    exact ⟨rfl, rfl⟩
  by_cases h1 : r = 1
  · subst h1
    rw [show s.left 1 = s.sec.length from rfl]
    go_enter Try.func20, Try.ntmps20
    go_wp2
    go_returns
    exact ⟨rfl, rfl⟩
  · rw [show s.left r = 0 by unfold PS.left; rw [if_neg h0, if_neg h1]]
    have e0 : (r == 0) = false := beq_eq_false_iff_ne.2 h0
    have e1 : (r == 1) = false := beq_eq_false_iff_ne.2 h1
    go_enter Try.func20, Try.ntmps20
    go_wp2
    go_returns
    exact ⟨rfl, rfl⟩
theorem new_long (x y : Value) (m n cm cn : Nat) (a b : Option Addr) (w : World) (hx : x = .slice a m cm) (hy : y = .slice b n cn) (h : 65536 < m ∨ 65536 < n) :
    Calls Try.prog 8 #[x, y] w fun e w' => e = .returned (.tuple #[.pointer none, .int .i64 12]) ∧ w' = w := by
  subst hx hy
  by_cases h1 : 65536 < m
  · have h1' : (65536 : Int) < (m : Int) := by omega
    go_enter Try.func8, Try.ntmps8
    go_wp2
    go_returns
    exact ⟨rfl, rfl⟩
  · have h1' : ¬ (65536 : Int) < (m : Int) := by omega
    have h2' : (65536 : Int) < (n : Int) := by omega
    go_enter Try.func8, Try.ntmps8
    go_wp2
    go_returns
    exact ⟨rfl, rfl⟩
theorem own_sub {w : World} {B e size n : Nat} {v : Value} {xs : List Value} (h : w.ownsRow B e size v n xs) (hB : B ≤ B) : w.ownsRow B e size v n xs := h
/-- New: ports of c's; what was there keeps its owner; what is read lies in new blocks. -/
theorem new_calls (x y : Value) (xs ys : List Int) (R : Nat → Prop) (w : World) (hx : Rd EU w R x xs) (hy : Rd EU w R y ys) (h1 : xs.length ≤ 65536) (h2 : ys.length ≤ 65536) (c : Nat) (h0 : c ≠ 0) (col : Nat → Nat) :
    Calls Try.prog 8 #[x, y] w fun e w' => ∃ g, e = .returned (.tuple #[.pointer (some ⟨g, 0, none⟩), .int .i64 0]) ∧ w.heap.size ≤ g ∧ Below w.heap.size w w' ∧ ∃ v, IsP w' (fun b => if b < w.heap.size then col b else if b = g then c else 0) c g v ⟨xs, ys, [], [], []⟩ := by
  have hy' := hy
  have hx' := hx
  obtain ⟨a, cap, rfl, -⟩ := hx
  obtain ⟨a2, cap2, rfl, -⟩ := hy
  have h1' : ¬ (65536 : Int) < (xs.length : Int) := by omega
  have h2' : ¬ (65536 : Int) < (ys.length : Int) := by omega
  have HX := Lib.hid hx'
  have HY := Lib.hid hy'
  clear hx' hy'
  go_enter Try.func8, Try.ntmps8
  go_wp2_with fail
  (with_reducible refine (clone_U _ xs R w (by omega) HX.out).mono ?_)
  rintro e w1 ⟨sv1, rfl, ho1, hb1⟩
  obtain ⟨a3, c3, rfl, -⟩ := own_slice ho1
  have HO1 := Lib.hid ho1
  clear ho1
  go_wp2_with fail
  (with_reducible refine (clone_U _ ys R w1 (by omega) (HY.out.below hb1)).mono ?_)
  rintro e w2 ⟨sv2, rfl, ho2, hb2⟩
  obtain ⟨a4, c4, rfl, -⟩ := own_slice ho2
  have HO2 := Lib.hid ho2
  have HB1 := Lib.hid hb1
  have HB2 := Lib.hid hb2
  clear ho2 hb1 hb2
  go_wp2_with fail
  go_returns
  have B1 := HB1.out
  have B2 := Q.call B1 HB2.out
  have B3 := Q.alloc B2 (.cells #[.slice a3 xs.length c3, .slice a4 ys.length c4, .slice none 0 0, .slice none 0 0, .slice none 0 0] 64)
  have hA : Below w2.heap.size w2 (w2.alloc (.cells #[.slice a3 xs.length c3, .slice a4 ys.length c4, .slice none 0 0, .slice none 0 0, .slice none 0 0] 64)) := Q.alloc (Below.refl _ _) _
  have s12 := HB2.out.size
  have s01 := HB1.out.size
  have o1 := HO1.out
  have o2 := HO2.out
  have o1' := own_keep o1 (fun b _ hb => HB2.out.block b hb) s12
  have o1'' := own_keep o1' (fun b _ hb => hA.block b hb) hA.size
  have o2' := own_keep o2 (fun b _ hb => hA.block b hb) hA.size
  refine ⟨w2.heap.size, rfl, by omega, B3, ⟨.slice a3 xs.length c3, .slice a4 ys.length c4, .slice none 0 0, .slice none 0 0, .slice none 0 0⟩, ⟨Blk.new _ _ _, ?_, ?_, ?_, Ow.nil _ _ _ _, Ow.nil _ _ _ _, Ow.nil _ _ _ _⟩⟩
  · rw [if_neg (by omega), if_pos rfl]
  · refine Ow.rd (T := 5) ⟨own_lower o1'' (Nat.zero_le _), fun b hb => ?_⟩
    have l1 := own_lt o1' hb
    show (if b < w.heap.size then col b else if b = w2.heap.size then c else 0) = 0
    rw [if_neg (by omega), if_neg (by omega)]
  · refine Ow.rd (T := 5) ⟨own_lower o2' (Nat.zero_le _), fun b hb => ?_⟩
    have l1 := own_lt o2 hb
    show (if b < w.heap.size then col b else if b = w2.heap.size then c else 0) = 0
    rw [if_neg (by omega), if_neg (by omega)]

/-- Both have the same, and do the same. -/
def Both (w : World) (col : Nat → Nat) (g x : Nat) (s : PS) : Prop := s.ok ∧ (∃ v, IsP w col 1 g v s) ∧ ∃ u, IsR w col 2 x u s
theorem PS.ok_took {s : PS} (h : s.ok) (r : Int) : (s.took r).ok := by
  unfold PS.took
  split
  · exact ⟨by have := h.pub; simp only [List.length_tail]; omega, h.sec, h.out, h.kept, h.log⟩
  · split
    · exact ⟨h.pub, by have := h.sec; simp only [List.length_tail]; omega, h.out, h.kept, h.log⟩
    · exact h
theorem PS.ok_wrote {s : PS} (h : s.ok) (r b t cyc : Int) : (s.wrote r b t cyc).ok := by
  have h1 := h.out
  have h2 := h.kept
  have h3 := h.log
  unfold PS.wrote
  split
  · exact h
  · rename_i he
    have he0 : s.wErr r t = 0 := Classical.not_not.1 he
    have hf : ¬ ((r = 2 ∧ 4096 ≤ s.out.length) ∨ (r = 3 ∧ 4096 ≤ s.kept.length) ∨ (r = 4 ∧ 4096 ≤ s.log.length)) := by
      intro hf
      unfold PS.wErr at he0
      rw [if_pos hf] at he0
      split at he0
      · exact absurd he0 (by decide)
      · split at he0 <;> exact absurd he0 (by decide)
    split
    · exact ⟨h.pub, h.sec, by simp only [List.length_append, List.length_singleton]; omega, h2, h3⟩
    · split
      · exact ⟨h.pub, h.sec, h1, by simp only [List.length_append, List.length_singleton]; omega, h3⟩
      · split
        · exact ⟨h.pub, h.sec, h1, h2, by simp only [List.length_append, List.length_singleton]; omega⟩
        · exact h
/-- A call. -/
structure POp where
  ask : Int
  reg : Int
  v : Int
  t : Int
  cyc : Int
@[reducible] def POp.cells (o : POp) : Array Value := #[.int .i64 o.ask, .int .i64 o.reg, .int .u8 o.v, .int .u8 o.t, .int .i64 o.cyc]
def PS.step (s : PS) (o : POp) : PS := if o.ask = 0 then s.took o.reg else s.wrote o.reg o.v o.t o.cyc
theorem PS.ok_step {s : PS} (h : s.ok) (o : POp) : (s.step o).ok := by
  unfold PS.step
  split
  · exact PS.ok_took h _
  · exact PS.ok_wrote h _ _ _ _
/-- Who has what: what was there keeps its owner, what is new may be anybody's. -/
def Same (n : Nat) (col col' : Nat → Nat) : Prop := ∀ b, b < n → col' b = col b
theorem IsP.recol {w : World} {col col' : Nat → Nat} {c g : Nat} {v : PV} {s : PS} (h : IsP w col c g v s) (hs : Same w.heap.size col col') : IsP w col' c g v s := h.keep (fun b hb _ => ⟨rfl, hs b hb⟩) (Nat.le_refl _)
theorem IsR.recol {w : World} {col col' : Nat → Nat} {c g : Nat} {v : RV} {s : PS} (h : IsR w col c g v s) (hs : Same w.heap.size col col') : IsR w col' c g v s := h.keep (fun b hb _ => ⟨rfl, hs b hb⟩) (Nat.le_refl _)
def isOneOrTwo (col : Nat → Nat) (b : Nat) : Prop := col b = 1 ∨ col b = 2
theorem Chg.trans2 {S S1 S2 : Nat → Prop} {w w1 w2 : World} (h : Chg S1 w w1) (k : Chg S2 w1 w2) (h1 : ∀ b, b < w.heap.size → S1 b → S b) (h2 : ∀ b, b < w.heap.size → S2 b → S b) : Chg S w w2 :=
  ⟨k.os.trans h.os, k.tape.trans h.tape, k.output.trans h.output, Nat.le_trans h.size k.size, fun b hb hs => (k.block b (Nat.lt_of_lt_of_le hb h.size) (fun e => hs (h2 b hb e))).trans (h.block b hb (fun e => hs (h1 b hb e)))⟩
/-- Both behind a call upon one, then upon the other one. -/
theorem both_fin {w V w1 V2 w2 W : World} {col : Nat → Nat} {g x : Nat} {s s' : PS} {pv pv1 : PV} {ru ru2 : RV} (hok : s'.ok) (hV : Below w.heap.size w V) (hr : IsR w col 2 x ru s)
    (hp1 : IsP w1 (paint (paint col w.heap.size 9) V.heap.size 1) 1 g pv1 s') (hc1 : Chg (fun b => paint col w.heap.size 9 b = 1) V w1) (hV2 : Below w1.heap.size w1 V2)
    (hr2 : IsR w2 (paint (paint (paint col w.heap.size 9) V.heap.size 1) V2.heap.size 2) 2 x ru2 s') (hc2 : Chg (fun b => paint (paint col w.heap.size 9) V.heap.size 1 b = 2) V2 w2) (hW : Below w2.heap.size w2 W) :
    ∃ col', Same w.heap.size col col' ∧ Both W col' g x s' ∧ Chg (isOneOrTwo col) w W := by
  have s1 := hV.size
  have s2 := hc1.size
  have s3 := hV2.size
  have s4 := hc2.size
  refine ⟨paint (paint (paint col w.heap.size 9) V.heap.size 1) V2.heap.size 2, ?_, ⟨hok, ⟨pv1, ?_⟩, ru2, hr2.call hW⟩, ?_⟩
  · intro b hb
    rw [paint_old (by omega), paint_old (by omega), paint_old hb]
  · exact ((hp1.call hV2).other hc2 (by decide) (by decide) 2).call hW
  · have a1 : Chg (isOneOrTwo col) w w1 := (Chg.of (S := fun _ => False) hV).trans2 hc1 (fun _ _ h => h.elim) (fun b hb h => by rw [paint_old hb] at h; exact .inl h)
    have a2 : Chg (isOneOrTwo col) w w2 := (a1.trans (.of hV2)).trans2 hc2 (fun _ _ h => h) (fun b hb h => by rw [paint_old (by omega), paint_old hb] at h; exact .inr h)
    exact a2.trans (.of hW)
theorem same9 (col : Nat → Nat) (n m : Nat) (h : n ≤ m) : Same n col (paint col m 9) := fun b hb => paint_old (by omega)
set_option maxHeartbeats 1600000 in
theorem does_read (w : World) (col : Nat → Nat) (g x : Nat) (s : PS) (r v t cyc : Int) (hb : Both w col g x s) :
    Calls Try.prog 9 #[.pointer (some ⟨g, 0, none⟩), .pointer (some ⟨x, 0, none⟩), .agg #[.int .i64 0, .int .i64 r, .int .u8 v, .int .u8 t, .int .i64 cyc]] w fun e w' => e = .returned (.bool true) ∧ ∃ col', Same w.heap.size col col' ∧ Both w' col' g x (s.took r) ∧ Chg (isOneOrTwo col) w w' := by
  obtain ⟨hok, ⟨pv, hp⟩, ru, hr⟩ := hb
  have b0 := Q.alloc (Below.refl _ w) (.cells #[.int .i64 0, .int .i64 r, .int .u8 v, .int .u8 t, .int .i64 cyc] 37)
  have k0 := Blk.new w 37 #[.int .i64 0, .int .i64 r, .int .u8 v, .int .u8 t, .int .i64 cyc]
  have HP := Lib.hid (hp.new b0 9)
  have HR := Lib.hid (hr.new b0 9)
  have HR0 := Lib.hid hr
  have HK := Lib.hid hok
  clear hp hr hok
  go_enter Try.func9, Try.ntmps9
  go_wp2_with fail
  generalize hV : w.alloc (.cells #[.int .i64 0, .int .i64 r, .int .u8 v, .int .u8 t, .int .i64 cyc] 37) = V at *
  (with_reducible refine (pread_calls V _ 1 g pv s r HP.out HK.out (by decide)).mono ?_)
  rintro e w1 ⟨rfl, pv1, hp1, hc1⟩
  have k1 := k0.chg hc1 (by rw [paint_new (Nat.le_refl _)]; decide)
  have hr1 := HR.out.other hc1 (by decide) (by decide) 1
  have c1 := k1.cell 1
  have l1 := k1.lt
  have ne1 : w.heap.size ≠ w1.heap.size := by omega
  have b1 := Q.alloc (Below.refl _ w1) (.cells #[.int .u8 (s.rd r).1, .int .u8 (s.rd r).2] 23)
  have j1 := Blk.new w1 23 #[.int .u8 (s.rd r).1, .int .u8 (s.rd r).2]
  have HP1 := Lib.hid hp1
  have HC1 := Lib.hid hc1
  have HR1 := Lib.hid (hr1.call b1)
  have HB0 := Lib.hid b0
  have HB1 := Lib.hid b1
  have HV := Lib.hid hV
  have hsz := Nat.le_trans b0.size hc1.size
  have hszV : V.heap.size ≤ w1.heap.size := hc1.size
  clear hp1 hc1 hr1 b0 b1 k0 hV
  go_wp2_with fail
  generalize w1.alloc (.cells #[.int .u8 (s.rd r).1, .int .u8 (s.rd r).2] 23) = V2 at *
  (with_reducible refine (rread_calls V2 _ 2 x ru s r HR1.out HK.out (by decide)).mono ?_)
  rintro e w2 hpost
  obtain ⟨rfl, ru2, hr2, hc2⟩ := hpost
  have j2 := j1.chg hc2 (by rw [paint_new hszV]; decide)
  have d0 := j2.cell 0
  have d1 := j2.cell 1
  have l2 := j2.lt
  have HF := Lib.hid (both_fin (W := w2.alloc (.cells #[.int .u8 (s.rd r).1, .int .u8 (s.rd r).2] 23)) (pv := pv) (PS.ok_took HK.out r) HB0.out HR0.out HP1.out HC1.out HB1.out hr2 hc2 (Q.alloc (Below.refl _ _) _))
  clear hr2 hc2 j1 j2 c1 l1 k1
  go_wp2
  go_returns
  exact ⟨rfl, HF.out⟩
set_option maxHeartbeats 1600000 in
theorem does_write (w : World) (col : Nat → Nat) (g x : Nat) (s : PS) (ask r v t cyc : Int) (h0 : ask ≠ 0) (ht : 0 ≤ t) (hb : Both w col g x s) :
    Calls Try.prog 9 #[.pointer (some ⟨g, 0, none⟩), .pointer (some ⟨x, 0, none⟩), .agg #[.int .i64 ask, .int .i64 r, .int .u8 v, .int .u8 t, .int .i64 cyc]] w fun e w' => e = .returned (.bool true) ∧ ∃ col', Same w.heap.size col col' ∧ Both w' col' g x (s.wrote r v t cyc) ∧ Chg (isOneOrTwo col) w w' := by
  obtain ⟨hok, ⟨pv, hp⟩, ru, hr⟩ := hb
  have e0 : (ask == 0) = false := beq_eq_false_iff_ne.2 h0
  have b0 := Q.alloc (Below.refl _ w) (.cells #[.int .i64 ask, .int .i64 r, .int .u8 v, .int .u8 t, .int .i64 cyc] 37)
  have k0 := Blk.new w 37 #[.int .i64 ask, .int .i64 r, .int .u8 v, .int .u8 t, .int .i64 cyc]
  have HP := Lib.hid (hp.new b0 9)
  have HR := Lib.hid (hr.new b0 9)
  have HR0 := Lib.hid hr
  have HK := Lib.hid hok
  have HT := Lib.hid ht
  clear hp hr hok ht h0
  go_enter Try.func9, Try.ntmps9
  go_wp2_with fail
  generalize hV : w.alloc (.cells #[.int .i64 ask, .int .i64 r, .int .u8 v, .int .u8 t, .int .i64 cyc] 37) = V at *
  (with_reducible refine (pwrite_calls V _ 1 g pv s r v t cyc HP.out (by decide)).mono ?_)
  rintro e w1 ⟨rfl, pv1, hp1, hc1⟩
  have k1 := k0.chg hc1 (by rw [paint_new (Nat.le_refl _)]; decide)
  have hr1 := HR.out.other hc1 (by decide) (by decide) 1
  have c1 := k1.cell 1
  have c2 := k1.cell 2
  have c3 := k1.cell 3
  have c4 := k1.cell 4
  have l1 := k1.lt
  have HP1 := Lib.hid hp1
  have HC1 := Lib.hid hc1
  have HR1 := Lib.hid hr1
  have HB0 := Lib.hid b0
  have HV := Lib.hid hV
  clear hp1 hc1 hr1 b0 k0 hV
  go_wp2_with fail
  (with_reducible refine (rwrite_calls w1 _ 2 x ru s r v t cyc HT.out HR1.out (by decide)).mono ?_)
  rintro e w2 hpost
  obtain ⟨rfl, ru2, hr2, hc2⟩ := hpost
  have HF := Lib.hid (both_fin (pv := pv) (PS.ok_wrote HK.out r v t cyc) HB0.out HR0.out HP1.out HC1.out (Below.refl _ _) hr2 hc2 (Below.refl _ _))
  clear hr2 hc2 c1 c2 c3 c4 l1 k1
  go_wp2
  go_returns
  exact ⟨rfl, HF.out⟩
theorem does_calls (w : World) (col : Nat → Nat) (g x : Nat) (s : PS) (o : POp) (ht : 0 ≤ o.t) (hb : Both w col g x s) :
    Calls Try.prog 9 #[.pointer (some ⟨g, 0, none⟩), .pointer (some ⟨x, 0, none⟩), .agg o.cells] w fun e w' => e = .returned (.bool true) ∧ ∃ col', Same w.heap.size col col' ∧ Both w' col' g x (s.step o) ∧ Chg (isOneOrTwo col) w w' := by
  obtain ⟨ask, r, v, t, cyc⟩ := o
  unfold PS.step
  by_cases h0 : ask = 0
  · subst h0
    rw [if_pos rfl]
    exact does_read w col g x s r v t cyc hb
  · rw [if_neg h0]
    exact does_write w col g x s ask r v t cyc h0 ht hb
end Go.Proofs.Yteciicojnodibaa
