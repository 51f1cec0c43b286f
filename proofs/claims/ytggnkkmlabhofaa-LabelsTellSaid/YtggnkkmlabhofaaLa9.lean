/- Policies: one that is the same as another one. (printed by gen/la9.py) -/
import Derived.Test.YtggnkkmlabhofaaLa4
import Derived.Deep.RegionWith
namespace Go.Proofs.Ytggnkkmlabhofaa
set_option linter.unusedVariables false
set_option linter.unusedSimpArgs false
open Go.RowKit Go.Sort Go.Shelf Go.Lib
attribute [local go_sem ↓] Go.wp_at_zero Go.wp_at_succ

set_option maxHeartbeats 1000000 in
theorem neq_span (f t b : Int) (w : World) : (binOp .neq 53 (.agg #[.int .i64 f, .int .i64 t, .int .u8 b]) (.agg #[.int .i64 f, .int .i64 t, .int .u8 b])).run Try.prog w = .ok (.bool false) w := by
  have h : ∀ d : Nat, (Op.equalIn (d + 2) 53 (.agg #[.int .i64 f, .int .i64 t, .int .u8 b]) (.agg #[.int .i64 f, .int .i64 t, .int .u8 b])).run Try.prog w = .ok true w := fun d => by
    simp [Op.equalIn, part, isAgg, go_sem, run_underlying Try.underlying53, run_underlying Try.underlying3, run_underlying Try.underlying5]
  have hm : Try.prog.eqGuardType Try.prog.depth 53 = false := by kernel_rfl
  simp only [binOp, Sem.run_bind, run_eqGuard_agg _ _ _ _ _ _ _ hm, Result.andThen_ok]
  simp [Op.equal, Op.maxDepth, h 9998]
attribute [local go_sem high] neq_span
set_option maxHeartbeats 1600000 in
theorem equal_true (w : World) (R R2 : Nat → Prop) (v v2 : Value) (l : List Sp) (h1 : Rd ES w R v l) (h2 : Rd ES w R2 v2 l) (hl : l.length ≤ 1000) : Calls Try.prog 27 #[v, v2] w fun e w' => e = .returned (.bool true) ∧ Below w.heap.size w w' := by
  have H1 := Lib.hid h1
  have H2 := Lib.hid h2
  obtain ⟨a, cap, rfl, _, _, -⟩ := h1
  obtain ⟨a2, cap2, rfl, _, _, -⟩ := h2
  go_enter Try.func27, Try.ntmps27
  go_wp2_with fail
  go_loopg [13] l.length (fun kx s13 wr => ∃ i : Nat, s13 = .int .i64 i ∧ i ≤ l.length ∧ l.length - i ≤ kx ∧ Aside (Below w.heap.size w wr))
  case atStart => exact ⟨0, rfl, Nat.zero_le _, Nat.le_refl _, Below.refl _ _⟩
  case round =>
    obtain ⟨i, rfl, hil, hk, B1⟩ := hrel
    by_cases hlt : i < l.length
    · have hltz : (i : Int) < (l.length : Int) := by omega
      obtain ⟨b0, off, ha, hb0, -, hcell⟩ := (H1.out.below B1.out).cells hlt
      obtain ⟨b2, off2, ha2, hb2, -, hcell2⟩ := (H2.out.below B1.out).cells hlt
      subst ha
      subst ha2
      obtain ⟨y, hy⟩ : ∃ y, l[i]? = some y := ⟨l[i], List.getElem?_eq_getElem hlt⟩
      have c0 : ∀ z : BW wr, z.val.cell? ⟨b0, off + i * 3, none⟩ = some (.int .i64 y.f) := fun z => (z.has.cell (p := ⟨b0, _, none⟩) hb0).trans (hcell i y hy 0 _ rfl)
      have c1 : ∀ z : BW wr, z.val.cell? ⟨b0, off + i * 3 + 1, none⟩ = some (.int .i64 y.t) := fun z => (z.has.cell (p := ⟨b0, _, none⟩) hb0).trans (hcell i y hy 1 _ rfl)
      have c2 : ∀ z : BW wr, z.val.cell? ⟨b0, off + i * 3 + 2, none⟩ = some (.int .u8 y.b) := fun z => (z.has.cell (p := ⟨b0, _, none⟩) hb0).trans (hcell i y hy 2 _ rfl)
      have d0 : ∀ z : BW wr, z.val.cell? ⟨b2, off2 + i * 3, none⟩ = some (.int .i64 y.f) := fun z => (z.has.cell (p := ⟨b2, _, none⟩) hb2).trans (hcell2 i y hy 0 _ rfl)
      have d1 : ∀ z : BW wr, z.val.cell? ⟨b2, off2 + i * 3 + 1, none⟩ = some (.int .i64 y.t) := fun z => (z.has.cell (p := ⟨b2, _, none⟩) hb2).trans (hcell2 i y hy 1 _ rfl)
      have d2 : ∀ z : BW wr, z.val.cell? ⟨b2, off2 + i * 3 + 2, none⟩ = some (.int .u8 y.b) := fun z => (z.has.cell (p := ⟨b2, _, none⟩) hb2).trans (hcell2 i y hy 2 _ rfl)
      clear hy hcell hcell2 hb0 hb2
      generalize y.f = yf at c0 d0
      generalize y.t = yt at c1 d1
      generalize y.b = yb at c2 d2
      go_wp2_with fail
      refine wp_region_below (by kernel_rfl) (by kernel_rfl) ?_
      repeat (go_big_quiet_step (fail))
      refine wpQuiet_nil ?_
      first | (intro w9 hw9; obtain ⟨y1, rfl⟩ := hw9) | intro y1
      clear c0 c1 c2 d0 d1 d2
      go_wp2_with fail
      go_roundg (l.length - (i + 1))
      case measure => exact Nat.lt_of_lt_of_le (Nat.sub_lt_sub_left hlt (Nat.lt_succ_self i)) hk
      case rel => exact ⟨i + 1, by go_num, by omega, Nat.le_refl _, Q.call B1.out y1.has⟩
    · have hltz : ¬ (i : Int) < (l.length : Int) := by omega
      go_wp2_with fail
      go_ret
      exact ⟨rfl, B1.out⟩
theorem psorted_eq3 (w : World) (R : Nat → Prop) (sv mv : Value) (s m : List Sp) (dc tr : Int) (hs : Rd ES w R sv s) (hm : Rd ES w R mv m) (ls : s.length ≤ 1000) (lm : m.length ≤ 1000) :
    Calls Try.prog 19 #[.agg #[sv, mv, .int .i64 dc, .int .i64 tr]] w fun e w' => ∃ a c a' c', e = .returned (.agg #[.slice a s.length c, .slice a' m.length c', .int .i64 dc, .int .i64 tr]) ∧ Rd ES w' (fun b => w.heap.size ≤ b) (.slice a s.length c) (srt s) ∧ Rd ES w' (fun b => w.heap.size ≤ b) (.slice a' m.length c') (srt m) ∧ Below w.heap.size w w' := by
  refine (psorted_eq w R sv mv s m dc tr hs hm ls lm).mono ?_
  rintro e w' ⟨v1, v2, rfl, h1, h2, hb⟩
  have k1 := h1
  have k2 := h2
  obtain ⟨a, c, rfl, _, _, _⟩ := h1
  obtain ⟨a', c', rfl, _, _, _⟩ := h2
  rw [srt_length] at k1 k2 ⊢
  rw [srt_length]
  exact ⟨a, c, a', c', rfl, k1, k2, hb⟩
set_option maxHeartbeats 8000000 in
set_option maxRecDepth 100000 in
/-- policy.Same of two that hold the same. -/
theorem same_true (w : World) (R R2 : Nat → Prop) (sv mv sv2 mv2 : Value) (s m s2 m2 : List Sp) (dc tr : Int) (hs : Rd ES w R sv s) (hm : Rd ES w R mv m) (hs2 : Rd ES w R2 sv2 s2) (hm2 : Rd ES w R2 mv2 m2) (ls : s.length ≤ 1000) (lm : m.length ≤ 1000) (ls2 : s2.length ≤ 1000) (lm2 : m2.length ≤ 1000) (es : srt s = srt s2) (em : srt m = srt m2) :
    Calls Try.prog 13 #[.agg #[sv, mv, .int .i64 dc, .int .i64 tr], .agg #[sv2, mv2, .int .i64 dc, .int .i64 tr]] w fun e w' => e = .returned (.bool true) ∧ Below w.heap.size w w' := by
  have S1 := fun (V : World) (h : Below w.heap.size w V) => psorted_eq3 V R sv mv s m dc tr (hs.below h) (hm.below h) ls lm
  have S2 := fun (V : World) (h : Below w.heap.size w V) => psorted_eq3 V R2 sv2 mv2 s2 m2 dc tr (hs2.below h) (hm2.below h) ls2 lm2
  obtain ⟨sa, sc, rfl, _, _, _⟩ := hs
  obtain ⟨ma, mc, rfl, _, _, _⟩ := hm
  obtain ⟨sb, sd, rfl, _, _, _⟩ := hs2
  obtain ⟨mb, md, rfl, _, _, _⟩ := hm2
  obtain ⟨W, hW⟩ : ∃ W, W = (w.alloc (.cells #[.slice sa s.length sc, .slice ma m.length mc, .int .i64 dc, .int .i64 tr] 24)).alloc (.cells #[.slice sb s2.length sd, .slice mb m2.length md, .int .i64 dc, .int .i64 tr] 24) := ⟨_, rfl⟩
  obtain ⟨hp, hhp⟩ : ∃ hp, hp = w.heap.size := ⟨_, rfl⟩
  obtain ⟨hq, hhq⟩ : ∃ hq, hq = w.heap.size + 1 := ⟨_, rfl⟩
  have HP := Lib.hid (show Blk W hp 24 #[.slice sa s.length sc, .slice ma m.length mc, .int .i64 dc, .int .i64 tr] from by rw [hW]; exact Blk.alloc (Blk.new' hhp) _)
  have HQ := Lib.hid (show Blk W hq 24 #[.slice sb s2.length sd, .slice mb m2.length md, .int .i64 dc, .int .i64 tr] from by rw [hW]; exact Blk.new' (by rw [hhq]; simp))
  have HB := Lib.hid (show Below w.heap.size w W from by rw [hW]; exact Q.alloc (Q.alloc (Below.refl _ _) _) _)
  have hne : hp ≠ hq := by omega
  have HZ : Aside (w.heap.size ≤ hp ∧ w.heap.size ≤ hq ∧ W.heap.size = w.heap.size + 2 ∧ hp < W.heap.size ∧ hq < W.heap.size) := by
    have : W.heap.size = w.heap.size + 2 := by rw [hW]; simp
    exact ⟨by omega, by omega, this, by omega, by omega⟩
  have p0 : W.cell? ⟨hp, 0, none⟩ = some (.slice sa s.length sc) := HP.out.cell 0
  have p1 : W.cell? ⟨hp, 1, none⟩ = some (.slice ma m.length mc) := HP.out.cell 1
  have p2 : W.cell? ⟨hp, 2, none⟩ = some (.int .i64 dc) := HP.out.cell 2
  have p3 : W.cell? ⟨hp, 3, none⟩ = some (.int .i64 tr) := HP.out.cell 3
  have pf0 : W.frozen? ⟨hp, 0, none⟩ = false := HP.out.frozen 0
  have pf1 : W.frozen? ⟨hp, 1, none⟩ = false := HP.out.frozen 1
  have pf2 : W.frozen? ⟨hp, 2, none⟩ = false := HP.out.frozen 2
  have pf3 : W.frozen? ⟨hp, 3, none⟩ = false := HP.out.frozen 3
  have q0 : W.cell? ⟨hq, 0, none⟩ = some (.slice sb s2.length sd) := HQ.out.cell 0
  have q1 : W.cell? ⟨hq, 1, none⟩ = some (.slice mb m2.length md) := HQ.out.cell 1
  have q2 : W.cell? ⟨hq, 2, none⟩ = some (.int .i64 dc) := HQ.out.cell 2
  have q3 : W.cell? ⟨hq, 3, none⟩ = some (.int .i64 tr) := HQ.out.cell 3
  have qf0 : W.frozen? ⟨hq, 0, none⟩ = false := HQ.out.frozen 0
  have qf1 : W.frozen? ⟨hq, 1, none⟩ = false := HQ.out.frozen 1
  have qf2 : W.frozen? ⟨hq, 2, none⟩ = false := HQ.out.frozen 2
  have qf3 : W.frozen? ⟨hq, 3, none⟩ = false := HQ.out.frozen 3
  have hpl := HP.out.lt
  have hql := HQ.out.lt
  have HES := Lib.hid es
  have HEM := Lib.hid em
  clear es em
  go_enter Try.func13, Try.ntmps13
  go_wp2_with fail
  rw [← hW, ← hhq, ← hhp]
  clear hW hhp hhq
  go_region_with (first
    | (go_at_call 19; (with_reducible refine (S1 _ (Q.call HB.out (by repeat' (first | with_reducible exact Below.refl _ _ | with_reducible assumption | with_reducible refine Q.alloc ?_ _ | with_reducible refine Q.drew ?_ | with_reducible refine Q.drewN ?_ _ | with_reducible refine Q.call ?_ (by assumption))))).mono ?_); rintro e wa ⟨a1, n1, a2, n2, rfl, hr1, hr2, hb1⟩; have Pwa := HP.out.call (show Below W.heap.size W wa from (by repeat' (first | with_reducible exact Below.refl _ _ | with_reducible assumption | with_reducible refine Q.alloc ?_ _ | with_reducible refine Q.drew ?_ | with_reducible refine Q.drewN ?_ _ | with_reducible refine Q.call ?_ (by assumption)))); have Qwa := HQ.out.call (show Below W.heap.size W wa from (by repeat' (first | with_reducible exact Below.refl _ _ | with_reducible assumption | with_reducible refine Q.alloc ?_ _ | with_reducible refine Q.drew ?_ | with_reducible refine Q.drewN ?_ _ | with_reducible refine Q.call ?_ (by assumption)))); have zpwa : hp < wa.heap.size := Pwa.lt; have zqwa : hq < wa.heap.size := Qwa.lt; have kpwa0 : wa.cell? ⟨hp, 0, none⟩ = some (.slice sa s.length sc) := Pwa.cell 0; have kpwa1 : wa.cell? ⟨hp, 1, none⟩ = some (.slice ma m.length mc) := Pwa.cell 1; have kpwa2 : wa.cell? ⟨hp, 2, none⟩ = some (.int .i64 dc) := Pwa.cell 2; have kpwa3 : wa.cell? ⟨hp, 3, none⟩ = some (.int .i64 tr) := Pwa.cell 3; have kpwaf0 : wa.frozen? ⟨hp, 0, none⟩ = false := Pwa.frozen 0; have kpwaf1 : wa.frozen? ⟨hp, 1, none⟩ = false := Pwa.frozen 1; have kpwaf2 : wa.frozen? ⟨hp, 2, none⟩ = false := Pwa.frozen 2; have kpwaf3 : wa.frozen? ⟨hp, 3, none⟩ = false := Pwa.frozen 3; have kqwa0 : wa.cell? ⟨hq, 0, none⟩ = some (.slice sb s2.length sd) := Qwa.cell 0; have kqwa1 : wa.cell? ⟨hq, 1, none⟩ = some (.slice mb m2.length md) := Qwa.cell 1; have kqwa2 : wa.cell? ⟨hq, 2, none⟩ = some (.int .i64 dc) := Qwa.cell 2; have kqwa3 : wa.cell? ⟨hq, 3, none⟩ = some (.int .i64 tr) := Qwa.cell 3; have kqwaf0 : wa.frozen? ⟨hq, 0, none⟩ = false := Qwa.frozen 0; have kqwaf1 : wa.frozen? ⟨hq, 1, none⟩ = false := Qwa.frozen 1; have kqwaf2 : wa.frozen? ⟨hq, 2, none⟩ = false := Qwa.frozen 2; have kqwaf3 : wa.frozen? ⟨hq, 3, none⟩ = false := Qwa.frozen 3)
    | (go_at_call 19; (with_reducible refine (S2 _ (Q.call HB.out (by repeat' (first | with_reducible exact Below.refl _ _ | with_reducible assumption | with_reducible refine Q.alloc ?_ _ | with_reducible refine Q.drew ?_ | with_reducible refine Q.drewN ?_ _ | with_reducible refine Q.call ?_ (by assumption))))).mono ?_); rintro e wb ⟨a3, n3, a4, n4, rfl, hr3, hr4, hb2⟩; have Pwb := HP.out.call (show Below W.heap.size W wb from (by repeat' (first | with_reducible exact Below.refl _ _ | with_reducible assumption | with_reducible refine Q.alloc ?_ _ | with_reducible refine Q.drew ?_ | with_reducible refine Q.drewN ?_ _ | with_reducible refine Q.call ?_ (by assumption)))); have Qwb := HQ.out.call (show Below W.heap.size W wb from (by repeat' (first | with_reducible exact Below.refl _ _ | with_reducible assumption | with_reducible refine Q.alloc ?_ _ | with_reducible refine Q.drew ?_ | with_reducible refine Q.drewN ?_ _ | with_reducible refine Q.call ?_ (by assumption)))); have zpwb : hp < wb.heap.size := Pwb.lt; have zqwb : hq < wb.heap.size := Qwb.lt; have kpwb0 : wb.cell? ⟨hp, 0, none⟩ = some (.slice sa s.length sc) := Pwb.cell 0; have kpwb1 : wb.cell? ⟨hp, 1, none⟩ = some (.slice ma m.length mc) := Pwb.cell 1; have kpwb2 : wb.cell? ⟨hp, 2, none⟩ = some (.int .i64 dc) := Pwb.cell 2; have kpwb3 : wb.cell? ⟨hp, 3, none⟩ = some (.int .i64 tr) := Pwb.cell 3; have kpwbf0 : wb.frozen? ⟨hp, 0, none⟩ = false := Pwb.frozen 0; have kpwbf1 : wb.frozen? ⟨hp, 1, none⟩ = false := Pwb.frozen 1; have kpwbf2 : wb.frozen? ⟨hp, 2, none⟩ = false := Pwb.frozen 2; have kpwbf3 : wb.frozen? ⟨hp, 3, none⟩ = false := Pwb.frozen 3; have kqwb0 : wb.cell? ⟨hq, 0, none⟩ = some (.slice sb s2.length sd) := Qwb.cell 0; have kqwb1 : wb.cell? ⟨hq, 1, none⟩ = some (.slice mb m2.length md) := Qwb.cell 1; have kqwb2 : wb.cell? ⟨hq, 2, none⟩ = some (.int .i64 dc) := Qwb.cell 2; have kqwb3 : wb.cell? ⟨hq, 3, none⟩ = some (.int .i64 tr) := Qwb.cell 3; have kqwbf0 : wb.frozen? ⟨hq, 0, none⟩ = false := Qwb.frozen 0; have kqwbf1 : wb.frozen? ⟨hq, 1, none⟩ = false := Qwb.frozen 1; have kqwbf2 : wb.frozen? ⟨hq, 2, none⟩ = false := Qwb.frozen 2; have kqwbf3 : wb.frozen? ⟨hq, 3, none⟩ = false := Qwb.frozen 3))
  all_goals
    have e1 : ((((wb.setCell ⟨hp, 0, none⟩ (.slice a1 s.length n1)).setCell ⟨hp, 1, none⟩ (.slice a2 m.length n2)).setCell ⟨hp, 2, none⟩ (.int .i64 dc)).setCell ⟨hp, 3, none⟩ (.int .i64 tr)) = wb.setRow hp #[.slice a1 s.length n1, .slice a2 m.length n2, .int .i64 dc, .int .i64 tr] := by
      rw [Pwb.setCell 0, Pwb.setCell_setRow, Pwb.setCell_setRow, Pwb.setCell_setRow]
      rfl
    have Q2 : Blk (wb.setRow hp #[.slice a1 s.length n1, .slice a2 m.length n2, .int .i64 dc, .int .i64 tr]) hq 24 #[.slice sb s2.length sd, .slice mb m2.length md, .int .i64 dc, .int .i64 tr] := Qwb.other (Ne.symm hne) _
    have e2 : (((((wb.setRow hp #[.slice a1 s.length n1, .slice a2 m.length n2, .int .i64 dc, .int .i64 tr]).setCell ⟨hq, 0, none⟩ (.slice a3 s2.length n3)).setCell ⟨hq, 1, none⟩ (.slice a4 m2.length n4)).setCell ⟨hq, 2, none⟩ (.int .i64 dc)).setCell ⟨hq, 3, none⟩ (.int .i64 tr)) = (wb.setRow hp #[.slice a1 s.length n1, .slice a2 m.length n2, .int .i64 dc, .int .i64 tr]).setRow hq #[.slice a3 s2.length n3, .slice a4 m2.length n4, .int .i64 dc, .int .i64 tr] := by
      rw [Q2.setCell 0, Q2.setCell_setRow, Q2.setCell_setRow, Q2.setCell_setRow]
      rfl
    rw [e1, e2]
    have P3 : Blk ((wb.setRow hp #[.slice a1 s.length n1, .slice a2 m.length n2, .int .i64 dc, .int .i64 tr]).setRow hq #[.slice a3 s2.length n3, .slice a4 m2.length n4, .int .i64 dc, .int .i64 tr]) hp 24 #[.slice a1 s.length n1, .slice a2 m.length n2, .int .i64 dc, .int .i64 tr] := (Pwb.setRow _).other hne _
    have Q3 : Blk ((wb.setRow hp #[.slice a1 s.length n1, .slice a2 m.length n2, .int .i64 dc, .int .i64 tr]).setRow hq #[.slice a3 s2.length n3, .slice a4 m2.length n4, .int .i64 dc, .int .i64 tr]) hq 24 #[.slice a3 s2.length n3, .slice a4 m2.length n4, .int .i64 dc, .int .i64 tr] := Q2.setRow _
    have C3 : Chg (fun b => b = hp ∨ b = hq) wb ((wb.setRow hp #[.slice a1 s.length n1, .slice a2 m.length n2, .int .i64 dc, .int .i64 tr]).setRow hq #[.slice a3 s2.length n3, .slice a4 m2.length n4, .int .i64 dc, .int .i64 tr]) := ((Chg.setRow wb hp #[.slice a1 s.length n1, .slice a2 m.length n2, .int .i64 dc, .int .i64 tr]).mono fun b h => .inl h).trans ((Chg.setRow _ hq #[.slice a3 s2.length n3, .slice a4 m2.length n4, .int .i64 dc, .int .i64 tr]).mono fun b h => .inr h)
    obtain ⟨wf, hwf⟩ : ∃ wf, wf = (wb.setRow hp #[.slice a1 s.length n1, .slice a2 m.length n2, .int .i64 dc, .int .i64 tr]).setRow hq #[.slice a3 s2.length n3, .slice a4 m2.length n4, .int .i64 dc, .int .i64 tr] := ⟨_, rfl⟩
    rw [← hwf] at P3 Q3 C3 ⊢
    obtain ⟨z1, z2, z3, z4, z5⟩ := HZ.out
    have hbs1 : W.heap.size ≤ wa.heap.size := hb1.size
    have KP : ∀ (v : Value) (l : List Sp), Rd ES wb (fun b => W.heap.size ≤ b) v l → Rd ES wf (fun _ => True) v l := fun v l h => h.keep (fun b hb hR => ⟨C3.block b hb (by have h : W.heap.size ≤ b := hR; omega), trivial⟩) C3.size
    have R1 := KP _ _ (hr1.below hb2)
    have R2 := KP _ _ (hr2.below hb2)
    have R3 := KP _ _ (hr3.keep (fun b hb hR => ⟨rfl, Nat.le_trans hbs1 hR⟩) (Nat.le_refl _))
    have R4 := KP _ _ (hr4.keep (fun b hb hR => ⟨rfl, Nat.le_trans hbs1 hR⟩) (Nat.le_refl _))
    rw [← HES.out] at R3
    rw [← HEM.out] at R4
    have BF : Below w.heap.size w wf := C3.below (Q.call HB.out (by repeat' (first | with_reducible exact Below.refl _ _ | with_reducible assumption | with_reducible refine Q.alloc ?_ _ | with_reducible refine Q.drew ?_ | with_reducible refine Q.drewN ?_ _ | with_reducible refine Q.call ?_ (by assumption)))) (Q.call HB.out (by repeat' (first | with_reducible exact Below.refl _ _ | with_reducible assumption | with_reducible refine Q.alloc ?_ _ | with_reducible refine Q.drew ?_ | with_reducible refine Q.drewN ?_ _ | with_reducible refine Q.call ?_ (by assumption)))).size (by omega)
    have lsr : (srt s).length ≤ 1000 := by rw [srt_length]; exact ls
    have lmr : (srt m).length ≤ 1000 := by rw [srt_length]; exact lm
    have E1 := fun (V : World) (h : Below wf.heap.size wf V) => equal_true V _ _ _ _ (srt s) (R1.below h) (R3.below h) lsr
    have E2 := fun (V : World) (h : Below wf.heap.size wf V) => equal_true V _ _ _ _ (srt m) (R2.below h) (R4.below h) lmr
    have x0 : wf.cell? ⟨hp, 0, none⟩ = some (.slice a1 s.length n1) := P3.cell 0
    have x1 : wf.cell? ⟨hp, 1, none⟩ = some (.slice a2 m.length n2) := P3.cell 1
    have x2 : wf.cell? ⟨hp, 2, none⟩ = some (.int .i64 dc) := P3.cell 2
    have x3 : wf.cell? ⟨hp, 3, none⟩ = some (.int .i64 tr) := P3.cell 3
    have y0 : wf.cell? ⟨hq, 0, none⟩ = some (.slice a3 s2.length n3) := Q3.cell 0
    have y1 : wf.cell? ⟨hq, 1, none⟩ = some (.slice a4 m2.length n4) := Q3.cell 1
    have y2 : wf.cell? ⟨hq, 2, none⟩ = some (.int .i64 dc) := Q3.cell 2
    have y3 : wf.cell? ⟨hq, 3, none⟩ = some (.int .i64 tr) := Q3.cell 3
    have hpf := P3.lt
    have hqf := Q3.lt
    have HBF := Lib.hid BF
    clear BF R1 R2 R3 R4 KP C3 P3 Q3 hwf e1 e2 Q2 hr1 hr2 hr3 hr4 Pwa Qwa Pwb Qwb hb1 hb2 S1 S2 z1 z2 z3 z4 z5 hbs1 lsr lmr
    clear kpwa0 kpwa1 kpwa2 kpwa3 kpwaf0 kpwaf1 kpwaf2 kpwaf3 kpwb0 kpwb1 kpwb2 kpwb3 kpwbf0 kpwbf1 kpwbf2 kpwbf3 kqwa0 kqwa1 kqwa2 kqwa3 kqwaf0 kqwaf1 kqwaf2 kqwaf3 kqwb0 kqwb1 kqwb2 kqwb3 kqwbf0 kqwbf1 kqwbf2 kqwbf3 p0 p1 p2 p3 pf0 pf1 pf2 pf3 q0 q1 q2 q3 qf0 qf1 qf2 qf3 zpwa zqwa zpwb zqwb hpl hql
    go_wp2_with (first
      | (go_at_call 27; (with_reducible refine (E1 _ (by repeat' (first | with_reducible exact Below.refl _ _ | with_reducible assumption | with_reducible refine Q.alloc ?_ _ | with_reducible refine Q.drew ?_ | with_reducible refine Q.drewN ?_ _ | with_reducible refine Q.call ?_ (by assumption)))).mono ?_); rintro e w5 ⟨rfl, hb5⟩; obtain ⟨hc5, hf5, hz5⟩ := bcell hb5; have zp5 : hp < w5.heap.size := (by omega); have zq5 : hq < w5.heap.size := (by omega))
      | (go_at_call 27; (with_reducible refine (E2 _ (by repeat' (first | with_reducible exact Below.refl _ _ | with_reducible assumption | with_reducible refine Q.alloc ?_ _ | with_reducible refine Q.drew ?_ | with_reducible refine Q.drewN ?_ _ | with_reducible refine Q.call ?_ (by assumption)))).mono ?_); rintro e w6 ⟨rfl, hb6⟩; obtain ⟨hc6, hf6, hz6⟩ := bcell hb6))
    go_ret
    exact ⟨rfl, Q.call HBF.out (by repeat' (first | with_reducible exact Below.refl _ _ | with_reducible assumption | with_reducible refine Q.alloc ?_ _ | with_reducible refine Q.drew ?_ | with_reducible refine Q.drewN ?_ _ | with_reducible refine Q.call ?_ (by assumption)))⟩
end Go.Proofs.Ytggnkkmlabhofaa
