/- Policies: one in order. (printed by gen/la4.py) -/
import Derived.Test.YtggnkkmlabhofaaDoorLa3
import Derived.Deep.RegionWith
namespace Go.Proofs.YtggnkkmlabhofaaDoor
set_option linter.unusedVariables false
set_option linter.unusedSimpArgs false
open Go.RowKit Go.Sort Go.Shelf Go.Lib
attribute [local go_sem ↓] Go.wp_at_zero Go.wp_at_succ

theorem sorted_eq2 (w : World) (R : Nat → Prop) (v : Value) (l : List Sp) (hr : Rd ES w R v l) (hl : l.length ≤ 1000) : Calls Tryd.prog 72 #[v] w fun e w' => ∃ a cap, e = .returned (.slice a l.length cap) ∧ Rd ES w' (fun b => w.heap.size ≤ b) (.slice a l.length cap) (srt l) ∧ Below w.heap.size w w' := by
  refine (sorted_eq w R v l hr hl).mono ?_
  rintro e w' ⟨v', rfl, hrd, hb⟩
  have hrd' := hrd
  obtain ⟨a, cap, rfl, _, _, _⟩ := hrd
  rw [srt_length] at hrd' ⊢
  exact ⟨a, cap, rfl, hrd', hb⟩
set_option maxHeartbeats 8000000 in
set_option maxRecDepth 100000 in
/-- policy.Sorted: both rows in order, in rows of the call's own. -/
theorem psorted_eq (w : World) (R : Nat → Prop) (sv mv : Value) (s m : List Sp) (dc tr : Int) (hs : Rd ES w R sv s) (hm : Rd ES w R mv m) (ls : s.length ≤ 1000) (lm : m.length ≤ 1000) :
    Calls Tryd.prog 51 #[.agg #[sv, mv, .int .i64 dc, .int .i64 tr]] w fun e w' => ∃ sv' mv', e = .returned (.agg #[sv', mv', .int .i64 dc, .int .i64 tr]) ∧ Rd ES w' (fun b => w.heap.size ≤ b) sv' (srt s) ∧ Rd ES w' (fun b => w.heap.size ≤ b) mv' (srt m) ∧ Below w.heap.size w w' := by
  have HS := Lib.hid hs
  have HM := Lib.hid hm
  obtain ⟨sa, sc, rfl, _, _, _⟩ := hs
  obtain ⟨ma, mc, rfl, _, _, _⟩ := hm
  obtain ⟨W, hW⟩ : ∃ W, W = (w.alloc (.cells #[.slice sa s.length sc, .slice ma m.length mc, .int .i64 dc, .int .i64 tr] 44)).alloc (.cells #[.slice none 0 0, .slice none 0 0, .int .i64 0, .int .i64 0] 44) := ⟨_, rfl⟩
  obtain ⟨hp, hhp⟩ : ∃ hp, hp = w.heap.size := ⟨_, rfl⟩
  obtain ⟨hq, hhq⟩ : ∃ hq, hq = w.heap.size + 1 := ⟨_, rfl⟩
  have PB : Blk W hp 44 #[.slice sa s.length sc, .slice ma m.length mc, .int .i64 dc, .int .i64 tr] := by rw [hW]; exact Blk.alloc (Blk.new' hhp) _
  have QB : Blk W hq 44 #[.slice none 0 0, .slice none 0 0, .int .i64 0, .int .i64 0] := by rw [hW]; exact Blk.new' (by rw [hhq]; simp)
  have BW : Below w.heap.size w W := by rw [hW]; exact Q.alloc (Q.alloc (Below.refl _ _) _) _
  have zW : W.heap.size = w.heap.size + 2 := by rw [hW]; simp
  have S1 := fun (V : World) (h : Below w.heap.size w V) => sorted_eq2 V R (.slice sa s.length sc) s (HS.out.below h) ls
  have S2 := fun (V : World) (h : Below w.heap.size w V) => sorted_eq2 V R (.slice ma m.length mc) m (HM.out.below h) lm
  have HB := Lib.hid BW
  have HP := Lib.hid PB
  have HQ := Lib.hid QB
  have hne : hp ≠ hq := by omega
  have HZ : Aside (hp = w.heap.size ∧ hq = w.heap.size + 1 ∧ W.heap.size = w.heap.size + 2) := ⟨hhp, hhq, zW⟩
  have c0 : W.cell? ⟨hp, 0, none⟩ = some (.slice sa s.length sc) := PB.cell 0
  have c1 : W.cell? ⟨hp, 1, none⟩ = some (.slice ma m.length mc) := PB.cell 1
  have f0 : W.frozen? ⟨hp, 0, none⟩ = false := PB.frozen 0
  have f1 : W.frozen? ⟨hp, 1, none⟩ = false := PB.frozen 1
  have hpl : hp < W.heap.size := PB.lt
  clear PB QB BW zW
  go_enter Tryd.func51, Tryd.ntmps51
  go_wp2_with fail
  rw [← hW, ← hhq, ← hhp]
  clear hW hhp hhq
  go_region_with (first
    | (go_at_call 72; (with_reducible refine (S1 _ (Q.call HB.out (by repeat' (first | with_reducible exact Below.refl _ _ | with_reducible assumption | with_reducible refine Q.alloc ?_ _ | with_reducible refine Q.drew ?_ | with_reducible refine Q.drewN ?_ _ | with_reducible refine Q.call ?_ (by assumption))))).mono ?_); rintro e wa ⟨a1, n1, rfl, hr1, hb1⟩; have PBwa := HP.out.call (show Below W.heap.size W wa from (by repeat' (first | with_reducible exact Below.refl _ _ | with_reducible assumption | with_reducible refine Q.alloc ?_ _ | with_reducible refine Q.drew ?_ | with_reducible refine Q.drewN ?_ _ | with_reducible refine Q.call ?_ (by assumption)))); have zzwa : hp < wa.heap.size := PBwa.lt; have kwa0 : wa.cell? ⟨hp, 0, none⟩ = some (.slice sa s.length sc) := PBwa.cell 0; have gwa0 : wa.frozen? ⟨hp, 0, none⟩ = false := PBwa.frozen 0; have kwa1 : wa.cell? ⟨hp, 1, none⟩ = some (.slice ma m.length mc) := PBwa.cell 1; have gwa1 : wa.frozen? ⟨hp, 1, none⟩ = false := PBwa.frozen 1)
    | (go_at_call 72; (with_reducible refine (S2 _ (Q.call HB.out (by repeat' (first | with_reducible exact Below.refl _ _ | with_reducible assumption | with_reducible refine Q.alloc ?_ _ | with_reducible refine Q.drew ?_ | with_reducible refine Q.drewN ?_ _ | with_reducible refine Q.call ?_ (by assumption))))).mono ?_); rintro e wb ⟨a2, n2, rfl, hr2, hb2⟩; have PBwb := HP.out.call (show Below W.heap.size W wb from (by repeat' (first | with_reducible exact Below.refl _ _ | with_reducible assumption | with_reducible refine Q.alloc ?_ _ | with_reducible refine Q.drew ?_ | with_reducible refine Q.drewN ?_ _ | with_reducible refine Q.call ?_ (by assumption)))); have zzwb : hp < wb.heap.size := PBwb.lt; have kwb0 : wb.cell? ⟨hp, 0, none⟩ = some (.slice sa s.length sc) := PBwb.cell 0; have gwb0 : wb.frozen? ⟨hp, 0, none⟩ = false := PBwb.frozen 0; have kwb1 : wb.cell? ⟨hp, 1, none⟩ = some (.slice ma m.length mc) := PBwb.cell 1; have gwb1 : wb.frozen? ⟨hp, 1, none⟩ = false := PBwb.frozen 1))
  all_goals
    have QBb : Blk wb hq 44 #[.slice none 0 0, .slice none 0 0, .int .i64 0, .int .i64 0] := HQ.out.call (by repeat' (first | with_reducible exact Below.refl _ _ | with_reducible assumption | with_reducible refine Q.alloc ?_ _ | with_reducible refine Q.drew ?_ | with_reducible refine Q.drewN ?_ _ | with_reducible refine Q.call ?_ (by assumption)))
    have e1 : (wb.setCell ⟨hp, 0, none⟩ (.slice a1 s.length n1)).setCell ⟨hp, 1, none⟩ (.slice a2 m.length n2) = wb.setRow hp #[.slice a1 s.length n1, .slice a2 m.length n2, .int .i64 dc, .int .i64 tr] := by
      rw [PBwb.setCell 0, PBwb.setCell_setRow]
      rfl
    have BBb : Below w.heap.size w wb := Q.call HB.out (by repeat' (first | with_reducible exact Below.refl _ _ | with_reducible assumption | with_reducible refine Q.alloc ?_ _ | with_reducible refine Q.drew ?_ | with_reducible refine Q.drewN ?_ _ | with_reducible refine Q.call ?_ (by assumption)))
    have R1 : Rd ES wb (fun b => W.heap.size ≤ b) (.slice a1 s.length n1) (srt s) := by
      have h := hr1.below hb2
      exact h
    have R2 : Rd ES wb (fun b => W.heap.size ≤ b) (.slice a2 m.length n2) (srt m) := hr2.keep (fun b hb hR => ⟨rfl, Nat.le_trans hb1.size hR⟩) (Nat.le_refl _)
    have HR1 := Lib.hid R1
    have HR2 := Lib.hid R2
    have HBb := Lib.hid BBb
    have C1 : Chg (fun b => b = hp) wb (wb.setRow hp #[.slice a1 s.length n1, .slice a2 m.length n2, .int .i64 dc, .int .i64 tr]) := Chg.setRow _ _ _
    have P1 : Blk (wb.setRow hp #[.slice a1 s.length n1, .slice a2 m.length n2, .int .i64 dc, .int .i64 tr]) hp 44 #[.slice a1 s.length n1, .slice a2 m.length n2, .int .i64 dc, .int .i64 tr] := PBwb.setRow _
    have Q1 : Blk (wb.setRow hp #[.slice a1 s.length n1, .slice a2 m.length n2, .int .i64 dc, .int .i64 tr]) hq 44 #[.slice none 0 0, .slice none 0 0, .int .i64 0, .int .i64 0] := QBb.other (Ne.symm hne) _
    rw [e1]
    obtain ⟨wc, hwc⟩ : ∃ wc, wc = wb.setRow hp #[.slice a1 s.length n1, .slice a2 m.length n2, .int .i64 dc, .int .i64 tr] := ⟨_, rfl⟩
    rw [← hwc] at C1 P1 Q1 ⊢
    have q0 : wc.cell? ⟨hq, 0, none⟩ = some (.slice none 0 0) := Q1.cell 0
    have q1 : wc.cell? ⟨hq, 1, none⟩ = some (.slice none 0 0) := Q1.cell 1
    have q2 : wc.cell? ⟨hq, 2, none⟩ = some (.int .i64 0) := Q1.cell 2
    have q3 : wc.cell? ⟨hq, 3, none⟩ = some (.int .i64 0) := Q1.cell 3
    have p0 : wc.cell? ⟨hp, 0, none⟩ = some (.slice a1 s.length n1) := P1.cell 0
    have p1 : wc.cell? ⟨hp, 1, none⟩ = some (.slice a2 m.length n2) := P1.cell 1
    have p2 : wc.cell? ⟨hp, 2, none⟩ = some (.int .i64 dc) := P1.cell 2
    have p3 : wc.cell? ⟨hp, 3, none⟩ = some (.int .i64 tr) := P1.cell 3
    have x0 : wc.frozen? ⟨hq, 0, none⟩ = false := Q1.frozen 0
    have x1 : wc.frozen? ⟨hq, 1, none⟩ = false := Q1.frozen 1
    have x2 : wc.frozen? ⟨hq, 2, none⟩ = false := Q1.frozen 2
    have x3 : wc.frozen? ⟨hq, 3, none⟩ = false := Q1.frozen 3
    have e2 : (((wc.setCell ⟨hq, 0, none⟩ (.slice a1 s.length n1)).setCell ⟨hq, 1, none⟩ (.slice a2 m.length n2)).setCell ⟨hq, 2, none⟩ (.int .i64 dc)).setCell ⟨hq, 3, none⟩ (.int .i64 tr) = wc.setRow hq #[.slice a1 s.length n1, .slice a2 m.length n2, .int .i64 dc, .int .i64 tr] := by
      rw [Q1.setCell 0, Q1.setCell_setRow, Q1.setCell_setRow, Q1.setCell_setRow]
      rfl
    have C2 : Chg (fun b => b = hp ∨ b = hq) wb (wc.setRow hq #[.slice a1 s.length n1, .slice a2 m.length n2, .int .i64 dc, .int .i64 tr]) := (C1.mono fun b h => .inl h).trans ((Chg.setRow wc hq #[.slice a1 s.length n1, .slice a2 m.length n2, .int .i64 dc, .int .i64 tr]).mono fun b h => .inr h)
    have HE2 := Lib.hid e2
    have HC2 := Lib.hid C2
    have HB2 := Lib.hid (Q1.setRow #[.slice a1 s.length n1, .slice a2 m.length n2, .int .i64 dc, .int .i64 tr])
    have hql : hq < wc.heap.size := Q1.lt
    have hpl2 : hp < wc.heap.size := P1.lt
    have hbs := hb2.size
    have hbs1 : W.heap.size ≤ wa.heap.size := hb1.size
    clear e1 e2 C1 C2 hr1 hr2 R1 R2 BBb hwc PBwa PBwb QBb kwa0 gwa0 kwa1 gwa1 kwb0 gwb0 kwb1 gwb1 c0 c1 f0 f1 S1 S2
    clear P1 Q1
    go_wp2_with fail
    rw [HE2.out]
    obtain ⟨wf, hwf⟩ : ∃ wf, wf = wc.setRow hq #[.slice a1 s.length n1, .slice a2 m.length n2, .int .i64 dc, .int .i64 tr] := ⟨_, rfl⟩
    rw [← hwf] at HB2 HC2 ⊢
    have y0 : wf.cell? ⟨hq, 0, none⟩ = some (.slice a1 s.length n1) := HB2.out.cell 0
    have y1 : wf.cell? ⟨hq, 1, none⟩ = some (.slice a2 m.length n2) := HB2.out.cell 1
    have y2 : wf.cell? ⟨hq, 2, none⟩ = some (.int .i64 dc) := HB2.out.cell 2
    have y3 : wf.cell? ⟨hq, 3, none⟩ = some (.int .i64 tr) := HB2.out.cell 3
    clear hwf HE2
    (try simp only [Exit.inBlock, Exit.then])
    refine bodyPost_ret (v := .agg #[.slice a1 s.length n1, .slice a2 m.length n2, .int .i64 dc, .int .i64 tr]) (by simp [results, Tryd.f51, go_sem, y0, y1, y2, y3]) rfl ?_
    obtain ⟨z1, z2, z3⟩ := HZ.out
    refine ⟨_, _, rfl, HR1.out.keep (fun b hb hR => ⟨HC2.out.block b hb (by have h : W.heap.size ≤ b := hR; omega), by have h : W.heap.size ≤ b := hR; omega⟩) HC2.out.size, HR2.out.keep (fun b hb hR => ⟨HC2.out.block b hb (by have h : W.heap.size ≤ b := hR; omega), by have h : W.heap.size ≤ b := hR; omega⟩) HC2.out.size, HC2.out.below HBb.out HBb.out.size (by omega)⟩
end Go.Proofs.YtggnkkmlabhofaaDoor
