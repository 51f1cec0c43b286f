/- Of which policy there is a table. (printed by gen/lt2.py) -/
import Derived.Test.YtndjicomgdcfkaaDoorLa9
import Derived.Test.YtndjicomgdcfkaaDoorLt1
namespace Go.Proofs.YtndjicomgdcfkaaDoor
set_option linter.unusedVariables false
set_option linter.unusedSimpArgs false
open Go.RowKit Go.Sort Go.Shelf Go.Lib
attribute [local go_sem ↓] Go.wp_at_zero Go.wp_at_succ

set_option maxHeartbeats 8000000 in
set_option maxRecDepth 100000 in
theorem policy_some (w : World) (g : Nat) (R : Nat → Prop) (sv mv : Value) (s m : List Sp) (dc tr : Int) (a b : Nat → Int) (hT : Tab w g sv mv dc tr a b) (hs : Rd ES w R sv s) (hm : Rd ES w R mv m) (ls : s.length ≤ 1000) (lm : m.length ≤ 1000) :
    Calls Tryd.prog 37 #[.pointer (some ⟨g, 0, none⟩)] w fun e w' => ∃ a1 c1 a2 c2, e = .returned (.agg #[.slice a1 s.length c1, .slice a2 m.length c2, .int .i64 dc, .int .i64 tr]) ∧ Rd ES w' (fun _ => True) (.slice a1 s.length c1) (srt s) ∧ Rd ES w' (fun _ => True) (.slice a2 m.length c2) (srt m) ∧ Below w.heap.size w w' := by
  have SO := fun (V : World) (h : Below w.heap.size w V) => psorted_eq3 V R sv mv s m dc tr (hs.below h) (hm.below h) ls lm
  obtain ⟨M, hM, hG⟩ := hT
  have c0 : w.cell? ⟨g, 0, none⟩ = some sv := (hG.cell 0).trans hM.p0
  have c1 : w.cell? ⟨g, 1, none⟩ = some mv := (hG.cell 1).trans hM.p1
  have c2 : w.cell? ⟨g, 2, none⟩ = some (.int .i64 dc) := (hG.cell 2).trans hM.p2
  have c3 : w.cell? ⟨g, 3, none⟩ = some (.int .i64 tr) := (hG.cell 3).trans hM.p3
  have hgl := hG.lt
  obtain ⟨sa, sc, rfl, _, _, _⟩ := hs
  obtain ⟨ma, mc, rfl, _, _, _⟩ := hm
  clear hG hM
  go_enter Tryd.func37, Tryd.ntmps37
  go_wp2_with (go_at_call 43; (with_reducible refine (SO _ (by repeat' (first | with_reducible exact Below.refl _ _ | with_reducible assumption | with_reducible refine Q.alloc ?_ _ | with_reducible refine Q.drew ?_ | with_reducible refine Q.drewN ?_ _ | with_reducible refine Q.call ?_ (by assumption)))).mono ?_); rintro e w1 ⟨a1, n1, a2, n2, rfl, hr1, hr2, hb1⟩; refine Hid.out ?_)
  refine Lib.hid ?_
  have QB : Blk w1 w.heap.size 42 #[.slice none 0 0, .slice none 0 0, .int .i64 0, .int .i64 0] := (Blk.new' (by simp)).call hb1
  have B1 : Below w.heap.size w w1 := (by repeat' (first | with_reducible exact Below.refl _ _ | with_reducible assumption | with_reducible refine Q.alloc ?_ _ | with_reducible refine Q.drew ?_ | with_reducible refine Q.drewN ?_ _ | with_reducible refine Q.call ?_ (by assumption)))
  obtain ⟨hq, hhq⟩ : ∃ hq, hq = w.heap.size := ⟨_, rfl⟩
  rw [← hhq] at QB ⊢
  have HQ2 := Lib.hid (show w.heap.size ≤ hq ∧ hq < w.heap.size + 1 by omega)
  have q0 : w1.cell? ⟨hq, 0, none⟩ = some (.slice none 0 0) := QB.cell 0
  have q1 : w1.cell? ⟨hq, 1, none⟩ = some (.slice none 0 0) := QB.cell 1
  have q2 : w1.cell? ⟨hq, 2, none⟩ = some (.int .i64 0) := QB.cell 2
  have q3 : w1.cell? ⟨hq, 3, none⟩ = some (.int .i64 0) := QB.cell 3
  have f0 : w1.frozen? ⟨hq, 0, none⟩ = false := QB.frozen 0
  have f1 : w1.frozen? ⟨hq, 1, none⟩ = false := QB.frozen 1
  have f2 : w1.frozen? ⟨hq, 2, none⟩ = false := QB.frozen 2
  have f3 : w1.frozen? ⟨hq, 3, none⟩ = false := QB.frozen 3
  have hql := QB.lt
  have e2 : (((w1.setCell ⟨hq, 0, none⟩ (.slice a1 s.length n1)).setCell ⟨hq, 1, none⟩ (.slice a2 m.length n2)).setCell ⟨hq, 2, none⟩ (.int .i64 dc)).setCell ⟨hq, 3, none⟩ (.int .i64 tr) = w1.setRow hq #[.slice a1 s.length n1, .slice a2 m.length n2, .int .i64 dc, .int .i64 tr] := by
    rw [QB.setCell 0, QB.setCell_setRow, QB.setCell_setRow, QB.setCell_setRow]
    rfl
  have HE2 := Lib.hid e2
  have HB2 := Lib.hid (QB.setRow #[.slice a1 s.length n1, .slice a2 m.length n2, .int .i64 dc, .int .i64 tr])
  have HC2 := Lib.hid (show Chg (fun b => b = hq) w1 (w1.setRow hq #[.slice a1 s.length n1, .slice a2 m.length n2, .int .i64 dc, .int .i64 tr]) from Chg.setRow _ _ _)
  have HR1 := Lib.hid hr1
  have HR2 := Lib.hid hr2
  have HB1 := Lib.hid B1
  clear e2 QB B1 hhq hr1 hr2 hb1 SO c0 c1 c2 c3
  go_wp2_with fail
  rw [HE2.out]
  obtain ⟨wf, hwf⟩ : ∃ wf, wf = w1.setRow hq #[.slice a1 s.length n1, .slice a2 m.length n2, .int .i64 dc, .int .i64 tr] := ⟨_, rfl⟩
  rw [← hwf] at HB2 HC2 ⊢
  have y0 : wf.cell? ⟨hq, 0, none⟩ = some (.slice a1 s.length n1) := HB2.out.cell 0
  have y1 : wf.cell? ⟨hq, 1, none⟩ = some (.slice a2 m.length n2) := HB2.out.cell 1
  have y2 : wf.cell? ⟨hq, 2, none⟩ = some (.int .i64 dc) := HB2.out.cell 2
  have y3 : wf.cell? ⟨hq, 3, none⟩ = some (.int .i64 tr) := HB2.out.cell 3
  (try simp only [Exit.inBlock, Exit.then])
  refine bodyPost_ret (v := .agg #[.slice a1 s.length n1, .slice a2 m.length n2, .int .i64 dc, .int .i64 tr]) (by simp [results, Tryd.f37, go_sem, y0, y1, y2, y3]) rfl ?_
  obtain ⟨z1, z2⟩ := HQ2.out
  have hbel : Below w.heap.size w wf := HC2.out.below HB1.out HB1.out.size (fun b h => by have h : b = hq := h; omega)
  have hsz : ∀ b, (w.alloc (.cells #[.slice none 0 0, .slice none 0 0, .int .i64 0, .int .i64 0] 42)).heap.size ≤ b → ¬ b = hq := fun b h => by simp only [World.size_alloc] at h; omega
  exact ⟨_, _, _, _, rfl, HR1.out.keep (fun b hb hR => ⟨HC2.out.block b hb (hsz b hR), trivial⟩) HC2.out.size, HR2.out.keep (fun b hb hR => ⟨HC2.out.block b hb (hsz b hR), trivial⟩) HC2.out.size, hbel⟩
end Go.Proofs.YtndjicomgdcfkaaDoor
