/- A policy as the document's answer has it. (printed by gen/rf2.py) -/
import Derived.Test.YtggnkkmlabhofaaRf1
import Derived.Deep.RegionHeld3
namespace Go.Proofs.Ytggnkkmlabhofaa
set_option linter.unusedVariables false
set_option linter.unusedSimpArgs false
open Go.RowKit Go.Sort Go.Shelf Go.Lib
attribute [local go_sem ↓] Go.wp_at_zero Go.wp_at_succ

theorem ownN_rd {w : World} {B : Nat} {v : Value} {l : List Sp} (h : OwN w B v l) : Rd EN w (fun b => B ≤ b) v l := Ow.rd (T := 41) ⟨own_lower h (Nat.zero_le _), fun _ hb => (own_lt h hb).2⟩
theorem plain_eq2 (w : World) (R : Nat → Prop) (v : Value) (l : List Sp) (hr : Rd ES w R v l) (hl : l.length ≤ 80) (hb : ∀ x ∈ l, 0 ≤ x.b ∧ x.b ≤ 255) :
    Calls Try.prog 23 #[v] w fun e w' => ∃ a c, e = .returned (.slice a l.length c) ∧ Rd EN w' (fun b => w.heap.size ≤ b) (.slice a l.length c) l ∧ Below w.heap.size w w' := by
  refine (plain_eq w R v l hr hl hb).mono ?_
  rintro e w' ⟨a, c, rfl, h, hB⟩
  exact ⟨a, c, rfl, ownN_rd h, hB⟩
set_option maxHeartbeats 8000000 in
set_option maxRecDepth 100000 in
theorem Plain_eq (w : World) (R : Nat → Prop) (sv mv : Value) (s m : List Sp) (dc tr : Int) (hs : Rd ES w R sv s) (hm : Rd ES w R mv m) (ls : s.length ≤ 80) (lm : m.length ≤ 80) (bs : ∀ x ∈ s, 0 ≤ x.b ∧ x.b ≤ 255) (bm : ∀ x ∈ m, 0 ≤ x.b ∧ x.b ≤ 255) :
    Calls Try.prog 10 #[.agg #[sv, mv, .int .i64 dc, .int .i64 tr]] w fun e w' => ∃ a1 c1 a2 c2, e = .returned (.agg #[.slice a1 s.length c1, .slice a2 m.length c2, .int .i64 dc, .int .i64 tr]) ∧ Rd EN w' (fun _ => True) (.slice a1 s.length c1) s ∧ Rd EN w' (fun _ => True) (.slice a2 m.length c2) m ∧ Below w.heap.size w w' := by
  have HS := Lib.hid hs
  have HM := Lib.hid hm
  obtain ⟨sa, sc, rfl, _, _, _⟩ := hs
  obtain ⟨ma, mc, rfl, _, _, _⟩ := hm
  obtain ⟨W, hW⟩ : ∃ W, W = (w.alloc (.cells #[.slice sa s.length sc, .slice ma m.length mc, .int .i64 dc, .int .i64 tr] 24)).alloc (.cells #[.slice none 0 0, .slice none 0 0, .int .i64 0, .int .i64 0] 35) := ⟨_, rfl⟩
  obtain ⟨hp, hhp⟩ : ∃ hp, hp = w.heap.size := ⟨_, rfl⟩
  obtain ⟨hq, hhq⟩ : ∃ hq, hq = w.heap.size + 1 := ⟨_, rfl⟩
  have PB : Blk W hp 24 #[.slice sa s.length sc, .slice ma m.length mc, .int .i64 dc, .int .i64 tr] := by rw [hW]; exact Blk.alloc (Blk.new' hhp) _
  have QB : Blk W hq 35 #[.slice none 0 0, .slice none 0 0, .int .i64 0, .int .i64 0] := by rw [hW]; exact Blk.new' (by rw [hhq]; simp)
  have BW : Below w.heap.size w W := by rw [hW]; exact Q.alloc (Q.alloc (Below.refl _ _) _) _
  have zW : W.heap.size = w.heap.size + 2 := by rw [hW]; simp
  have S1 := fun (V : World) (h : Below w.heap.size w V) => plain_eq2 V R (.slice sa s.length sc) s (HS.out.below h) ls bs
  have S2 := fun (V : World) (h : Below w.heap.size w V) => plain_eq2 V R (.slice ma m.length mc) m (HM.out.below h) lm bm
  have HB := Lib.hid BW
  have HP := Lib.hid PB
  have HQ := Lib.hid QB
  have hne : hp ≠ hq := by omega
  have HZ : Aside (w.heap.size ≤ hq) := by show _ ≤ _; omega
  have c0 : W.cell? ⟨hp, 0, none⟩ = some (.slice sa s.length sc) := PB.cell 0
  have c1 : W.cell? ⟨hp, 1, none⟩ = some (.slice ma m.length mc) := PB.cell 1
  have c2 : W.cell? ⟨hp, 2, none⟩ = some (.int .i64 dc) := PB.cell 2
  have c3 : W.cell? ⟨hp, 3, none⟩ = some (.int .i64 tr) := PB.cell 3
  have hpl : hp < W.heap.size := PB.lt
  have hqW : hq < W.heap.size := QB.lt
  have ST : ∀ V : World, Below W.heap.size W V → V.cell? ⟨hp, 0, none⟩ = some (.slice sa s.length sc) ∧ V.cell? ⟨hp, 1, none⟩ = some (.slice ma m.length mc) ∧ V.cell? ⟨hp, 2, none⟩ = some (.int .i64 dc) ∧ V.cell? ⟨hp, 3, none⟩ = some (.int .i64 tr) := fun V h => ⟨(HP.out.call h).cell 0, (HP.out.call h).cell 1, (HP.out.call h).cell 2, (HP.out.call h).cell 3⟩
  clear PB QB BW zW bs bm
  go_enter Try.func10, Try.ntmps10
  go_wp2_with fail
  rw [← hW, ← hhq, ← hhp]
  clear hW hhp hhq
  go_region_held3 (fun w' : World => w'.cell? ⟨hp, 0, none⟩ = some (.slice sa s.length sc) ∧ w'.cell? ⟨hp, 1, none⟩ = some (.slice ma m.length mc) ∧ w'.cell? ⟨hp, 2, none⟩ = some (.int .i64 dc) ∧ w'.cell? ⟨hp, 3, none⟩ = some (.int .i64 tr)) (first | exact ⟨k1, k2, k3, k4⟩ | exact ST _ (by repeat' (first | with_reducible exact Below.refl _ _ | with_reducible assumption | with_reducible refine Q.alloc ?_ _ | with_reducible refine Q.drew ?_ | with_reducible refine Q.drewN ?_ _ | with_reducible refine Q.call ?_ (by assumption)))) (first
    | (go_at_call 23; (with_reducible refine (S1 _ (Q.call HB.out (by repeat' (first | with_reducible exact Below.refl _ _ | with_reducible assumption | with_reducible refine Q.alloc ?_ _ | with_reducible refine Q.drew ?_ | with_reducible refine Q.drewN ?_ _ | with_reducible refine Q.call ?_ (by assumption))))).mono ?_); rintro e wa ⟨a1, n1, rfl, hr1, hb1⟩; have PBwa := HP.out.call (show Below W.heap.size W wa from (by repeat' (first | with_reducible exact Below.refl _ _ | with_reducible assumption | with_reducible refine Q.alloc ?_ _ | with_reducible refine Q.drew ?_ | with_reducible refine Q.drewN ?_ _ | with_reducible refine Q.call ?_ (by assumption)))); have QBwa := HQ.out.call (show Below W.heap.size W wa from (by repeat' (first | with_reducible exact Below.refl _ _ | with_reducible assumption | with_reducible refine Q.alloc ?_ _ | with_reducible refine Q.drew ?_ | with_reducible refine Q.drewN ?_ _ | with_reducible refine Q.call ?_ (by assumption)))); have zzwa : hp < wa.heap.size := PBwa.lt; have zywa : hq < wa.heap.size := QBwa.lt; have qwa0 : wa.cell? ⟨hq, 0, none⟩ = some (.slice none 0 0) := QBwa.cell 0; have gwa0 : wa.frozen? ⟨hq, 0, none⟩ = false := QBwa.frozen 0; have qwa1 : wa.cell? ⟨hq, 1, none⟩ = some (.slice none 0 0) := QBwa.cell 1; have gwa1 : wa.frozen? ⟨hq, 1, none⟩ = false := QBwa.frozen 1; have qwa2 : wa.cell? ⟨hq, 2, none⟩ = some (.int .i64 0) := QBwa.cell 2; have gwa2 : wa.frozen? ⟨hq, 2, none⟩ = false := QBwa.frozen 2; have qwa3 : wa.cell? ⟨hq, 3, none⟩ = some (.int .i64 0) := QBwa.cell 3; have gwa3 : wa.frozen? ⟨hq, 3, none⟩ = false := QBwa.frozen 3)
    | (go_at_call 23; (with_reducible refine (S2 _ (Q.call HB.out (by repeat' (first | with_reducible exact Below.refl _ _ | with_reducible assumption | with_reducible refine Q.alloc ?_ _ | with_reducible refine Q.drew ?_ | with_reducible refine Q.drewN ?_ _ | with_reducible refine Q.call ?_ (by assumption))))).mono ?_); rintro e wb ⟨a2, n2, rfl, hr2, hb2⟩; have PBwb := HP.out.call (show Below W.heap.size W wb from (by repeat' (first | with_reducible exact Below.refl _ _ | with_reducible assumption | with_reducible refine Q.alloc ?_ _ | with_reducible refine Q.drew ?_ | with_reducible refine Q.drewN ?_ _ | with_reducible refine Q.call ?_ (by assumption)))); have QBwb := HQ.out.call (show Below W.heap.size W wb from (by repeat' (first | with_reducible exact Below.refl _ _ | with_reducible assumption | with_reducible refine Q.alloc ?_ _ | with_reducible refine Q.drew ?_ | with_reducible refine Q.drewN ?_ _ | with_reducible refine Q.call ?_ (by assumption)))); have zzwb : hp < wb.heap.size := PBwb.lt; have zywb : hq < wb.heap.size := QBwb.lt; have qwb0 : wb.cell? ⟨hq, 0, none⟩ = some (.slice none 0 0) := QBwb.cell 0; have gwb0 : wb.frozen? ⟨hq, 0, none⟩ = false := QBwb.frozen 0; have qwb1 : wb.cell? ⟨hq, 1, none⟩ = some (.slice none 0 0) := QBwb.cell 1; have gwb1 : wb.frozen? ⟨hq, 1, none⟩ = false := QBwb.frozen 1; have qwb2 : wb.cell? ⟨hq, 2, none⟩ = some (.int .i64 0) := QBwb.cell 2; have gwb2 : wb.frozen? ⟨hq, 2, none⟩ = false := QBwb.frozen 2; have qwb3 : wb.cell? ⟨hq, 3, none⟩ = some (.int .i64 0) := QBwb.cell 3; have gwb3 : wb.frozen? ⟨hq, 3, none⟩ = false := QBwb.frozen 3; have k1 : ((((wb.setCell ⟨hq, 0, none⟩ (.slice a1 s.length n1)).setCell ⟨hq, 1, none⟩ (.slice a2 m.length n2)).setCell ⟨hq, 2, none⟩ (.int .i64 dc)).setCell ⟨hq, 3, none⟩ (.int .i64 tr)).cell? ⟨hp, 0, none⟩ = some (.slice sa s.length sc) := (by simp [PBwb.cell 0, hne, Ne.symm hne, World.cell?_setCell_other]); have k2 : ((((wb.setCell ⟨hq, 0, none⟩ (.slice a1 s.length n1)).setCell ⟨hq, 1, none⟩ (.slice a2 m.length n2)).setCell ⟨hq, 2, none⟩ (.int .i64 dc)).setCell ⟨hq, 3, none⟩ (.int .i64 tr)).cell? ⟨hp, 1, none⟩ = some (.slice ma m.length mc) := (by simp [PBwb.cell 1, hne, Ne.symm hne, World.cell?_setCell_other]); have k3 : ((((wb.setCell ⟨hq, 0, none⟩ (.slice a1 s.length n1)).setCell ⟨hq, 1, none⟩ (.slice a2 m.length n2)).setCell ⟨hq, 2, none⟩ (.int .i64 dc)).setCell ⟨hq, 3, none⟩ (.int .i64 tr)).cell? ⟨hp, 2, none⟩ = some (.int .i64 dc) := (by simp [PBwb.cell 2, hne, Ne.symm hne, World.cell?_setCell_other]); have k4 : ((((wb.setCell ⟨hq, 0, none⟩ (.slice a1 s.length n1)).setCell ⟨hq, 1, none⟩ (.slice a2 m.length n2)).setCell ⟨hq, 2, none⟩ (.int .i64 dc)).setCell ⟨hq, 3, none⟩ (.int .i64 tr)).cell? ⟨hp, 3, none⟩ = some (.int .i64 tr) := (by simp [PBwb.cell 3, hne, Ne.symm hne, World.cell?_setCell_other])))
  all_goals
    have e2 : (((wb.setCell ⟨hq, 0, none⟩ (.slice a1 s.length n1)).setCell ⟨hq, 1, none⟩ (.slice a2 m.length n2)).setCell ⟨hq, 2, none⟩ (.int .i64 dc)).setCell ⟨hq, 3, none⟩ (.int .i64 tr) = wb.setRow hq #[.slice a1 s.length n1, .slice a2 m.length n2, .int .i64 dc, .int .i64 tr] := by
      rw [QBwb.setCell 0, QBwb.setCell_setRow, QBwb.setCell_setRow, QBwb.setCell_setRow]
      rfl
    have BBb : Below w.heap.size w wb := Q.call HB.out (by repeat' (first | with_reducible exact Below.refl _ _ | with_reducible assumption | with_reducible refine Q.alloc ?_ _ | with_reducible refine Q.drew ?_ | with_reducible refine Q.drewN ?_ _ | with_reducible refine Q.call ?_ (by assumption)))
    have R1 : Rd EN wb (fun b => W.heap.size ≤ b) (.slice a1 s.length n1) s := hr1.below hb2
    have R2 : Rd EN wb (fun b => W.heap.size ≤ b) (.slice a2 m.length n2) m := hr2.keep (fun b hb hR => ⟨rfl, Nat.le_trans hb1.size hR⟩) (Nat.le_refl _)
    have HQW : Aside (hq < W.heap.size) := hqW
    have C2 : Chg (fun b => b = hq) wb (wb.setRow hq #[.slice a1 s.length n1, .slice a2 m.length n2, .int .i64 dc, .int .i64 tr]) := Chg.setRow _ _ _
    have HE2 := Lib.hid e2
    have HC2 := Lib.hid C2
    have HB2 := Lib.hid (QBwb.setRow #[.slice a1 s.length n1, .slice a2 m.length n2, .int .i64 dc, .int .i64 tr])
    have HR1 := Lib.hid R1
    have HR2 := Lib.hid R2
    have HBb := Lib.hid BBb
    go_wp2_with fail
    rw [HE2.out]
    obtain ⟨wf, hwf⟩ : ∃ wf, wf = wb.setRow hq #[.slice a1 s.length n1, .slice a2 m.length n2, .int .i64 dc, .int .i64 tr] := ⟨_, rfl⟩
    rw [← hwf] at HB2 HC2 ⊢
    have y0 : wf.cell? ⟨hq, 0, none⟩ = some (.slice a1 s.length n1) := HB2.out.cell 0
    have y1 : wf.cell? ⟨hq, 1, none⟩ = some (.slice a2 m.length n2) := HB2.out.cell 1
    have y2 : wf.cell? ⟨hq, 2, none⟩ = some (.int .i64 dc) := HB2.out.cell 2
    have y3 : wf.cell? ⟨hq, 3, none⟩ = some (.int .i64 tr) := HB2.out.cell 3
    (try simp only [Exit.inBlock, Exit.then])
    refine bodyPost_ret (v := .agg #[.slice a1 s.length n1, .slice a2 m.length n2, .int .i64 dc, .int .i64 tr]) (by simp [results, Try.f10, go_sem, y0, y1, y2, y3]) rfl ?_
    have hz := HZ.out
    have hqw := HQW.out
    have hbel : Below w.heap.size w wf := HC2.out.below HBb.out HBb.out.size (fun b h => by have h : b = hq := h; omega)
    exact ⟨_, _, _, _, rfl, HR1.out.keep (fun b hb hR => ⟨HC2.out.block b hb (by have h : W.heap.size ≤ b := hR; show ¬ b = hq; omega), trivial⟩) HC2.out.size, HR2.out.keep (fun b hb hR => ⟨HC2.out.block b hb (by have h : W.heap.size ≤ b := hR; show ¬ b = hq; omega), trivial⟩) HC2.out.size, hbel⟩
end Go.Proofs.Ytggnkkmlabhofaa
