/- A policy's table: labels.New. (printed by gen/la5.py) -/
import Derived.Test.YtggnkkmlabhofaaDoorTb0
namespace Go.Proofs.YtggnkkmlabhofaaDoor
set_option linter.unusedVariables false
set_option linter.unusedSimpArgs false
open Go.RowKit Go.Sort Go.Shelf Go.Lib
attribute [local go_sem ↓] Go.wp_at_zero Go.wp_at_succ

/-- A table: its policy's cells, and two rows of bytes. -/
structure TabC (M : Array Value) (sv mv : Value) (dc tr : Int) (a b : Nat → Int) : Prop where
  size : M.size = 131076
  p0 : M[0]? = some sv
  p1 : M[1]? = some mv
  p2 : M[2]? = some (.int .i64 dc)
  p3 : M[3]? = some (.int .i64 tr)
  ra : ∀ i, i < 65536 → M[4 + i]? = some (.int .u8 (a i))
  rb : ∀ i, i < 65536 → M[65540 + i]? = some (.int .u8 (b i))
def Tab (w : World) (g : Nat) (sv mv : Value) (dc tr : Int) (a b : Nat → Int) : Prop := ∃ M, TabC M sv mv dc tr a b ∧ Blk w g 95 M
def tab0 (sv mv : Value) (dc tr : Int) : Array Value := (((ztab.setIfInBounds 0 sv).setIfInBounds 1 mv).setIfInBounds 2 (.int .i64 dc)).setIfInBounds 3 (.int .i64 tr)
theorem tab0_ok (sv mv : Value) (dc tr : Int) : TabC (tab0 sv mv dc tr) sv mv dc tr (fun _ => 0) (fun _ => 0) := by
  have hz := ztab_size
  have key : ∀ i, i < 131072 → (tab0 sv mv dc tr)[4 + i]? = some (.int .u8 0) := by
    intro i hi
    unfold tab0
    simp only [Array.getElem?_setIfInBounds]
    rw [if_neg (by omega), if_neg (by omega), if_neg (by omega), if_neg (by omega), ztab_at i hi]
  refine ⟨by simp [tab0, hz], ?_, ?_, ?_, ?_, fun i hi => key i (by omega), fun i hi => ?_⟩
  · simp [tab0, Array.getElem?_setIfInBounds, hz]
  · simp [tab0, Array.getElem?_setIfInBounds, hz]
  · simp [tab0, Array.getElem?_setIfInBounds, hz]
  · simp [tab0, Array.getElem?_setIfInBounds, hz]
  · have := key (65536 + i) (by omega)
    rw [show 4 + (65536 + i) = 65540 + i by omega] at this
    exact this
theorem zc : Tryd.zeroCells95 = ztab := by kernel_rfl
theorem run_build_tab (sv mv : Value) (dc tr : Int) (w : World) : (Instr.build 95 #[(0, .agg #[sv, mv, .int .i64 dc, .int .i64 tr])]).run Tryd.prog w = .ok (.agg (tab0 sv mv dc tr)) w := by
  have hz := ztab_size
  simp [go_sem, run_underlying Tryd.underlying95, hz]
  rw [zc]
  rfl
theorem Tab.call {w w' : World} {g : Nat} {sv mv : Value} {dc tr : Int} {a b : Nat → Int} (h : Tab w g sv mv dc tr a b) (hb : Below w.heap.size w w') : Tab w' g sv mv dc tr a b := by
  obtain ⟨M, hM, hB⟩ := h
  exact ⟨M, hM, hB.call hb⟩
theorem Tab.setA {w : World} {g : Nat} {sv mv : Value} {dc tr : Int} {a b : Nat → Int} (h : Tab w g sv mv dc tr a b) {i : Nat} (hi : i < 65536) (v : Int) : Tab (w.setCell ⟨g, 4 + i, none⟩ (.int .u8 v)) g sv mv dc tr (fun j => if j = i then v else a j) b := by
  obtain ⟨M, hM, hB⟩ := h
  have hs := hM.size
  refine ⟨M.setIfInBounds (4 + i) (.int .u8 v), ⟨by simp [hs], ?_, ?_, ?_, ?_, fun j hj => ?_, fun j hj => ?_⟩, ?_⟩
  · rw [Array.getElem?_setIfInBounds, if_neg (by omega)]; exact hM.p0
  · rw [Array.getElem?_setIfInBounds, if_neg (by omega)]; exact hM.p1
  · rw [Array.getElem?_setIfInBounds, if_neg (by omega)]; exact hM.p2
  · rw [Array.getElem?_setIfInBounds, if_neg (by omega)]; exact hM.p3
  · rw [Array.getElem?_setIfInBounds]
    by_cases c : j = i
    · subst c; rw [if_pos rfl, if_pos (by omega), if_pos rfl]
    · rw [if_neg (by omega), if_neg c]; exact hM.ra j hj
  · rw [Array.getElem?_setIfInBounds, if_neg (by omega)]; exact hM.rb j hj
  · rw [hB.setCell]
    exact hB.setRow _
theorem Tab.setB {w : World} {g : Nat} {sv mv : Value} {dc tr : Int} {a b : Nat → Int} (h : Tab w g sv mv dc tr a b) {i : Nat} (hi : i < 65536) (v : Int) : Tab (w.setCell ⟨g, 65540 + i, none⟩ (.int .u8 v)) g sv mv dc tr a (fun j => if j = i then v else b j) := by
  obtain ⟨M, hM, hB⟩ := h
  have hs := hM.size
  refine ⟨M.setIfInBounds (65540 + i) (.int .u8 v), ⟨by simp [hs], ?_, ?_, ?_, ?_, fun j hj => ?_, fun j hj => ?_⟩, ?_⟩
  · rw [Array.getElem?_setIfInBounds, if_neg (by omega)]; exact hM.p0
  · rw [Array.getElem?_setIfInBounds, if_neg (by omega)]; exact hM.p1
  · rw [Array.getElem?_setIfInBounds, if_neg (by omega)]; exact hM.p2
  · rw [Array.getElem?_setIfInBounds, if_neg (by omega)]; exact hM.p3
  · rw [Array.getElem?_setIfInBounds, if_neg (by omega)]; exact hM.ra j hj
  · rw [Array.getElem?_setIfInBounds]
    by_cases c : j = i
    · subst c; rw [if_pos rfl, if_pos (by omega), if_pos rfl]
    · rw [if_neg (by omega), if_neg c]; exact hM.rb j hj
  · rw [hB.setCell]
    exact hB.setRow _
theorem chg_setCell (w : World) (g o : Nat) (v : Value) : Chg (fun b => b = g) w (w.setCell ⟨g, o, none⟩ v) := ⟨rfl, rfl, rfl, by simp, fun b _ hb => Below.heap_setCell _ _ _ b hb⟩
theorem Tab.lt {w : World} {g : Nat} {sv mv : Value} {dc tr : Int} {a b : Nat → Int} (h : Tab w g sv mv dc tr a b) : g < w.heap.size := by
  obtain ⟨M, _, hB⟩ := h
  exact hB.lt
theorem Tab.fr {w : World} {g : Nat} {sv mv : Value} {dc tr : Int} {a b : Nat → Int} (h : Tab w g sv mv dc tr a b) (i : Nat) : w.frozen? ⟨g, i, none⟩ = false := by
  obtain ⟨M, _, hB⟩ := h
  exact hB.frozen i
theorem Tab.c {w : World} {g : Nat} {sv mv : Value} {dc tr : Int} {a b : Nat → Int} (h : Tab w g sv mv dc tr a b) : w.cell? ⟨g, 0, none⟩ = some sv ∧ w.cell? ⟨g, 1, none⟩ = some mv ∧ w.cell? ⟨g, 2, none⟩ = some (.int .i64 dc) ∧ w.cell? ⟨g, 3, none⟩ = some (.int .i64 tr) := by
  obtain ⟨M, hM, hB⟩ := h
  exact ⟨(hB.cell 0).trans hM.p0, (hB.cell 1).trans hM.p1, (hB.cell 2).trans hM.p2, (hB.cell 3).trans hM.p3⟩
theorem Tab.ca {w : World} {g : Nat} {sv mv : Value} {dc tr : Int} {a b : Nat → Int} (h : Tab w g sv mv dc tr a b) {i : Nat} (hi : i < 65536) : w.cell? ⟨g, 4 + i, none⟩ = some (.int .u8 (a i)) := by
  obtain ⟨M, hM, hB⟩ := h
  exact (hB.cell _).trans (hM.ra i hi)
theorem Tab.cb {w : World} {g : Nat} {sv mv : Value} {dc tr : Int} {a b : Nat → Int} (h : Tab w g sv mv dc tr a b) {i : Nat} (hi : i < 65536) : w.cell? ⟨g, 65540 + i, none⟩ = some (.int .u8 (b i)) := by
  obtain ⟨M, hM, hB⟩ := h
  exact (hB.cell _).trans (hM.rb i hi)
theorem Tab.congr {w : World} {g : Nat} {sv mv : Value} {dc tr : Int} {a b a' b' : Nat → Int} (h : Tab w g sv mv dc tr a b) (ha : a = a') (hb : b = b') : Tab w g sv mv dc tr a' b' := by subst ha; subst hb; exact h
/-- Spans painted, one behind the other. -/
def pt (x : Sp) (a : Nat → Int) : Nat → Int := fun i => if x.f ≤ (i : Int) ∧ (i : Int) ≤ x.t then x.b else a i
def ptn (fn at_ : Nat) (v : Int) (a : Nat → Int) : Nat → Int := fun i => if fn ≤ i ∧ i < at_ then v else a i
def fillT (l : List Sp) (a : Nat → Int) : Nat → Int := l.foldl (fun a x => pt x a) a
theorem ptn_zero (fn : Nat) (v : Int) (a : Nat → Int) : ptn fn fn v a = a := by
  funext i; unfold ptn; rw [if_neg (by omega)]
theorem ptn_step (fn at_ : Nat) (v : Int) (a : Nat → Int) (h : fn ≤ at_) : (fun j => if j = at_ then v else ptn fn at_ v a j) = ptn fn (at_ + 1) v a := by
  funext i; unfold ptn
  by_cases c : i = at_
  · rw [if_pos c, if_pos (by omega)]
  · rw [if_neg c]
    by_cases d : fn ≤ i ∧ i < at_
    · rw [if_pos d, if_pos (by omega)]
    · rw [if_neg d, if_neg (by omega)]
theorem ptn_pt (x : Sp) (fn tn : Nat) (hf : x.f = fn) (ht : x.t = tn) (a : Nat → Int) : ptn fn (tn + 1) x.b a = pt x a := by
  funext i; unfold ptn pt
  rw [hf, ht]
  by_cases c : fn ≤ i ∧ i < tn + 1
  · rw [if_pos c, if_pos (by omega)]
  · rw [if_neg c, if_neg (by omega)]
theorem fillT_snoc (l : List Sp) (x : Sp) (a : Nat → Int) : fillT (l ++ [x]) a = pt x (fillT l a) := by unfold fillT; rw [List.foldl_append]; rfl
/-- What lies, of a checked list. -/
theorem chkL_lies (other : List Sp) (rom : Bool) : ∀ (r own : List Sp), chkL other rom own r = 0 → ∀ x ∈ r, liesB x rom = true ∧ x.b ≠ 0
  | [], _, _, x, hx => by simp at hx
  | y :: r, own, h, x, hx => by
    unfold chkL at h
    split at h
    · cases h
    · rename_i h1
      split at h
      · rcases List.mem_cons.1 hx with rfl | hx
        · simp only [not_or, Bool.not_eq_false] at h1
          exact h1
        · exact chkL_lies other rom r _ h x hx
      · rename_i h2
        exact absurd h h2
theorem chk_lies {s m : List Sp} {d t : Int} (h : chk s m d t = 0) : chkL [] true [] s = 0 ∧ chkL s false [] m = 0 ∧ chkN d t = 0 := by
  unfold chk at h
  split at h
  · rename_i h1
    split at h
    · rename_i h2
      exact ⟨h1, h2, h⟩
    · rename_i h2; exact absurd h h2
  · rename_i h1; exact absurd h h1
theorem lies_bnd {x : Sp} {rom : Bool} (h : liesB x rom = true) : 0 ≤ x.f ∧ x.f ≤ x.t ∧ x.t < 65536 := by
  have := of_decide_eq_true h
  omega
/-- What stays while a table is filled. -/
structure NK (w : World) (g : Nat) (sv mv : Value) (s m : List Sp) (V : World) : Prop where
  bel : Below w.heap.size w V
  rs : Rd ES V (fun b => b < g ∧ w.heap.size ≤ b) sv s
  rm : Rd ES V (fun b => b < g ∧ w.heap.size ≤ b) mv m
theorem NK.call {w V V' : World} {g : Nat} {sv mv : Value} {s m : List Sp} (h : NK w g sv mv s m V) (hb : Below V.heap.size V V') : NK w g sv mv s m V' := ⟨Q.call h.bel hb, h.rs.below hb, h.rm.below hb⟩
theorem NK.chg {w V V' : World} {g : Nat} {sv mv : Value} {s m : List Sp} (h : NK w g sv mv s m V) (hc : Chg (fun b => b = g) V V') (hg : w.heap.size ≤ g) : NK w g sv mv s m V' :=
  ⟨hc.below h.bel h.bel.size (fun b hb => by omega), h.rs.keep (fun b hb hR => ⟨hc.block b hb (by omega), hR⟩) hc.size, h.rm.keep (fun b hb hR => ⟨hc.block b hb (by omega), hR⟩) hc.size⟩
theorem new_bad (w : World) (R : Nat → Prop) (sv mv : Value) (s m : List Sp) (dc tr : Int) (hs : Rd ES w R sv s) (hm : Rd ES w R mv m) (ls : s.length ≤ 1000) (lm : m.length ≤ 1000) (C : Int) (hC : chk s m dc tr = C) (h0 : C ≠ 0) :
    Calls Tryd.prog 27 #[.agg #[sv, mv, .int .i64 dc, .int .i64 tr]] w fun e w' => e = .returned (.tuple #[.pointer none, .int .i64 C]) ∧ Below w.heap.size w w' := by
  have CK := fun (V : World) (h : Below w.heap.size w V) => check_eq V R sv mv s m dc tr (hs.below h) (hm.below h) ls lm
  rw [hC] at CK
  have hcb : (C == 0) = false := by simp [h0]
  obtain ⟨sa, sc, rfl, _, _, _⟩ := hs
  obtain ⟨ma, mc, rfl, _, _, _⟩ := hm
  clear hC
  go_enter Tryd.func27, Tryd.ntmps27
  go_wp2_with fail
  refine wp_scope_straight ?_
  go_wp2_with (go_at_call 29; (with_reducible refine (CK _ (by repeat' (first | with_reducible exact Below.refl _ _ | with_reducible assumption | with_reducible refine Q.alloc ?_ _ | with_reducible refine Q.drew ?_ | with_reducible refine Q.drewN ?_ _ | with_reducible refine Q.call ?_ (by assumption)))).mono ?_); rintro e w1 ⟨rfl, hb1⟩)
  (try simp only [Exit.noGoto_ret])
  go_ret2
  exact ⟨rfl, (by repeat' (first | with_reducible exact Below.refl _ _ | with_reducible assumption | with_reducible refine Q.alloc ?_ _ | with_reducible refine Q.drew ?_ | with_reducible refine Q.drewN ?_ _ | with_reducible refine Q.call ?_ (by assumption)))⟩
end Go.Proofs.YtggnkkmlabhofaaDoor
