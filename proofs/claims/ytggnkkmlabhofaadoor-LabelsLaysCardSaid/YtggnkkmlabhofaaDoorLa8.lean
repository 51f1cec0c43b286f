/- The chapter's example of labels. (printed by gen/la8.py) -/
import Derived.Test.YtggnkkmlabhofaaDoorLa7
import Derived.Test.YtggnkkmlabhofaaDoorTb1
namespace Go.Proofs.YtggnkkmlabhofaaDoor
set_option linter.unusedVariables false
set_option linter.unusedSimpArgs false
open Go.RowKit Go.Shelf
attribute [local go_sem ↓] Go.wp_at_zero Go.wp_at_succ
attribute [local go_sem] Oper.semAt_some

theorem heap_call9 {W w' : World} {D : Nat} {o : Obj} (h : W.heap[D]? = some o) (hb : Below W.heap.size W w') : w'.heap[D]? = some o := (hb.block D (Array.getElem?_eq_some_iff.1 h).1).trans h
theorem eql_seq_nil (f : FuncId) (cs : Array Value) (w : World) : (binOp .eql 68 (.func (.func f) #[] cs) .nilFunc).run Tryd.prog w = .ok (.bool false) w := by
  have h : ∀ d : Nat, (Op.equalIn (d + 1) 68 (.func (.func f) #[] cs) .nilFunc).run Tryd.prog w = .ok false w := fun d => by
    simp [Op.equalIn, run_underlying Tryd.underlying68, go_sem]
  simp only [binOp]
  simp [Op.equal, Op.maxDepth, h 9999]
attribute [local go_sem] eql_seq_nil
/-- The example's spans. -/
def awS : List Sp := [⟨16, 17, 3⟩]
def awA : Nat → Int := fillT (srt awS) (fun _ => 0)
theorem awA_eq (i : Nat) : awA i = if 16 ≤ i ∧ i ≤ 17 then 3 else 0 := by
  show (if (16 : Int) ≤ (i : Int) ∧ (i : Int) ≤ 17 then (3 : Int) else 0) = _
  by_cases h : 16 ≤ i ∧ i ≤ 17
  · rw [if_pos h, if_pos (by omega)]
  · rw [if_neg h, if_neg (by omega)]
theorem tabs_s0 {a : Nat → Int} {k : Nat} (h : a k = 0) : tabs a (k + 1) = tabs a k := by rw [tabs, if_pos h, List.append_nil]
theorem tabs_s1 {a : Nat → Int} {k : Nat} {v : Int} (h : a k = v) (hv : v ≠ 0) : tabs a (k + 1) = tabs a k ++ [(k, v)] := by rw [tabs, if_neg (by rw [h]; exact hv), h]
theorem aw_low (k : Nat) (h : k ≤ 16) : tabs awA k = [] := by
  induction k with
  | zero => rfl
  | succ k ih => rw [tabs_s0 (by rw [awA_eq, if_neg (by omega)]), ih (by omega)]
theorem aw_17 : tabs awA 17 = [(16, 3)] := by
  rw [show (17 : Nat) = 16 + 1 from rfl, tabs_s1 (v := 3) (by rw [awA_eq, if_pos (by omega)]) (by decide), aw_low 16 (Nat.le_refl _)]; rfl
theorem aw_high (n : Nat) : tabs awA (18 + n) = [(16, 3), (17, 3)] := by
  induction n with
  | zero =>
    rw [show (18 + 0 : Nat) = 17 + 1 from rfl, tabs_s1 (v := 3) (by rw [awA_eq, if_pos (by omega)]) (by decide), aw_17]; rfl
  | succ n ih => rw [show 18 + (n + 1) = (18 + n) + 1 by omega, tabs_s0 (by rw [awA_eq, if_neg (by omega)]), ih]
theorem aw_all (N : Nat) (h : N = 65536) : tabs awA N = [(16, 3), (17, 3)] := by
  rw [h, show (65536 : Nat) = 18 + 65518 by decide]
  exact aw_high _
def GoodA (q : List (Nat × Int)) (y : Nat × Int) : Prop := y.1 = 16 + q.length ∧ y.2 = 3 ∧ q.length ≤ 1
theorem aw_good (k : Nat) (hk : awA k ≠ 0) : GoodA (tabs awA k) (k, awA k) := by
  rw [awA_eq] at hk ⊢
  have h : 16 ≤ k ∧ k ≤ 17 := by
    by_cases h : 16 ≤ k ∧ k ≤ 17
    · exact h
    · rw [if_neg h] at hk; exact absurd rfl hk
  have h2 : k = 16 ∨ k = 17 := by omega
  rcases h2 with rfl | rfl
  · rw [aw_low 16 (Nat.le_refl _)]; exact ⟨rfl, rfl, by decide⟩
  · rw [aw_17]; exact ⟨rfl, rfl, by decide⟩
set_option maxRecDepth 1000000 in
set_option maxHeartbeats 6400000 in
theorem lawake_eq (w : World) : Calls Tryd.prog 26 #[] w fun e w' => e = .returned (.bool true) ∧ Below w.heap.size w w' := by
  refine (callsIn_wide (n := 3)).1 ?_
  refine callsIn_of_wp_marks Tryd.func26 rfl trivial ?_
  simp only [Tryd.ntmps26, List.size_toArray, List.length_cons, List.length_nil, Nat.reduceAdd, Nat.reduceSub, Array.replicate_succ, Array.replicate_zero, List.push_toArray, List.append_toArray, List.nil_append, List.cons_append]
  refine wpIn_wide.2 ?_
  have RS : ∀ V : World, Rd ES (V.alloc (.cells #[.int .i64 16, .int .i64 17, .int .u8 3] 91)) (fun _ => True) (.slice (some ⟨V.heap.size, 0, none⟩) 1 1) awS := by
    intro V
    refine ⟨_, _, rfl, Nat.le_refl _, (fun h => by cases h), fun _ => ⟨V.heap.size, 0, rfl, by simp, trivial, fun k x hk j u hu => ?_⟩⟩
    have hB : Blk (V.alloc (.cells #[.int .i64 16, .int .i64 17, .int .u8 3] 91)) V.heap.size 91 #[.int .i64 16, .int .i64 17, .int .u8 3] := Blk.new _ _ _
    have hk0 : k = 0 := by have := (List.getElem?_eq_some_iff.1 hk).1; simp [awS] at this; omega
    subst hk0
    simp [awS] at hk
    subst hk
    have hj : j < 3 := (List.getElem?_eq_some_iff.1 hu).1
    have hj3 : j = 0 ∨ j = 1 ∨ j = 2 := by omega
    rcases hj3 with rfl | rfl | rfl
    · simp [ES] at hu; subst hu; exact hB.cell 0
    · simp [ES] at hu; subst hu; exact hB.cell 1
    · simp [ES] at hu; subst hu; exact hB.cell 2
  have RM : ∀ V : World, Rd ES V (fun _ => True) (.slice none 0 0) [] := fun V => ⟨none, 0, rfl, Nat.le_refl _, fun _ => rfl, fun h => absurd h (by simp)⟩
  have NW := fun V => new_ok (V.alloc (.cells #[.int .i64 16, .int .i64 17, .int .u8 3] 91)) (fun _ => True) _ _ awS [] 0 1 (RS V) (RM _) (by decide) (by decide) (by decide)
  have NW := NW (w.alloc (.cells #[.bool false] 4))
  simp only [World.size_alloc] at NW
  clear RS RM
  go_wp2_with (go_at_call 27; (with_reducible refine NW.mono ?_); rintro e w1 ⟨g, v1, v2, rfl, hg, hN, hT⟩; refine Hid.out ?_)
  refine Lib.hid ?_
  have hB0 : Below w.heap.size w ((w.alloc (.cells #[.bool false] 4)).alloc (.cells #[.int .i64 16, .int .i64 17, .int .u8 3] 91)) := Q.alloc (Q.alloc (Below.refl _ _) _) _
  have hB1 : Below w.heap.size w w1 := Q.call hB0 hN.bel
  have r1 : Blk w1 w.heap.size 4 #[.bool false] := ((Blk.new w 4 #[.bool false]).alloc _).call hN.bel
  have hg1 := hT.lt
  have hT1 := Lib.hid hT
  clear hN hT NW hB0
  go_wp2_with (go_at_call 35; (with_reducible refine (all_calls _ g).mono ?_); rintro e w2 ⟨rfl, rfl⟩)
  obtain ⟨bn, hbn⟩ : ∃ bn, bn = w1.heap.size := ⟨_, rfl⟩
  obtain ⟨gb, hgb⟩ : ∃ gb, gb = w1.heap.size + 1 := ⟨_, rfl⟩
  obtain ⟨w3, hw3⟩ : ∃ w3, w3 = (w1.alloc (.cells #[.int .i64 0] 3)).alloc (.cells #[.pointer (some ⟨g, 0, none⟩)] 49) := ⟨_, rfl⟩
  have b13 : Below w1.heap.size w1 w3 := by rw [hw3]; exact Q.alloc (Q.alloc (Below.refl _ _) _) _
  have z3 : w3.heap.size = w1.heap.size + 2 := by rw [hw3]; simp
  have r3 := r1.call b13
  have k3 : Blk w3 bn 3 #[.int .i64 0] := by rw [hw3]; exact Blk.alloc (Blk.new' hbn) _
  have q3 : Blk w3 gb 49 #[.pointer (some ⟨g, 0, none⟩)] := by rw [hw3]; exact Blk.new' (by rw [hgb]; simp)
  have hcb : w3.cell? ⟨gb, 0, none⟩ = some (.pointer (some ⟨g, 0, none⟩)) := q3.cell 0
  have T3 := Lib.hid (hT1.out.call b13)
  have hB3 : Below w.heap.size w w3 := Q.call hB1 b13
  have r1l := r1.lt
  rw [← hw3, ← hgb, ← hbn]
  have hgb3 : gb < w3.heap.size := by omega
  have n1 : bn ≤ w1.heap.size := by omega
  have n2 : w1.heap.size ≤ bn := by omega
  have n3 : bn ≤ w3.heap.size := by omega
  clear hw3 r1 b13 hT1 q3 hbn hgb z3
  go_wp2_with fail
  refine (wpIn_wide (n := 3)).1 ?_
  refine wpIn_rangeFunc_ownF rfl (by decide) (gf := 61) (lb := #[.pointer (some ⟨gb, 0, none⟩)]) rfl trivial (enters_of Tryd.func61 (by kernel_rfl) rfl)
    (all_stops 2 (by decide) gb g 65536 rfl v1 v2 0 1 awA _ [(16, 3), (17, 3)] (aw_all _ rfl) w3 hgb3 hcb T3.out) (fun _ _ => trivial) (fun _ _ _ _ _ _ _ _ => trivial) (Below.refl _ _) (fun _ => rfl)
    (fun pre W => (W.cell? ⟨bn, 0, none⟩ = some (.int .i64 (pre.length : Int)) ∧ W.frozen? ⟨bn, 0, none⟩ = false) ∧ Below bn w3 W)
    (fun c pre _ => c = .ret ∧ ∃ (q : List (Nat × Int)) (y : Nat × Int), pre = q ++ [y] ∧ ¬ GoodA q y)
    (OwnFrom.and (Own.from (fun s A B row hs hg hr => ⟨cell_kept hs.1 hg hr, (frozen_kept hs.1 hg hr).trans hs.2⟩) _) (ownFrom_below (by omega) (by omega)))
    (fun c => ownFrom_pure _ (fun pre => c = .ret ∧ ∃ (q : List (Nat × Int)) (y : Nat × Int), pre = q ++ [y] ∧ ¬ GoodA q y))
    ⟨⟨k3.cell 0, k3.frozen 0⟩, Below.refl _ _⟩ ?a1 ?assign ?body ?done ?stop
  case assign =>
    intro l x W K hK
    gi_wp2
    exact hK
  case body =>
    rintro l pre x W ⟨⟨h1, h2⟩, hBW⟩ hl
    obtain ⟨xa, xb⟩ := x
    dsimp only
    have kw := k3
    have rW : Blk W w.heap.size 4 #[.bool false] := r3.below hBW (by omega)
    have r0 : W.cell? ⟨w.heap.size, 0, none⟩ = some (.bool false) := rW.cell 0
    have r1 : W.frozen? ⟨w.heap.size, 0, none⟩ = false := rW.frozen 0
    have hpl : (pre.length : Int) < 65536 := by have : pre.length < 65536 := hl; omega
    have HBW := Lib.hid hBW
    clear hBW rW kw
    by_cases g1 : xa = 16 + pre.length
    · have e1 : (16 : Int) + (pre.length : Int) = (xa : Int) := by omega
      have rw1 : IntKind.i64.wrap ((16 : Int) + (pre.length : Int)) = (xa : Int) := by rw [IntKind.wrap_i64]; omega
      have rw2 : IntKind.i64.wrap (xa : Int) = (xa : Int) := by rw [IntKind.wrap_i64]; omega
      clear g1 rw1
      by_cases g2 : xb = 3
      · subst g2
        by_cases g3 : pre.length ≤ 1
        · have g3z : ¬ (1 : Int) < (pre.length : Int) := by omega
          gi_wp2
          refine ⟨KeepsOthers.setCell _ _ _, trivial, ⟨World.cell?_setCell_same' _ _ _ (by rw [h1]; rfl) |>.trans (by simp), by rw [World.frozen?_setCell]; exact h2⟩, HBW.out.setCell (p := ⟨bn, 0, none⟩) (Nat.le_refl _) _⟩
        · have g3z : (1 : Int) < (pre.length : Int) := by omega
          gi_wp2
          exact ⟨KeepsOthers.setCell _ _ _, rfl, pre, _, rfl, fun h => g3 h.2.2⟩
      · have g2b : (xb == 3) = false := by simp [g2]
        have g2c : (xb != 3) = true := by simp [g2]
        gi_wp2
        exact ⟨KeepsOthers.setCell _ _ _, rfl, pre, _, rfl, fun h => g2 h.2.1⟩
    · have rw1 : IntKind.i64.wrap ((16 : Int) + (pre.length : Int)) = (16 : Int) + (pre.length : Int) := by rw [IntKind.wrap_i64]; omega
      have e1 : ((xa : Int) == (16 : Int) + (pre.length : Int)) = false := by simp; omega
      have e2 : ((xa : Int) != (16 : Int) + (pre.length : Int)) = true := by simp; omega
      gi_wp2
      exact ⟨KeepsOthers.setCell _ _ _, rfl, pre, _, rfl, fun h => g1 h.1⟩
  case stop =>
    rintro D c pre W _ ⟨k, hk, hak, rfl⟩ ⟨rfl, q, y, hq, hy⟩ _
    exfalso
    obtain ⟨h1, h2⟩ := List.append_inj' hq rfl
    cases h2
    rw [← h1] at hy
    exact hy (aw_good k hak)
  case done =>
    rintro D ys W hD rfl ⟨⟨h1, h2⟩, hBW⟩ hKD
    have TW : Tab W g v1 v2 0 1 awA (fillT (srt []) (fun _ => 0)) := by
      obtain ⟨M, hM, hB⟩ := T3.out
      exact ⟨M, hM, hB.below hBW (by omega)⟩
    have hn2 : W.cell? ⟨bn, 0, none⟩ = some (.int .i64 2) := h1
    have rW : Blk W w.heap.size 4 #[.bool false] := r3.below hBW (by omega)
    have hBn : Below w.heap.size w W := hB3.trans (hBW.mono (by omega))
    have S1 := fun (V : World) (hV : Below W.heap.size W V) => secret_eq V g 17 v1 v2 0 1 awA _ (TW.call hV)
    have S2 := fun (V : World) (hV : Below W.heap.size W V) => secret_eq V g 18 v1 v2 0 1 awA _ (TW.call hV)
    rw [show bitsAt awA 17 = 3 from awA_eq 17] at S1
    rw [show bitsAt awA 18 = 0 from awA_eq 18] at S2
    have hD' : w.heap.size ≤ D := by omega
    have HTW := Lib.hid TW
    clear TW h1 h2 hBW T3 hcb k3 r3
    go_wp2_with (first
      | (go_at_call 33; (with_reducible refine (S1 _ (by repeat' (first | with_reducible exact Below.refl _ _ | with_reducible assumption | with_reducible refine Q.alloc ?_ _ | with_reducible refine Q.drew ?_ | with_reducible refine Q.drewN ?_ _ | with_reducible refine Q.call ?_ (by assumption)))).mono ?_); rintro e w5 ⟨rfl, hb5⟩)
      | (go_at_call 33; (with_reducible refine (S2 _ (by repeat' (first | with_reducible exact Below.refl _ _ | with_reducible assumption | with_reducible refine Q.alloc ?_ _ | with_reducible refine Q.drew ?_ | with_reducible refine Q.drewN ?_ _ | with_reducible refine Q.call ?_ (by assumption)))).mono ?_); rintro e w6 ⟨rfl, hb6⟩; refine Hid.out ?_))
    refine Lib.hid ?_
    have hb56 : Below W.heap.size W w6 := (by repeat' (first | with_reducible exact Below.refl _ _ | with_reducible assumption | with_reducible refine Q.alloc ?_ _ | with_reducible refine Q.drew ?_ | with_reducible refine Q.drewN ?_ _ | with_reducible refine Q.call ?_ (by assumption)))
    have r6 := rW.call hb56
    have hK6 : w6.heap[D]? = some (.deferred (some [])) := heap_call9 hKD hb56
    have hB6 := Q.call hBn hb56
    have z0 := r6.cell 0
    have z1 := r6.frozen 0
    go_wp2_with fail
    have hK' := (KeepsOthers.setCell w6 ⟨w.heap.size, 0, none⟩ (.bool true)).same D _ hK6 rfl
    refine ⟨by simp, .inl ⟨_, _, rfl, run_takeDeferred hK', ?_⟩⟩
    have hc5 := cell_kept (World.cell?_setCell_same' w6 ⟨w.heap.size, 0, none⟩ (.bool true) (by rw [z0]; rfl)) (grownBy_putObj' _ D (.deferred none)) (fun r e => by cases e; exact ⟨_, hK', rfl⟩)
    refine ⟨.bool true, ?_, rfl, (hB6.setCell (p := ⟨w.heap.size, 0, none⟩) (Nat.le_refl _) _).trans (belowK_b (w := w) (Nat.le_refl _) _ D _ _ hD' hK' rfl rfl)⟩
    simp [results, Tryd.f26, go_sem, hc5]
end Go.Proofs.YtggnkkmlabhofaaDoor
