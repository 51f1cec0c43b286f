/- Verdicts: their texts. (printed by gen/cp3.py) -/
import Derived.Test.YtggnkkmlabhofaaDoorCp2
import Derived.Test.YtggnkkmlabhofaaDoorCpJ
namespace Go.Proofs.YtggnkkmlabhofaaDoor
set_option linter.unusedVariables false
set_option linter.unusedSimpArgs false
open Go.RowKit
attribute [local go_sem ↓] Go.wp_at_zero Go.wp_at_succ
attribute [local go_sem high] cat_ok

def ES : Enc By 1 := ⟨fun t => [.string (str t)], fun _ => rfl, fun _ v hv => by simp at hv; subst hv; rfl, by decide⟩
theorem str_info : (Tryd.prog.info? 9).map (fun i => (i.zero, i.size, i.bytes)) = some (some (.string ByteArray.empty), 1, 16) := by kernel_rfl
theorem ES_app (l : List By) (x y : By) : ES.row (l ++ [x, y]) = ES.row l ++ [.string (str x), .string (str y)] := by rw [ES.row_append]; rfl
theorem ES_app1 (l : List By) (x : By) : ES.row (l ++ [x]) = ES.row l ++ [.string (str x)] := by rw [ES.row_append]; rfl
def wordT (c : Int) : By := if c = 0 then [100, 111, 110, 101] else if c = 1 then [104, 97, 108, 116] else if c = 2 then [97, 108, 97, 114, 109] else [102, 117, 108, 108]
def baseT (lw : Bool) : By := if lw then [108, 111, 119] else [104, 105, 103, 104]
def pcs (lw : Bool) (c0 c1 y0 y1 ap ou lo wh : Int) : List By := [baseT lw, wordT c0, Lib.itoa y0, wordT c1, Lib.itoa y1, numT ap, numT ou, numT lo, numT wh]
/-- The box's cells that are read. -/
structure Bx (b : Nat) (c0 c1 y0 y1 ap ou lo wh : Int) (W : World) : Prop where
  lt : b < W.heap.size
  k3 : W.cell? ⟨b, 3, none⟩ = some (.int .i64 y0)
  k4 : W.cell? ⟨b, 4, none⟩ = some (.int .i64 y1)
  k5 : W.cell? ⟨b, 5, none⟩ = some (.int .i64 ap)
  k6 : W.cell? ⟨b, 6, none⟩ = some (.int .i64 ou)
  k7 : W.cell? ⟨b, 7, none⟩ = some (.int .i64 lo)
  k8 : W.cell? ⟨b, 8, none⟩ = some (.int .i64 wh)
theorem Bx.keep {b : Nat} {c0 c1 y0 y1 ap ou lo wh : Int} {W W' : World} (h : Bx b c0 c1 y0 y1 ap ou lo wh W) (hk : W'.heap[b]? = W.heap[b]?) (hs : W.heap.size ≤ W'.heap.size) : Bx b c0 c1 y0 y1 ap ou lo wh W' := by
  have hc : ∀ o, W'.cell? ⟨b, o, none⟩ = W.cell? ⟨b, o, none⟩ := fun o => World.cell?_of_block hk
  exact ⟨Nat.lt_of_lt_of_le h.lt hs, (hc _).trans h.k3, (hc _).trans h.k4, (hc _).trans h.k5, (hc _).trans h.k6, (hc _).trans h.k7, (hc _).trans h.k8⟩
/-- What both loops keep: the box, the texts so far. -/
structure VtW (w : World) (c0 c1 y0 y1 ap ou lo wh : Int) (l : List By) (ov : Value) (wr : World) : Prop where
  own : wr.ownsRow (w.heap.size + 1) 9 1 ov l.length (ES.row l)
  box : Bx w.heap.size c0 c1 y0 y1 ap ou lo wh wr
  blo : Below w.heap.size w wr
theorem VtW.push {w : World} {c0 c1 y0 y1 ap ou lo wh : Int} {l l' : List By} {ov ov' : Value} {wr V V' : World} (h : VtW w c0 c1 y0 y1 ap ou lo wh l ov wr) (hb : Below wr.heap.size wr V) (hg : V.grownBy V' ov.ownBlock) (ho : V'.ownsRow (w.heap.size + 1) 9 1 ov' l'.length (ES.row l')) : VtW w c0 c1 y0 y1 ap ou lo wh l' ov' V' := by
  have hne : ∀ b, ov.ownBlock = some b → w.heap.size + 1 ≤ b := fun b e => (own_lt h.own e).2
  have hlt := h.box.lt
  have hs := hb.size
  exact ⟨ho, (h.box.keep (hb.block _ hlt) hs).keep (hg.block _ (by omega) (fun e => by have := hne _ e.symm; omega)) hg.size, (Q.call h.blo hb).grown hg (by have := h.blo.size; omega) (fun g e => by have := hne g e; omega)⟩
theorem own_call {w V : World} {B e size n : Nat} {v : Value} {xs : List Value} (h : w.ownsRow B e size v n xs) (hb : Below w.heap.size w V) : V.ownsRow B e size v n xs := own_keep h (fun b _ hlt => hb.block b hlt) hb.size
theorem own_cells {w : World} {B e size n : Nat} {v : Value} {xs : List Value} (h : w.ownsRow B e size v n xs) (hn : 0 < n) :
    ∃ g cap, v = .slice (some ⟨g, 0, none⟩) n cap ∧ n ≤ cap ∧ g < w.heap.size ∧ ∀ j u, xs[j]? = some u → w.cell? ⟨g, j, none⟩ = some u := by
  rcases h.2 with ⟨rfl, hx⟩ | ⟨g, cap, cur, rfl, hB, hg, hc, hrest⟩
  · omega
  · refine ⟨g, cap, rfl, hc, (Array.getElem?_eq_some_iff.1 hg).1, fun j u hu => ?_⟩
    have := h.cells (g := g) rfl j u hu
    rw [add_of, Nat.zero_add] at this
    exact this
theorem word_len (c : Int) : (wordT c).length ≤ 21 := by
  unfold wordT
  split
  · simp
  split
  · simp
  split <;> simp
theorem num_len (n : Int) (h0 : -9223372036854775808 ≤ n) (h1 : n ≤ 9223372036854775807) : (numT n).length ≤ 21 := by
  unfold numT
  split
  · simp
  · exact Lib.itoa_length_le n h0 h1
theorem ES_get (l : List By) (j : Nat) : (ES.row l)[j]? = (l[j]?).map fun x => Value.string (str x) := by
  have e : ES.row l = l.map fun x => Value.string (str x) := by
    induction l with
    | nil => rfl
    | cons x l ih => simp only [Enc.row, List.flatMap_cons, List.map_cons] at *; rw [ih]; rfl
  rw [e, List.getElem?_map]
theorem vjoin_eq (w : World) (g cap : Nat) (l : List By) (h : ∀ j u, (ES.row l)[j]? = some u → w.cell? ⟨g, j, none⟩ = some u) (hg : g < w.heap.size) (hc : l.length ≤ cap) (hl : l.length ≤ 1000) (hj : (Lib.join l [32]).length ≤ 100000) :
    Calls Tryd.prog 49 #[.slice (some ⟨g, 0, none⟩) l.length cap, .string ⟨#[32]⟩] w fun e w' => e = .returned (.string (str (Lib.join l [32]))) ∧ Below w.heap.size w w' := by
  have hm : (l.map str).map (·.data.toList) = l := by rw [List.map_map]; exact (List.map_congr_left (fun x _ => rfl)).trans (List.map_id l)
  have hx := Any.strings_Join jlays156 jextra g 0 cap (l.map str) ⟨#[32]⟩ w (fun j x hjx => by
    rw [List.getElem?_map] at hjx
    rw [Nat.zero_add]
    refine h j _ ?_
    rw [ES_get]
    cases hq : l[j]? with
    | none => rw [hq] at hjx; cases hjx
    | some y => rw [hq] at hjx; simp only [Option.map_some, Option.some.injEq] at hjx ⊢; rw [hjx]) hg (by rw [List.length_map]; omega) (by rw [List.length_map]; exact hc) (by rw [hm]; exact Nat.le_trans hj (by decide))
  rw [hm, List.length_map] at hx
  exact hx
theorem own_fresh (W : World) (B H : Nat) (hH : W.heap.size = H) (hB : B ≤ H) (x : By) : (W.alloc (.cells #[.string (str x)] 9)).ownsRow B 9 1 (.slice (some ⟨H, 0, none⟩) 1 1) 1 (ES.row [x]) := by
  subst hH
  exact ⟨rfl, .inr ⟨W.heap.size, 1, #[.string (str x)], rfl, hB, heap_alloc_new W _, by simp, by unfold maxLen; omega, rfl, rfl⟩⟩
theorem okc_neg {c y : Int} (h : c < 0 ∨ 3 < c ∨ y < 0) : okc c y = false := decide_eq_false (by omega)
theorem okc_yes {c y : Int} (h0 : ¬ c < 0) (h1 : ¬ 3 < c) (h2 : ¬ y < 0) : okc c y = true := decide_eq_true (by omega)
theorem fit_no0 {c0 c1 y0 y1 ap ou lo wh : Int} (h : okc c0 y0 = false) : fit c0 c1 y0 y1 ap ou lo wh = false := by simp [fit, h]
theorem fit_no1 {c0 c1 y0 y1 ap ou lo wh : Int} (h : okc c1 y1 = false) : fit c0 c1 y0 y1 ap ou lo wh = false := by simp [fit, h]
theorem arr_idx (w : World) {t e : TypeId} {n : Nat} {cs : Array Value} (h : Tryd.prog.underlying t = some (.array n e)) (ha : ∀ w, (isAgg e).run Tryd.prog w = .ok false w) (hz : ∀ w, (sizeOf e).run Tryd.prog w = .ok 1 w) (i : Nat) (hi : i < n) (z : Int) (hzi : z = (i : Int)) (v : Value) (hv : cs[i]? = some v) :
    (Instr.index t (.agg cs) (.int .i64 z)).run Tryd.prog w = .ok v w := by
  subst hzi
  have hn : (0 : Int) ≤ (i : Int) ∧ (i : Int) < (n : Int) := by omega
  simp [Instr.index, run_underlying h, asIntOf, hn, hi, part, ha, hz, hv]
theorem idx2_0 (w : World) (x y : Int) : (Instr.index 33 (.agg #[.int .i64 x, .int .i64 y]) (.int .i64 0)).run Tryd.prog w = .ok (.int .i64 x) w := arr_idx w Tryd.underlying33 Tryd.isAgg3 Tryd.sizeOf3 0 (by decide) _ rfl _ rfl
theorem idx2_1 (w : World) (x y : Int) : (Instr.index 33 (.agg #[.int .i64 x, .int .i64 y]) (.int .i64 1)).run Tryd.prog w = .ok (.int .i64 y) w := arr_idx w Tryd.underlying33 Tryd.isAgg3 Tryd.sizeOf3 1 (by decide) _ rfl _ rfl
theorem idx4 (w : World) (c : Int) (h0 : 0 ≤ c) (h3 : c ≤ 3) : (Instr.index 84 (.agg #[.string ⟨#[100, 111, 110, 101]⟩, .string ⟨#[104, 97, 108, 116]⟩, .string ⟨#[97, 108, 97, 114, 109]⟩, .string ⟨#[102, 117, 108, 108]⟩]) (.int .i64 c)).run Tryd.prog w = .ok (.string (str (wordT c))) w := by
  have hc : c = 0 ∨ c = 1 ∨ c = 2 ∨ c = 3 := by omega
  rcases hc with rfl | rfl | rfl | rfl
  · exact arr_idx w Tryd.underlying84 Tryd.isAgg9 Tryd.sizeOf9 0 (by decide) _ rfl _ rfl
  · exact arr_idx w Tryd.underlying84 Tryd.isAgg9 Tryd.sizeOf9 1 (by decide) _ rfl _ rfl
  · exact arr_idx w Tryd.underlying84 Tryd.isAgg9 Tryd.sizeOf9 2 (by decide) _ rfl _ rfl
  · exact arr_idx w Tryd.underlying84 Tryd.isAgg9 Tryd.sizeOf9 3 (by decide) _ rfl _ rfl
attribute [local go_sem high] idx2_0 idx2_1 idx4
set_option maxRecDepth 100000 in
set_option maxHeartbeats 6400000 in
theorem vtext_eq (w : World) (lw : Bool) (c0 c1 y0 y1 ap ou lo wh : Int) (hT : TB w) (r0 : -9223372036854775808 ≤ y0 ∧ y0 ≤ 9223372036854775807) (r1 : -9223372036854775808 ≤ y1 ∧ y1 ≤ 9223372036854775807) (r2 : -9223372036854775808 ≤ ap ∧ ap ≤ 9223372036854775807) (r3 : -9223372036854775808 ≤ ou ∧ ou ≤ 9223372036854775807) (r4 : -9223372036854775808 ≤ lo ∧ lo ≤ 9223372036854775807) (r5 : -9223372036854775808 ≤ wh ∧ wh ≤ 9223372036854775807) (R : Value) (hR : R = (if fit c0 c1 y0 y1 ap ou lo wh = true then .tuple #[.string (str (Lib.join (pcs lw c0 c1 y0 y1 ap ou lo wh) [32])), .int .i64 0] else .tuple #[.string ⟨#[]⟩, .int .i64 10])) :
    Calls Tryd.prog 14 #[.agg #[.bool lw, .int .i64 c0, .int .i64 c1, .int .i64 y0, .int .i64 y1, .int .i64 ap, .int .i64 ou, .int .i64 lo, .int .i64 wh]] w fun e w' => e = .returned R ∧ Below w.heap.size w w' := by
  obtain ⟨bt, hbt⟩ : ∃ bt, baseT lw = bt := ⟨_, rfl⟩
  unfold pcs at hR
  rw [hbt] at hR
  have HR := Lib.hid hR
  have hT2 := Lib.hid hT
  clear hR hT
  obtain ⟨i0, hi0, hz0, hz1', hz2⟩ := info_parts str_info
  go_enter Tryd.func14, Tryd.ntmps14
  cases lw
  all_goals
    have HBT := Lib.hid hbt.symm
    clear hbt
    go_wp2_with fail
    go_loopw [4, 16] (fun ov iv wr => ∃ l : List By, Hid (VtW w c0 c1 y0 y1 ap ou lo wh l ov wr) ∧ ((iv = .int .i64 0 ∧ l = [bt]) ∨ (iv = .int .i64 1 ∧ okc c0 y0 = true ∧ l = [bt, wordT c0, Lib.itoa y0]) ∨ (iv = .int .i64 2 ∧ okc c0 y0 = true ∧ okc c1 y1 = true ∧ l = [bt, wordT c0, Lib.itoa y0, wordT c1, Lib.itoa y1]))) (fun _ iv _ => 2 - (intOf iv).toNat)
    case atStart =>
      rw [HBT.out]
      refine ⟨[baseT _], Lib.hid ⟨own_fresh (w.alloc _) _ _ (by simp) (by omega) _, ?_, Q.alloc (Q.alloc (Below.refl _ _) _) _⟩, .inl ⟨rfl, rfl⟩⟩
      exact ⟨by simp; omega, by simp, by simp, by simp, by simp, by simp, by simp⟩
    case round =>
      obtain ⟨l, HJ, hrel⟩ := hrel
      rcases hrel with ⟨e1, e3⟩ | ⟨e1, e2, e3⟩ | ⟨e1, e2, e2', e3⟩
      · subst e1
        have hl : l.length ≤ 9 := by rw [e3]; simp
        have H3 := Lib.hid e3
        clear e3
        have kk := HJ.out.box.k3
        have hbl := HJ.out.box.lt
        have hws := HJ.out.blo.size
        by_cases h0 : c0 < 0
        · have HE := Lib.hid (HR.out.trans (if_neg (by rw [fit_no0 (okc_neg (.inl h0))]; simp)))
          go_wp2_with fail
          go_ret2
          exact ⟨by rw [HE.out]; rfl, HJ.out.blo⟩
        by_cases h1 : 3 < c0
        · have HE := Lib.hid (HR.out.trans (if_neg (by rw [fit_no0 (okc_neg (.inr (.inl h1)))]; simp)))
          go_wp2_with fail
          go_ret2
          exact ⟨by rw [HE.out]; rfl, HJ.out.blo⟩
        by_cases h2 : y0 < 0
        · have HE := Lib.hid (HR.out.trans (if_neg (by rw [fit_no0 (okc_neg (.inr (.inr h2)))]; simp)))
          go_wp2_with fail
          go_ret2
          exact ⟨by rw [HE.out]; rfl, HJ.out.blo⟩
        have HK := Lib.hid (okc_yes h0 h1 h2)
        have IT := fun V (hV : Below wr.heap.size wr V) => itoa_eq V y0 (by omega) (by omega) (TB.on hT2.out (Q.call HJ.out.blo hV))
        obtain ⟨a, cap, ea, -⟩ := own_slice HJ.out.own
        subst ea
        clear HR
        have h0' : 0 ≤ c0 := by omega
        have h1' : c0 ≤ 3 := by omega
        go_wp2_with fail
        go_region_held3 (fun w' : World => w'.cell? ⟨w.heap.size, 3, none⟩ = some (.int .i64 y0)) (first | exact kk | exact d3 | exact d4 | go_keep) (first | (go_at_call 45; (with_reducible refine (IT _ (by repeat' (first | with_reducible exact Below.refl _ _ | with_reducible assumption | with_reducible refine Q.alloc ?_ _ | with_reducible refine Q.drew ?_ | with_reducible refine Q.drewN ?_ _ | with_reducible refine Q.call ?_ (by assumption)))).mono ?_); rintro e w1 ⟨rfl, hb1⟩; obtain ⟨hc1, hf1, hz1⟩ := bcell hb1; have B1 : Below wr.heap.size wr w1 := Q.call (by repeat' (first | with_reducible exact Below.refl _ _ | with_reducible assumption | with_reducible refine Q.alloc ?_ _ | with_reducible refine Q.drew ?_ | with_reducible refine Q.drewN ?_ _ | with_reducible refine Q.call ?_ (by assumption))) hb1; have z1 := B1.size; have d3 := (HJ.out.box.keep (B1.block _ hbl) z1).k3) | (refine step_append_lies _ (by rfl) _ _ _ (by rfl) (w.heap.size + 1) 9 i0 _ 1 16 Tryd.underlying83 hi0 hz0 hz1' hz2 rfl (by omega) (.slice a l.length cap) l.length (ES.row l) (by rfl) (by exact own_call HJ.out.own (by repeat' (first | with_reducible exact Below.refl _ _ | with_reducible assumption | with_reducible refine Q.alloc ?_ _ | with_reducible refine Q.drew ?_ | with_reducible refine Q.drewN ?_ _ | with_reducible refine Q.call ?_ (by assumption)))) ⟨w1.heap.size, 0, none⟩ 2 2 [.string (str (wordT c0)), .string (str (Lib.itoa y0))] (by rfl) (by rfl) (World.news_of_block (cs := #[.string (str (wordT c0)), .string (str (Lib.itoa y0))]) (t := 9) (fr := (0, 0)) (Blk.new' (by simp))) (by simp [Value.oneCell']) (by omega) (by unfold maxLen; omega) (by omega) (by (try simp only [World.size_alloc] at *); simp; omega) (w1.heap.size + 1) (by simp) ?_; intro gg cap1 w2 hown2 hgrow hat hlt2; have PJ := Lib.hid (VtW.push HJ.out (V := w1.alloc _) (l' := l ++ [wordT c0, Lib.itoa y0]) (Q.alloc B1 _) hgrow (by rw [List.length_append, ES_app]; exact hown2)); have d4 := PJ.out.box.k3))
        all_goals
          go_wp2_with fail
          refine ⟨⟨_, PJ, .inr (.inl ⟨rfl, HK.out, by rw [H3.out]; rfl⟩)⟩, by simp [intOf]⟩
      · subst e1
        have hl : l.length ≤ 9 := by rw [e3]; simp
        have H3 := Lib.hid e3
        clear e3
        have HK0 := Lib.hid e2
        clear e2
        have kk := HJ.out.box.k4
        have hbl := HJ.out.box.lt
        have hws := HJ.out.blo.size
        by_cases h0 : c1 < 0
        · have HE := Lib.hid (HR.out.trans (if_neg (by rw [fit_no1 (okc_neg (.inl h0))]; simp)))
          go_wp2_with fail
          go_ret2
          exact ⟨by rw [HE.out]; rfl, HJ.out.blo⟩
        by_cases h1 : 3 < c1
        · have HE := Lib.hid (HR.out.trans (if_neg (by rw [fit_no1 (okc_neg (.inr (.inl h1)))]; simp)))
          go_wp2_with fail
          go_ret2
          exact ⟨by rw [HE.out]; rfl, HJ.out.blo⟩
        by_cases h2 : y1 < 0
        · have HE := Lib.hid (HR.out.trans (if_neg (by rw [fit_no1 (okc_neg (.inr (.inr h2)))]; simp)))
          go_wp2_with fail
          go_ret2
          exact ⟨by rw [HE.out]; rfl, HJ.out.blo⟩
        have HK := Lib.hid (okc_yes h0 h1 h2)
        have IT := fun V (hV : Below wr.heap.size wr V) => itoa_eq V y1 (by omega) (by omega) (TB.on hT2.out (Q.call HJ.out.blo hV))
        obtain ⟨a, cap, ea, -⟩ := own_slice HJ.out.own
        subst ea
        clear HR
        have h0' : 0 ≤ c1 := by omega
        have h1' : c1 ≤ 3 := by omega
        go_wp2_with fail
        go_region_held3 (fun w' : World => w'.cell? ⟨w.heap.size, 4, none⟩ = some (.int .i64 y1)) (first | exact kk | exact d3 | exact d4 | go_keep) (first | (go_at_call 45; (with_reducible refine (IT _ (by repeat' (first | with_reducible exact Below.refl _ _ | with_reducible assumption | with_reducible refine Q.alloc ?_ _ | with_reducible refine Q.drew ?_ | with_reducible refine Q.drewN ?_ _ | with_reducible refine Q.call ?_ (by assumption)))).mono ?_); rintro e w1 ⟨rfl, hb1⟩; obtain ⟨hc1, hf1, hz1⟩ := bcell hb1; have B1 : Below wr.heap.size wr w1 := Q.call (by repeat' (first | with_reducible exact Below.refl _ _ | with_reducible assumption | with_reducible refine Q.alloc ?_ _ | with_reducible refine Q.drew ?_ | with_reducible refine Q.drewN ?_ _ | with_reducible refine Q.call ?_ (by assumption))) hb1; have z1 := B1.size; have d3 := (HJ.out.box.keep (B1.block _ hbl) z1).k4) | (refine step_append_lies _ (by rfl) _ _ _ (by rfl) (w.heap.size + 1) 9 i0 _ 1 16 Tryd.underlying83 hi0 hz0 hz1' hz2 rfl (by omega) (.slice a l.length cap) l.length (ES.row l) (by rfl) (by exact own_call HJ.out.own (by repeat' (first | with_reducible exact Below.refl _ _ | with_reducible assumption | with_reducible refine Q.alloc ?_ _ | with_reducible refine Q.drew ?_ | with_reducible refine Q.drewN ?_ _ | with_reducible refine Q.call ?_ (by assumption)))) ⟨w1.heap.size, 0, none⟩ 2 2 [.string (str (wordT c1)), .string (str (Lib.itoa y1))] (by rfl) (by rfl) (World.news_of_block (cs := #[.string (str (wordT c1)), .string (str (Lib.itoa y1))]) (t := 9) (fr := (0, 0)) (Blk.new' (by simp))) (by simp [Value.oneCell']) (by omega) (by unfold maxLen; omega) (by omega) (by (try simp only [World.size_alloc] at *); simp; omega) (w1.heap.size + 1) (by simp) ?_; intro gg cap1 w2 hown2 hgrow hat hlt2; have PJ := Lib.hid (VtW.push HJ.out (V := w1.alloc _) (l' := l ++ [wordT c1, Lib.itoa y1]) (Q.alloc B1 _) hgrow (by rw [List.length_append, ES_app]; exact hown2)); have d4 := PJ.out.box.k4))
        all_goals
          go_wp2_with fail
          refine ⟨⟨_, PJ, .inr (.inr ⟨rfl, HK0.out, HK.out, by rw [H3.out]; rfl⟩)⟩, by simp [intOf]⟩
      · subst e1
        have HK0 := Lib.hid e2
        have HK1 := Lib.hid e2'
        obtain ⟨W2, hW2⟩ : ∃ W2, W2 = wr := ⟨_, rfl⟩
        rw [← hW2] at HJ ⊢
        clear hW2
        have k5 := HJ.out.box.k5
        have k6 := HJ.out.box.k6
        have k7 := HJ.out.box.k7
        have k8 := HJ.out.box.k8
        have hbl := HJ.out.box.lt
        have hws := HJ.out.blo.size
        have E3 := Lib.hid e3
        clear e3 e2 e2'
        go_wp2_with fail
        go_loopw [4, 55] (fun ov iv wr => ∃ l2 : List By, Hid (VtW w c0 c1 y0 y1 ap ou lo wh l2 ov wr) ∧ Hid (Blk wr W2.heap.size 3 #[.int .i64 ap, .int .i64 ou, .int .i64 lo, .int .i64 wh]) ∧ ((iv = .int .i64 0 ∧ l2 = [bt, wordT c0, Lib.itoa y0, wordT c1, Lib.itoa y1]) ∨ (iv = .int .i64 1 ∧ okn ap = true ∧ l2 = [bt, wordT c0, Lib.itoa y0, wordT c1, Lib.itoa y1, numT ap]) ∨ (iv = .int .i64 2 ∧ okn ap = true ∧ okn ou = true ∧ l2 = [bt, wordT c0, Lib.itoa y0, wordT c1, Lib.itoa y1, numT ap, numT ou]) ∨ (iv = .int .i64 3 ∧ okn ap = true ∧ okn ou = true ∧ okn lo = true ∧ l2 = [bt, wordT c0, Lib.itoa y0, wordT c1, Lib.itoa y1, numT ap, numT ou, numT lo]) ∨ (iv = .int .i64 4 ∧ okn ap = true ∧ okn ou = true ∧ okn lo = true ∧ okn wh = true ∧ l2 = [bt, wordT c0, Lib.itoa y0, wordT c1, Lib.itoa y1, numT ap, numT ou, numT lo, numT wh]))) (fun _ iv _ => 4 - (intOf iv).toNat)
        case atStart =>
          refine ⟨l, Lib.hid ⟨own_call HJ.out.own (Q.alloc (Below.refl _ _) _), HJ.out.box.keep (Lib.alloc_old _ _ _ hbl) (by simp), Q.alloc HJ.out.blo _⟩, Lib.hid (Blk.new _ _ _), .inl ⟨rfl, E3.out⟩⟩
        case round =>
          obtain ⟨l2, HJ2, HBK, hrel⟩ := hrel
          have hbl2 := HJ2.out.box.lt
          have hN := HBK.out.lt
          have hws2 := HJ2.out.blo.size
          rcases hrel with ⟨f1, f3⟩ | ⟨f1, k0, f3⟩ | ⟨f1, k0, k1, f3⟩ | ⟨f1, k0, k1, k2, f3⟩ | ⟨f1, k0, k1, k2, k3, f3⟩
          · subst f1
            have hl : l2.length ≤ 20 := by rw [f3]; simp
            have F3 := Lib.hid f3
            clear f3
            have kn := HBK.out.cell 0
            by_cases hn : ap < -1
            · have HE := Lib.hid (HR.out.trans (if_neg (by rw [show fit c0 c1 y0 y1 ap ou lo wh = false from by simp [fit, okn, show ¬ (-1 ≤ ap) by omega]]; simp)))
              go_wp2_with fail
              go_ret2
              exact ⟨by rw [HE.out]; rfl, HJ2.out.blo⟩
            have KN := Lib.hid (show okn ap = true from decide_eq_true (by omega))
            have NU := fun V (hV : Below wr.heap.size wr V) => number_eq V ap (by omega) (by omega) (TB.on hT2.out (Q.call HJ2.out.blo hV))
            obtain ⟨a, cap, ea, -⟩ := own_slice HJ2.out.own
            subst ea
            have NE : (Value.slice a l2.length cap).ownBlock ≠ some W2.heap.size := own_ne HJ2.out.own HBK.out (by decide)
            clear HR
            go_wp2_with (first
              | (go_at_call 48; (with_reducible refine (NU _ (by repeat' (first | with_reducible exact Below.refl _ _ | with_reducible assumption | with_reducible refine Q.alloc ?_ _ | with_reducible refine Q.drew ?_ | with_reducible refine Q.drewN ?_ _ | with_reducible refine Q.call ?_ (by assumption)))).mono ?_); rintro e w1 ⟨rfl, hb1⟩; obtain ⟨hc1, hf1, hz1⟩ := bcell hb1)
              | (at_builtin; refine wpList_append_lies _ rfl _ _ 83 rfl (w.heap.size + 1) 9 i0 _ 1 16 Tryd.underlying83 hi0 hz0 hz1' hz2 rfl (by decide) (.slice a l2.length cap) l2.length (ES.row l2) rfl (by exact own_call HJ2.out.own (by repeat' (first | with_reducible exact Below.refl _ _ | with_reducible assumption | with_reducible refine Q.alloc ?_ _ | with_reducible refine Q.drew ?_ | with_reducible refine Q.drewN ?_ _ | with_reducible refine Q.call ?_ (by assumption)))) ⟨w1.heap.size, 0, none⟩ 1 1 [.string (str (numT ap))] rfl (by rfl) (World.news_of_block (cs := #[.string (str (numT ap))]) (t := 9) (fr := (0, 0)) (Blk.new' (by simp))) (by simp [Value.oneCell']) (by omega) (by unfold maxLen; omega) (by omega) (by simp; omega) (w1.heap.size + 1) (by simp) ?_; intro gg cap1 w2 hown2 hgrow hat hlt2; have PJ := Lib.hid (VtW.push HJ2.out (V := w1.alloc _) (l' := l2 ++ [numT ap]) (Q.alloc hb1 _) hgrow (by rw [List.length_append, ES_app1]; exact hown2)); have PB := Lib.hid (((hgrow.block _ (by simp; omega) (Ne.symm NE)).trans ((HBK.out.call hb1).alloc _)))))
            refine ⟨⟨_, PJ, PB, .inr (.inl ⟨rfl, KN.out, by rw [F3.out]; rfl⟩)⟩, by simp [intOf]⟩
          · subst f1
            have hl : l2.length ≤ 20 := by rw [f3]; simp
            have F3 := Lib.hid f3
            clear f3
            have KK0 := Lib.hid k0
            clear k0
            have kn := HBK.out.cell 1
            by_cases hn : ou < -1
            · have HE := Lib.hid (HR.out.trans (if_neg (by rw [show fit c0 c1 y0 y1 ap ou lo wh = false from by simp [fit, okn, show ¬ (-1 ≤ ou) by omega]]; simp)))
              go_wp2_with fail
              go_ret2
              exact ⟨by rw [HE.out]; rfl, HJ2.out.blo⟩
            have KN := Lib.hid (show okn ou = true from decide_eq_true (by omega))
            have NU := fun V (hV : Below wr.heap.size wr V) => number_eq V ou (by omega) (by omega) (TB.on hT2.out (Q.call HJ2.out.blo hV))
            obtain ⟨a, cap, ea, -⟩ := own_slice HJ2.out.own
            subst ea
            have NE : (Value.slice a l2.length cap).ownBlock ≠ some W2.heap.size := own_ne HJ2.out.own HBK.out (by decide)
            clear HR
            go_wp2_with (first
              | (go_at_call 48; (with_reducible refine (NU _ (by repeat' (first | with_reducible exact Below.refl _ _ | with_reducible assumption | with_reducible refine Q.alloc ?_ _ | with_reducible refine Q.drew ?_ | with_reducible refine Q.drewN ?_ _ | with_reducible refine Q.call ?_ (by assumption)))).mono ?_); rintro e w1 ⟨rfl, hb1⟩; obtain ⟨hc1, hf1, hz1⟩ := bcell hb1)
              | (at_builtin; refine wpList_append_lies _ rfl _ _ 83 rfl (w.heap.size + 1) 9 i0 _ 1 16 Tryd.underlying83 hi0 hz0 hz1' hz2 rfl (by decide) (.slice a l2.length cap) l2.length (ES.row l2) rfl (by exact own_call HJ2.out.own (by repeat' (first | with_reducible exact Below.refl _ _ | with_reducible assumption | with_reducible refine Q.alloc ?_ _ | with_reducible refine Q.drew ?_ | with_reducible refine Q.drewN ?_ _ | with_reducible refine Q.call ?_ (by assumption)))) ⟨w1.heap.size, 0, none⟩ 1 1 [.string (str (numT ou))] rfl (by rfl) (World.news_of_block (cs := #[.string (str (numT ou))]) (t := 9) (fr := (0, 0)) (Blk.new' (by simp))) (by simp [Value.oneCell']) (by omega) (by unfold maxLen; omega) (by omega) (by simp; omega) (w1.heap.size + 1) (by simp) ?_; intro gg cap1 w2 hown2 hgrow hat hlt2; have PJ := Lib.hid (VtW.push HJ2.out (V := w1.alloc _) (l' := l2 ++ [numT ou]) (Q.alloc hb1 _) hgrow (by rw [List.length_append, ES_app1]; exact hown2)); have PB := Lib.hid (((hgrow.block _ (by simp; omega) (Ne.symm NE)).trans ((HBK.out.call hb1).alloc _)))))
            refine ⟨⟨_, PJ, PB, .inr (.inr (.inl ⟨rfl, KK0.out, KN.out, by rw [F3.out]; rfl⟩))⟩, by simp [intOf]⟩
          · subst f1
            have hl : l2.length ≤ 20 := by rw [f3]; simp
            have F3 := Lib.hid f3
            clear f3
            have KK0 := Lib.hid k0
            clear k0
            have KK1 := Lib.hid k1
            clear k1
            have kn := HBK.out.cell 2
            by_cases hn : lo < -1
            · have HE := Lib.hid (HR.out.trans (if_neg (by rw [show fit c0 c1 y0 y1 ap ou lo wh = false from by simp [fit, okn, show ¬ (-1 ≤ lo) by omega]]; simp)))
              go_wp2_with fail
              go_ret2
              exact ⟨by rw [HE.out]; rfl, HJ2.out.blo⟩
            have KN := Lib.hid (show okn lo = true from decide_eq_true (by omega))
            have NU := fun V (hV : Below wr.heap.size wr V) => number_eq V lo (by omega) (by omega) (TB.on hT2.out (Q.call HJ2.out.blo hV))
            obtain ⟨a, cap, ea, -⟩ := own_slice HJ2.out.own
            subst ea
            have NE : (Value.slice a l2.length cap).ownBlock ≠ some W2.heap.size := own_ne HJ2.out.own HBK.out (by decide)
            clear HR
            go_wp2_with (first
              | (go_at_call 48; (with_reducible refine (NU _ (by repeat' (first | with_reducible exact Below.refl _ _ | with_reducible assumption | with_reducible refine Q.alloc ?_ _ | with_reducible refine Q.drew ?_ | with_reducible refine Q.drewN ?_ _ | with_reducible refine Q.call ?_ (by assumption)))).mono ?_); rintro e w1 ⟨rfl, hb1⟩; obtain ⟨hc1, hf1, hz1⟩ := bcell hb1)
              | (at_builtin; refine wpList_append_lies _ rfl _ _ 83 rfl (w.heap.size + 1) 9 i0 _ 1 16 Tryd.underlying83 hi0 hz0 hz1' hz2 rfl (by decide) (.slice a l2.length cap) l2.length (ES.row l2) rfl (by exact own_call HJ2.out.own (by repeat' (first | with_reducible exact Below.refl _ _ | with_reducible assumption | with_reducible refine Q.alloc ?_ _ | with_reducible refine Q.drew ?_ | with_reducible refine Q.drewN ?_ _ | with_reducible refine Q.call ?_ (by assumption)))) ⟨w1.heap.size, 0, none⟩ 1 1 [.string (str (numT lo))] rfl (by rfl) (World.news_of_block (cs := #[.string (str (numT lo))]) (t := 9) (fr := (0, 0)) (Blk.new' (by simp))) (by simp [Value.oneCell']) (by omega) (by unfold maxLen; omega) (by omega) (by simp; omega) (w1.heap.size + 1) (by simp) ?_; intro gg cap1 w2 hown2 hgrow hat hlt2; have PJ := Lib.hid (VtW.push HJ2.out (V := w1.alloc _) (l' := l2 ++ [numT lo]) (Q.alloc hb1 _) hgrow (by rw [List.length_append, ES_app1]; exact hown2)); have PB := Lib.hid (((hgrow.block _ (by simp; omega) (Ne.symm NE)).trans ((HBK.out.call hb1).alloc _)))))
            refine ⟨⟨_, PJ, PB, .inr (.inr (.inr (.inl ⟨rfl, KK0.out, KK1.out, KN.out, by rw [F3.out]; rfl⟩)))⟩, by simp [intOf]⟩
          · subst f1
            have hl : l2.length ≤ 20 := by rw [f3]; simp
            have F3 := Lib.hid f3
            clear f3
            have KK0 := Lib.hid k0
            clear k0
            have KK1 := Lib.hid k1
            clear k1
            have KK2 := Lib.hid k2
            clear k2
            have kn := HBK.out.cell 3
            by_cases hn : wh < -1
            · have HE := Lib.hid (HR.out.trans (if_neg (by rw [show fit c0 c1 y0 y1 ap ou lo wh = false from by simp [fit, okn, show ¬ (-1 ≤ wh) by omega]]; simp)))
              go_wp2_with fail
              go_ret2
              exact ⟨by rw [HE.out]; rfl, HJ2.out.blo⟩
            have KN := Lib.hid (show okn wh = true from decide_eq_true (by omega))
            have NU := fun V (hV : Below wr.heap.size wr V) => number_eq V wh (by omega) (by omega) (TB.on hT2.out (Q.call HJ2.out.blo hV))
            obtain ⟨a, cap, ea, -⟩ := own_slice HJ2.out.own
            subst ea
            have NE : (Value.slice a l2.length cap).ownBlock ≠ some W2.heap.size := own_ne HJ2.out.own HBK.out (by decide)
            clear HR
            go_wp2_with (first
              | (go_at_call 48; (with_reducible refine (NU _ (by repeat' (first | with_reducible exact Below.refl _ _ | with_reducible assumption | with_reducible refine Q.alloc ?_ _ | with_reducible refine Q.drew ?_ | with_reducible refine Q.drewN ?_ _ | with_reducible refine Q.call ?_ (by assumption)))).mono ?_); rintro e w1 ⟨rfl, hb1⟩; obtain ⟨hc1, hf1, hz1⟩ := bcell hb1)
              | (at_builtin; refine wpList_append_lies _ rfl _ _ 83 rfl (w.heap.size + 1) 9 i0 _ 1 16 Tryd.underlying83 hi0 hz0 hz1' hz2 rfl (by decide) (.slice a l2.length cap) l2.length (ES.row l2) rfl (by exact own_call HJ2.out.own (by repeat' (first | with_reducible exact Below.refl _ _ | with_reducible assumption | with_reducible refine Q.alloc ?_ _ | with_reducible refine Q.drew ?_ | with_reducible refine Q.drewN ?_ _ | with_reducible refine Q.call ?_ (by assumption)))) ⟨w1.heap.size, 0, none⟩ 1 1 [.string (str (numT wh))] rfl (by rfl) (World.news_of_block (cs := #[.string (str (numT wh))]) (t := 9) (fr := (0, 0)) (Blk.new' (by simp))) (by simp [Value.oneCell']) (by omega) (by unfold maxLen; omega) (by omega) (by simp; omega) (w1.heap.size + 1) (by simp) ?_; intro gg cap1 w2 hown2 hgrow hat hlt2; have PJ := Lib.hid (VtW.push HJ2.out (V := w1.alloc _) (l' := l2 ++ [numT wh]) (Q.alloc hb1 _) hgrow (by rw [List.length_append, ES_app1]; exact hown2)); have PB := Lib.hid (((hgrow.block _ (by simp; omega) (Ne.symm NE)).trans ((HBK.out.call hb1).alloc _)))))
            refine ⟨⟨_, PJ, PB, .inr (.inr (.inr (.inr ⟨rfl, KK0.out, KK1.out, KK2.out, KN.out, by rw [F3.out]; rfl⟩)))⟩, by simp [intOf]⟩
          · subst f1
            have hl : l2.length ≤ 20 := by rw [f3]; simp
            have HFT := Lib.hid (show fit c0 c1 y0 y1 ap ou lo wh = true from by simp [fit, HK0.out, HK1.out, k0, k1, k2, k3])
            have HE := Lib.hid (HR.out.trans (if_pos HFT.out))
            have F3 := Lib.hid f3
            obtain ⟨g, cap, ea, hcap, hg, hcl⟩ := own_cells HJ2.out.own (by rw [f3]; simp)
            subst ea
            have JC := vjoin_eq wr g cap l2 hcl hg hcap (by omega) (by
              have p1 := Lib.itoa_length_le y0 (by omega) (by omega)
              have p2 := Lib.itoa_length_le y1 (by omega) (by omega)
              rw [F3.out, Lib.join_length]
              have qb : bt.length ≤ 21 := by rw [HBT.out]; simp [baseT]
              have q1 := word_len c0
              have q2 := word_len c1
              have q3 := num_len ap (by omega) (by omega)
              have q4 := num_len ou (by omega) (by omega)
              have q5 := num_len lo (by omega) (by omega)
              have q6 := num_len wh (by omega) (by omega)
              simp [Lib.lens]
              omega)
            clear f3 hcl HR k0 k1 k2 k3
            go_wp2_with (go_at_call 49; (with_reducible refine JC.mono ?_); rintro e w1 ⟨rfl, hb1⟩)
            go_ret2
            exact ⟨by rw [HE.out, F3.out]; rfl, Q.call HJ2.out.blo hb1⟩
end Go.Proofs.YtggnkkmlabhofaaDoor
