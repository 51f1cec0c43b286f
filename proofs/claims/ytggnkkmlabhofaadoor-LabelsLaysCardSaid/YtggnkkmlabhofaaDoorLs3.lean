/- The law LabelsLays: the walk. (printed by gen/ls3.py) -/
import Derived.Test.YtggnkkmlabhofaaDoorLs2
import Derived.Test.YtggnkkmlabhofaaDoorLa8
import Derived.Test.YtggnkkmlabhofaaDoorRf1
import Derived.Test.YtggnkkmlabhofaaDoorSecQ
import Derived.Deep.RegionWith
namespace Go.Proofs.YtggnkkmlabhofaaDoor
set_option linter.unusedVariables false
set_option linter.unusedSimpArgs false
open Go.RowKit Go.Shelf
attribute [local go_sem ↓] Go.wp_at_zero Go.wp_at_succ
attribute [local go_sem] Oper.semAt_some eql_seq_nil eql_func_nil

/-- What stands behind the loads. -/
structure LS (w : World) (hr bt bm bo gt gm go : Nat) (v1 v2 : Value) (dc tr : Int) (A B : Nat → Int) (l : List Sp) (F f : Nat → Int × Int) (W : World) : Prop where
  bel : Below w.heap.size w W
  rb : Blk W hr 4 #[.bool false]
  tb : Blk W bt 49 #[.pointer (some ⟨gt, 0, none⟩)]
  mb : Blk W bm 52 #[.pointer (some ⟨gm, 0, none⟩)]
  ob : Blk W bo 52 #[.pointer (some ⟨go, 0, none⟩)]
  tab : Tab W gt v1 v2 dc tr A B
  rs : Rd ES W (fun b => b < gt ∧ w.heap.size ≤ b) v1 l
  mm : Mem W gm F
  mo : Mem W go f
  ne : w.heap.size ≤ hr ∧ hr < gt ∧ gt < bt ∧ bt < gm ∧ gm < bm ∧ bm < go ∧ go < bo
theorem LS.call {w : World} {hr bt bm bo gt gm go : Nat} {v1 v2 : Value} {dc tr : Int} {A B : Nat → Int} {l : List Sp} {F f : Nat → Int × Int} {W V : World} (h : LS w hr bt bm bo gt gm go v1 v2 dc tr A B l F f W) (hb : Below W.heap.size W V) : LS w hr bt bm bo gt gm go v1 v2 dc tr A B l F f V :=
  ⟨Q.call h.bel hb, h.rb.call hb, h.tb.call hb, h.mb.call hb, h.ob.call hb, h.tab.call hb, h.rs.below hb, h.mm.call hb, h.mo.call hb, h.ne⟩
theorem LS.lay {w : World} {hr bt bm bo gt gm go : Nat} {v1 v2 : Value} {dc tr : Int} {A B : Nat → Int} {l : List Sp} {F F' f : Nat → Int × Int} {W V : World} (h : LS w hr bt bm bo gt gm go v1 v2 dc tr A B l F f W) (hm : Mem V gm F') (hc : Chg (· = gm) W V) : LS w hr bt bm bo gt gm go v1 v2 dc tr A B l F' f V := by
  have hn := h.ne
  obtain ⟨M, hM, hB⟩ := h.tab
  exact ⟨hc.below h.bel h.bel.size (fun b hb => by have hb : b = gm := hb; omega), h.rb.chg hc (by omega), h.tb.chg hc (by omega), h.mb.chg hc (by omega), h.ob.chg hc (by omega), ⟨M, hM, hB.chg hc (by omega)⟩,
    h.rs.keep (fun b hb hR => ⟨hc.block b hb (by omega), hR⟩) hc.size, hm, h.mo.chg hc (by omega), h.ne⟩
/-- Behind what turns blocks from B on alone. -/
theorem LS.from_ {w : World} {hr bt bm bo gt gm go : Nat} {v1 v2 : Value} {dc tr : Int} {A B : Nat → Int} {l : List Sp} {F f : Nat → Int × Int} {W V : World} {N : Nat} (h : LS w hr bt bm bo gt gm go v1 v2 dc tr A B l F f W) (hN : bo < N) (hb : Below N W V) : LS w hr bt bm bo gt gm go v1 v2 dc tr A B l F f V := by
  have hn := h.ne
  have e : ∀ b, b < N → V.heap[b]? = W.heap[b]? := fun b hb' => hb.block b hb'
  obtain ⟨M, hM, hB⟩ := h.tab
  exact ⟨h.bel.trans (hb.mono (by omega)), (e _ (by omega)).trans h.rb, (e _ (by omega)).trans h.tb, (e _ (by omega)).trans h.mb, (e _ (by omega)).trans h.ob, ⟨M, hM, (e _ (by omega)).trans hB⟩,
    h.rs.keep (fun b _ hR => ⟨e _ (by omega), hR⟩) hb.size, h.mm.heap (e _ (by omega)), h.mo.heap (e _ (by omega)), h.ne⟩
theorem LS.kin {w : World} {hr bt bm bo gt gm go : Nat} {v1 v2 : Value} {dc tr : Int} {A B : Nat → Int} {l : List Sp} {F f : Nat → Int × Int} {W : World} (h : LS w hr bt bm bo gt gm go v1 v2 dc tr A B l F f W) (hk : KIN w) : KIN W := hk.below h.bel hk.lt

/-- The count, in a box behind everything. -/
def JN (bn : Nat) (V : World) (c : Int) (W : World) : Prop := (W.cell? ⟨bn, 0, none⟩ = some (.int .i64 c) ∧ W.frozen? ⟨bn, 0, none⟩ = false) ∧ Below bn V W
theorem jn_own {β : Type} {bn : Nat} {V : World} (f : β → Int) (h : bn ≤ V.heap.size) : OwnFrom V.heap.size (fun (pre : β) W => JN bn V (f pre) W) := by
  show OwnFrom V.heap.size (fun (pre : β) (W : World) => (W.cell? ⟨bn, 0, none⟩ = some (.int .i64 (f pre)) ∧ W.frozen? ⟨bn, 0, none⟩ = false) ∧ Below bn V W)
  exact OwnFrom.and (Own.from (fun s A B row hs hg hr => ⟨cell_kept hs.1 hg hr, (frozen_kept hs.1 hg hr).trans hs.2⟩) _) (ownFrom_below h h)
theorem JN.put {bn : Nat} {V W W9 : World} {c c' : Int} (h : JN bn V c W) (hb : Below W.heap.size W W9) (hV : bn < V.heap.size) : JN bn V c' (W9.setCell ⟨bn, 0, none⟩ (.int .i64 c')) := by
  obtain ⟨⟨h1, h2⟩, h3⟩ := h
  have hlt : bn < W.heap.size := Nat.lt_of_lt_of_le hV h3.size
  have e1 : W9.cell? ⟨bn, 0, none⟩ = some (.int .i64 c) := (hb.cell (p := ⟨bn, 0, none⟩) hlt).trans h1
  have e2 : W9.frozen? ⟨bn, 0, none⟩ = false := (hb.frozen (p := ⟨bn, 0, none⟩) hlt).trans h2
  refine ⟨⟨World.cell?_setCell_same' _ _ _ (by rw [e1]; rfl), by rw [World.frozen?_setCell]; exact e2⟩, ?_⟩
  exact (h3.trans (hb.mono (Nat.le_of_lt hlt))).setCell (p := ⟨bn, 0, none⟩) (Nat.le_refl _) _
theorem JN.call {bn : Nat} {V W W9 : World} {c : Int} (h : JN bn V c W) (hb : Below W.heap.size W W9) (hV : bn < V.heap.size) : JN bn V c W9 := by
  obtain ⟨⟨h1, h2⟩, h3⟩ := h
  have hlt : bn < W.heap.size := Nat.lt_of_lt_of_le hV h3.size
  exact ⟨⟨(hb.cell (p := ⟨bn, 0, none⟩) hlt).trans h1, (hb.frozen (p := ⟨bn, 0, none⟩) hlt).trans h2⟩, h3.trans (hb.mono (Nat.le_of_lt hlt))⟩
/-- And a mark that stays. -/
def JD (bn : Nat) (V : World) (D : Nat) (c : Int) (W : World) : Prop := JN bn V c W ∧ W.heap[D]? = some (.deferred (some []))
theorem jd_own {β : Type} {bn D : Nat} {V : World} (f : β → Int) (h : bn ≤ V.heap.size) (hD : D < V.heap.size) : OwnFrom V.heap.size (fun (pre : β) W => JD bn V D (f pre) W) := by
  show OwnFrom V.heap.size (fun (pre : β) (W : World) => JN bn V (f pre) W ∧ W.heap[D]? = some (.deferred (some [])))
  refine OwnFrom.and (jn_own f h) (fun s A B row hs hg hr => ?_)
  exact (hg.block D (Array.getElem?_eq_some_iff.1 hs).1 (fun e => by have := (hr D e.symm).1; omega)).trans hs
theorem JD.put {bn D : Nat} {V W W9 : World} {c c' : Int} (h : JD bn V D c W) (hb : Below W.heap.size W W9) (hV : bn < V.heap.size) (hD : bn < D) : JD bn V D c' (W9.setCell ⟨bn, 0, none⟩ (.int .i64 c')) :=
  ⟨h.1.put hb hV, (Below.heap_setCell _ _ _ D (by simp only; omega)).trans ((hb.block D (Array.getElem?_eq_some_iff.1 h.2).1).trans h.2)⟩
theorem JD.call {bn D : Nat} {V W W9 : World} {c : Int} (h : JD bn V D c W) (hb : Below W.heap.size W W9) (hV : bn < V.heap.size) : JD bn V D c W9 :=
  ⟨h.1.call hb hV, (hb.block D (Array.getElem?_eq_some_iff.1 h.2).1).trans h.2⟩
def StY (F : Nat → Int × Int) (A : Nat → Int) (pre : List (Nat × Int × Int)) : Prop := ∃ (q : List (Nat × Int × Int)) (y : Nat × Int × Int), pre = q ++ [y] ∧ ¬ GoodY F A y
def StZ (F : Nat → Int × Int) (pre : List (Nat × Int)) : Prop := ∃ (q : List (Nat × Int)) (y : Nat × Int), pre = q ++ [y] ∧ ¬ GoodZ F y
theorem blk_own {β : Type} (B g : Nat) (t : TypeId) (cs : Array Value) : OwnFrom B (fun (_ : β) W => Blk W g t cs) := fun _ X Y row hs hg hr =>
  (hg.block g hs.lt (fun e => by obtain ⟨_, o, ho, hc⟩ := hr g e.symm; unfold Blk at hs; rw [hs] at ho; cases ho; cases hc)).trans hs
/-- The frame behind the assignment to the loop's variables (i; y in a box). -/
def afterAssign (a : Act) (x : Nat × Int × Int) (Bx : Nat) : Act :=
  { tmps := (((a.tmps.setIfInBounds 90 (.int .i64 (x.1 : Int))).setIfInBounds 91 (.agg #[.int .u8 x.2.1, .int .u8 x.2.2])).setIfInBounds 11 (.int .i64 (x.1 : Int))).setIfInBounds 12 (.pointer (some ⟨Bx, 0, none⟩)), defers := [] }
/-- The law of a range over a function with a boxed variable, at this function's loop. -/
theorem ownH_boxed {n : Nat} {g : Operand} {assign body : Code} {Q : Exit → Act → World → Prop} {a : Act} {w : World} (h1 : 1 ≤ n) {gf : Nat} {lb : Array Value} (hg : a.eval g = .func (.func gf) #[] lb) (eg : ∀ args w, (callFunc gf args).run Tryd.prog w = .ok (.enter gf args) w)
    {Kp : World → World → Prop} {S Sp : List (Nat × Int × Int) → Prop} {N : Nat} {w0 : World} (hseq : SeqStopsK Fence.wide (n - 1) Tryd.prog gf lb encS Kp S Sp N w0)
    (hKt : ∀ {A B C : World}, Kp A B → Kp B C → Kp A C) (hKb : ∀ (W : World) (l : Nat) (o o' : Obj), w.heap.size ≤ l → W.heap[l]? = some o → o.isCells = false → o.isWalk = false → Kp W (W.putObj l o')) (hb0 : Below w0.heap.size w0 w)
    (I : List (Nat × Int × Int) → World → Prop) (Ix : Code → List (Nat × Int × Int) → World → Prop) (hI : OwnFrom w.heap.size I) (hIx : ∀ c, OwnFrom w.heap.size (Ix c)) (h0 : I [] w) (B1 : Nat)
    (hassign : ∀ (l : Nat) (pre : List (Nat × Int × Int)) (x : Nat × Int × Int) (W : World) (K : Act → World → Prop), I pre W → (∀ a' W', KeepsFrom w.heap.size W W' → Kp W W' → I pre W' → (∃ Bx, B1 < Bx ∧ Blk W' Bx 57 #[.int .u8 x.2.1, .int .u8 x.2.2] ∧ a' = afterAssign a x Bx) → K a' W') →
      assign.wpIn (Fence.wide.inRound l) (n - 1 - 1) Tryd.prog (Exit.then K (fun _ _ _ => False)) { tmps := ((#[90, 91] : Array Tmp).zip (encS x)).foldl (fun t (p, v) => t.setIfInBounds p v) a.tmps, defers := [] } W)
    (hbody : ∀ (l : Nat) (pre : List (Nat × Int × Int)) (x : Nat × Int × Int) (a' : Act) (W : World), w.heap.size ≤ l → (∃ r, W.heap[l]? = some (.loop r)) → I pre W → (∃ Bx, B1 < Bx ∧ Blk W Bx 57 #[.int .u8 x.2.1, .int .u8 x.2.2] ∧ a' = afterAssign a x Bx) → pre.length < N → body.wpIn (Fence.wide.inRound l) (n - 1 - 1) Tryd.prog (ownPostG w.heap.size Kp I Ix (pre ++ [x]) W) a' W)
    (hdone : ∀ (D : Nat) (xs : List (Nat × Int × Int)) (W : World), w.heap.size ≤ D → S xs → I xs W → W.heap[D]? = some (.deferred (some [])) → Q .normal { a with defers := { target := .collected D, args := #[] } :: a.defers } W)
    (hstop : ∀ (D : Nat) (c : Code) (pre : List (Nat × Int × Int)) (W : World), w.heap.size ≤ D → Sp pre → Ix c pre W → W.heap[D]? = some (.deferred (some [])) → c.wpIn Fence.wide n Tryd.prog Q { a with defers := { target := .collected D, args := #[] } :: a.defers } W) :
    (Code.rangeFunc g #[90, 91] assign body).wpIn Fence.wide n Tryd.prog Q a w :=
  wpIn_rangeFunc_ownH rfl h1 hg trivial eg hseq hKt hKb hb0 (fun _ => rfl) I Ix hI hIx h0 (fun x a' W => ∃ Bx, B1 < Bx ∧ Blk W Bx 57 #[.int .u8 x.2.1, .int .u8 x.2.2] ∧ a' = afterAssign a x Bx)
    (fun x a' _ X Y row hs hg hr => by obtain ⟨Bx, h1, h2, h3⟩ := hs; exact ⟨Bx, h1, blk_own w.heap.size Bx _ _ () X Y row h2 hg hr, h3⟩) hassign hbody hdone hstop

set_option maxRecDepth 100000 in
set_option maxHeartbeats 3200000 in
theorem ly_many (w : World) (R : Nat → Prop) (sa ma : Option Addr) (sc mc : Nat) (s m : List Sp) (dc tr : Int) (a : Option Addr) (len cap : Nat) (ops : List LD) (hk : KIN w) (hs : Rd ES w R (.slice sa s.length sc) s) (hm : Rd ES w R (.slice ma m.length mc) m) (hr : ReadsL w w.heap.size a len ops) (hlen : len ≤ maxLen) (hf : ¬ (s.length ≤ 80 ∧ m.length ≤ 80)) : Calls Tryd.prog 7 #[.agg #[.slice sa s.length sc, .slice ma m.length mc, .int .i64 dc, .int .i64 tr], .slice a len cap] w fun e w' => e = .returned (.bool true) ∧ Below w.heap.size w w' := by
  have FW := fun V => few_eq V sa ma s.length m.length sc mc dc tr false (decide_eq_false hf).symm
  clear hk hs hm hr hlen hf
  go_enter Tryd.func7, Tryd.ntmps7
  go_wp2_with (go_at_call 24; (with_reducible refine (FW _).mono ?_); rintro e w1 ⟨rfl, hb1⟩; refine Hid.out ?_)
  refine Lib.hid ?_
  have RB : Blk w1 (w.heap.size + 1) 4 #[.bool false] := (Blk.new' (by simp)).call hb1
  have PB : Blk w1 w.heap.size 44 #[.slice sa s.length sc, .slice ma m.length mc, .int .i64 dc, .int .i64 tr] := (Blk.alloc (Blk.new w _ _) _).call hb1
  have HB1 := Lib.hid (show Below w.heap.size w w1 from (by repeat' (first | with_reducible exact Below.refl _ _ | with_reducible assumption | with_reducible refine Q.alloc ?_ _ | with_reducible refine Q.drew ?_ | with_reducible refine Q.drewN ?_ _ | with_reducible refine Q.call ?_ (by assumption))))
  obtain ⟨hp, hhp⟩ : ∃ hp, hp = w.heap.size := ⟨_, rfl⟩
  obtain ⟨hr, hhr⟩ : ∃ hr, hr = w.heap.size + 1 := ⟨_, rfl⟩
  have HHR := Lib.hid (show w.heap.size ≤ hp ∧ hp < hr ∧ hr = w.heap.size + 1 by omega)
  rw [← hhp] at PB
  rw [← hhr] at RB
  have hPE : (Value.pointer (some ⟨w.heap.size, 0, none⟩)) = Value.pointer (some ⟨hp, 0, none⟩) := by rw [hhp]
  rw [← hhr, hPE]
  have HRL := Lib.hid (show hr < w1.heap.size from RB.lt)
  have RB1 := Lib.hid RB
  have PB1 := Lib.hid PB
  clear hb1 RB PB hhp hhr hPE
  go_wp2_with (go_at_call 26; (with_reducible refine (lawake_eq _).mono ?_); rintro e w9 ⟨rfl, hb9⟩; refine Hid.out ?_)
  refine Lib.hid ?_
  have RB9 := RB1.out.call hb9
  have hB9 : Below w.heap.size w w9 := Q.call HB1.out (Q.call (Below.refl _ _) hb9)
  have z0 := RB9.cell 0
  have z1 := RB9.frozen 0
  clear hb9
  go_wp2_with fail
  have hc5 := World.cell?_setCell_same' w9 ⟨hr, 0, none⟩ (.bool true) (by rw [z0]; rfl)
  refine bodyPost_ret (show _ = Result.ok (Value.bool true) _ by simp [results, Tryd.f7, go_sem, hc5]) rfl ?_
  exact ⟨rfl, hB9.setCell (p := ⟨hr, 0, none⟩) (by have := HHR.out; simp only; omega) _⟩
set_option maxRecDepth 1000000 in
set_option maxHeartbeats 12800000 in
theorem ly_few (w : World) (R : Nat → Prop) (sa ma : Option Addr) (sc mc : Nat) (s m : List Sp) (dc tr : Int) (a : Option Addr) (len cap : Nat) (ops : List LD) (hk : KIN w) (hs : Rd ES w R (.slice sa s.length sc) s) (hm : Rd ES w R (.slice ma m.length mc) m) (hr : ReadsL w w.heap.size a len ops) (hlen : len ≤ maxLen) (hf : s.length ≤ 80 ∧ m.length ≤ 80) : Calls Tryd.prog 7 #[.agg #[.slice sa s.length sc, .slice ma m.length mc, .int .i64 dc, .int .i64 tr], .slice a len cap] w fun e w' => e = .returned (.bool true) ∧ Below w.heap.size w w' := by
  have FW := fun V => few_eq V sa ma s.length m.length sc mc dc tr true (decide_eq_true hf).symm
  have FL := fun V (hV : Below w.heap.size w V) => fewL_calls a len cap ops V hlen (ReadsL.wide (hr.below hV) hV.size)
  have LO := fun V (hV : Below w.heap.size w V) => loadedL_calls a len cap ops V (hk.below hV hk.lt) hlen (ReadsL.wide (hr.below hV) hV.size)
  have HK := Lib.hid hk
  have HS := Lib.hid hs
  have HM := Lib.hid hm
  have HF := Lib.hid hf
  clear hk hs hm hr hf hlen
  refine (callsIn_wide (n := 3)).1 ?_
  refine callsIn_of_wp_marks Tryd.func7 rfl trivial ?_
  simp only [Tryd.ntmps7, List.size_toArray, List.length_cons, List.length_nil, Nat.reduceAdd, Nat.reduceSub, Array.replicate_succ, Array.replicate_zero, List.push_toArray, List.append_toArray, List.nil_append, List.cons_append]
  refine wpIn_wide.2 ?_
  go_wp2_with (first | (go_at_call 24; (with_reducible refine (FW _).mono ?_); rintro e w1 ⟨rfl, hb1⟩) | (go_at_call 25; (with_reducible refine (FL _ (by repeat' (first | with_reducible exact Below.refl _ _ | with_reducible assumption | with_reducible refine Q.alloc ?_ _ | with_reducible refine Q.drew ?_ | with_reducible refine Q.drewN ?_ _ | with_reducible refine Q.call ?_ (by assumption)))).mono ?_); rintro e w2 ⟨c, rfl, hc, rfl⟩; refine Hid.out ?_))
  refine Lib.hid ?_
  clear hc FW FL
  have RB : Blk w1 (w.heap.size + 1) 4 #[.bool false] := (Blk.new' (by simp)).call hb1
  have PB : Blk w1 w.heap.size 44 #[.slice sa s.length sc, .slice ma m.length mc, .int .i64 dc, .int .i64 tr] := (Blk.alloc (Blk.new w _ _) _).call hb1
  have HB1 := Lib.hid (show Below w.heap.size w w1 from (by repeat' (first | with_reducible exact Below.refl _ _ | with_reducible assumption | with_reducible refine Q.alloc ?_ _ | with_reducible refine Q.drew ?_ | with_reducible refine Q.drewN ?_ _ | with_reducible refine Q.call ?_ (by assumption))))
  obtain ⟨hp, hhp⟩ : ∃ hp, hp = w.heap.size := ⟨_, rfl⟩
  obtain ⟨hr, hhr⟩ : ∃ hr, hr = w.heap.size + 1 := ⟨_, rfl⟩
  have HHR := Lib.hid (show w.heap.size ≤ hp ∧ hp < hr ∧ hr = w.heap.size + 1 by omega)
  rw [← hhp] at PB
  rw [← hhr] at RB
  have hPE : (Value.pointer (some ⟨w.heap.size, 0, none⟩)) = Value.pointer (some ⟨hp, 0, none⟩) := by rw [hhp]
  rw [← hhr, hPE]
  have HRL := Lib.hid (show hr < w1.heap.size from RB.lt)
  have RB1 := Lib.hid RB
  have PB1 := Lib.hid PB
  clear hb1 RB PB hhp hhr hPE
  cases c
  · go_wp2_with (go_at_call 26; (with_reducible refine (lawake_eq _).mono ?_); rintro e w9 ⟨rfl, hb9⟩; refine Hid.out ?_)
    refine Lib.hid ?_
    have RB9 := RB1.out.call hb9
    have hB9 : Below w.heap.size w w9 := Q.call HB1.out (Q.call (Below.refl _ _) hb9)
    have z0 := RB9.cell 0
    have z1 := RB9.frozen 0
    clear hb9
    go_wp2_with fail
    have hc5 := World.cell?_setCell_same' w9 ⟨hr, 0, none⟩ (.bool true) (by rw [z0]; rfl)
    refine ⟨.bool true, ?_, rfl, hB9.setCell (p := ⟨hr, 0, none⟩) (by have := HHR.out; simp only; omega) _⟩
    simp [results, Tryd.f7, go_sem, hc5]
  · have p0 := PB1.out.cell 0
    have p1 := PB1.out.cell 1
    have p2 := PB1.out.cell 2
    have p3 := PB1.out.cell 3
    have pl := PB1.out.lt
    have CK := fun (V : World) (h : Below w.heap.size w V) => check_eq V R _ _ s m dc tr (HS.out.below h) (HM.out.below h) (by have := HF.out; omega) (by have := HF.out; omega)
    by_cases hC : chk s m dc tr = 0
    · have NW := new_ok w1 R _ _ s m dc tr (HS.out.below HB1.out) (HM.out.below HB1.out) (by have := HF.out; omega) (by have := HF.out; omega) hC
      have HLN := Lib.hid (lain_of hC)
      have HSPN := Lib.hid (lays_spans hC)
      have HLEN := Lib.hid (show (srt s).length ≤ 1000 by rw [srt_length]; have := HF.out; omega)
      clear hC CK HS HM
      go_wp2_with (go_at_call 27; (with_reducible refine NW.mono ?_); rintro e w2 ⟨gt, v1, v2, rfl, hgt, hN, hT⟩; refine Hid.out ?_)
      refine Lib.hid ?_
      obtain ⟨bt, hbt⟩ : ∃ bt, bt = w2.heap.size := ⟨_, rfl⟩
      obtain ⟨V2, hV2⟩ : ∃ V2, V2 = w2.alloc (.cells #[.pointer (some ⟨gt, 0, none⟩)] 49) := ⟨_, rfl⟩
      have hA2 : Below w2.heap.size w2 V2 := by rw [hV2]; exact Q.alloc (Below.refl _ _) _
      have zV2 : V2.heap.size = w2.heap.size + 1 := by rw [hV2]; simp
      have hB2 : Below w.heap.size w V2 := Q.call (Q.call HB1.out hN.bel) hA2
      have RB2 := (RB1.out.call hN.bel).call hA2
      have TB2 : Blk V2 bt 49 #[.pointer (some ⟨gt, 0, none⟩)] := by rw [hV2]; exact Blk.new' hbt
      have T2 := hT.call hA2
      have N2 := hN.call hA2
      have gtl := hT.lt
      have R2 : Rd ES V2 (fun b => b < gt ∧ w.heap.size ≤ b) v1 (srt s) := N2.rs.keep (fun b _ hR => ⟨rfl, hR.1, Nat.le_trans HB1.out.size hR.2⟩) (Nat.le_refl _)
      have LO2 := LO V2 hB2
      have HV2 := Lib.hid (And.intro hV2 hbt)
      have HB2 := Lib.hid hB2
      have HRB2 := Lib.hid RB2
      have HTB2 := Lib.hid TB2
      have HT2 := Lib.hid T2
      have HR2 := Lib.hid R2
      have HZ2 := Lib.hid (And.intro zV2 (And.intro gtl (And.intro hgt hbt)))
      clear hV2 hbt hA2 zV2 hB2 RB2 TB2 T2 N2 gtl R2 hN hT NW hgt p0 p1 p2 p3 pl PB1 RB1
      go_wp2_with (rw [← HV2.out.1, ← HV2.out.2]; refine Hid.out ?_)
      refine Lib.hid ?_
      clear HV2
      go_wp2_with (go_at_call 28; (with_reducible refine LO2.mono ?_); rintro e w3 ⟨rfl, hm3, hb3⟩; refine Hid.out ?_)
      refine Lib.hid ?_
      obtain ⟨gm, hgm⟩ : ∃ gm, gm = V2.heap.size := ⟨_, rfl⟩
      rw [← hgm] at hm3 ⊢
      obtain ⟨bm, hbm⟩ : ∃ bm, bm = w3.heap.size := ⟨_, rfl⟩
      obtain ⟨V3, hV3⟩ : ∃ V3, V3 = w3.alloc (.cells #[.pointer (some ⟨gm, 0, none⟩)] 52) := ⟨_, rfl⟩
      have hA3 : Below w3.heap.size w3 V3 := by rw [hV3]; exact Q.alloc (Below.refl _ _) _
      have zV3 : V3.heap.size = w3.heap.size + 1 := by rw [hV3]; simp
      have b23 : Below V2.heap.size V2 V3 := Q.call hb3 hA3
      have hB3 := Q.call HB2.out b23
      have MB3 : Blk V3 bm 52 #[.pointer (some ⟨gm, 0, none⟩)] := by rw [hV3]; exact Blk.new' hbm
      have LO3 := LO V3 hB3
      have HV3 := Lib.hid (And.intro hV3 hbm)
      have HB23 := Lib.hid b23
      have HB3 := Lib.hid hB3
      have HMB3 := Lib.hid MB3
      have HM3 := Lib.hid (hm3.call hA3)
      have HZ3 := Lib.hid (And.intro zV3 (And.intro hm3.lt (And.intro hgm hbm)))
      clear hV3 hbm hA3 zV3 b23 hB3 MB3 hm3 hb3 hgm LO2 LO
      go_wp2_with (rw [← HV3.out.1, ← HV3.out.2]; refine Hid.out ?_)
      refine Lib.hid ?_
      clear HV3
      go_wp2_with (go_at_call 28; (with_reducible refine LO3.mono ?_); rintro e w4 ⟨rfl, hm4, hb4⟩; refine Hid.out ?_)
      refine Lib.hid ?_
      obtain ⟨go, hgo⟩ : ∃ go, go = V3.heap.size := ⟨_, rfl⟩
      rw [← hgo] at hm4 ⊢
      obtain ⟨bo, hbo⟩ : ∃ bo, bo = w4.heap.size := ⟨_, rfl⟩
      obtain ⟨V4, hV4⟩ : ∃ V4, V4 = w4.alloc (.cells #[.pointer (some ⟨go, 0, none⟩)] 52) := ⟨_, rfl⟩
      have hA4 : Below w4.heap.size w4 V4 := by rw [hV4]; exact Q.alloc (Below.refl _ _) _
      have b34 : Below V3.heap.size V3 V4 := Q.call hb4 hA4
      have OB4 : Blk V4 bo 52 #[.pointer (some ⟨go, 0, none⟩)] := by rw [hV4]; exact Blk.new' hbo
      have hne : w.heap.size ≤ hr ∧ hr < gt ∧ gt < bt ∧ bt < gm ∧ gm < bm ∧ bm < go ∧ go < bo := by
        have h1 := HZ2.out
        have h2 := HZ3.out
        have h3 := HHR.out
        have h4 := HRL.out
        have h5 := hm4.lt
        omega
      have HI0 : Hid (LS w hr bt bm bo gt gm go v1 v2 dc tr (fillT (srt s) (fun _ => 0)) (fillT (srt m) (fun _ => 0)) (srt s) (ldAll ops) (ldAll ops) V4) := Lib.hid
        ⟨Q.call HB3.out b34, (HRB2.out.call HB23.out).call b34, (HTB2.out.call HB23.out).call b34, HMB3.out.call b34, OB4, (HT2.out.call HB23.out).call b34, (HR2.out.below HB23.out).below b34, HM3.out.call b34, hm4.call hA4, hne⟩
      have HV4 := Lib.hid (And.intro hV4 hbo)
      clear hV4 hbo hA4 b34 OB4 hm4 hb4 hgo LO3 HB23 HB3 HMB3 HM3 HZ3 HB2 HRB2 HTB2 HT2 HR2 HZ2 HRL HHR hne HF
      obtain ⟨F, hF⟩ : ∃ F, F = ldAll ops := ⟨_, rfl⟩
      have HF0 := Lib.hid (show ∀ k, (F k).2 = 0 by rw [hF]; exact ld_zero ops)
      obtain ⟨A, hA⟩ : ∃ A : Nat → Int, A = fillT (srt s) (fun _ => 0) := ⟨_, rfl⟩
      obtain ⟨L, hL⟩ : ∃ L, L = srt s := ⟨_, rfl⟩
      obtain ⟨F', hF'⟩ : ∃ F' : Nat → Int × Int, F' = fun k => ((F k).1, A k) := ⟨_, rfl⟩
      have HLF := Lib.hid (show layAll F L = F' by rw [hF', hF, hA, hL]; exact lays_mem ops (srt s) (fun x hx => (HSPN.out x hx).2))
      rw [← hA] at HLN
      have HLOW := Lib.hid (show ∀ k, k < 65536 → lowV F' F A k = 0 ∧ lowV F F' A k = 0 from fun k hk => by rw [hF']; exact lays_low F A A HLN.out k hk)
      have HGY := Lib.hid (show ∀ k, k < 65536 → (F' k).2 ≠ 0 → GoodY F A (k, F' k) from fun k hk h => by rw [hF'] at h ⊢; exact good_y HLN.out HF0.out hk h)
      have HGZ := Lib.hid (show ∀ k, k < 65536 → A k ≠ 0 → GoodZ F' (k, A k) from fun k hk h => by rw [hF']; exact good_z HLN.out hk h)
      obtain ⟨T1, hT1⟩ : ∃ T1, secs F' 65536 = T1 := ⟨_, rfl⟩
      obtain ⟨T2, hT2⟩ : ∃ T2, tabs A 65536 = T2 := ⟨_, rfl⟩
      have HTT := Lib.hid (show T1.length = T2.length by rw [← hT1, ← hT2, hF']; exact secs_tabs F A 65536)
      have HTL := Lib.hid (show T1.length ≤ 65536 by rw [← hT1]; exact secs_length F' 65536)
      have HT1 := Lib.hid hT1
      have HT2 := Lib.hid hT2
      have HSP := Lib.hid (show ∀ x ∈ L, spanOf x.f x.t = 0 by rw [hL]; exact fun x hx => (HSPN.out x hx).1)
      have HLE := Lib.hid (show L.length ≤ 1000 by rw [hL]; exact HLEN.out)
      rw [← hF, ← hA, ← hL] at HI0
      clear hT1 hT2 hF hA hL hF' HSPN HLEN HLN HF0
      obtain ⟨B, hB⟩ : ∃ B : Nat → Int, B = fillT (srt m) (fun _ => 0) := ⟨_, rfl⟩
      rw [← hB] at HI0
      clear hB
      have LY := lay_calls V4 gt gm F _ v1 v2 dc tr A B L (HI0.out.kin HK.out) (by have h1 := HK.out.lt; have h2 := HI0.out.ne; omega) HI0.out.tab HI0.out.rs (fun b hb => by have h2 := HI0.out.ne; omega) HI0.out.mm HLE.out HSP.out
      rw [HLF.out] at LY
      have tb0 := HI0.out.tb.cell 0
      have tbl := HI0.out.tb.lt
      have mb0 := HI0.out.mb.cell 0
      have mbl := HI0.out.mb.lt
      have ob0 := HI0.out.ob.cell 0
      have obl := HI0.out.ob.lt
      have L1 := fun V (hV : LS w hr bt bm bo gt gm go v1 v2 dc tr A B L F' F V) => low_eq V gt gm go F' F v1 v2 dc tr A B true ⟨fun _ k hk => (HLOW.out k hk).1, fun _ => rfl⟩ (hV.kin HK.out) hV.tab hV.mm hV.mo
      have L2 := fun V (hV : LS w hr bt bm bo gt gm go v1 v2 dc tr A B L F' F V) => low_eq V gt go gm F F' v1 v2 dc tr A B true ⟨fun _ k hk => (HLOW.out k hk).2, fun _ => rfl⟩ (hV.kin HK.out) hV.tab hV.mo hV.mm
      clear HSP HLE HLF HLOW
      go_wp2_with (rw [← HV4.out.1, ← HV4.out.2]; refine Hid.out ?_)
      refine Lib.hid ?_
      clear HV4
      go_wp2_with (go_at_call 40; (with_reducible refine LY.mono ?_); rintro e w5 ⟨rfl, hm5, hc5⟩; refine Hid.out ?_)
      refine Lib.hid ?_
      have HI5 := Lib.hid (HI0.out.lay hm5 hc5)
      clear LY HI0 hm5 hc5 tb0 tbl mb0 mbl ob0 obl
      have tb0 := HI5.out.tb.cell 0
      have tbl := HI5.out.tb.lt
      have mb0 := HI5.out.mb.cell 0
      have mbl := HI5.out.mb.lt
      have ob0 := HI5.out.ob.cell 0
      have obl := HI5.out.ob.lt
      have L15 := L1 w5 HI5.out
      clear L1
      go_wp2_with (go_at_call 30; (with_reducible refine L15.mono ?_); rintro e w6 ⟨rfl, hb6⟩; refine Hid.out ?_)
      refine Lib.hid ?_
      have HI6 := Lib.hid (HI5.out.call hb6)
      clear L15 HI5 hb6 tb0 tbl mb0 mbl ob0 obl
      have tb0 := HI6.out.tb.cell 0
      have tbl := HI6.out.tb.lt
      have mb0 := HI6.out.mb.cell 0
      have mbl := HI6.out.mb.lt
      have ob0 := HI6.out.ob.cell 0
      have obl := HI6.out.ob.lt
      have L26 := L2 w6 HI6.out
      clear L2
      go_wp2_with (go_at_call 30; (with_reducible refine L26.mono ?_); rintro e w7 ⟨rfl, hb7⟩; refine Hid.out ?_)
      refine Lib.hid ?_
      have HI7 := Lib.hid (HI6.out.call hb7)
      clear L26 HI6 hb7 tb0 tbl mb0 mbl ob0 obl
      have mb0 := HI7.out.mb.cell 0
      have mbl := HI7.out.mb.lt
      have SC7 := secret_calls gm F' w7 HI7.out.mm
      go_wp2_with (go_at_call 41; (with_reducible refine SC7.mono ?_); rintro e w8 ⟨gb, gc, rfl, hcb, hmc, hgc, hgb, hgl, hb8⟩; refine Hid.out ?_)
      refine Lib.hid ?_
      obtain ⟨bn, hbn⟩ : ∃ bn, bn = w8.heap.size := ⟨_, rfl⟩
      obtain ⟨V9, hV9⟩ : ∃ V9, V9 = w8.alloc (.cells #[.int .i64 0] 3) := ⟨_, rfl⟩
      have hA9 : Below w8.heap.size w8 V9 := by rw [hV9]; exact Q.alloc (Below.refl _ _) _
      have zV9 : V9.heap.size = w8.heap.size + 1 := by rw [hV9]; simp
      have NB9 : Blk V9 bn 3 #[.int .i64 0] := by rw [hV9]; exact Blk.new' hbn
      have HI9 := Lib.hid ((HI7.out.call hb8).call hA9)
      have hcb9 : V9.cell? ⟨gb, 0, none⟩ = some (.pointer (some ⟨gc, 0, none⟩)) := (hA9.cell (p := ⟨gb, 0, none⟩) hgl).trans hcb
      have hmc9 := hmc.call hA9
      have hgb9 : gb < V9.heap.size := Nat.lt_of_lt_of_le hgl hA9.size
      have HN9 := Lib.hid (show bo < bn ∧ bn < V9.heap.size ∧ V9.heap.size ≤ bn + 1 ∧ gc < bn ∧ gb < bn by have h1 := HI7.out.ob.lt; have h2 := hb8.size; have h3 := hmc.lt; omega)
      have HJ9 := Lib.hid (show JN bn V9 0 V9 from ⟨⟨NB9.cell 0, NB9.frozen 0⟩, Below.refl _ _⟩)
      have HV9 := Lib.hid (And.intro hV9 hbn)
      have HMC9 := Lib.hid (And.intro hcb9 (And.intro hmc9 hgb9))
      clear hV9 hbn hA9 zV9 NB9 hcb9 hmc9 hgb9 hcb hmc hgc hgb hgl hb8 HI7 SC7 mb0 mbl
      go_wp2_with fail
      rw [← HV9.out.1, ← HV9.out.2]
      clear HV9
      have hn9 := HN9.out
      obtain ⟨hcb9, hmc9, hgb9⟩ := HMC9.out
      refine (wpIn_wide (n := 3)).1 ?_
      refine ownH_boxed (by decide) (gf := 65) (lb := #[.pointer (some ⟨gb, 0, none⟩)]) rfl (enters_of Tryd.func65 (by kernel_rfl) rfl)
        (sec_stops Fence.wide 2 trivial rfl (by decide) gb gc 65536 rfl F' T1 HT1.out V9 hgb9 hcb9 hmc9) KM.t (KM.b (by omega) (by omega)) (Below.refl _ _)
        (fun pre W => JN bn V9 (pre.length : Int) W)
        (fun c pre _ => c = .ret ∧ StY F A pre)
        (jn_own (β := List (Nat × Int × Int)) (fun pre => (pre.length : Int)) (by omega))
        (fun c => ownFrom_pure _ (fun pre => c = .ret ∧ StY F A pre))
        HJ9.out bn ?assign ?body ?done ?stop
      case assign =>
        rintro lp pre x2 W K hJW hK
        have hWs := hJW.2.size
        have HJW := Lib.hid hJW
        clear hJW
        gi_wp2
        have hal : Below W.heap.size W (W.alloc (.cells #[.int .u8 x2.2.1, .int .u8 x2.2.2] 57)) := Q.alloc (Below.refl _ _) _
        have hJ := hK _ _ ((KeepsOthers.alloc W (.cells #[.int .u8 x2.2.1, .int .u8 x2.2.2] 57)).from _) ⟨hal.block gc (by omega), hal.block gb (by omega)⟩ (HJW.out.call hal (by omega)) ⟨W.heap.size, by omega, Blk.new W _ _, rfl⟩
        simp only [afterAssign, List.setIfInBounds_toArray, List.set_cons_zero, List.set_cons_succ] at hJ
        exact hJ
      case body =>
        rintro lp pre x2 a' W hlp ⟨rr, hrr⟩ hJW ⟨Bx, hBx, bx, rfl⟩ hlt
        obtain ⟨xi, xv, xt⟩ := x2
        simp only at bx
        simp only [afterAssign, List.setIfInBounds_toArray, List.set_cons_zero, List.set_cons_succ]
        have hWs := hJW.2.size
        have HIW := Lib.hid (HI9.out.from_ (by omega) hJW.2)
        have hbnW : bn < W.heap.size := by omega
        have HJW := Lib.hid hJW
        have RD := read_calls go F (xi : Int) W (HIW.out.kin HK.out) HIW.out.mo
        obtain ⟨rv, hrv⟩ : ∃ rv, rv = (readOf F (xi : Int)).1 := ⟨_, rfl⟩
        obtain ⟨rt, hrt⟩ : ∃ rt, rt = (readOf F (xi : Int)).2 := ⟨_, rfl⟩
        obtain ⟨E, hE⟩ : ∃ E, E = errOf (xi : Int) := ⟨_, rfl⟩
        rw [← hrv, ← hrt, ← hE] at RD
        have HRV := Lib.hid hrv
        have HRT := Lib.hid hrt
        have HE := Lib.hid hE
        have HBX := Lib.hid bx
        have ob0 := HIW.out.ob.cell 0
        have obl := HIW.out.ob.lt
        have hpl : (pre.length : Int) < 65536 := by have : pre.length < 65536 := hlt; omega
        clear hJW bx hrv hrt hE
        gi_wp2
        refine And.intro ?_ ?_
        · exact trivial
        (with_reducible refine (CallsIn.inRound _ (callsIn_wide.2 RD)).mono ?_)
        rintro e w9 ⟨rfl, hb9⟩
        obtain ⟨xb, hxb⟩ : ∃ xb, xb = w9.heap.size := ⟨_, rfl⟩
        obtain ⟨V, hV⟩ : ∃ V, V = w9.alloc (.cells #[.int .u8 rv, .int .u8 rt] 57) := ⟨_, rfl⟩
        have hAV : Below w9.heap.size w9 V := by rw [hV]; exact Q.alloc (Below.refl _ _) _
        have bV : Below W.heap.size W V := Q.call hb9 hAV
        have XB : Blk V xb 57 #[.int .u8 rv, .int .u8 rt] := by rw [hV]; exact Blk.new' hxb
        have HBV := Lib.hid bV
        have L1 : ∀ y : BW V, y.val.cell? ⟨Bx, 0, none⟩ = some (.int .u8 xv) := fun y => ((HBX.out.call bV).call y.has).cell 0
        have L2 : ∀ y : BW V, y.val.cell? ⟨Bx, 1, none⟩ = some (.int .u8 xt) := fun y => ((HBX.out.call bV).call y.has).cell 1
        have L3 : ∀ y : BW V, y.val.cell? ⟨bt, 0, none⟩ = some (.pointer (some ⟨gt, 0, none⟩)) := fun y => ((HIW.out.tb.call bV).call y.has).cell 0
        have L4 : ∀ y : BW V, y.val.cell? ⟨xb, 0, none⟩ = some (.int .u8 rv) := fun y => (XB.call y.has).cell 0
        have L5 : ∀ y : BW V, y.val.cell? ⟨xb, 1, none⟩ = some (.int .u8 rt) := fun y => (XB.call y.has).cell 1
        obtain ⟨SV, hSV⟩ : ∃ SV, SV = bitsAt A (xi : Int) := ⟨_, rfl⟩
        have CS : ∀ y : BW V, Calls Tryd.prog 33 #[.pointer (some ⟨gt, 0, none⟩), .int .i64 (xi : Int)] y.val fun e w' => e = .returned (.int .u8 SV) ∧ Below y.val.heap.size y.val w' := fun y => by rw [hSV]; exact secret_eq y.val gt (xi : Int) v1 v2 dc tr A B ((HIW.out.call bV).call y.has).tab
        have HSV := Lib.hid hSV
        have HVV := Lib.hid (And.intro hV hxb)
        clear hV hxb hAV bV XB hb9 RD ob0 obl hSV
        gi_wp2_with (rw [← HVV.out.1, ← HVV.out.2]; refine Hid.out ?_)
        refine Lib.hid ?_
        clear HVV
        gi_wp2_with (with_reducible refine wpIn_region_below (by kernel_rfl) (by kernel_rfl) (by kernel_rfl) ?_; refine Hid.out ?_)
        refine Lib.hid ?_
        by_cases c1 : xt = 0
        · have k1 : (xt == 0) = true := by simp [c1]
          have NG := Lib.hid (show StY F A (pre ++ [(xi, xv, xt)]) from ⟨pre, (xi, xv, xt), rfl, fun h => h.1 c1⟩)
          clear c1
          repeat (go_big_quiet_step (exact calls_bw (CS _)))
          refine wpQuiet_nil ?_
          first | (intro w9' hw9'; obtain ⟨y9, rfl⟩ := hw9') | intro y9
          have hbW : Below W.heap.size W y9.val := Q.call HBV.out y9.has
          have q0 := (HIW.out.rb.call hbW).cell 0
          have q1 := (HIW.out.rb.call hbW).frozen 0
          have g0 : y9.val.cell? ⟨bn, 0, none⟩ = some (.int .i64 (pre.length : Int)) := (hbW.cell (p := ⟨bn, 0, none⟩) hbnW).trans HJW.out.1.1
          have g1 : y9.val.frozen? ⟨bn, 0, none⟩ = false := (hbW.frozen (p := ⟨bn, 0, none⟩) hbnW).trans HJW.out.1.2
          have ql := Nat.lt_of_lt_of_le HIW.out.rb.lt hbW.size
          have gl := Nat.lt_of_lt_of_le hbnW hbW.size
          have HKO := Lib.hid (show KeepsOthers W y9.val from ⟨hbW.size, fun k o hk _ => (hbW.block k (Array.getElem?_eq_some_iff.1 hk).1).trans hk⟩)
          have HBW := Lib.hid hbW
          clear L1 L2 L3 L4 L5 CS
          generalize y9.val = W9 at HBW q0 q1 g0 g1 ql gl HKO ⊢
          clear hbW
          gi_wp2
          exact ⟨(HKO.out.trans (KeepsOthers.setCell _ _ _)).from _, rfl, NG.out⟩
        have k1 : (xt == 0) = false := beq_eq_false_iff_ne.2 c1
        by_cases c2 : xt = SV
        rotate_left
        · have k2 : (xt == SV) = false := beq_eq_false_iff_ne.2 c2
          have k2b : (xt != SV) = true := by simp [bne, k2]
          have NG := Lib.hid (show StY F A (pre ++ [(xi, xv, xt)]) from ⟨pre, (xi, xv, xt), rfl, fun h => c2 (h.2.1.trans HSV.out.symm)⟩)
          clear c1 c2
          repeat (go_big_quiet_step (exact calls_bw (CS _)))
          refine wpQuiet_nil ?_
          first | (intro w9' hw9'; obtain ⟨y9, rfl⟩ := hw9') | intro y9
          have hbW : Below W.heap.size W y9.val := Q.call HBV.out y9.has
          have q0 := (HIW.out.rb.call hbW).cell 0
          have q1 := (HIW.out.rb.call hbW).frozen 0
          have g0 : y9.val.cell? ⟨bn, 0, none⟩ = some (.int .i64 (pre.length : Int)) := (hbW.cell (p := ⟨bn, 0, none⟩) hbnW).trans HJW.out.1.1
          have g1 : y9.val.frozen? ⟨bn, 0, none⟩ = false := (hbW.frozen (p := ⟨bn, 0, none⟩) hbnW).trans HJW.out.1.2
          have ql := Nat.lt_of_lt_of_le HIW.out.rb.lt hbW.size
          have gl := Nat.lt_of_lt_of_le hbnW hbW.size
          have HKO := Lib.hid (show KeepsOthers W y9.val from ⟨hbW.size, fun k o hk _ => (hbW.block k (Array.getElem?_eq_some_iff.1 hk).1).trans hk⟩)
          have HBW := Lib.hid hbW
          clear L1 L2 L3 L4 L5 CS
          generalize y9.val = W9 at HBW q0 q1 g0 g1 ql gl HKO ⊢
          clear hbW
          gi_wp2
          exact ⟨(HKO.out.trans (KeepsOthers.setCell _ _ _)).from _, rfl, NG.out⟩
        have k2b : (xt != SV) = false := by simp [bne, c2]
        have k2 : (xt == SV) = true := by simp [c2]
        have HC2 := Lib.hid c2
        clear c2
        by_cases c3 : E = 0
        rotate_left
        · have k3 : (E == 0) = false := beq_eq_false_iff_ne.2 c3
          have k3b : (E != 0) = true := by simp [bne, k3]
          have NG := Lib.hid (show StY F A (pre ++ [(xi, xv, xt)]) from ⟨pre, (xi, xv, xt), rfl, fun h => c3 (HE.out.trans h.2.2.1)⟩)
          clear c1 c3
          repeat (go_big_quiet_step (exact calls_bw (CS _)))
          refine wpQuiet_nil ?_
          first | (intro w9' hw9'; obtain ⟨y9, rfl⟩ := hw9') | intro y9
          have hbW : Below W.heap.size W y9.val := Q.call HBV.out y9.has
          have q0 := (HIW.out.rb.call hbW).cell 0
          have q1 := (HIW.out.rb.call hbW).frozen 0
          have g0 : y9.val.cell? ⟨bn, 0, none⟩ = some (.int .i64 (pre.length : Int)) := (hbW.cell (p := ⟨bn, 0, none⟩) hbnW).trans HJW.out.1.1
          have g1 : y9.val.frozen? ⟨bn, 0, none⟩ = false := (hbW.frozen (p := ⟨bn, 0, none⟩) hbnW).trans HJW.out.1.2
          have ql := Nat.lt_of_lt_of_le HIW.out.rb.lt hbW.size
          have gl := Nat.lt_of_lt_of_le hbnW hbW.size
          have HKO := Lib.hid (show KeepsOthers W y9.val from ⟨hbW.size, fun k o hk _ => (hbW.block k (Array.getElem?_eq_some_iff.1 hk).1).trans hk⟩)
          have HBW := Lib.hid hbW
          clear L1 L2 L3 L4 L5 CS
          generalize y9.val = W9 at HBW q0 q1 g0 g1 ql gl HKO ⊢
          clear hbW
          gi_wp2
          exact ⟨(HKO.out.trans (KeepsOthers.setCell _ _ _)).from _, rfl, NG.out⟩
        subst c3
        by_cases c4 : rv = xv
        rotate_left
        · have k4 : (rv == xv) = false := beq_eq_false_iff_ne.2 c4
          have k4b : decide (rv = xv) = false := decide_eq_false c4
          have NG := Lib.hid (show StY F A (pre ++ [(xi, xv, xt)]) from ⟨pre, (xi, xv, xt), rfl, fun h => c4 (HRV.out.trans (congrArg Prod.fst h.2.2.2))⟩)
          clear c1 c4
          repeat (go_big_quiet_step (exact calls_bw (CS _)))
          refine wpQuiet_nil ?_
          first | (intro w9' hw9'; obtain ⟨y9, rfl⟩ := hw9') | intro y9
          have hbW : Below W.heap.size W y9.val := Q.call HBV.out y9.has
          have q0 := (HIW.out.rb.call hbW).cell 0
          have q1 := (HIW.out.rb.call hbW).frozen 0
          have g0 : y9.val.cell? ⟨bn, 0, none⟩ = some (.int .i64 (pre.length : Int)) := (hbW.cell (p := ⟨bn, 0, none⟩) hbnW).trans HJW.out.1.1
          have g1 : y9.val.frozen? ⟨bn, 0, none⟩ = false := (hbW.frozen (p := ⟨bn, 0, none⟩) hbnW).trans HJW.out.1.2
          have ql := Nat.lt_of_lt_of_le HIW.out.rb.lt hbW.size
          have gl := Nat.lt_of_lt_of_le hbnW hbW.size
          have HKO := Lib.hid (show KeepsOthers W y9.val from ⟨hbW.size, fun k o hk _ => (hbW.block k (Array.getElem?_eq_some_iff.1 hk).1).trans hk⟩)
          have HBW := Lib.hid hbW
          clear L1 L2 L3 L4 L5 CS
          generalize y9.val = W9 at HBW q0 q1 g0 g1 ql gl HKO ⊢
          clear hbW
          gi_wp2
          exact ⟨(HKO.out.trans (KeepsOthers.setCell _ _ _)).from _, rfl, NG.out⟩
        by_cases c5 : rt = 0
        rotate_left
        · have k4 : (rv == xv) = true := by simp [c4]
          have k4b : decide (rv = xv) = true := decide_eq_true c4
          have k5 : (rt == 0) = false := beq_eq_false_iff_ne.2 c5
          have k5b : decide (rt = 0) = false := decide_eq_false c5
          have NG := Lib.hid (show StY F A (pre ++ [(xi, xv, xt)]) from ⟨pre, (xi, xv, xt), rfl, fun h => c5 (HRT.out.trans (congrArg Prod.snd h.2.2.2))⟩)
          clear c1 c4 c5
          repeat (go_big_quiet_step (exact calls_bw (CS _)))
          refine wpQuiet_nil ?_
          first | (intro w9' hw9'; obtain ⟨y9, rfl⟩ := hw9') | intro y9
          have hbW : Below W.heap.size W y9.val := Q.call HBV.out y9.has
          have q0 := (HIW.out.rb.call hbW).cell 0
          have q1 := (HIW.out.rb.call hbW).frozen 0
          have g0 : y9.val.cell? ⟨bn, 0, none⟩ = some (.int .i64 (pre.length : Int)) := (hbW.cell (p := ⟨bn, 0, none⟩) hbnW).trans HJW.out.1.1
          have g1 : y9.val.frozen? ⟨bn, 0, none⟩ = false := (hbW.frozen (p := ⟨bn, 0, none⟩) hbnW).trans HJW.out.1.2
          have ql := Nat.lt_of_lt_of_le HIW.out.rb.lt hbW.size
          have gl := Nat.lt_of_lt_of_le hbnW hbW.size
          have HKO := Lib.hid (show KeepsOthers W y9.val from ⟨hbW.size, fun k o hk _ => (hbW.block k (Array.getElem?_eq_some_iff.1 hk).1).trans hk⟩)
          have HBW := Lib.hid hbW
          clear L1 L2 L3 L4 L5 CS
          generalize y9.val = W9 at HBW q0 q1 g0 g1 ql gl HKO ⊢
          clear hbW
          gi_wp2
          exact ⟨(HKO.out.trans (KeepsOthers.setCell _ _ _)).from _, rfl, NG.out⟩
        have k4 : (rv == xv) = true := by simp [c4]
        have k4b : decide (rv = xv) = true := decide_eq_true c4
        have k5 : (rt == 0) = true := by simp [c5]
        have k5b : decide (rt = 0) = true := decide_eq_true c5
        clear c1 c4 c5
        have wp : IntKind.i64.wrap ((pre.length : Int) + 1) = (pre.length : Int) + 1 := by rw [IntKind.wrap_i64]; omega
        repeat (go_big_quiet_step (exact calls_bw (CS _)))
        refine wpQuiet_nil ?_
        first | (intro w9' hw9'; obtain ⟨y9, rfl⟩ := hw9') | intro y9
        have hbW : Below W.heap.size W y9.val := Q.call HBV.out y9.has
        have q0 := (HIW.out.rb.call hbW).cell 0
        have q1 := (HIW.out.rb.call hbW).frozen 0
        have g0 : y9.val.cell? ⟨bn, 0, none⟩ = some (.int .i64 (pre.length : Int)) := (hbW.cell (p := ⟨bn, 0, none⟩) hbnW).trans HJW.out.1.1
        have g1 : y9.val.frozen? ⟨bn, 0, none⟩ = false := (hbW.frozen (p := ⟨bn, 0, none⟩) hbnW).trans HJW.out.1.2
        have ql := Nat.lt_of_lt_of_le HIW.out.rb.lt hbW.size
        have gl := Nat.lt_of_lt_of_le hbnW hbW.size
        have HKO := Lib.hid (show KeepsOthers W y9.val from ⟨hbW.size, fun k o hk _ => (hbW.block k (Array.getElem?_eq_some_iff.1 hk).1).trans hk⟩)
        have HBW := Lib.hid hbW
        clear L1 L2 L3 L4 L5 CS
        generalize y9.val = W9 at HBW q0 q1 g0 g1 ql gl HKO ⊢
        clear hbW
        gi_wp2
        refine ⟨(HKO.out.trans (KeepsOthers.setCell _ _ _)).from _, ⟨(Below.heap_setCell _ _ _ gc (by simp only; omega)).trans (HBW.out.block gc (by omega)), (Below.heap_setCell _ _ _ gb (by simp only; omega)).trans (HBW.out.block gb (by omega))⟩, ?_⟩
        have hJ := HJW.out.put (c' := ((pre ++ [(xi, xv, xt)]).length : Int)) HBW.out (by omega)
        show JN bn V9 ((pre ++ [(xi, xv, xt)]).length : Int) _
        rw [show ((pre ++ [(xi, xv, xt)]).length : Int) = (pre.length : Int) + 1 by simp] at hJ ⊢
        exact hJ
      case stop =>
        rintro D c pre W _ ⟨k, hk, hak, rfl⟩ ⟨rfl, q, y, hq, hy⟩ _
        exfalso
        obtain ⟨h1, h2⟩ := List.append_inj' hq rfl
        cases h2
        exact hy (HGY.out k hk hak)
      case done =>
        rintro D ys W hD hys hJW hKD
        have hJ1 : JN bn V9 (T1.length : Int) W := by
          have h : JN bn V9 (ys.length : Int) W := hJW
          rw [show ys = T1 from hys] at h
          exact h
        clear hJW hys
        have hDW : D < W.heap.size := (Array.getElem?_eq_some_iff.1 hKD).1
        have hws := hJ1.2.size
        have HIW := Lib.hid (HI9.out.from_ (by omega) hJ1.2)
        have tb0 := HIW.out.tb.cell 0
        have tbl := HIW.out.tb.lt
        have HJ1 := Lib.hid hJ1
        have HKD := Lib.hid hKD
        have HD := Lib.hid (show bn < D by omega)
        have HBN := Lib.hid (show bo < bn ∧ bn < W.heap.size by omega)
        clear hJ1 hKD hcb9 hmc9 hgb9 hD
        go_wp2_with (go_at_call 35; (with_reducible refine (all_calls _ gt).mono ?_); rintro e w' ⟨rfl, rfl⟩; refine Hid.out ?_)
        refine Lib.hid ?_
        obtain ⟨ga, hga⟩ : ∃ ga, ga = W.heap.size := ⟨_, rfl⟩
        obtain ⟨X, hX⟩ : ∃ X, X = W.alloc (.cells #[.pointer (some ⟨gt, 0, none⟩)] 49) := ⟨_, rfl⟩
        have hA : Below W.heap.size W X := by rw [hX]; exact Q.alloc (Below.refl _ _) _
        have GA : Blk X ga 49 #[.pointer (some ⟨gt, 0, none⟩)] := by rw [hX]; exact Blk.new' hga
        rw [← hX, ← hga]
        have HIX := Lib.hid (HIW.out.call hA)
        have hcbX : X.cell? ⟨ga, 0, none⟩ = some (.pointer (some ⟨gt, 0, none⟩)) := GA.cell 0
        have hgaX := GA.lt
        have HJX := Lib.hid (show JD bn X D ((T1.length : Int) - (([] : List (Nat × Int)).length : Int)) X from by
          have hJ := HJ1.out.call hA (by have := HN9.out; omega)
          refine ⟨⟨⟨by rw [hJ.1.1]; simp, hJ.1.2⟩, Below.refl _ _⟩, heap_call9 HKD.out hA⟩)
        have HSX := Lib.hid (show bn < X.heap.size ∧ D < X.heap.size by have := hA.size; have := HBN.out; omega)
        have HCX := Lib.hid (And.intro hcbX hgaX)
        clear hX hga hA GA HIW HJ1 HKD tb0 tbl hcbX hgaX hDW hws
        go_wp2_with fail
        obtain ⟨hcbX, hgaX⟩ := HCX.out
        obtain ⟨hbX, hDX⟩ := HSX.out
        refine (wpIn_wide (n := 3)).1 ?_
        refine wpIn_rangeFunc_ownF rfl (by decide) (gf := 61) (lb := #[.pointer (some ⟨ga, 0, none⟩)]) rfl trivial (enters_of Tryd.func61 (by kernel_rfl) rfl)
          (all_stops 2 (by decide) ga gt 65536 rfl v1 v2 dc tr A B T2 HT2.out X hgaX hcbX HIX.out.tab) (fun _ _ => trivial) (fun _ _ _ _ _ _ _ _ => trivial) (Below.refl _ _) (fun _ => rfl)
          (fun pre W' => JD bn X D ((T1.length : Int) - (pre.length : Int)) W')
          (fun c pre _ => c = .ret ∧ StZ F' pre)
          (jd_own (β := List (Nat × Int)) (fun pre => (T1.length : Int) - (pre.length : Int)) (by omega) hDX)
          (fun c => ownFrom_pure _ (fun pre => c = .ret ∧ StZ F' pre))
          HJX.out ?a2 ?assign2 ?body2 ?done2 ?stop2
        case assign2 =>
          intro l x W' K hK
          gi_wp2
          exact hK
        case stop2 =>
          rintro D2 c pre W' _ ⟨k, hk, hak, rfl⟩ ⟨rfl, q, y, hq, hy⟩ _
          exfalso
          obtain ⟨h1, h2⟩ := List.append_inj' hq rfl
          cases h2
          exact hy (HGZ.out k hk hak)
        case body2 =>
          rintro l pre x W' hJD hl
          obtain ⟨xa, xb⟩ := x
          dsimp only
          have HIW := Lib.hid (HIX.out.from_ HBN.out.1 hJD.1.2)
          have hbW : bn < W'.heap.size := Nat.lt_of_lt_of_le hbX hJD.1.2.size
          obtain ⟨n0, hn0⟩ : ∃ n0 : Int, n0 = (T1.length : Int) - (pre.length : Int) := ⟨_, rfl⟩
          have hJD' : JD bn X D n0 W' := by rw [hn0]; exact hJD
          have HJD := Lib.hid hJD'
          have hbd : -65536 ≤ n0 ∧ n0 ≤ 65536 := by have h1 := HTL.out; have h2 : pre.length < 65536 := hl; omega
          have HN0 := Lib.hid hn0
          have RD := read_calls gm F' (xa : Int) W' (HIW.out.kin HK.out) HIW.out.mm
          obtain ⟨rv, hrv⟩ : ∃ rv, rv = (readOf F' (xa : Int)).1 := ⟨_, rfl⟩
          obtain ⟨rt, hrt⟩ : ∃ rt, rt = (readOf F' (xa : Int)).2 := ⟨_, rfl⟩
          obtain ⟨E, hE⟩ : ∃ E, E = errOf (xa : Int) := ⟨_, rfl⟩
          rw [← hrv, ← hrt, ← hE] at RD
          have HRT := Lib.hid hrt
          have HE := Lib.hid hE
          have mb0 := HIW.out.mb.cell 0
          have mbl := HIW.out.mb.lt
          clear hJD hJD' hrv hrt hE hn0 hl
          gi_wp2
          refine And.intro ?_ ?_
          · exact trivial
          (with_reducible refine (CallsIn.inRound _ (callsIn_wide.2 RD)).mono ?_)
          rintro e w9 ⟨rfl, hb9⟩
          have q0 := (HIW.out.rb.call hb9).cell 0
          have q1 := (HIW.out.rb.call hb9).frozen 0
          have ql := (HIW.out.rb.call hb9).lt
          have hJ9 := HJD.out.1.call hb9 hbX
          have g0 := hJ9.1.1
          have g1 := hJ9.1.2
          have gl : bn < w9.heap.size := Nat.lt_of_lt_of_le hbW hb9.size
          have HKO := Lib.hid (show KeepsOthers W' w9 from ⟨hb9.size, fun k o hk _ => (hb9.block k (Array.getElem?_eq_some_iff.1 hk).1).trans hk⟩)
          have HA9 := Lib.hid hb9
          clear hJ9 hb9 RD mb0 mbl
          by_cases c1 : E = 0
          rotate_left
          · have k1 : (E == 0) = false := beq_eq_false_iff_ne.2 c1
            have k1b : (E != 0) = true := by simp [bne, k1]
            have NG := Lib.hid (show StZ F' (pre ++ [(xa, xb)]) from ⟨pre, (xa, xb), rfl, fun h => c1 (HE.out.trans h.1)⟩)
            clear c1
            gi_wp2
            exact ⟨(HKO.out.trans (KeepsOthers.setCell _ _ _)).trans (KeepsOthers.alloc _ _), rfl, NG.out⟩
          · subst c1
            by_cases c2 : rt = xb
            rotate_left
            · have k2 : (rt == xb) = false := beq_eq_false_iff_ne.2 c2
              have k2b : (rt != xb) = true := by simp [bne, k2]
              have NG := Lib.hid (show StZ F' (pre ++ [(xa, xb)]) from ⟨pre, (xa, xb), rfl, fun h => c2 (HRT.out.trans h.2)⟩)
              clear c2
              gi_wp2
              exact ⟨(HKO.out.trans (KeepsOthers.setCell _ _ _)).trans (KeepsOthers.alloc _ _), rfl, NG.out⟩
            · have k2b : (rt != xb) = false := by simp [bne, c2]
              have k2 : (rt == xb) = true := by simp [c2]
              have wp : IntKind.i64.wrap (n0 - 1) = n0 - 1 := by rw [IntKind.wrap_i64]; omega
              clear c2
              gi_wp2
              refine ⟨(HKO.out.trans (KeepsOthers.setCell _ _ _)).trans (KeepsOthers.alloc _ _), trivial, ?_⟩
              show JD bn X D ((T1.length : Int) - ((pre ++ [(xa, xb)]).length : Int)) _
              have e1 : (T1.length : Int) - ((pre ++ [(xa, xb)]).length : Int) = n0 - 1 := by rw [HN0.out, List.length_append]; simp; omega
              rw [e1]
              exact (HJD.out.put HA9.out hbX HD.out).call (Q.alloc (Below.refl _ _) _) hbX
        case done2 =>
          rintro D2 ys W2 hD2 hys hJD hKD2
          have hJ2 : JD bn X D 0 W2 := by
            have h : JD bn X D ((T1.length : Int) - (ys.length : Int)) W2 := hJD
            rw [show ys = T2 from hys, HTT.out, Int.sub_self] at h
            exact h
          clear hJD hys
          have HIW := Lib.hid (HIX.out.from_ HBN.out.1 hJ2.1.2)
          have g0 := hJ2.1.1.1
          have gl : bn < W2.heap.size := Nat.lt_of_lt_of_le hbX hJ2.1.2.size
          have HJ2 := Lib.hid hJ2.2
          have HK2 := Lib.hid hKD2
          have HDD := Lib.hid (show D < D2 ∧ w.heap.size ≤ D by have h1 := HD.out; have h2 := HIW.out.ne; have h3 := HBN.out; omega)
          clear hJ2 hKD2 hcbX hgaX hbX hDX hD2
          go_wp2_with (go_at_call 26; (with_reducible refine (lawake_eq _).mono ?_); rintro e w9 ⟨rfl, hb9⟩; refine Hid.out ?_)
          refine Lib.hid ?_
          have RB9 := HIW.out.rb.call hb9
          have hB9 : Below w.heap.size w w9 := Q.call HIW.out.bel hb9
          have hK2 := heap_call9 HK2.out hb9
          have hK1 := heap_call9 HJ2.out hb9
          have z0 := RB9.cell 0
          have z1 := RB9.frozen 0
          have HR := Lib.hid (show w.heap.size ≤ hr from HIW.out.ne.1)
          clear hb9 g0 gl
          go_wp2_with fail
          have hK2' := (KeepsOthers.setCell w9 ⟨hr, 0, none⟩ (.bool true)).same D2 _ hK2 rfl
          have hK1' := (KeepsOthers.setCell w9 ⟨hr, 0, none⟩ (.bool true)).same D _ hK1 rfl
          refine ⟨by simp, .inl ⟨_, _, rfl, run_takeDeferred hK2', ?_⟩⟩
          have hne : D ≠ D2 := by have := HDD.out; omega
          have hK1'' : ((w9.setCell ⟨hr, 0, none⟩ (.bool true)).putObj D2 (.deferred none)).heap[D]? = some (.deferred (some [])) := (World.putObj_heap_other hne).trans hK1'
          refine ⟨by simp, .inl ⟨_, _, rfl, run_takeDeferred hK1'', ?_⟩⟩
          have hc4 := cell_kept (World.cell?_setCell_same' w9 ⟨hr, 0, none⟩ (.bool true) (by rw [z0]; rfl)) (grownBy_putObj' _ D2 (.deferred none)) (fun r e => by cases e; exact ⟨_, hK2', rfl⟩)
          have hc5 := cell_kept hc4 (grownBy_putObj' _ D (.deferred none)) (fun r e => by cases e; exact ⟨_, hK1'', rfl⟩)
          refine ⟨.bool true, ?_, rfl, ((hB9.setCell (p := ⟨hr, 0, none⟩) HR.out _).trans (belowK_b (w := w) (Nat.le_refl _) _ D2 _ _ (by have := HDD.out; omega) hK2' rfl rfl)).trans (belowK_b (w := w) (Nat.le_refl _) _ D _ _ HDD.out.2 hK1'' rfl rfl)⟩
          simp [results, Tryd.f7, go_sem, hc5]
    · have NW := new_bad w1 R _ _ s m dc tr (HS.out.below HB1.out) (HM.out.below HB1.out) (by have := HF.out; omega) (by have := HF.out; omega) _ rfl hC
      obtain ⟨C, hC'⟩ : ∃ C, C = chk s m dc tr := ⟨_, rfl⟩
      rw [← hC'] at NW hC CK
      have hcb : (C == 0) = false := by simp [hC]
      have hcn : (C != 0) = true := by simp [bne, hcb]
      have HCK := Lib.hid CK
      clear hC' HS HM hC CK HK
      go_wp2_with (go_at_call 27; (with_reducible refine NW.mono ?_); rintro e w2 ⟨rfl, hb2⟩; refine Hid.out ?_)
      refine Lib.hid ?_
      have hB2 := Q.call HB1.out hb2
      have HPB2 := Lib.hid (PB1.out.call hb2)
      have HRB2 := Lib.hid (RB1.out.call hb2)
      clear p0 p1 p2 p3 pl NW hb2 PB1 RB1
      go_wp2_with (go_at_call 28; (with_reducible refine (LO _ (by repeat' (first | with_reducible exact Below.refl _ _ | with_reducible assumption | with_reducible refine Q.alloc ?_ _ | with_reducible refine Q.drew ?_ | with_reducible refine Q.drewN ?_ _ | with_reducible refine Q.call ?_ (by assumption)))).mono ?_); rintro e w3 ⟨rfl, hm3, hb3⟩; refine Hid.out ?_)
      refine Lib.hid ?_
      have hB3 := Q.call (Q.alloc hB2 (.cells #[.pointer none] 49)) hb3
      have HPB3 := Lib.hid ((HPB2.out.alloc (.cells #[.pointer none] 49)).call hb3)
      have HRB3 := Lib.hid ((HRB2.out.alloc (.cells #[.pointer none] 49)).call hb3)
      obtain ⟨gm, hgm⟩ : ∃ gm, gm = w2.heap.size + 1 := ⟨_, rfl⟩
      rw [← hgm]
      clear hm3 hb3 hB2 HPB2 HRB2 hgm
      go_wp2_with (go_at_call 28; (with_reducible refine (LO _ (by repeat' (first | with_reducible exact Below.refl _ _ | with_reducible assumption | with_reducible refine Q.alloc ?_ _ | with_reducible refine Q.drew ?_ | with_reducible refine Q.drewN ?_ _ | with_reducible refine Q.call ?_ (by assumption)))).mono ?_); rintro e w4 ⟨rfl, hm4, hb4⟩; refine Hid.out ?_)
      refine Lib.hid ?_
      obtain ⟨go, hgo⟩ : ∃ go, go = w3.heap.size + 1 := ⟨_, rfl⟩
      rw [← hgo]
      obtain ⟨bm, hbm⟩ : ∃ bm, bm = w3.heap.size := ⟨_, rfl⟩
      obtain ⟨bo, hbo⟩ : ∃ bo, bo = w4.heap.size := ⟨_, rfl⟩
      obtain ⟨V4, hV4⟩ : ∃ V4, V4 = w4.alloc (.cells #[.pointer (some ⟨go, 0, none⟩)] 52) := ⟨_, rfl⟩
      have hA : Below w4.heap.size w4 V4 := by rw [hV4]; exact Q.alloc (Below.refl _ _) _
      have hB4 := Q.call (Q.call (Q.alloc hB3 (.cells #[.pointer (some ⟨gm, 0, none⟩)] 52)) hb4) hA
      have PB4 := ((HPB3.out.alloc (.cells #[.pointer (some ⟨gm, 0, none⟩)] 52)).call hb4).call hA
      have RB4 := ((HRB3.out.alloc (.cells #[.pointer (some ⟨gm, 0, none⟩)] 52)).call hb4).call hA
      have MB4 : Blk V4 bm 52 #[.pointer (some ⟨gm, 0, none⟩)] := ((Blk.new' hbm).call hb4).call hA
      have OB4 : Blk V4 bo 52 #[.pointer (some ⟨go, 0, none⟩)] := by rw [hV4]; exact Blk.new' hbo
      have HV4 := Lib.hid (And.intro hV4 (And.intro hbm hbo))
      clear hV4 hbm hbo hm4 hb4 hA hgo hB3 HPB3 HRB3
      have p0 := PB4.cell 0
      have p1 := PB4.cell 1
      have p2 := PB4.cell 2
      have p3 := PB4.cell 3
      have pl := PB4.lt
      have HPB := Lib.hid PB4
      have HMB := Lib.hid MB4
      have HOB := Lib.hid OB4
      have HRB := Lib.hid RB4
      have HB4 := Lib.hid hB4
      have CK4 := HCK.out V4 hB4
      clear PB4 MB4 OB4 RB4 hB4 HCK LO
      go_wp2_with (rw [← HV4.out.1, ← HV4.out.2.1, ← HV4.out.2.2]; refine Hid.out ?_)
      refine Lib.hid ?_
      clear HV4
      go_wp2_with (go_at_call 29; (with_reducible refine CK4.mono ?_); rintro e w5 ⟨rfl, hb5⟩; refine Hid.out ?_)
      refine Lib.hid ?_
      have m0 := (HMB.out.call hb5).cell 0
      have ml := (HMB.out.call hb5).lt
      have o0 := (HOB.out.call hb5).cell 0
      have ol := (HOB.out.call hb5).lt
      have HRB5 := Lib.hid (HRB.out.call hb5)
      have HB5 := Lib.hid (Q.call HB4.out hb5)
      clear p0 p1 p2 p3 pl CK4 hb5 HRB HB4
      go_wp2_with (go_at_call 26; (with_reducible refine (lawake_eq _).mono ?_); rintro e w9 ⟨rfl, hb9⟩; refine Hid.out ?_)
      refine Lib.hid ?_
      have RB9 := HRB5.out.call hb9
      have hB9 : Below w.heap.size w w9 := Q.call HB5.out hb9
      have z0 := RB9.cell 0
      have z1 := RB9.frozen 0
      clear hb9 m0 ml o0 ol
      go_wp2_with fail
      have hc5 := World.cell?_setCell_same' w9 ⟨hr, 0, none⟩ (.bool true) (by rw [z0]; rfl)
      refine ⟨.bool true, ?_, rfl, hB9.setCell (p := ⟨hr, 0, none⟩) (by have := HHR.out; simp only; omega) _⟩
      simp [results, Tryd.f7, go_sem, hc5]
end Go.Proofs.YtggnkkmlabhofaaDoor
