/- The walk of same: a recorder has just what the document's has. -/
import Derived.Test.YtijlmdpcbclmaaaRec11
import Derived.Test.YtijlmdpcbclmaaaQuietA
import Derived.RangeFuncBox
namespace Go.Proofs.Ytijlmdpcbclmaaa
set_option linter.unusedVariables false
set_option linter.unusedSimpArgs false
open Go.RowKit Go.Shelf
attribute [local go_sem] Oper.semAt_some eql_func_nil

theorem uptoR_map (zs : List RD) : (uptoR zs zs.length).map (·.2) = zs := by
  apply List.ext_getElem
  · simp [uptoR]
  · intro i h1 h2
    simp [uptoR, h2]

theorem own_weak {w : World} {B B' e size n : Nat} {v : Value} {xs : List Value} (h : w.ownsRow B e size v n xs) (hB : B' ≤ B) : w.ownsRow B' e size v n xs := by
  refine ⟨h.1, ?_⟩
  rcases h.2 with h2 | ⟨g, cap, cur, e1, e2, hrest⟩
  · exact .inl h2
  · exact .inr ⟨g, cap, cur, e1, by omega, hrest⟩
theorem blk_own {β : Type} (B g : Nat) (t : TypeId) (cs : Array Value) : OwnFrom B (fun (_ : β) W => Blk W g t cs) := fun _ X Y row hs hg hr =>
  (hg.block g hs.lt (fun e => by obtain ⟨_, o, ho, hc⟩ := hr g e.symm; unfold Blk at hs; rw [hs] at ho; cases ho; cases hc)).trans hs

/-- The frame behind the assignment to the loop's variables (i; b in a box). -/
def afterAssign (a : Act) (x : Nat × RD) (Bx : Nat) : Act :=
  { tmps := (((a.tmps.setIfInBounds 38 (.int .i64 (x.1 : Int))).setIfInBounds 39 (.agg #[.int .i64 x.2.addr, .bool x.2.wr, .int .u8 x.2.v, .int .u8 x.2.t])).setIfInBounds 7 (.int .i64 (x.1 : Int))).setIfInBounds 8 (.pointer (some ⟨Bx, 0, none⟩)), defers := [] }

/-- The law of a range over a function with a boxed variable, at this function's loop. -/
theorem ownH_boxed {n : Nat} {g : Operand} {assign body : Code} {Q : Exit → Act → World → Prop} {a : Act} {w : World} (h1 : 1 ≤ n) {gf : Nat} {lb : Array Value} (hg : a.eval g = .func (.func gf) #[] lb) (eg : ∀ args w, (callFunc gf args).run Try.prog w = .ok (.enter gf args) w)
    {Kp : World → World → Prop} {S Sp : List (Nat × RD) → Prop} {N : Nat} {w0 : World} (hseq : SeqStopsK Fence.wide (n - 1) Try.prog gf lb encR Kp S Sp N w0)
    (hKt : ∀ {A B C : World}, Kp A B → Kp B C → Kp A C) (hKb : ∀ (W : World) (l : Nat) (o o' : Obj), w.heap.size ≤ l → W.heap[l]? = some o → o.isCells = false → o.isWalk = false → Kp W (W.putObj l o')) (hb0 : Below w0.heap.size w0 w)
    (I : List (Nat × RD) → World → Prop) (Ix : Code → List (Nat × RD) → World → Prop) (hI : OwnFrom w.heap.size I) (hIx : ∀ c, OwnFrom w.heap.size (Ix c)) (h0 : I [] w) (B1 : Nat)
    (hassign : ∀ (l : Nat) (pre : List (Nat × RD)) (x : Nat × RD) (W : World) (K : Act → World → Prop), I pre W → (∀ a' W', KeepsFrom w.heap.size W W' → Kp W W' → I pre W' → (∃ Bx, B1 < Bx ∧ Blk W' Bx 35 #[.int .i64 x.2.addr, .bool x.2.wr, .int .u8 x.2.v, .int .u8 x.2.t] ∧ a' = afterAssign a x Bx) → K a' W') →
      assign.wpIn (Fence.wide.inRound l) (n - 1 - 1) Try.prog (Exit.then K (fun _ _ _ => False)) { tmps := ((#[38, 39] : Array Tmp).zip (encR x)).foldl (fun t (p, v) => t.setIfInBounds p v) a.tmps, defers := [] } W)
    (hbody : ∀ (l : Nat) (pre : List (Nat × RD)) (x : Nat × RD) (a' : Act) (W : World), w.heap.size ≤ l → (∃ r, W.heap[l]? = some (.loop r)) → I pre W → (∃ Bx, B1 < Bx ∧ Blk W Bx 35 #[.int .i64 x.2.addr, .bool x.2.wr, .int .u8 x.2.v, .int .u8 x.2.t] ∧ a' = afterAssign a x Bx) → pre.length < N → body.wpIn (Fence.wide.inRound l) (n - 1 - 1) Try.prog (ownPostG w.heap.size Kp I Ix (pre ++ [x]) W) a' W)
    (hdone : ∀ (D : Nat) (xs : List (Nat × RD)) (W : World), w.heap.size ≤ D → S xs → I xs W → W.heap[D]? = some (.deferred (some [])) → Q .normal { a with defers := { target := .collected D, args := #[] } :: a.defers } W)
    (hstop : ∀ (D : Nat) (c : Code) (pre : List (Nat × RD)) (W : World), w.heap.size ≤ D → Sp pre → Ix c pre W → W.heap[D]? = some (.deferred (some [])) → c.wpIn Fence.wide n Try.prog Q { a with defers := { target := .collected D, args := #[] } :: a.defers } W) :
    (Code.rangeFunc g #[38, 39] assign body).wpIn Fence.wide n Try.prog Q a w :=
  wpIn_rangeFunc_ownH rfl h1 hg trivial eg hseq hKt hKb hb0 (fun _ => rfl) I Ix hI hIx h0 (fun x a' W => (∃ Bx, B1 < Bx ∧ Blk W Bx 35 #[.int .i64 x.2.addr, .bool x.2.wr, .int .u8 x.2.v, .int .u8 x.2.t] ∧ a' = afterAssign a x Bx))
    (fun x a' _ X Y row hs hg hr => by obtain ⟨Bx, h1, h2, h3⟩ := hs; exact ⟨Bx, h1, blk_own w.heap.size Bx _ _ () X Y row h2 hg hr, h3⟩) hassign hbody hdone hstop

set_option maxRecDepth 100000 in
set_option maxHeartbeats 3200000 in
theorem same17_calls (B g : Nat) (sv : Value) (l : List RD) (most : Int) (full : Bool) (x : Nat) (a : Option Addr) (cap : Nat) (most2 : Int) (w : World) (hr : IsRec w B g sv l most full) (hl : l.length ≤ 4096)
    (hx : Blk w x 54 #[.slice a l.length cap, .int .i64 most2, .bool full]) (hrd : Reads w w.heap.size a l.length l) :
    Calls Try.prog 30 #[.pointer (some ⟨g, 0, none⟩), .pointer (some ⟨x, 0, none⟩)] w fun e w' => e = .returned (.bool true) ∧ Below w.heap.size w w' := by
  refine (callsIn_wide (n := 3)).1 ?_
  refine callsIn_of_wp_marks Try.func30 rfl trivial ?_
  simp only [Try.ntmps30, List.size_toArray, List.length_cons, List.length_nil, Nat.reduceAdd, Nat.reduceSub, Array.replicate_succ, Array.replicate_zero, List.push_toArray, List.append_toArray, List.nil_append, List.cons_append]
  refine wpIn_wide.2 ?_
  have b0 : Below w.heap.size w ((w.alloc (.cells #[.bool false] 4)).alloc (.cells #[.slice none 0 0] 22)) := Q.alloc (Q.alloc (Below.refl _ _) _) _
  go_wp2_with fail
  (with_reducible refine (rall_calls _ l _ ((hr.call b0).prec hl) hl).mono ?_)
  rintro e w1 ⟨g3, sv3, rfl, hc3, hg3, hg3', hne3, ho3, hb1⟩
  have k4 := ((Blk.new w 4 #[.bool false]).alloc (.cells #[.slice none 0 0] 22)).call hb1
  have k5 := (Blk.new' (w := w.alloc (.cells #[.bool false] 4)) (t := 22) (cs := #[.slice none 0 0]) (g := w.heap.size + 1) (by simp)).call hb1
  have hB1 := Q.call b0 hb1
  have hs1 : w.heap.size + 2 ≤ w1.heap.size := by have := hb1.size; simp at this; omega
  have hov3 : ∀ b, sv3.ownBlock = some b → w.heap.size + 2 ≤ b ∧ b < w1.heap.size := fun b hb => ⟨by have := (own_lt ho3 hb).1; have := (own_lt ho3 hb).2; simp at this; omega, (own_lt ho3 hb).1⟩
  clear b0 hb1
  have hr1 := hr.call hB1
  have hx1 := hx.call hB1
  go_wp2_with fail
  have L0 : ∀ y : BW w1, y.val.cell? ⟨x, 0, none⟩ = some (.slice a l.length cap) := fun y => (hx1.call y.has).cell 0
  have L2 : ∀ y : BW w1, y.val.cell? ⟨x, 2, none⟩ = some (.bool full) := fun y => (hx1.call y.has).cell 2
  have CL : ∀ y : BW w1, Calls Try.prog 34 #[.pointer (some ⟨g, 0, none⟩)] y.val (fun e w' => e = .returned (.int .i64 l.length) ∧ Below y.val.heap.size y.val w') := fun y =>
    (len_any _ l _ ((hr1.call y.has).prec hl)).mono fun e w' ⟨he, n, hw⟩ => ⟨he, by rw [hw]; exact Q.drewN (Below.refl _ _) _⟩
  have CF : ∀ y : BW w1, Calls Try.prog 35 #[.pointer (some ⟨g, 0, none⟩)] y.val (fun e w' => e = .returned (.bool full) ∧ w' = y.val) := fun y =>
    (full_calls _ _ _ _ _ _ _ (hr1.call y.has)).mono fun e w' ⟨he, hw⟩ => ⟨he, hw.symm⟩
  refine wp_region_below (by kernel_rfl) (by kernel_rfl) ?_
  repeat (go_big_quiet_step (first | exact calls_bw (CL _) | exact calls_bw' (CF _)))
  refine wpQuiet_nil ?_
  intro w9 hw9
  obtain ⟨y9, rfl⟩ := hw9
  have hb2 := y9.has
  generalize y9.val = w2 at hb2 ⊢
  have hB2 := Q.call hB1 hb2
  have k42 := k4.call hb2
  have k52 := k5.call hb2
  have hc32 : w2.cell? ⟨g3, 0, none⟩ = some sv3 := (hb2.cell (p := ⟨g3, 0, none⟩) hg3').trans hc3
  have ho32 := own_keep ho3 (fun b hb hlt => hb2.block b hlt) hb2.size
  have hs2 := hb2.size
  clear L0 L2 CL CF hr1 hx1 k4 k5 hc3 ho3 hb2
  go_wp2_with fail
  obtain ⟨i0, hi0, hz0, hz1, hz2⟩ := info_parts rec_info
  refine (wpIn_wide (n := 3)).1 ?_
  refine ownH_boxed (by decide) (gf := 46) (lb := #[.pointer (some ⟨g3, 0, none⟩)]) rfl (enters_of Try.func46 (by kernel_rfl) rfl)
    (sall_stops Fence.wide 2 trivial rfl (by decide) g3 _ sv3 l hl w2 (by omega) hc32 ho32) KB.t (KB.b (fun b hb => by have := (hov3 b hb).2; omega)) (Below.refl _ _)
    (fun pre W => (∃ v, Boxed W (w.heap.size + 1) 22 v ∧ W.ownsRow w2.heap.size 35 4 v pre.length (rows (pre.map (·.2))) ∧ True) ∧ Below (w.heap.size + 1) w2 W)
    (fun c pre _ => c = .ret ∧ ∃ (q : List (Nat × RD)) (y : Nat × RD), pre = q ++ [y] ∧ y.1 ≠ q.length)
    (OwnFrom.and (Own.from (holdsRow_own w2.heap.size (w.heap.size + 1) 22 35 4 (fun (pre : List (Nat × RD)) => pre.length) (fun pre => rows (pre.map (·.2))) (fun _ _ => True)) _) (ownFrom_below (by omega) (by omega)))
    (fun c => ownFrom_pure _ (fun pre => c = .ret ∧ ∃ (q : List (Nat × RD)) (y : Nat × RD), pre = q ++ [y] ∧ y.1 ≠ q.length))
    ⟨⟨_, k52, World.ownsRow_nil _ _ _ _, trivial⟩, Below.refl _ _⟩
    (w.heap.size + 1)
    ?assign ?body ?done ?stop
  case assign =>
    rintro lp pre x W K ⟨⟨v, bv, hv, -⟩, hBW⟩ hK
    gi_wp2
    have hJ := hK _ _ ((KeepsOthers.alloc W (.cells #[.int .i64 x.2.addr, .bool x.2.wr, .int .u8 x.2.v, .int .u8 x.2.t] 35)).from _) (fun b hb => Below.heap_alloc W _ b (by have := (hov3 b hb).2; have := hBW.size; omega)) ⟨⟨v, bv.alloc _, hv.alloc _, trivial⟩, hBW.alloc (by have := hBW.size; omega) _⟩ ⟨W.heap.size, by have := hBW.size; omega, Blk.new W _ _, rfl⟩
    simp only [afterAssign, List.setIfInBounds_toArray, List.set_cons_zero, List.set_cons_succ] at hJ
    exact hJ
  case body =>
    rintro lp pre x a' W hlp ⟨rr, hrr⟩ ⟨⟨v, bv, hv, -⟩, hBW⟩ ⟨Bx, hBx, bx, rfl⟩ hlt
    obtain ⟨xi, ad, bb, vv, tt⟩ := x
    simp only at bx
    simp only [afterAssign, List.setIfInBounds_toArray, List.set_cons_zero, List.set_cons_succ]
    have c5 := bv.cell
    have hs5 := hBW.size
    obtain ⟨av, cv, rfl⟩ := own_slice hv
    by_cases hxe : xi = pre.length
    · subst hxe
      have e0 := bx.cell 0
      have e1 := bx.cell 1
      have e2 := bx.cell 2
      have e3 := bx.cell 3
      have bxl := bx.lt
      have hplt : pre.length < l.length := hlt
      gi_wp2_with (gi_at_builtin; refine wpListIn_append_own _ rfl _ _ 22 rfl w2.heap.size 35 i0 _ 4 16 Try.underlying22 hi0 hz0 hz1 hz2 rfl (by decide) _ _ _ rfl (hv.alloc _) ⟨W.heap.size, 0, none⟩ 1 1 [.int .i64 ad, .bool bb, .int .u8 vv, .int .u8 tt] rfl rfl (World.news_of_block (cs := #[.int .i64 ad, .bool bb, .int .u8 vv, .int .u8 tt]) (t := 35) (fr := (0, 0)) (heap_alloc_new _ _)) (by simp [Value.oneCell']) (by unfold maxLen; omega) (by omega) (by simp; omega) ?_; intro v' w1' hown' hgrow _; obtain ⟨g', cap', rfl⟩ := ownsRow_succ hown'; obtain ⟨hv1, hv2, -, hk2, hb2⟩ := bv.appended (by decide) (own_weak hv (B' := w.heap.size + 1) (by omega)) (by omega) (Nat.le_refl _) (own_weak hown' (by omega)) hgrow; have hc1 := hv1.cell; have hf1 := hv1.frozen)
      have ho' := hown'.kept (grownBy_setCell' w1' (w.heap.size + 1) (.slice (some ⟨g', 0, none⟩) (pre.length + 1) cap')) (.inr (hv1.not_row (by decide) hown').symm)
      refine ⟨hk2.from _, fun b hb => ?_, ⟨⟨_, hv2, ?_, trivial⟩, hBW.trans hb2⟩⟩
      · have h3 := hov3 b hb
        rw [Below.heap_setCell _ _ _ b (by simp only; omega), hgrow.block b (by simp; omega) (fun e => by have := (own_lt hv e.symm).2; omega)]
        exact Below.heap_alloc W _ b (by omega)
      · rw [List.length_append, List.map_append, List.map_cons, List.map_nil, rows_snoc]
        exact ho'
    · have hd : ((xi : Int) == (pre.length : Int)) = false := beq_eq_false_iff_ne.2 (by omega)
      have k4w := k42.below hBW (by omega)
      have r0 := k4w.cell 0
      have r1 := k4w.frozen 0
      gi_wp2
      exact ⟨(KeepsOthers.setCell _ _ _).from _, rfl, pre, _, rfl, hxe⟩
  case done =>
    rintro D ys W hD rfl ⟨⟨v, bv, hv, -⟩, hBW⟩ hKD
    rw [uptoR_map, uptoR_length] at hv
    obtain ⟨av, cv, rfl⟩ := own_slice hv
    have hBn : Below w.heap.size w W := hB2.trans (hBW.mono (by omega))
    have k4W := k42.below hBW (by omega)
    have k5W : Blk W (w.heap.size + 1) 22 #[.slice av l.length cv] := bv
    obtain ⟨av2, cv2, ev, -, hrA⟩ := own_reads hv
    cases ev
    have hD' : w.heap.size ≤ D := by omega
    clear bv hv hBW k42 k52 hc32 ho32 hD
    go_wp2_with fail
    (with_reducible refine (rerased_calls _ l _ ((hr.call hBn).prec hl) hl).mono ?_)
    rintro e w3 ⟨sv9, rfl, ho9, hb3⟩
    obtain ⟨a9, c9, rfl⟩ := own_slice ho9
    obtain ⟨a92, c92, e9, -, hrE⟩ := own_reads ho9
    cases e9
    have hB3 := Q.call hBn hb3
    have k43 := k4W.call hb3
    have k53 := k5W.call hb3
    have hrA3 := hrA.call hb3
    have hK3 := heap_call hKD hb3
    clear hBn k4W k5W hrA hKD hb3 ho9
    simp only [List.length_map] at hrE ⊢
    have hx3 := hx.call hB3
    have hrd3 := hrd.call hB3
    go_wp2_with fail
    have L0 : ∀ y : BW w3, y.val.cell? ⟨x, 0, none⟩ = some (.slice a l.length cap) := fun y => (hx3.call y.has).cell 0
    have L5 : ∀ y : BW w3, y.val.cell? ⟨w.heap.size + 1, 0, none⟩ = some (.slice av l.length cv) := fun y => (k53.call y.has).cell 0
    have CR : ∀ y : BW w3, Calls Try.prog 43 #[.slice av l.length cv, .slice a l.length cap] y.val (fun e w' => e = .returned (.bool true) ∧ Below y.val.heap.size y.val w') := fun y =>
      records_eq av a cv cap l y.val hl (hrA3.call y.has) (hrd3.call y.has)
    refine wp_region_below (by kernel_rfl) (by kernel_rfl) ?_
    repeat (go_big_quiet_step (exact calls_bw (CR _)))
    refine wpQuiet_nil ?_
    intro w9 hw9
    obtain ⟨y9, rfl⟩ := hw9
    have hb4 := y9.has
    generalize y9.val = w4 at hb4 ⊢
    have hB4 := Q.call hB3 hb4
    have k44 := k43.call hb4
    have k54 := k53.call hb4
    have hrA4 := hrA3.call hb4
    have hrE4 := hrE.call hb4
    have hK4 := heap_call hK3 hb4
    have hr4 := hr.call hB4
    clear L0 L5 CR hB3 k43 k53 hrA3 hrE hK3 hx3 hrd3 hb4
    go_wp2_with fail
    go_loopw [10] (fun v wr => ∃ j : Int, v = .int .i64 j ∧ -1 ≤ j ∧ j ≤ (l.length : Int) + 1 ∧ Below w4.heap.size w4 wr) (fun v _ => ((l.length : Int) + 1 - intOf v).toNat)
    case atStart => exact ⟨-1, rfl, by omega, by omega, Below.refl _ _⟩
    case round =>
      obtain ⟨j, rfl, hj1, hj2, hbr⟩ := hrel
      have k5r := (k54.call hbr).cell 0
      have hrr := hr4.call hbr
      by_cases hjl : j ≤ (l.length : Int)
      · by_cases hout : j < 0 ∨ (l.length : Int) ≤ j
        · go_wp2_with fail
          (with_reducible refine (rget_out _ g sv l most full j wr hrr hl hout).mono ?_)
          rintro e w5 ⟨rfl, hb5⟩
          have k55 := ((k54.call hbr).call hb5).cell 0
          have k5l := ((k54.call hbr).call hb5).lt
          have hb5' := Q.call hbr hb5
          clear k5r hb5
          rcases hout with ho | ho
          · go_wp2
            refine ⟨⟨j + 1, rfl, by omega, by omega, Q.alloc hb5' _⟩, by simp [intOf]; omega⟩
          · by_cases hj0 : j < 0
            · omega
            · go_wp2
              refine ⟨⟨j + 1, rfl, by omega, by omega, Q.alloc hb5' _⟩, by simp [intOf]; omega⟩
        · obtain ⟨k, rfl⟩ := Int.eq_ofNat_of_zero_le (show 0 ≤ j by omega)
          have hkl : k < l.length := by omega
          have hki : (k : Int) < (l.length : Int) := by omega
          obtain ⟨r, hget⟩ : ∃ r, l[k]? = some r := ⟨_, List.getElem?_eq_getElem hkl⟩
          have CG := rget_in B g sv l most full k r wr hrr hl hget
          clear hout
          go_wp2_with fail
          (with_reducible refine CG.mono ?_)
          rintro e w5 ⟨rfl, hb5⟩
          have hb5' := Q.call hbr hb5
          have k55 := (k54.call hb5').cell 0
          have k5l := (k54.call hb5').lt
          obtain ⟨b1, o1, q1, ea, hbl1, hg1, c0, c1, c2, c3⟩ := (hrA4.call hb5').at_ hkl
          cases ea
          rw [hget] at hg1
          cases hg1
          obtain ⟨b2, o2, q2, ea, hbl2, hg2, d0, d1, d2, d3⟩ := (hrE4.call hb5').at_ (k := k) hkl
          cases ea
          rw [List.getElem?_map, hget] at hg2
          simp only [Option.map_some, Option.some.injEq] at hg2
          subst hg2
          obtain ⟨ad, bb, vv, tt⟩ := r
          simp only [RD.plain] at c0 c1 c2 c3 d0 d1 d2 d3
          clear k5r hb5 CG hget
          go_wp2_with fail
          obtain ⟨W6, hW6⟩ : ∃ W6, W6 = (w5.alloc (.cells #[.int .i64 ad, .bool bb, .int .u8 vv, .int .u8 tt] 35)).alloc (.cells #[.int .i64 ad, .bool bb, .int .u8 vv, .int .u8 0] 35) := ⟨_, rfl⟩
          rw [← hW6]
          have hb6 : Below w5.heap.size w5 W6 := by rw [hW6]; exact Q.alloc (Q.alloc (Below.refl _ _) _) _
          have m1 : Blk W6 w5.heap.size 35 #[.int .i64 ad, .bool bb, .int .u8 vv, .int .u8 tt] := by rw [hW6]; exact (Blk.new w5 _ _).alloc _
          have m3 : Blk W6 (w5.heap.size + 1) 35 #[.int .i64 ad, .bool bb, .int .u8 vv, .int .u8 0] := by rw [hW6]; exact Blk.new' (by simp)
          have hB6 : Below w4.heap.size w4 W6 := Q.call hb5' hb6
          clear hW6
          have N5 : ∀ y : BW W6, y.val.cell? ⟨w.heap.size + 1, 0, none⟩ = some (.slice (some ⟨b1, o1, none⟩) l.length cv) := fun y => ((Q.call hb6 y.has).cell (p := ⟨_, _, none⟩) k5l).trans k55
          have N10 : ∀ y : BW W6, y.val.cell? ⟨w5.heap.size, 0, none⟩ = some (.int .i64 ad) := fun y => (m1.call y.has).cell 0
          have N11 : ∀ y : BW W6, y.val.cell? ⟨w5.heap.size, 1, none⟩ = some (.bool bb) := fun y => (m1.call y.has).cell 1
          have N12 : ∀ y : BW W6, y.val.cell? ⟨w5.heap.size, 2, none⟩ = some (.int .u8 vv) := fun y => (m1.call y.has).cell 2
          have N13 : ∀ y : BW W6, y.val.cell? ⟨w5.heap.size, 3, none⟩ = some (.int .u8 tt) := fun y => (m1.call y.has).cell 3
          have N30 : ∀ y : BW W6, y.val.cell? ⟨w5.heap.size + 1, 0, none⟩ = some (.int .i64 ad) := fun y => (m3.call y.has).cell 0
          have N31 : ∀ y : BW W6, y.val.cell? ⟨w5.heap.size + 1, 1, none⟩ = some (.bool bb) := fun y => (m3.call y.has).cell 1
          have N32 : ∀ y : BW W6, y.val.cell? ⟨w5.heap.size + 1, 2, none⟩ = some (.int .u8 vv) := fun y => (m3.call y.has).cell 2
          have N33 : ∀ y : BW W6, y.val.cell? ⟨w5.heap.size + 1, 3, none⟩ = some (.int .u8 0) := fun y => (m3.call y.has).cell 3
          have P0 : ∀ y : BW W6, y.val.cell? ⟨b1, o1 + k * 4, none⟩ = some (.int .i64 ad) := fun y => ((Q.call hb6 y.has).cell (p := ⟨_, _, none⟩) hbl1).trans c0
          have P1 : ∀ y : BW W6, y.val.cell? ⟨b1, o1 + k * 4 + 1, none⟩ = some (.bool bb) := fun y => ((Q.call hb6 y.has).cell (p := ⟨_, _, none⟩) hbl1).trans c1
          have P2 : ∀ y : BW W6, y.val.cell? ⟨b1, o1 + k * 4 + 2, none⟩ = some (.int .u8 vv) := fun y => ((Q.call hb6 y.has).cell (p := ⟨_, _, none⟩) hbl1).trans c2
          have P3 : ∀ y : BW W6, y.val.cell? ⟨b1, o1 + k * 4 + 3, none⟩ = some (.int .u8 tt) := fun y => ((Q.call hb6 y.has).cell (p := ⟨_, _, none⟩) hbl1).trans c3
          have R0 : ∀ y : BW W6, y.val.cell? ⟨b2, o2 + k * 4, none⟩ = some (.int .i64 ad) := fun y => ((Q.call hb6 y.has).cell (p := ⟨_, _, none⟩) hbl2).trans d0
          have R1 : ∀ y : BW W6, y.val.cell? ⟨b2, o2 + k * 4 + 1, none⟩ = some (.bool bb) := fun y => ((Q.call hb6 y.has).cell (p := ⟨_, _, none⟩) hbl2).trans d1
          have R2 : ∀ y : BW W6, y.val.cell? ⟨b2, o2 + k * 4 + 2, none⟩ = some (.int .u8 vv) := fun y => ((Q.call hb6 y.has).cell (p := ⟨_, _, none⟩) hbl2).trans d2
          have R3 : ∀ y : BW W6, y.val.cell? ⟨b2, o2 + k * 4 + 3, none⟩ = some (.int .u8 0) := fun y => ((Q.call hb6 y.has).cell (p := ⟨_, _, none⟩) hbl2).trans d3
          refine wp_region_below (by kernel_rfl) (by kernel_rfl) ?_
          repeat (go_big_quiet_step (fail))
          refine wpQuiet_nil ?_
          intro w9 hw9
          obtain ⟨y9, rfl⟩ := hw9
          have hb7 := Q.call hB6 y9.has
          generalize y9.val = W7 at hb7 ⊢
          clear N5 N10 N11 N12 N13 N30 N31 N32 N33 P0 P1 P2 P3 R0 R1 R2 R3
          go_wp2
          refine ⟨⟨(k : Int) + 1, rfl, by omega, by omega, hb7⟩, by simp [intOf]; omega⟩
      · obtain rfl : j = (l.length : Int) + 1 := by omega
        have k4r := (k44.call hbr)
        have z0 := k4r.cell 0
        have z1 := k4r.frozen 0
        have hKr := heap_call hK4 hbr
        have hBr := Q.call hB4 hbr
        go_wp2_with fail
        have hK' := (KeepsOthers.setCell wr ⟨w.heap.size, 0, none⟩ (.bool true)).same D _ hKr rfl
        refine ⟨by simp, .inl ⟨_, _, rfl, run_takeDeferred hK', ?_⟩⟩
        have hc5 := cell_kept (World.cell?_setCell_same' wr ⟨w.heap.size, 0, none⟩ (.bool true) (by rw [z0]; rfl)) (grownBy_putObj' _ D (.deferred none)) (fun r e => by cases e; exact ⟨_, hK', rfl⟩)
        refine ⟨.bool true, ?_, rfl, (hBr.setCell (p := ⟨w.heap.size, 0, none⟩) (Nat.le_refl _) _).trans (belowK_b (w := w) (Nat.le_refl _) _ D _ _ hD' hK' rfl rfl)⟩
        simp [results, Try.f30, go_sem, hc5]
  case stop =>
    rintro D c pre W _ ⟨k, hk, rfl⟩ ⟨rfl, q, y, hq, hy⟩ _
    exfalso
    cases k with
    | zero => simp [uptoR] at hq
    | succ k =>
      rw [uptoR_succ] at hq
      obtain ⟨h1, h2⟩ := List.append_inj' hq rfl
      cases h2
      rw [← h1, uptoR_length] at hy
      exact hy rfl
end Go.Proofs.Ytijlmdpcbclmaaa
