/- The walk of RecorderNil. -/
import Derived.Test.YtijlmdpcbclmaaaRec9
import Derived.Test.YtijlmdpcbclmaaaRec5
namespace Go.Proofs.Ytijlmdpcbclmaaa
set_option linter.unusedVariables false
set_option linter.unusedSimpArgs false
open Go.RowKit Go.Shelf
attribute [local go_sem] Oper.semAt_some

theorem eql_func_nil (f : FuncId) (cs : Array Value) (w : World) : (binOp .eql 62 (.func (.func f) #[] cs) .nilFunc).run Try.prog w = .ok (.bool false) w := by
  have h : ∀ d : Nat, (Op.equalIn (d + 1) 62 (.func (.func f) #[] cs) .nilFunc).run Try.prog w = .ok false w := fun d => by
    simp [Op.equalIn, run_underlying Try.underlying62, go_sem]
  simp only [binOp]
  simp [Op.equal, Op.maxDepth, h 9999]
attribute [local go_sem] eql_func_nil
theorem heap_call {W w' : World} {D : Nat} {o : Obj} (h : W.heap[D]? = some o) (hb : Below W.heap.size W w') : w'.heap[D]? = some o := (hb.block D (Array.getElem?_eq_some_iff.1 h).1).trans h
theorem heap_chg {S : Nat → Prop} {W w' : World} {D : Nat} {o : Obj} (h : W.heap[D]? = some o) (hc : Chg S W w') (hD : ¬ S D) : w'.heap[D]? = some o := (hc.block D (Array.getElem?_eq_some_iff.1 h).1 hD).trans h
theorem Chg.refl (S : Nat → Prop) (w : World) : Chg S w w := ⟨rfl, rfl, rfl, Nat.le_refl _, fun _ _ _ => rfl⟩
theorem Chg.trans {S : Nat → Prop} {w w1 w2 : World} (h : Chg S w w1) (k : Chg S w1 w2) : Chg S w w2 :=
  ⟨k.os.trans h.os, k.tape.trans h.tape, k.output.trans h.output, Nat.le_trans h.size k.size, fun b hb hs => (k.block b (Nat.lt_of_lt_of_le hb h.size) hs).trans (h.block b hb hs)⟩
theorem Chg.setCell {S : Nat → Prop} (w : World) (g i : Nat) (u : Value) (hg : S g) : Chg S w (w.setCell ⟨g, i, none⟩ u) :=
  ⟨rfl, rfl, rfl, by simp, fun k _ hs => Below.heap_setCell _ _ _ k (fun h => hs (h ▸ hg))⟩
theorem Chg.of {S : Nat → Prop} {w w' : World} (h : Below w.heap.size w w') : Chg S w w' := ⟨h.os, h.tape, h.output, h.size, fun b hb _ => h.block b hb⟩
theorem ownFrom_chg {β : Type} {S : Nat → Prop} {w : World} : OwnFrom w.heap.size (fun (_ : β) W => Chg S w W) :=
  fun _ _ _ _ hs hg hr => ⟨hg.os.trans hs.os, hg.tape.trans hs.tape, hg.output.trans hs.output, Nat.le_trans hs.size hg.size, fun b hb hS => (hg.block b (Nat.lt_of_lt_of_le hb hs.size) (fun e => by have := (hr b e.symm).1; omega)).trans (hs.block b hb hS)⟩

set_option maxHeartbeats 400000 in
theorem rclone_nil (w : World) :
    Calls Try.prog 27 #[.pointer none] w fun e w' => e = .returned (.pointer none) ∧ w' = w := by
  go_enter Try.func27, Try.ntmps27
  go_wp2
  go_returns
  exact ⟨rfl, rfl⟩

set_option maxRecDepth 100000 in
set_option maxHeartbeats 3200000 in
theorem recorderNil_walk (x : RD) (i : Int) (w : World) :
    Calls Try.prog 9 #[.agg x.cells, .int .i64 i] w fun e w' => e = .returned (.bool true) ∧ Below w.heap.size w w' := by
  obtain ⟨xa, xb, xv, xt⟩ := x
  simp only [RD.cells]
  have CA := fun w => radd_nil ⟨xa, xb, xv, xt⟩ w
  simp only [RD.cells] at CA
  refine (callsIn_wide (n := 3)).1 ?_
  refine callsIn_of_wp_marks Try.func9 rfl trivial ?_
  simp only [Try.ntmps9, List.size_toArray, List.length_cons, List.length_nil, Nat.reduceAdd, Nat.reduceSub, Array.replicate_succ, Array.replicate_zero, List.push_toArray, List.append_toArray, List.nil_append, List.cons_append]
  refine wpIn_wide.2 ?_
  go_wp2_with fail
  (with_reducible refine (rget_nil _ _).mono ?_)
  rintro e w1 ⟨rfl, hb1⟩
  have kx := ((Blk.new w 35 #[.int .i64 xa, .bool xb, .int .u8 xv, .int .u8 xt]).alloc (.cells #[.bool false] 4)).call hb1
  have kR := (Blk.new' (w := w.alloc (.cells #[.int .i64 xa, .bool xb, .int .u8 xv, .int .u8 xt] 35)) (t := 4) (cs := #[.bool false]) (g := w.heap.size + 1) (by simp)).call hb1
  have hB := Q.call (Q.alloc (Q.alloc (Below.refl _ w) _) _) hb1
  clear hb1
  go_wp2_with fail
  have CN : ∀ V, Calls Try.prog 32 #[.pointer none] V _ := fun V => rall_calls (.pointer none) [] V (.inl ⟨rfl, rfl⟩) (by simp)
  (with_reducible refine (CN _).mono ?_)
  rintro e w2 ⟨g1, sv1, rfl, hc1, hg1, hg1', -, ho1, hb2⟩
  have kx2 := (kx.alloc _).call hb2
  have kR2 := (kR.alloc _).call hb2
  have hB2 := Q.call (Q.alloc hB _) hb2
  clear kx kR hB hb2 CN
  go_wp2_with fail
  refine (wpIn_wide (n := 3)).1 ?_
  refine wpIn_rangeFunc_ownF rfl (by decide) (gf := 46) (lb := #[.pointer (some ⟨g1, 0, none⟩)]) rfl trivial (enters_of Try.func46 (by kernel_rfl) rfl)
    (sall_stops Fence.wide 2 trivial rfl (by decide) g1 _ sv1 [] (by simp) w2 hg1' hc1 ho1) KB.t (KB.b (fun b hb => (own_lt ho1 hb).1)) (Below.refl _ _) (fun _ => rfl)
    (fun _ W => Below w2.heap.size w2 W) (fun _ _ _ => False) (ownFrom_below (Nat.le_refl _) (Nat.le_refl _)) (fun _ _ _ _ _ hs _ _ => hs) (Below.refl _ _) ?a1 ?assign ?body ?done ?stop
  case assign =>
    intro l x W K hK
    gi_wp2
    exact hK
  case body =>
    intro l pre x W _ hl
    exact absurd hl (Nat.not_lt_zero _)
  case stop =>
    rintro D c pre W _ _ h _
    exact h.elim
  case done =>
    rintro D1 ys W hD1 _ hb3 hK1
    have kx3 := kx2.call hb3
    have kR3 := kR2.call hb3
    have hB3 := Q.call hB2 hb3
    have hD1' : w.heap.size ≤ D1 := Nat.le_trans hB2.size hD1
    clear kx2 kR2 hB2 hb3 ho1 hc1
    go_wp2_with fail
    have b4 := Blk.new W 35 #[.int .i64 7, .bool false, .int .u8 1, .int .u8 2]
    have hrd : Reads (W.alloc (.cells #[.int .i64 7, .bool false, .int .u8 1, .int .u8 2] 35)) (W.alloc (.cells #[.int .i64 7, .bool false, .int .u8 1, .int .u8 2] 35)).heap.size (some ⟨W.heap.size, 0, none⟩) 1 [⟨7, false, 1, 2⟩] :=
      ⟨rfl, fun _ => ⟨W.heap.size, 0, rfl, by simp, fun k r hk => by
        rcases k with _ | k
        · cases hk
          exact ⟨b4.cell 0, b4.cell 1, b4.cell 2, b4.cell 3⟩
        · simp at hk⟩⟩
    (with_reducible refine (made_calls _ 1 1 _ (by omega) _ hrd).mono ?_)
    rintro e w5 ⟨gr, svr, rfl, hrec, hb5⟩
    rw [show fitl [⟨7, false, 1, 2⟩] = [⟨7, false, 1, 2⟩] from rfl] at hrec
    have kx5 := (kx3.alloc _).call hb5
    have kR5 := (kR3.alloc _).call hb5
    have hB5 := Q.call (Q.alloc hB3 _) hb5
    have hK5 : w5.heap[D1]? = some (.deferred (some [])) := heap_call ((Below.heap_alloc W _ _ (Array.getElem?_eq_some_iff.1 hK1).1).trans hK1) hb5
    have hs5 : W.heap.size < w5.heap.size := by have := hb5.size; simp at this; omega
    have hDl : D1 < W.heap.size := (Array.getElem?_eq_some_iff.1 hK1).1
    have hrl : ∀ b, RecF gr svr b → W.heap.size < b + 0 ∧ b < w5.heap.size := fun b hb => ⟨by have := (hrec.lt hb).2; simp at this; omega, (hrec.lt hb).1⟩
    have hxW := kx3.lt
    have hRW := kR3.lt
    clear kx3 kR3 hB3 hb5 hK1 hrd b4
    go_wp2_with fail
    (with_reducible refine (rerased_calls _ [⟨7, false, 1, 2⟩] _ (hrec.prec (by simp)) (by simp)).mono ?_)
    rintro e w6 ⟨sv2, rfl, ho2, hb6⟩
    have hrec6 := hrec.call hb6
    have kx6 := kx5.call hb6
    have kR6 := kR5.call hb6
    have hB6 := Q.call hB5 hb6
    have hK6 := heap_call hK5 hb6
    have hs6 := hb6.size
    have hxl := kx5.lt
    have hRl := kR5.lt
    have hov : ∀ b, sv2.ownBlock = some b → w5.heap.size ≤ b := fun b hb => (own_lt ho2 hb).2
    obtain ⟨a2, c2, rfl⟩ := own_slice ho2
    rw [show List.map RD.plain [⟨7, false, 1, 2⟩] = [⟨7, false, 1, 0⟩] from rfl] at ho2
    clear hrec kx5 kR5 hB5 hK5 hb6
    simp only [List.map_cons, List.map_nil, List.length_cons, List.length_nil, Nat.zero_add] at ho2 hov ⊢
    obtain ⟨g2, rfl⟩ : ∃ g2, a2 = some ⟨g2, 0, none⟩ := by
      rcases ho2.2 with ⟨_, h0⟩ | ⟨g, cap, cur, he, _⟩
      · exact absurd h0 (by decide)
      · injection he with he1 he2 he3
        exact ⟨g, he1⟩
    have hg2 : w5.heap.size ≤ g2 := hov g2 rfl
    have hg2l : g2 < w6.heap.size := (own_lt ho2 (b := g2) rfl).1
    clear hov
    go_wp2_with fail
    go_loopw [11] (fun v wr => ∃ (k : Nat) (mm : List RD), v = .int .i64 (k : Int) ∧ k ≤ 1 ∧ mm.length = 1 ∧ wr.ownsRow w5.heap.size 35 4 (.slice (some ⟨g2, 0, none⟩) 1 c2) 1 (rows mm) ∧ Chg (· = g2) w6 wr)
      (fun v _ => 1 - (intOf v).toNat)
    case atStart => exact ⟨0, _, rfl, by omega, rfl, ho2, Chg.refl _ _⟩
    case round =>
      obtain ⟨k, mm, rfl, hk, hmm, hown, hch⟩ := hrel
      by_cases hlt : k < 1
      · obtain rfl : k = 0 := by omega
        obtain ⟨r, hr⟩ : ∃ r, mm[0]? = some r := ⟨_, List.getElem?_eq_getElem (by omega)⟩
        have c0 : wr.cell? ⟨g2, 0, none⟩ = some (.int .i64 r.addr) := (hown.cellAt 0 (by omega)).trans (rows_get mm 0 r hr 0 (by omega))
        have f0 := hown.frozenAt 0
        have hgl := (own_lt hown (b := g2) rfl).1
        have HR := Lib.hid hr
        have HM := Lib.hid hmm
        clear hr hmm
        go_wp2
        have s1 := hown.stored 0 (.int .i64 9)
        have r1 := rows_set mm 0 0 (by omega) r ⟨9, r.wr, r.v, r.t⟩ HR.out (.int .i64 9) rfl
        rw [r1] at s1
        exact ⟨⟨1, _, rfl, by omega, by rw [List.length_set]; exact HM.out, s1.1, hch.trans (Chg.setCell _ _ _ _ rfl)⟩, by simp [intOf]⟩
      · obtain rfl : k = 1 := by omega
        have hrec7 : IsRec wr (W.heap.size + 1) gr svr [⟨7, false, 1, 2⟩] 4096 false := by
          have := hrec6.chg hch (fun b hb e => by have := (hrl b hb).2; omega)
          simpa using this
        have kx7 := kx6.chg hch (by omega)
        have kR7 := kR6.chg hch (by omega)
        have hB7 : Below w.heap.size w wr := hch.below hB6 hB6.size (fun b hb => by have := hB6.size; omega)
        have hK7 := heap_chg hK6 hch (by omega)
        have hs7 := hch.size
        clear hrec6 kx6 kR6 hB6 hK6 hch hown hmm
        go_wp2_with fail
        (with_reducible refine (rall_calls _ [⟨7, false, 1, 2⟩] _ (hrec7.prec (by simp)) (by simp)).mono ?_)
        rintro e w8 ⟨g3, sv3, rfl, hc3, hg3, hg3', hne3, ho3, hb8⟩
        have hrec8 := hrec7.call hb8
        have kx8 := kx7.call hb8
        have kR8 := kR7.call hb8
        have hB8 := Q.call hB7 hb8
        have hK8 := heap_call hK7 hb8
        have hs8 := hb8.size
        have hov3 : ∀ b, sv3.ownBlock = some b → wr.heap.size ≤ b ∧ b < w8.heap.size := fun b hb => ⟨(own_lt ho3 hb).2, (own_lt ho3 hb).1⟩
        clear hrec7 kx7 kR7 hB7 hK7 hb8
        go_wp2_with fail
        have hBW : W.heap.size + 1 ≤ w8.heap.size := by omega
        have CAdd := radd_ok (W.heap.size + 1) gr svr [⟨7, false, 1, 2⟩] 4096 false ⟨8, false, 0, 0⟩ (by simp) (by simp) w8 hrec8 hBW (by simp) (by simp)
        simp only [RD.cells] at CAdd
        (with_reducible refine CAdd.mono ?_)
        rintro e w9 ⟨rfl, svr', hrec9, hch9, -⟩
        have hnR : ∀ b, b ≤ W.heap.size ∨ w5.heap.size ≤ b → ¬ RecF gr svr b := fun b hb e => by have := hrl b e; omega
        have kx9 := kx8.chg hch9 (hnR _ (by omega))
        have kR9 := kR8.chg hch9 (hnR _ (by omega))
        have hB9 : Below w.heap.size w w9 := hch9.below hB8 hB8.size (fun b hb => by have := hrl b hb; omega)
        have hK9 := heap_chg hK8 hch9 (hnR _ (by omega))
        have hc9 : w9.cell? ⟨g3, 0, none⟩ = some sv3 := by
          rw [← hc3]
          simp only [World.cell?, hch9.block g3 hg3' (hnR _ (by omega))]
        have ho9 := own_keep ho3 (fun b hb hlt => hch9.block b hlt (hnR _ (by have := hov3 b hb; omega))) hch9.size
        have hs9 := hch9.size
        clear hrec8 kx8 kR8 hB8 hK8 hc3 ho3 CAdd
        go_wp2_with fail
        have k13 := Blk.new w9 3 #[.int .i64 0]
        have hc10 : (w9.alloc (.cells #[.int .i64 0] 3)).cell? ⟨g3, 0, none⟩ = some sv3 := ((Q.alloc (Below.refl _ _) _).cell (p := ⟨g3, 0, none⟩) (by simp only; omega)).trans hc9
        have ho10 := own_keep ho9 (fun b hb hlt => Below.heap_alloc w9 (.cells #[.int .i64 0] 3) b hlt) (by simp)
        have kx10 := kx9.alloc (.cells #[.int .i64 0] 3)
        have kR10 := kR9.alloc (.cells #[.int .i64 0] 3)
        have hB10 := Q.alloc hB9 (.cells #[.int .i64 0] 3)
        have hK10 : (w9.alloc (.cells #[.int .i64 0] 3)).heap[D1]? = some (.deferred (some [])) := (Below.heap_alloc w9 _ _ (by omega)).trans hK9
        have hrec10 := hrec9.alloc (.cells #[.int .i64 0] 3)
        have hrl10 : ∀ b, RecF gr svr' b → b < w9.heap.size := fun b hb => (hrec9.lt hb).1
        have hs10 : (w9.alloc (.cells #[.int .i64 0] 3)).heap.size = w9.heap.size + 1 := by simp
        clear hrec9 kx9 kR9 hB9 hK9 hc9 ho9
        generalize w9.alloc (.cells #[.int .i64 0] 3) = w10 at k13 hc10 ho10 kx10 kR10 hB10 hK10 hrec10 hs10 ⊢
        refine (wpIn_wide (n := 3)).1 ?_
        refine wpIn_rangeFunc_ownF rfl (by decide) (gf := 46) (lb := #[.pointer (some ⟨g3, 0, none⟩)]) rfl trivial (enters_of Try.func46 (by kernel_rfl) rfl)
          (sall_stops Fence.wide 2 trivial rfl (by decide) g3 _ sv3 [⟨7, false, 1, 2⟩] (by simp) w10 (by omega) hc10 ho10) KB.t (KB.b (fun b hb => by have := (hov3 b hb).2; omega)) (Below.refl _ _) (fun _ => rfl)
          (fun pre W => (W.cell? ⟨w9.heap.size, 0, none⟩ = some (.int .i64 (pre.length : Int)) ∧ W.frozen? ⟨w9.heap.size, 0, none⟩ = false) ∧ Chg (· = w9.heap.size) w10 W) (fun _ _ _ => False)
          (OwnFrom.and (Own.from (fun s A B row hs hg hr => ⟨cell_kept hs.1 hg hr, (frozen_kept hs.1 hg hr).trans hs.2⟩) _) ownFrom_chg) (fun _ _ _ _ _ hs _ _ => hs)
          ⟨⟨k13.cell 0, k13.frozen 0⟩, Chg.refl _ _⟩ ?a2 ?assign2 ?body2 ?done2 ?stop2
        case assign2 =>
          intro l x W K hK
          gi_wp2
          exact hK
        case body2 =>
          rintro l pre x W2 ⟨⟨hc, hf⟩, hch⟩ hl
          have hpl0 : pre.length < 1 := hl
          have hpl : (pre.length : Int) < 1 := by omega
          clear hl
          gi_wp2
          refine ⟨KeepsOthers.setCell _ _ _, fun b hb => Below.heap_setCell _ _ _ b (by have := (hov3 b hb).2; simp only; omega), ⟨?_, ?_⟩, hch.trans (Chg.setCell _ _ _ _ rfl)⟩
          · rw [List.length_append]
            exact World.cell?_setCell_same' _ _ _ (by rw [hc]; rfl)
          · rw [World.frozen?_setCell]
            exact hf
        case stop2 =>
          rintro D c pre W _ _ h _
          exact h.elim
        case done2 =>
          rintro D2 ys w11 hD2 hys ⟨⟨hc11, hf11⟩, hch11⟩ hK11
          subst hys
          rw [uptoR_length] at hc11
          have hc11' : w11.cell? ⟨w9.heap.size, 0, none⟩ = some (.int .i64 1) := hc11
          have kx11 := kx10.chg hch11 (by omega)
          have kR11 := kR10.chg hch11 (by omega)
          have hB11 : Below w.heap.size w w11 := hch11.below hB10 hB10.size (fun b hb => by omega)
          have hKa := heap_chg hK10 hch11 (by omega)
          have hrec11 := hrec10.chg hch11 (fun b hb e => by have := hrl10 b hb; omega)
          have hD2' : w.heap.size ≤ D2 := Nat.le_trans hB10.size hD2
          have hne : D1 ≠ D2 := by omega
          have h13l : w9.heap.size < w11.heap.size := by have := hch11.size; omega
          clear hc11 hf11 kx10 kR10 hB10 hK10 hrec10 hch11 hc10 ho10 k13 hov3 hrl hrl10
          go_wp2_with fail
          have CG : Calls Try.prog 31 #[.pointer (some ⟨gr, 0, none⟩), .int .i64 0] w11 (fun e w' => e = .returned (.tuple #[.agg #[.int .i64 7, .bool false, .int .u8 1, .int .u8 2], .int .i64 0]) ∧ Below w11.heap.size w11 w') :=
            rget_in _ gr svr' _ 4096 false 0 ⟨7, false, 1, 2⟩ w11 hrec11 (by simp) rfl
          (with_reducible refine CG.mono ?_)
          rintro e w12 ⟨rfl, hb12⟩
          have y13 : w12.cell? ⟨w9.heap.size, 0, none⟩ = some (.int .i64 1) := (hb12.cell (p := ⟨w9.heap.size, 0, none⟩) h13l).trans hc11'
          have hs12 := hb12.size
          have kx12 := kx11.call hb12
          have kR12 := kR11.call hb12
          have hB12 := Q.call hB11 hb12
          have hKa12 := heap_call hKa hb12
          have hKb12 := heap_call hK11 hb12
          have x0 := kx12.cell 0
          have x1 := kx12.cell 1
          have x2 := kx12.cell 2
          have x3 := kx12.cell 3
          have xl := kx12.lt
          have l13 : w9.heap.size < w12.heap.size := by omega
          clear kx11 kR11 hB11 hKa hK11 hb12 hc11' hrec11 CG
          go_wp2_with fail
          (with_reducible refine (CA _).mono ?_)
          rintro e w13 ⟨rfl, hb13⟩
          have kR13 := (kR12.alloc _).call hb13
          have hB13 := Q.call (Q.alloc hB12 _) hb13
          have hKa13 := heap_call (heap_call hKa12 (Q.alloc (Below.refl _ _) _)) hb13
          have hKb13 := heap_call (heap_call hKb12 (Q.alloc (Below.refl _ _) _)) hb13
          clear kx12 kR12 hB12 hKa12 hKb12 hb13 x0 x1 x2 x3 y13 CA
          go_wp2_with fail
          have CL : Calls Try.prog 34 #[.pointer none] w13 (fun e w' => e = .returned (.int .i64 0) ∧ ∃ n, w' = w13.drewN n) := len_any (.pointer none) [] w13 (.inl ⟨rfl, rfl⟩)
          (with_reducible refine CL.mono ?_)
          rintro e w14 ⟨rfl, n14, hw14⟩
          have hb14 : Below w13.heap.size w13 w14 := by rw [hw14]; exact Q.drewN (Below.refl _ _) _
          clear hw14 CL
          have kR14 := kR13.call hb14
          have hB14 := Q.call hB13 hb14
          have hKa14 := heap_call hKa13 hb14
          have hKb14 := heap_call hKb13 hb14
          clear kR13 hB13 hKa13 hKb13 hb14
          go_wp2_with (go_at_call 35; (with_reducible refine (full_nil _).mono ?_); rintro e w5 ⟨rfl, hw5⟩; obtain rfl := hw5)
          have CE : Calls Try.prog 33 #[.pointer none] w14 _ := rerased_calls (.pointer none) [] w14 (.inl ⟨rfl, rfl⟩) (by simp)
          (with_reducible refine CE.mono ?_)
          rintro e w15 ⟨sv15, rfl, ho15, hb15⟩
          obtain ⟨a15, c15, rfl⟩ := own_slice ho15
          have kR15 := kR14.call hb15
          have hB15 := Q.call hB14 hb15
          have hKa15 := heap_call hKa14 hb15
          have hKb15 := heap_call hKb14 hb15
          clear kR14 hB14 hKa14 hKb14 hb15 ho15 CE
          simp only [List.map_nil, List.length_nil]
          go_wp2_with (go_at_call 27; (with_reducible refine (rclone_nil _).mono ?_); rintro e w5 ⟨rfl, hw5⟩; obtain rfl := hw5.symm)
          (with_reducible refine (awake17_calls _).mono ?_)
          rintro e w16 ⟨rfl, hb16⟩
          have kR16 := kR15.call hb16
          have hB16 := Q.call hB15 hb16
          have hKa16 := heap_call hKa15 hb16
          have hKb16 := heap_call hKb15 hb16
          have z0 := kR16.cell 0
          have z1 := kR16.frozen 0
          go_wp2_with fail
          have hK1' := (KeepsOthers.setCell w16 ⟨w.heap.size + 1, 0, none⟩ (.bool true)).same D1 _ hKa16 rfl
          have hK2' := (KeepsOthers.setCell w16 ⟨w.heap.size + 1, 0, none⟩ (.bool true)).same D2 _ hKb16 rfl
          have hK1'' : ((w16.setCell ⟨w.heap.size + 1, 0, none⟩ (.bool true)).putObj D2 (.deferred none)).heap[D1]? = some (.deferred (some [])) := (World.putObj_heap_other hne).trans hK1'
          have hc5 := cell_kept (cell_kept (World.cell?_setCell_same' w16 ⟨w.heap.size + 1, 0, none⟩ (.bool true) (by rw [z0]; rfl)) (grownBy_putObj' _ D2 (.deferred none)) (fun r e => by cases e; exact ⟨_, hK2', rfl⟩)) (grownBy_putObj' _ D1 (.deferred none)) (fun r e => by cases e; exact ⟨_, hK1'', rfl⟩)
          have hBe := ((hB16.setCell (p := ⟨w.heap.size + 1, 0, none⟩) (by simp) (.bool true)).trans (belowK_b (w := w) (Nat.le_refl _) _ D2 _ (.deferred none) hD2' hK2' rfl rfl)).trans (belowK_b (w := w) (Nat.le_refl _) _ D1 _ (.deferred none) hD1' hK1'' rfl rfl)
          refine ⟨by simp, .inl ⟨_, _, rfl, run_takeDeferred hK2', ?_⟩⟩
          refine ⟨by simp, .inl ⟨_, _, rfl, run_takeDeferred hK1'', ?_⟩⟩
          refine ⟨.bool true, ?_, rfl, hBe⟩
          simp [results, Try.f9, go_sem, hc5]
end Go.Proofs.Ytijlmdpcbclmaaa
