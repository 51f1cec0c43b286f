/- The walk of RecorderKeeps. -/
import Derived.Test.YtijlmdpcbclmaaaRec15
namespace Go.Proofs.Ytijlmdpcbclmaaa
set_option linter.unusedVariables false
set_option linter.unusedSimpArgs false
open Go.RowKit

set_option maxRecDepth 100000 in
set_option maxHeartbeats 1600000 in
theorem recorderKeeps_long (most at_ : Int) (a : Option Addr) (n ca : Nat) (w : World) (h : 60 < n) :
    Calls Try.prog 8 #[.int .i64 most, .slice a n ca, .int .i64 at_] w fun e w' => e = .returned (.bool true) ∧ Below w.heap.size w w' := by
  have h' : (60 : Int) < n := by omega
  by_cases hm : 1 ≤ most ∧ most ≤ 4096
  · go_enter Try.func8, Try.ntmps8
    go_wp2_with (go_at_call 26; (with_reducible refine (rnew_calls most hm.1 hm.2 _).mono ?_); rintro e w' ⟨rfl, rfl⟩)
    (with_reducible refine (awake17_calls _).mono ?_)
    rintro e w1 ⟨rfl, hb1⟩
    go_wp2_with fail
    go_returns
    exact ⟨rfl, Q.call (Q.alloc (Below.refl _ _) _) hb1⟩
  · go_enter Try.func8, Try.ntmps8
    go_wp2_with (go_at_call 26; (with_reducible refine (rnew_bad most (by omega) _).mono ?_); rintro e w' ⟨rfl, hw⟩; obtain rfl := hw)
    (with_reducible refine (awake17_calls _).mono ?_)
    rintro e w1 ⟨rfl, hb1⟩
    go_wp2_with fail
    go_returns
    exact ⟨rfl, hb1⟩
set_option maxRecDepth 100000 in
set_option maxHeartbeats 1600000 in
theorem recorderKeeps_bad (most at_ : Int) (a : Option Addr) (n ca : Nat) (w : World) (h : n ≤ 60) (hm : most < 1 ∨ (1 ≤ most ∧ 4096 < most)) :
    Calls Try.prog 8 #[.int .i64 most, .slice a n ca, .int .i64 at_] w fun e w' => e = .returned (.bool true) ∧ Below w.heap.size w w' := by
  have h' : (n : Int) ≤ 60 := by omega
  have CN := rnew_bad most (by omega) w
  rcases hm with hm | ⟨hm1, hm⟩
  all_goals
    go_enter Try.func8, Try.ntmps8
    go_wp2_with (go_at_call 26; (with_reducible refine CN.mono ?_); rintro e w' ⟨rfl, hw⟩; obtain rfl := hw)
    (with_reducible refine (awake17_calls _).mono ?_)
    rintro e w1 ⟨rfl, hb1⟩
    go_wp2_with fail
    go_returns
    exact ⟨rfl, hb1⟩

theorem Chg.mono {S T : Nat → Prop} {w w' : World} (h : Chg S w w') (hs : ∀ b, S b → T b) : Chg T w w' := ⟨h.os, h.tape, h.output, h.size, fun b hb hT => h.block b hb (fun hS => hT (hs b hS))⟩
theorem IsRec.weak {w : World} {B B' g : Nat} {sv : Value} {l : List RD} {most : Int} {full : Bool} (h : IsRec w B g sv l most full) (hB : B' ≤ B) : IsRec w B' g sv l most full :=
  ⟨h.blk, own_weak h.own hB, Nat.le_trans hB h.ge, h.ne⟩
theorem KC.box {w : World} {B g x y : Nat} {svr svx c : Value} {lk : List RD} {most : Int} (h : KC w B g x y svr svx lk most c) : ∃ c0 c1 c2, Blk w y 54 #[c0, c1, c2] := by
  rcases h with ⟨h1, h2⟩ | ⟨gc, svc, lc, fc, a, cap, h1, h2, h3, h4, h4', h5, h6⟩
  · exact ⟨_, _, _, h2⟩
  · exact ⟨_, _, _, h3⟩

set_option maxRecDepth 100000 in
set_option maxHeartbeats 3200000 in
theorem recorderKeeps_ok (most at_ : Int) (a : Option Addr) (n ca : Nat) (l : List RD) (w : World) (h : n ≤ 60) (hm0 : 1 ≤ most) (hm1 : most ≤ 4096) (hra : Reads w w.heap.size a n l) :
    Calls Try.prog 8 #[.int .i64 most, .slice a n ca, .int .i64 at_] w fun e w' => e = .returned (.bool true) ∧ Below w.heap.size w w' := by
  have h' : (n : Int) ≤ 60 := by omega
  have HRA := Lib.hid hra
  clear hra
  go_enter Try.func8, Try.ntmps8
  go_wp2_with (go_at_call 26; (with_reducible refine (rnew_calls most hm0 hm1 _).mono ?_); rintro e w' ⟨rfl, rfl⟩)
  have b0 := Blk.new w 79 #[.slice none 0 0, .int .i64 most, .bool false]
  have hr0 : IsRec (((w.alloc (.cells #[.slice none 0 0, .int .i64 most, .bool false] 79)).alloc (.cells #[.slice none 0 0, .int .i64 most, .bool false] 54)).alloc (.cells #[.slice none 0 0, .int .i64 0, .bool false] 54)) w.heap.size w.heap.size (.slice none 0 0) [] most false :=
    ⟨(b0.alloc _).alloc _, World.ownsRow_nil _ _ _ _, Nat.le_refl _, by simp [Value.ownBlock]⟩
  have hx0 : IsRR (((w.alloc (.cells #[.slice none 0 0, .int .i64 most, .bool false] 79)).alloc (.cells #[.slice none 0 0, .int .i64 most, .bool false] 54)).alloc (.cells #[.slice none 0 0, .int .i64 0, .bool false] 54)) w.heap.size (w.heap.size + 1) (.slice none 0 0) [] most false :=
    ⟨(Blk.new' (by simp)).alloc _, World.ownsRow_nil _ _ _ _, by omega, by simp [Value.ownBlock]⟩
  have hy0 : Blk (((w.alloc (.cells #[.slice none 0 0, .int .i64 most, .bool false] 79)).alloc (.cells #[.slice none 0 0, .int .i64 most, .bool false] 54)).alloc (.cells #[.slice none 0 0, .int .i64 0, .bool false] 54)) (w.heap.size + 1 + 1) 54 #[.slice none 0 0, .int .i64 0, .bool false] :=
    Blk.new' (by simp)
  have hb0 : Below w.heap.size w (((w.alloc (.cells #[.slice none 0 0, .int .i64 most, .bool false] 79)).alloc (.cells #[.slice none 0 0, .int .i64 most, .bool false] 54)).alloc (.cells #[.slice none 0 0, .int .i64 0, .bool false] 54)) := Q.alloc (Q.alloc (Q.alloc (Below.refl _ _) _) _) _
  generalize ((w.alloc (.cells #[.slice none 0 0, .int .i64 most, .bool false] 79)).alloc (.cells #[.slice none 0 0, .int .i64 most, .bool false] 54)).alloc (.cells #[.slice none 0 0, .int .i64 0, .bool false] 54) = W0 at hr0 hx0 hy0 hb0 ⊢
  clear b0
  go_loopw [12, 11] (fun v c wr => ∃ (k : Nat) (lk : List RD) (full : Bool) (svr svx : Value), v = .int .i64 (k : Int) ∧ k ≤ n ∧ lk.length ≤ k ∧ (lk.length : Int) ≤ most ∧ IsRec wr w.heap.size w.heap.size svr lk most full ∧ IsRR wr w.heap.size (w.heap.size + 1) svx lk most full ∧
      (∀ b, RecF w.heap.size svr b → ¬ RRF (w.heap.size + 1) svx b) ∧ ¬ RecF w.heap.size svr (w.heap.size + 1 + 1) ∧ ¬ RRF (w.heap.size + 1) svx (w.heap.size + 1 + 1) ∧ KC wr w.heap.size w.heap.size (w.heap.size + 1) (w.heap.size + 1 + 1) svr svx lk most c ∧ Below w.heap.size w wr)
    (fun v _ _ => n - (intOf v).toNat)
  case atStart =>
    refine ⟨0, [], false, _, _, rfl, Nat.zero_le _, Nat.le_refl _, by simp; omega, hr0, hx0, ?_, ?_, ?_, .inl ⟨rfl, hy0⟩, hb0⟩
    · rintro b (rfl | h) (h2 | h2)
      · omega
      · simp [Value.ownBlock] at h2
      · simp [Value.ownBlock] at h
      · simp [Value.ownBlock] at h
    · rintro (h | h)
      · omega
      · simp [Value.ownBlock] at h
    · rintro (h | h)
      · omega
      · simp [Value.ownBlock] at h
  case round =>
    clear hr0 hx0 hy0 hb0
    obtain ⟨k, lk, full, svr, svx, rfl, hk, hlk, hlm, hR, hX, hdj, hyr, hyx, hKC, hB⟩ := hrel
    by_cases hlt : k < n
    · have hki : (k : Int) < (n : Int) := by omega
      have hl60 : lk.length ≤ 60 := by omega
      by_cases hat : (k : Int) = at_
      · have hd : ((k : Int) == at_) = true := by simpa using hat
        have hd2 : decide ((k : Int) = at_) = true := decide_eq_true hat
        clear hat
        go_wp2_with fail
        (with_reducible refine (rclone_calls _ w.heap.size svr lk most full wr hR (by omega)).mono ?_)
        rintro e w1 ⟨gc, svc, rfl, hRc, hb1⟩
        have hwr : w.heap.size ≤ wr.heap.size := hB.size
        have hR1 := hR.call hb1
        have hX1 := hX.call hb1
        have hB1 := Q.call hB hb1
        obtain ⟨d0, d1, d2, hy1⟩ := (hKC.call hb1).box
        have hyw : w.heap.size + 1 + 1 < wr.heap.size := by obtain ⟨_, _, _, hyb⟩ := hKC.box; exact hyb.lt
        have HRw := Lib.hid (fun b (h : RecF w.heap.size svr b) => hR.lt h)
        have HXw := Lib.hid (fun b (h : RRF (w.heap.size + 1) svx b) => hX.lt h)
        obtain ⟨a2, cap2, hsv, hcp2, hrd2⟩ := hX1.reads
        have HSV := Lib.hid hsv
        have x0 : w1.cell? ⟨w.heap.size + 1, 0, none⟩ = some (.slice a2 lk.length cap2) := by rw [← hsv]; exact hX1.blk.cell 0
        have x1 := hX1.blk.cell 1
        have x2 := hX1.blk.cell 2
        have y0 := hy1.cell 0
        have y1 := hy1.cell 1
        have y2 := hy1.cell 2
        have f0 := hy1.frozen 0
        have f1 := hy1.frozen 1
        have f2 := hy1.frozen 2
        have hyl1 := hy1.lt
        have hxl1 := hX1.blk.lt
        have HR1 := Lib.hid hR1
        have HX1 := Lib.hid hX1
        have HRC := Lib.hid hRc
        clear hsv hR hX hKC hB hb1 hrd2 hR1 hX1 hRc
        go_wp2_with fail
        have E : ((w1.setCell ⟨w.heap.size + 1 + 1, 0, none⟩ (.slice a2 lk.length cap2)).setCell ⟨w.heap.size + 1 + 1, 1, none⟩ (.int .i64 most)).setCell ⟨w.heap.size + 1 + 1, 2, none⟩ (.bool full) = w1.setRow (w.heap.size + 1 + 1) #[.slice a2 lk.length cap2, .int .i64 most, .bool full] := by
          rw [hy1.setCell, hy1.setCell_setRow, hy1.setCell_setRow]
          rfl
        rw [E]
        have hy5 := hy1.setRow #[.slice a2 lk.length cap2, .int .i64 most, .bool full]
        have hc5 : Chg (· = w.heap.size + 1 + 1) w1 (w1.setRow (w.heap.size + 1 + 1) #[.slice a2 lk.length cap2, .int .i64 most, .bool full]) :=
          ⟨rfl, rfl, rfl, by simp, fun b _ hne => setRow_other w1 (w.heap.size + 1 + 1) b _ (fun e => hne e)⟩
        generalize w1.setRow (w.heap.size + 1 + 1) #[.slice a2 lk.length cap2, .int .i64 most, .bool full] = W5 at hy5 hc5 ⊢
        have hR : IsRec W5 w.heap.size w.heap.size svr lk most full := HR1.out.chg hc5 (fun b hb e => hyr (e ▸ hb))
        have hX : IsRR W5 w.heap.size (w.heap.size + 1) svx lk most full := HX1.out.chg hc5 (fun b hb e => hyx (e ▸ hb))
        have hRc5 : IsRec W5 w.heap.size gc svc lk most full := (HRC.out.chg hc5 (fun b hb e => by have := (HRC.out.lt hb).2; omega)).weak hwr
        have hB : Below w.heap.size w W5 := hc5.below hB1 hB1.size (fun b hb => by omega)
        have hKC : KC W5 w.heap.size w.heap.size (w.heap.size + 1) (w.heap.size + 1 + 1) svr svx lk most (.pointer (some ⟨gc, 0, none⟩)) := by
          refine .inr ⟨gc, svc, lk, full, a2, cap2, rfl, hRc5, hy5, hl60, hlm, fun b hb => ⟨fun h => ?_, fun h => ?_⟩, ?_⟩
          · have h1 := (HRC.out.lt hb).2
            have h2 := (HRw.out b h).1
            omega
          · have h1 := (HRC.out.lt hb).2
            have h2 := (HXw.out b h).1
            omega
          · have hs := HSV.out
            rcases hX.own.2 with ⟨e, h0⟩ | ⟨b, cp, cur, e, _⟩
            · rw [hs] at e
              injection e with e1 e2 e3
              subst e1
              exact .inr ⟨⟨rfl, fun h => absurd h (by omega)⟩, fun b off h => by cases h⟩
            · have e' := e
              rw [hs] at e
              injection e with e1 e2 e3
              exact .inl ⟨b, e1, by rw [e']; rfl, List.prefix_refl _⟩
        clear E x0 x1 x2 y0 y1 y2 f0 f1 f2 hy5 hc5 hRc5 HSV HR1 HX1 HRC HRw HXw hy1 hB1
        have hyl : w.heap.size + 1 + 1 < W5.heap.size := by obtain ⟨_, _, _, hyb⟩ := hKC.box; exact hyb.lt
        obtain ⟨b, off, r, rfl, hbl, hget, c0, c1, c2, c3⟩ := (HRA.out.below hB).at_ hlt
        have hdrew : Below W5.heap.size W5 W5.drew := Q.drew (Below.refl _ _)
        have CA := radd_all w.heap.size w.heap.size svr lk most full r W5.drew (hR.call hdrew) (by have := hB.size; exact this) hlm hm1
        have CX := fun V hV hBV => xadd_all w.heap.size (w.heap.size + 1) svx lk most full r V hV hBV hlm hm1
        have HLEN := Lib.hid (addL_length lk most r hlm)
        have HPRE := Lib.hid (fun lc (h : lc <+: lk) => addL_prefix lk lc most r h)
        have HRl := Lib.hid (fun b (h : RecF w.heap.size svr b) => hR.lt h)
        have HXl := Lib.hid (fun b (h : RRF (w.heap.size + 1) svx b) => hX.lt h)
        have HXD := Lib.hid (hX.call hdrew)
        have HKD := Lib.hid (hKC.call hdrew)
        have HDJ := Lib.hid hdj
        have HYR := Lib.hid hyr
        have HYX := Lib.hid hyx
        have HB5 := Lib.hid hB
        generalize hEE : addE lk most r = ee at CA CX
        generalize hLL : addL lk most r = ll at CA CX HLEN HPRE
        generalize hFF : addF lk most full r = ff at CA CX
        clear hEE hLL hFF
        obtain ⟨ad, bb, vv, tt⟩ := r
        simp only at c0 c1 c2 c3
        simp only [RD.cells] at CA CX
        have ST : ∀ w' : World, Chg (fun b => RecF w.heap.size svr b ∨ RRF (w.heap.size + 1) svx b) W5 w' → ((fun w' : World => w'.cell? ⟨b, off + k * 4, none⟩ = some (.int .i64 ad) ∧ w'.cell? ⟨b, off + k * 4 + 1, none⟩ = some (.bool bb) ∧ w'.cell? ⟨b, off + k * 4 + 2, none⟩ = some (.int .u8 vv) ∧ w'.cell? ⟨b, off + k * 4 + 3, none⟩ = some (.int .u8 tt) ∧ Chg (fun b => RecF w.heap.size svr b ∨ RRF (w.heap.size + 1) svx b) W5 w') w') := fun w' h => by
          have hnb : ¬ (RecF w.heap.size svr b ∨ RRF (w.heap.size + 1) svx b) := by
            rintro (h | h)
            · have := (HRl.out b h).2; omega
            · have := (HXl.out b h).2; omega
          have hbb := h.block b (by have := HB5.out.size; omega) hnb
          have hcl : ∀ o, w'.cell? ⟨b, o, none⟩ = W5.cell? ⟨b, o, none⟩ := fun o => by simp only [World.cell?, hbb]
          exact ⟨(hcl _).trans c0, (hcl _).trans c1, (hcl _).trans c2, (hcl _).trans c3, h⟩
        have HCD := Lib.hid (Chg.of (S := fun b => RecF w.heap.size svr b ∨ RRF (w.heap.size + 1) svx b) hdrew)
        have hC0 : Chg (fun b => RecF w.heap.size svr b ∨ RRF (w.heap.size + 1) svx b) W5 W5.drew := HCD.out
        clear hR hX hdj hyr hyx hKC hget hB
        go_wp2_with fail
        go_region_held3 (fun w' : World => w'.cell? ⟨b, off + k * 4, none⟩ = some (.int .i64 ad) ∧ w'.cell? ⟨b, off + k * 4 + 1, none⟩ = some (.bool bb) ∧ w'.cell? ⟨b, off + k * 4 + 2, none⟩ = some (.int .u8 vv) ∧ w'.cell? ⟨b, off + k * 4 + 3, none⟩ = some (.int .u8 tt) ∧ Chg (fun b => RecF w.heap.size svr b ∨ RRF (w.heap.size + 1) svx b) W5 w')
          (exact ST _ (by assumption))
          (first
            | (go_at_call 28; (with_reducible refine CA.mono ?_); rintro e w1 ⟨rfl, svr', hR1, hc1, hf1⟩; have hC1 : Chg (fun b => RecF w.heap.size svr b ∨ RRF (w.heap.size + 1) svx b) W5 w1 := HCD.out.trans (hc1.mono (fun b hb => .inl hb)); have hX1 := HXD.out.chg hc1 (fun b hb e => HDJ.out b e hb); have hs1 : w.heap.size ≤ w1.heap.size := Nat.le_trans HB5.out.size hC1.size)
            | (go_at_call 29; (with_reducible refine (CX w1 hX1 hs1).mono ?_); rintro e w2 ⟨rfl, svx', hX2, hc2, hf2, hm2⟩; have hC2 : Chg (fun b => RecF w.heap.size svr b ∨ RRF (w.heap.size + 1) svx b) W5 w2 := hC1.trans (hc2.mono (fun b hb => .inr hb)); have hdj1 : ∀ b, RecF w.heap.size svr' b → ¬ RRF (w.heap.size + 1) svx b := (fun b hb hb2 => (by rcases hf1 b hb with h | h; exact HDJ.out b h hb2; have := (HXl.out b hb2).1; exact absurd (Nat.lt_of_lt_of_le this h) (Nat.lt_irrefl _))); have hR2 := hR1.chg hc2 hdj1)
            | (go_at_call 30; obtain ⟨a2, cap2, rfl, hcp2, hrd2⟩ := hX2.reads; (with_reducible refine (same17_calls w.heap.size w.heap.size svr' ll most ff (w.heap.size + 1) a2 cap2 most w2 hR2 (by have := HLEN.out.2; omega) hX2.blk hrd2).mono ?_); rintro e w3 ⟨rfl, hb3⟩; have hC3 : Chg (fun b => RecF w.heap.size svr b ∨ RRF (w.heap.size + 1) svx b) W5 w3 := hC2.trans (Chg.of hb3)))
        go_wp2
        have hyr1 : ¬ RecF w.heap.size svr' (w.heap.size + 1 + 1) := fun h => by
          rcases hf1 _ h with h | h
          · exact HYR.out h
          · exact absurd (Nat.lt_of_lt_of_le hyl h) (Nat.lt_irrefl _)
        have hK1 := HKD.out.radd hc1 hf1 HYR.out
        have hK2 := hK1.xadd hX1 hdj1 hc2 hf2 hm2 hX2.ne HPRE.out HYX.out
        refine ⟨⟨k + 1, ll, ff, svr', _, by simp, by omega, by have := HLEN.out.1; omega, HLEN.out.2, hR2.call hb3, hX2.call hb3, fun b hb hb2 => ?_, hyr1, fun h => ?_, hK2.call hb3, hC3.below HB5.out HB5.out.size (fun b hb => ?_)⟩, by simp [intOf]; omega⟩
        · rcases hf2 b hb2 with h | h
          · exact hdj1 b hb h
          · have := (hR1.lt hb).1; omega
        · rcases hf2 _ h with h | h
          · exact HYX.out h
          · have := hC1.size; omega
        · rcases hb with h | h
          · exact (HRl.out b h).2
          · exact (HXl.out b h).2
      · have hd : ((k : Int) == at_) = false := beq_eq_false_iff_ne.2 hat
        have hd2 : decide ((k : Int) = at_) = false := decide_eq_false hat
        go_wp2_with fail
        generalize wr = W5 at hR hX hKC hB ⊢
        have hyl : w.heap.size + 1 + 1 < W5.heap.size := by obtain ⟨_, _, _, hyb⟩ := hKC.box; exact hyb.lt
        obtain ⟨b, off, r, rfl, hbl, hget, c0, c1, c2, c3⟩ := (HRA.out.below hB).at_ hlt
        have hdrew : Below W5.heap.size W5 W5.drew := Q.drew (Below.refl _ _)
        have CA := radd_all w.heap.size w.heap.size svr lk most full r W5.drew (hR.call hdrew) (by have := hB.size; exact this) hlm hm1
        have CX := fun V hV hBV => xadd_all w.heap.size (w.heap.size + 1) svx lk most full r V hV hBV hlm hm1
        have HLEN := Lib.hid (addL_length lk most r hlm)
        have HPRE := Lib.hid (fun lc (h : lc <+: lk) => addL_prefix lk lc most r h)
        have HRl := Lib.hid (fun b (h : RecF w.heap.size svr b) => hR.lt h)
        have HXl := Lib.hid (fun b (h : RRF (w.heap.size + 1) svx b) => hX.lt h)
        have HXD := Lib.hid (hX.call hdrew)
        have HKD := Lib.hid (hKC.call hdrew)
        have HDJ := Lib.hid hdj
        have HYR := Lib.hid hyr
        have HYX := Lib.hid hyx
        have HB5 := Lib.hid hB
        generalize hEE : addE lk most r = ee at CA CX
        generalize hLL : addL lk most r = ll at CA CX HLEN HPRE
        generalize hFF : addF lk most full r = ff at CA CX
        clear hEE hLL hFF
        obtain ⟨ad, bb, vv, tt⟩ := r
        simp only at c0 c1 c2 c3
        simp only [RD.cells] at CA CX
        have ST : ∀ w' : World, Chg (fun b => RecF w.heap.size svr b ∨ RRF (w.heap.size + 1) svx b) W5 w' → ((fun w' : World => w'.cell? ⟨b, off + k * 4, none⟩ = some (.int .i64 ad) ∧ w'.cell? ⟨b, off + k * 4 + 1, none⟩ = some (.bool bb) ∧ w'.cell? ⟨b, off + k * 4 + 2, none⟩ = some (.int .u8 vv) ∧ w'.cell? ⟨b, off + k * 4 + 3, none⟩ = some (.int .u8 tt) ∧ Chg (fun b => RecF w.heap.size svr b ∨ RRF (w.heap.size + 1) svx b) W5 w') w') := fun w' h => by
          have hnb : ¬ (RecF w.heap.size svr b ∨ RRF (w.heap.size + 1) svx b) := by
            rintro (h | h)
            · have := (HRl.out b h).2; omega
            · have := (HXl.out b h).2; omega
          have hbb := h.block b (by have := HB5.out.size; omega) hnb
          have hcl : ∀ o, w'.cell? ⟨b, o, none⟩ = W5.cell? ⟨b, o, none⟩ := fun o => by simp only [World.cell?, hbb]
          exact ⟨(hcl _).trans c0, (hcl _).trans c1, (hcl _).trans c2, (hcl _).trans c3, h⟩
        have HCD := Lib.hid (Chg.of (S := fun b => RecF w.heap.size svr b ∨ RRF (w.heap.size + 1) svx b) hdrew)
        have hC0 : Chg (fun b => RecF w.heap.size svr b ∨ RRF (w.heap.size + 1) svx b) W5 W5.drew := HCD.out
        clear hR hX hdj hyr hyx hKC hget hB
        go_wp2_with fail
        go_region_held3 (fun w' : World => w'.cell? ⟨b, off + k * 4, none⟩ = some (.int .i64 ad) ∧ w'.cell? ⟨b, off + k * 4 + 1, none⟩ = some (.bool bb) ∧ w'.cell? ⟨b, off + k * 4 + 2, none⟩ = some (.int .u8 vv) ∧ w'.cell? ⟨b, off + k * 4 + 3, none⟩ = some (.int .u8 tt) ∧ Chg (fun b => RecF w.heap.size svr b ∨ RRF (w.heap.size + 1) svx b) W5 w')
          (exact ST _ (by assumption))
          (first
            | (go_at_call 28; (with_reducible refine CA.mono ?_); rintro e w1 ⟨rfl, svr', hR1, hc1, hf1⟩; have hC1 : Chg (fun b => RecF w.heap.size svr b ∨ RRF (w.heap.size + 1) svx b) W5 w1 := HCD.out.trans (hc1.mono (fun b hb => .inl hb)); have hX1 := HXD.out.chg hc1 (fun b hb e => HDJ.out b e hb); have hs1 : w.heap.size ≤ w1.heap.size := Nat.le_trans HB5.out.size hC1.size)
            | (go_at_call 29; (with_reducible refine (CX w1 hX1 hs1).mono ?_); rintro e w2 ⟨rfl, svx', hX2, hc2, hf2, hm2⟩; have hC2 : Chg (fun b => RecF w.heap.size svr b ∨ RRF (w.heap.size + 1) svx b) W5 w2 := hC1.trans (hc2.mono (fun b hb => .inr hb)); have hdj1 : ∀ b, RecF w.heap.size svr' b → ¬ RRF (w.heap.size + 1) svx b := (fun b hb hb2 => (by rcases hf1 b hb with h | h; exact HDJ.out b h hb2; have := (HXl.out b hb2).1; exact absurd (Nat.lt_of_lt_of_le this h) (Nat.lt_irrefl _))); have hR2 := hR1.chg hc2 hdj1)
            | (go_at_call 30; obtain ⟨a2, cap2, rfl, hcp2, hrd2⟩ := hX2.reads; (with_reducible refine (same17_calls w.heap.size w.heap.size svr' ll most ff (w.heap.size + 1) a2 cap2 most w2 hR2 (by have := HLEN.out.2; omega) hX2.blk hrd2).mono ?_); rintro e w3 ⟨rfl, hb3⟩; have hC3 : Chg (fun b => RecF w.heap.size svr b ∨ RRF (w.heap.size + 1) svx b) W5 w3 := hC2.trans (Chg.of hb3)))
        go_wp2
        have hyr1 : ¬ RecF w.heap.size svr' (w.heap.size + 1 + 1) := fun h => by
          rcases hf1 _ h with h | h
          · exact HYR.out h
          · exact absurd (Nat.lt_of_lt_of_le hyl h) (Nat.lt_irrefl _)
        have hK1 := HKD.out.radd hc1 hf1 HYR.out
        have hK2 := hK1.xadd hX1 hdj1 hc2 hf2 hm2 hX2.ne HPRE.out HYX.out
        refine ⟨⟨k + 1, ll, ff, svr', _, by simp, by omega, by have := HLEN.out.1; omega, HLEN.out.2, hR2.call hb3, hX2.call hb3, fun b hb hb2 => ?_, hyr1, fun h => ?_, hK2.call hb3, hC3.below HB5.out HB5.out.size (fun b hb => ?_)⟩, by simp [intOf]; omega⟩
        · rcases hf2 b hb2 with h | h
          · exact hdj1 b hb h
          · have := (hR1.lt hb).1; omega
        · rcases hf2 _ h with h | h
          · exact HYX.out h
          · have := hC1.size; omega
        · rcases hb with h | h
          · exact (HRl.out b h).2
          · exact (HXl.out b h).2
    · obtain rfl : k = n := by omega
      rcases hKC with ⟨rfl, hyb⟩ | ⟨gc, svc, lc, fc, ac, capc, rfl, hRc, hyb, hlc, hlcm, hdc, hKP⟩
      · go_wp2_with fail
        (with_reducible refine (awake17_calls _).mono ?_)
        rintro e w1 ⟨rfl, hb1⟩
        go_wp2_with fail
        go_returns
        exact ⟨rfl, Q.call hB hb1⟩
      · have hrdk := KC.reads hKP hX
        go_wp2_with fail
        (with_reducible refine (same17_calls w.heap.size gc svc lc most fc (w.heap.size + 1 + 1) ac capc most wr hRc (by omega) hyb hrdk).mono ?_)
        rintro e w1 ⟨rfl, hb1⟩
        have hR1 := hR.call hb1
        have hX1 := hX.call hb1
        have hRc1 := hRc.call hb1
        have hB1 := Q.call hB hb1
        clear hR hX hRc hB hb1 hKP hyb hrdk
        go_wp2_with fail
        have CC := radd_all w.heap.size gc svc lc most fc ⟨1, false, 0, 0⟩ w1 hRc1 hB1.size hlcm hm1
        simp only [RD.cells] at CC
        (with_reducible refine CC.mono ?_)
        rintro e w2 ⟨rfl, svc', -, hc2, -⟩
        have hR2 := hR1.chg hc2 (fun b hb hb2 => (hdc b hb2).1 hb)
        have hX2 := hX1.chg hc2 (fun b hb hb2 => (hdc b hb2).2 hb)
        have hB2 : Below w.heap.size w w2 := hc2.below hB1 hB1.size (fun b hb => (hRc1.lt hb).2)
        clear hR1 hX1 hRc1 hB1 hc2 CC
        go_wp2_with fail
        obtain ⟨a2, cap2, rfl, hcp2, hrd2⟩ := hX2.reads
        (with_reducible refine (same17_calls w.heap.size w.heap.size svr lk most full (w.heap.size + 1) a2 cap2 most w2 hR2 (by omega) hX2.blk hrd2).mono ?_)
        rintro e w3 ⟨rfl, hb3⟩
        have hB3 := Q.call hB2 hb3
        go_wp2_with fail
        (with_reducible refine (awake17_calls _).mono ?_)
        rintro e w4 ⟨rfl, hb4⟩
        go_wp2_with fail
        go_returns
        exact ⟨rfl, Q.call hB3 hb4⟩

theorem recorderKeeps_walk (most at_ : Int) (a : Option Addr) (n ca : Nat) (l : List RD) (w : World) (hra : Reads w w.heap.size a n l) :
    Calls Try.prog 8 #[.int .i64 most, .slice a n ca, .int .i64 at_] w fun e w' => e = .returned (.bool true) ∧ Below w.heap.size w w' := by
  by_cases h : n ≤ 60
  · by_cases hm : 1 ≤ most ∧ most ≤ 4096
    · exact recorderKeeps_ok most at_ a n ca l w h hm.1 hm.2 hra
    · exact recorderKeeps_bad most at_ a n ca w h (by omega)
  · exact recorderKeeps_long most at_ a n ca w (by omega)
end Go.Proofs.Ytijlmdpcbclmaaa
