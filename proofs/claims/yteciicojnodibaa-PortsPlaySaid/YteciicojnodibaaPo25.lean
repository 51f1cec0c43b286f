/- Ports: the walk of PortsPlay. (printed by gen/po25.py) -/
import Derived.Test.YteciicojnodibaaPo24
import Derived.Test.YteciicojnodibaaPo15
namespace Go.Proofs.Yteciicojnodibaa
set_option linter.unusedVariables false
set_option linter.unusedSimpArgs false
open Go.RowKit
attribute [local go_sem ↓] Go.wp_at_zero Go.wp_at_succ

set_option maxRecDepth 100000 in
set_option maxHeartbeats 6400000 in
theorem portsPlay_ok (x1 x2 : Value) (xs ys : List Int) (a : Option Addr) (len cap : Nat) (ops : List POp) (at_ : Int) (w : World) (hx1 : Rd EU w (fun _ => True) x1 xs) (hx2 : Rd EU w (fun _ => True) x2 ys)
    (hr : ReadsP w w.heap.size a len ops) (h1 : xs.length ≤ 300) (h2 : ys.length ≤ 300) (h5 : len ≤ 200) :
    Calls Try.prog 4 #[.agg #[x1, x2], .slice a len cap, .int .i64 at_] w fun e w' => e = .returned (.bool true) ∧ Below w.heap.size w w' := by
  obtain ⟨a1, c1, hv1⟩ := hx1.len
  obtain ⟨a2, c2, hv2⟩ := hx2.len
  subst hv1 hv2
  have HR := Lib.hid hr
  have X1 := Lib.hid hx1
  have X2 := Lib.hid hx2
  have F1 := fun V => few_yes a1 a2 xs.length ys.length c1 c2 a len cap V h1 h2 h5
  clear hr hx1 hx2
  go_enter Try.func4, Try.ntmps4
  go_wp2_with fail
  have kA := Blk.new w 41 #[.slice a1 xs.length c1, .slice a2 ys.length c2]
  have bA : Below w.heap.size w (w.alloc (.cells #[.slice a1 xs.length c1, .slice a2 ys.length c2] 41)) := Q.alloc (Below.refl _ _) _
  generalize hWA : w.alloc (.cells #[.slice a1 xs.length c1, .slice a2 ys.length c2] 41) = WA at *
  (with_reducible refine (F1 _).mono ?_)
  rintro e w0 ⟨rfl, b1⟩
  have kA0 := kA.call b1
  have bA0 := Q.call bA b1
  have q2 := kA0.cell 0
  have q3 := kA0.cell 1
  have lB := kA0.lt
  have N1 := mid_new (w0 := w0) _ _ xs ys (fun _ => True) (X1.out.keep (fun b hb hR => ⟨bA0.block b hb, hR⟩) bA0.size) (X2.out.keep (fun b hb hR => ⟨bA0.block b hb, hR⟩) bA0.size) (by omega) (by omega)
  have KA0 := Lib.hid kA0
  have BA0 := Lib.hid bA0
  have HWA := Lib.hid hWA
  clear hWA kA bA b1 F1 kA0 bA0
  go_wp2_with fail
  (with_reducible refine N1.mono ?_)
  rintro e w1 ⟨g, rfl, hb1, hmid⟩
  have kA1 := KA0.out.call hb1
  have r0 := kA1.cell 0
  have r1 := kA1.cell 1
  have rl := kA1.lt
  have hm0 := Lib.hid (play_new (hmid _ (Below.refl _ _)) at_ 34 rfl)
  obtain ⟨x, hx⟩ : ∃ x, x = w1.heap.size := ⟨_, rfl⟩
  obtain ⟨K, hK⟩ : ∃ K, K = w1.heap.size + 1 := ⟨_, rfl⟩
  obtain ⟨W, hW⟩ : ∃ W, W = (w1.alloc (.cells #[.slice a1 xs.length c1, .slice a2 ys.length c2, .slice none 0 0, .slice none 0 0, .slice none 0 0, .slice none 0 0] 34)).alloc (.cells #[.slice none 0 0, .slice none 0 0, .slice none 0 0, .slice none 0 0, .slice none 0 0, .slice none 0 0] 34) := ⟨_, rfl⟩
  have HM0 : Hid (PlaySt w0 g x K at_ 0 (.pointer none) ⟨xs, ys, [], [], []⟩ W) := Lib.hid (by
    have h := hm0.out
    rw [← hW, ← hx] at h
    rw [hK]
    simpa using h)
  have hz1 : w0.heap.size ≤ w1.heap.size := hb1.size
  have HKW := Lib.hid (show w0.heap.size ≤ K by omega)
  clear N1 q2 q3 lB hb1 hmid kA1 hm0 hz1
  have HH := Lib.hid (And.intro hx (And.intro hK hW))
  clear hx hK hW
  go_wp2_with fail
  obtain ⟨hx, hK, hW⟩ := HH.out
  rw [← hW, ← hK, ← hx]
  clear hx hK hW HH r0 r1 rl
  go_loopw [10, 12] (fun c v wr => ∃ (k : Nat) (s : PS), v = .int .i64 (k : Int) ∧ k ≤ len ∧ PlaySt w0 g x K at_ k c s wr) (fun _ v _ => len - (intOf v).toNat)
  case atStart => exact ⟨0, _, rfl, Nat.zero_le _, HM0.out⟩
  case round =>
    clear HM0
    obtain ⟨k, s, rfl, hk, hm⟩ := hrel
    have hBr := hm.B
    by_cases hkn : k < len
    · obtain ⟨b, off, o, rfl, hbl, hget, c0, c1, c2, c3, c4, cv1, cv2, ct1, ct2⟩ := (HR.out.below (Q.call BA0.out hBr)).at_ hkn
      obtain ⟨ask, r, v, tt, cyc⟩ := o
      simp only at c0 c1 c2 c3 c4 cv1 cv2 ct1 ct2
      have hki : (k : Int) < (len : Int) := by omega
      have hk0 : (0 : Int) ≤ (k : Int) := by omega
      have hbw : b < wr.heap.size := Nat.lt_of_lt_of_le hbl (Nat.le_trans BA0.out.size hBr.size)
      clear hget
      rcases hm.cases with ⟨rfl, hA⟩ | ⟨h, rfl, hA⟩
      · by_cases hat : at_ = (k : Int)
        · have CL := hm.clone hat
          have eat : ((k : Int) == at_) = true := by simp [hat]
          have eat2 : at_ < ((k + 1 : Nat) : Int) := by omega
          have EAT := Lib.hid eat2
          clear hm hat eat2 hA
          go_wp2_with (go_at_call 12; (with_reducible refine CL.mono ?_); rintro e w2 ⟨h, a0, a1, a2, a3, a4, a5, d0, d1, d2, d3, d4, d5, rfl, hCP⟩; refine Hid.out ?_)
          refine Lib.hid ?_
          obtain ⟨hb2, hxb, hxK, hKb, hst⟩ := hCP
          have x0 := hxb.cell 0
          have x1 := hxb.cell 1
          have x2 := hxb.cell 2
          have x3 := hxb.cell 3
          have x4 := hxb.cell 4
          have x5 := hxb.cell 5
          have xl := hxb.lt
          have f0 := hKb.frozen 0
          have f1 := hKb.frozen 1
          have f2 := hKb.frozen 2
          have f3 := hKb.frozen 3
          have f4 := hKb.frozen 4
          have f5 := hKb.frozen 5
          have y0 := hKb.cell 0
          have y1 := hKb.cell 1
          have y2 := hKb.cell 2
          have y3 := hKb.cell 3
          have y4 := hKb.cell 4
          have y5 := hKb.cell 5
          have kl := hKb.lt
          have HK := Lib.hid hKb
          have HST := Lib.hid hst
          have HB2 := Lib.hid hb2
          have hKb' := hKb
          have hb2' := hb2
          have HC0 := Lib.hid (And.intro c0 (And.intro c1 (And.intro c2 (And.intro c3 c4))))
          clear CL hKb hst hxb hb2 c0 c1 c2 c3 c4
          have hbK : b ≠ K := by have := HKW.out; have := BA0.out.size; omega
          obtain ⟨W3, hW3⟩ : ∃ W3, W3 = (((((w2.setCell ⟨K, 0, none⟩ (.slice a0 s.pub.length d0)).setCell ⟨K, 1, none⟩ (.slice a1 s.sec.length d1)).setCell ⟨K, 2, none⟩ (.slice a2 s.out.length d2)).setCell ⟨K, 3, none⟩ (.slice a3 s.kept.length d3)).setCell ⟨K, 4, none⟩ (.slice a4 s.log.length d4)).setCell ⟨K, 5, none⟩ (.slice a5 s.log.length d5) := ⟨_, rfl⟩
          have hW4 : W3 = w2.setRow K #[.slice a0 s.pub.length d0, .slice a1 s.sec.length d1, .slice a2 s.out.length d2, .slice a3 s.kept.length d3, .slice a4 s.log.length d4, .slice a5 s.log.length d5] := by
            rw [hW3, hKb'.setCell, hKb'.setCell_setRow, hKb'.setCell_setRow, hKb'.setCell_setRow, hKb'.setCell_setRow, hKb'.setCell_setRow]
            rfl
          have HW3 := Lib.hid hW3
          have HW4 := Lib.hid hW4
          clear hW3 hW4 hKb' hb2'
          go_wp2_with (rw [← HW3.out]; refine Hid.out ?_)
          refine Lib.hid ?_
          have hst : PlaySt w0 g x K at_ (k + 1) (.pointer (some ⟨h, 0, none⟩)) s W3 := by rw [HW4.out]; exact HST.out
          have key : ∀ off, W3.cell? ⟨b, off, none⟩ = wr.cell? ⟨b, off, none⟩ := fun off => by
            rw [HW4.out]
            exact (World.cell?_of_block (setRow_other w2 K b _ hbK)).trans (HB2.out.cell (p := ⟨b, off, none⟩) hbw)
          obtain ⟨c0, c1, c2, c3, c4⟩ := HC0.out
          rw [← key] at c0 c1 c2 c3 c4
          have DD := hst.does (k + 1) (Nat.le_refl _) (fun e => by cases e) ⟨ask, r, v, tt, cyc⟩ ct1
          clear hst key x0 x1 x2 x3 x4 x5 xl f0 f1 f2 f3 f4 f5 y0 y1 y2 y3 y4 y5 kl hbw HW3 HW4 HB2 HST HK hxK hbK
          go_wp2_with (go_at_call 9; (with_reducible refine DD.mono ?_); rintro e w5 ⟨rfl, hm5⟩; refine Hid.out ?_)
          refine Lib.hid ?_
          have S5 := hm5.same
          have HM5 := Lib.hid hm5
          clear DD hm5
          go_wp2_with (go_at_call 10; (with_reducible refine S5.mono ?_); rintro e w6 ⟨rfl, b6⟩; refine Hid.out ?_)
          refine Lib.hid ?_
          have HM6 := Lib.hid (HM5.out.call b6)
          clear S5 HM5 b6
          go_wp2_with fail
          refine ⟨⟨k + 1, _, by simp, by omega, HM6.out⟩, by simp [intOf]; omega⟩
        · have eat : ((k : Int) == at_) = false := by simp; omega
          have DD := hm.does (k + 1) (Nat.le_succ _) (fun _ => by omega) ⟨ask, r, v, tt, cyc⟩ ct1
          clear hat hm hA
          go_wp2_with (go_at_call 9; (with_reducible refine DD.mono ?_); rintro e w5 ⟨rfl, hm5⟩; refine Hid.out ?_)
          refine Lib.hid ?_
          have S5 := hm5.same
          have HM5 := Lib.hid hm5
          clear DD hm5
          go_wp2_with (go_at_call 10; (with_reducible refine S5.mono ?_); rintro e w6 ⟨rfl, b6⟩; refine Hid.out ?_)
          refine Lib.hid ?_
          have HM6 := Lib.hid (HM5.out.call b6)
          clear S5 HM5 b6
          go_wp2_with fail
          refine ⟨⟨k + 1, _, by simp, by omega, HM6.out⟩, by simp [intOf]; omega⟩
      · have eat : ((k : Int) == at_) = false := by simp; omega
        have DD := hm.does (k + 1) (Nat.le_succ _) (fun e => by cases e) ⟨ask, r, v, tt, cyc⟩ ct1
        clear hm hA
        go_wp2_with (go_at_call 9; (with_reducible refine DD.mono ?_); rintro e w5 ⟨rfl, hm5⟩; refine Hid.out ?_)
        refine Lib.hid ?_
        have S5 := hm5.same
        have HM5 := Lib.hid hm5
        clear DD hm5
        go_wp2_with (go_at_call 10; (with_reducible refine S5.mono ?_); rintro e w6 ⟨rfl, b6⟩; refine Hid.out ?_)
        refine Lib.hid ?_
        have HM6 := Lib.hid (HM5.out.call b6)
        clear S5 HM5 b6
        go_wp2_with fail
        refine ⟨⟨k + 1, _, by simp, by omega, HM6.out⟩, by simp [intOf]; omega⟩
    · obtain rfl : len = k := by omega
      rcases hm.cases with ⟨rfl, hA⟩ | ⟨h, rfl, hA⟩
      · have HB := Lib.hid (Q.call BA0.out hBr)
        clear hm hA hBr
        go_wp2_with (go_at_call 7; (with_reducible refine (awake11_calls _).mono ?_); rintro e w9 ⟨rfl, b9⟩)
        have B8 := Q.call HB.out b9
        go_returns
        exact ⟨rfl, B8⟩
      · have LS := hm.last
        have HB := Lib.hid (Q.call BA0.out hBr)
        clear hm hA hBr
        go_wp2_with (first | (go_at_call 10; (with_reducible refine LS.mono ?_); rintro e w8 ⟨rfl, b8⟩) | (go_at_call 7; (with_reducible refine (awake11_calls _).mono ?_); rintro e w9 ⟨rfl, b9⟩))
        have B8 := Q.call (Q.call HB.out b8) b9
        go_returns
        exact ⟨rfl, B8⟩
set_option maxRecDepth 100000 in
theorem portsPlay_walk (x1 x2 : Value) (xs ys : List Int) (a : Option Addr) (len cap : Nat) (ops : List POp) (at_ : Int) (w : World) (hx1 : Rd EU w (fun _ => True) x1 xs) (hx2 : Rd EU w (fun _ => True) x2 ys) (hr : ReadsP w w.heap.size a len ops) :
    Calls Try.prog 4 #[.agg #[x1, x2], .slice a len cap, .int .i64 at_] w fun e w' => e = .returned (.bool true) ∧ Below w.heap.size w w' := by
  by_cases h : xs.length ≤ 300 ∧ ys.length ≤ 300 ∧ len ≤ 200
  · exact portsPlay_ok x1 x2 xs ys a len cap ops at_ w hx1 hx2 hr h.1 h.2.1 h.2.2
  · obtain ⟨a1, c1, hv1⟩ := hx1.len
    obtain ⟨a2, c2, hv2⟩ := hx2.len
    subst hv1 hv2
    have F1 := fun V => few_no a1 a2 xs.length ys.length c1 c2 a len cap V h
    clear hr hx1 hx2 h
    go_enter Try.func4, Try.ntmps4
    go_wp2_with (first | (go_at_call 11; (with_reducible refine (F1 _).mono ?_); rintro e w8 ⟨rfl, b8⟩) | (go_at_call 7; (with_reducible refine (awake11_calls _).mono ?_); rintro e w9 ⟨rfl, b9⟩))
    have B8 := Q.call (Q.call (Q.alloc (Below.refl w.heap.size w) (.cells #[.slice a1 xs.length c1, .slice a2 ys.length c2] 41)) b8) b9
    go_returns
    exact ⟨rfl, B8⟩
end Go.Proofs.Yteciicojnodibaa
