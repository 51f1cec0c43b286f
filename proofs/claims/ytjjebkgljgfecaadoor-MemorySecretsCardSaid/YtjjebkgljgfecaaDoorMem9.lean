/- Plain facts of loads and labels; the walk of MemoryLoads where bytes are loaded. -/
import Derived.Test.YtjjebkgljgfecaaDoorMem8
import Derived.Test.YtjjebkgljgfecaaDoorQuiet
namespace Go.Proofs.YtjjebkgljgfecaaDoor
set_option linter.unusedVariables false
set_option linter.unusedSimpArgs false
open Go.RowKit

theorem loaded_at (f : Nat → Int × Int) (x : Int) (l : List Int) (j : Nat) : ∀ m : Nat, loaded f x l m j = if x ≤ (j : Int) ∧ (j : Int) < x + m then (l[((j : Int) - x).toNat]?.getD 0, 0) else f j
  | 0 => by rw [if_neg (by omega)]; rfl
  | m + 1 => by
    rw [loaded, upd]
    by_cases h : (j : Int) = x + m
    · rw [if_pos h, if_pos (by omega), show ((j : Int) - x).toNat = m by omega]
    · rw [if_neg h, loaded_at f x l j m]
      by_cases h2 : x ≤ (j : Int) ∧ (j : Int) < x + m
      · rw [if_pos h2, if_pos (by omega)]
      · rw [if_neg h2, if_neg (by omega)]
theorem labelled_at (f : Nat → Int × Int) (x t : Int) (j : Nat) : ∀ m : Nat, labelled f x t m j = if x ≤ (j : Int) ∧ (j : Int) < x + m then ((f j).1, t) else f j
  | 0 => by rw [if_neg (by omega)]; rfl
  | m + 1 => by
    rw [labelled, setT]
    by_cases h : (j : Int) = x + m
    · rw [if_pos h, if_pos (by omega), labelled_at f x t j m, if_neg (by omega)]
    · rw [if_neg h, labelled_at f x t j m]
      by_cases h2 : x ≤ (j : Int) ∧ (j : Int) < x + m
      · rw [if_pos h2, if_pos (by omega)]
      · rw [if_neg h2, if_neg (by omega)]

theorem read_as2 (g : Nat) (f : Nat → Int × Int) (x : Int) (r : Int × Int) (c : Int) (hr : readOf f x = r) (he : errOf x = c) (w : World) (hk : KIN w) (hm : Mem w g f) :
    Calls Tryd.prog 10 #[.pointer (some ⟨g, 0, none⟩), .int .i64 x] w fun e w' => e = .returned (.tuple #[.agg #[.int .u8 r.1, .int .u8 r.2], .int .i64 c]) ∧ Below w.heap.size w w' := by
  subst hr he
  exact read_calls g f x w hk hm

/-- What stands behind a load of l and a label. -/
def laid2 (x t : Int) (l : List Int) : Nat → Int × Int := labelled (loaded (fun _ => (0, 0)) x l l.length) x t l.length
theorem laid2_at (x t : Int) (l : List Int) (j : Nat) : laid2 x t l j = if x ≤ (j : Int) ∧ (j : Int) < x + l.length then (l[((j : Int) - x).toNat]?.getD 0, t) else (0, 0) := by
  unfold laid2
  rw [labelled_at, loaded_at]
  by_cases h : x ≤ (j : Int) ∧ (j : Int) < x + l.length
  · rw [if_pos h, if_pos h, if_pos h]
  · rw [if_neg h, if_neg h, if_neg h]

theorem err_in {y : Int} (h : (0 ≤ y ∧ y < 32768) ∨ (49152 ≤ y ∧ y < 65536)) : errOf y = 0 ∧ kindOf y ≠ 32784 := by
  have : kindOf y = 0 ∨ kindOf y = 49152 := by
    unfold kindOf
    rcases h with h | h
    · left; rw [if_neg (by omega), if_pos (by omega)]
    · right; rw [if_neg (by omega), if_neg (by omega), if_neg (by omega), if_neg (by omega), if_pos (by omega)]
  unfold errOf
  rcases this with h | h <;> rw [h] <;> decide
theorem err_two {y : Int} (h : errOf y ≠ 0) : errOf y = 10 ∨ errOf y = 15 := by
  unfold errOf at h ⊢
  by_cases h1 : kindOf y = -1
  · left; rw [if_pos h1]
  · rw [if_neg h1] at h ⊢
    by_cases h2 : kindOf y = 32768
    · right; rw [if_pos h2]
    · rw [if_neg h2] at h; exact absurd rfl h
theorem read_in {f : Nat → Int × Int} {y : Int} (h : (0 ≤ y ∧ y < 32768) ∨ (49152 ≤ y ∧ y < 65536)) : readOf f y = f y.toNat := by
  obtain ⟨h1, h2⟩ := err_in h
  unfold readOf
  rw [if_pos h1, if_neg h2]
theorem read_out {x t : Int} {l : List Int} {y : Int} (h : ¬ (x ≤ y ∧ y < x + l.length)) : errOf y ≠ 0 ∨ (errOf y = 0 ∧ readOf (laid2 x t l) y = (0, 0)) ∨ (errOf y = 0 ∧ readOf (laid2 x t l) y = (255, 0)) := by
  by_cases he : errOf y = 0
  · right
    have hb := err_bounds he
    by_cases h2 : kindOf y = 32784
    · right
      refine ⟨he, ?_⟩
      unfold readOf
      rw [if_pos he, if_pos h2]
    · left
      refine ⟨he, ?_⟩
      unfold readOf
      rw [if_pos he, if_neg h2, laid2_at, if_neg (by omega)]
  · exact .inl he

set_option maxRecDepth 100000 in
set_option maxHeartbeats 3200000 in
theorem memoryLoads_ok (x t : Int) (a : Option Addr) (l : List Int) (ca : Nat) (w : World) (hk : KIN w) (h1 : 1 ≤ l.length) (h2 : l.length ≤ 100) (hr : ReadsU w w.heap.size a l.length l) (hca : l.length ≤ ca)
    (hl : loadsOf x = true) (hs : spanOf x (x + l.length - 1) = 0) :
    Calls Tryd.prog 5 #[.int .i64 x, .slice a l.length ca, .int .u8 t] w fun e w' => e = .returned (.bool true) ∧ Below w.heap.size w w' := by
  obtain ⟨hle, hbd⟩ := span_ok hs
  have hs' : spanOf x (x + max 0 ((l.length : Int) - 1)) = 0 := by rw [show x + max 0 ((l.length : Int) - 1) = x + l.length - 1 by omega]; exact hs
  have HBD := Lib.hid hbd
  have HR := Lib.hid hr
  have HS := Lib.hid hs
  have hx0 : 0 ≤ x := by omega
  have hx1 : x + l.length ≤ 65536 := by omega
  have hn : (x + (l.length : Int) - 1 - x + 1).toNat = l.length := by omega
  clear hle hbd hr hs
  go_enter Tryd.func5, Tryd.ntmps5
  go_wp2_with fail
  (with_reducible refine (new_fresh _).mono ?_)
  rintro e w1 ⟨rfl, hm1, hb1⟩
  go_wp2_with fail
  (with_reducible refine (load_ok w.heap.size _ x w.heap.size a ca l _ (hk.q hb1) hm1 (HR.out.keep (fun b o h => hb1.cell (p := ⟨b, o, none⟩) h)) (Nat.le_refl _) (by omega) hl hs').mono ?_)
  rintro e w2 ⟨rfl, hm2, hc2⟩
  have hb2 := Q.chg hb1 hc2 (Nat.le_refl _)
  clear hm1 hb1 hc2 hs'
  go_wp2_with fail
  (with_reducible refine (label_ok w.heap.size _ x _ t _ (hk.q hb2) hm2 HS.out).mono ?_)
  rintro e w3 ⟨rfl, hm3, hc3⟩
  rw [hn] at hm3
  replace hm3 : Mem w3 w.heap.size (laid2 x t l) := hm3
  have hb3 := Q.chg hb2 hc3 (Nat.le_refl _)
  clear hm2 hb2 hc3 hn
  go_wp2_with fail
  go_loopw [10] (fun v wr => ∃ k : Nat, v = .int .i64 (k : Int) ∧ k ≤ l.length ∧ Mem wr w.heap.size (laid2 x t l) ∧ Below w.heap.size w wr)
    (fun v _ => l.length - (intOf v).toNat)
  case atStart => exact ⟨0, rfl, Nat.zero_le _, hm3, hb3⟩
  case round =>
    obtain ⟨k, rfl, hkl, hmr, hbr⟩ := hrel
    clear hm3 hb3
    by_cases hkn : k < l.length
    · have hbd := HBD.out
      obtain ⟨b, off, rfl, hb, hcell⟩ := HR.out.2.2 (by omega)
      have hcl := hcell k l[k] (List.getElem?_eq_getElem hkn)
      have hrd : readOf (laid2 x t l) (x + k) = (l[k], t) := by
        rw [read_in (by omega), laid2_at, if_pos (by omega), show ((((x + k).toNat : Nat) : Int) - x).toNat = k by omega, List.getElem?_eq_getElem hkn]
        rfl
      have he : errOf (x + k) = 0 := (err_in (by omega)).1
      generalize l[k] = v at hcl hrd
      have C := read_as2 w.heap.size (laid2 x t l) (x + k) _ _ hrd he wr (hk.q hbr) hmr
      have hki : (k : Int) < (l.length : Int) := by omega
      clear hbd hrd he hcell
      go_wp2_with fail
      (with_reducible refine C.mono ?_)
      rintro e w5 ⟨rfl, hb5⟩
      have hcv : w5.cell? ⟨b, off + k, none⟩ = some (.int .u8 v) := ((Q.call hbr hb5).cell (p := ⟨b, _, none⟩) hb).trans hcl
      have hblt : b < w5.heap.size := Nat.lt_of_lt_of_le hb (Q.call hbr hb5).size
      go_wp2_with fail
      go_quiet (fail)
      go_wp2
      refine ⟨⟨k + 1, by simp, by omega, ?_, ?_⟩, by simp [intOf]; omega⟩
      · exact ((hmr.call hb5).call ((Below.refl _ _).alloc (Nat.le_refl _) _)).call (Q.drewN (Below.refl _ _) _)
      · exact Q.drewN (Q.alloc (Q.call hbr hb5) _) _
    · obtain rfl : k = l.length := by omega
      have hbd := HBD.out
      have O2 : (errOf (x + l.length) = 10 ∨ errOf (x + l.length) = 15) ∨ (errOf (x + l.length) = 0 ∧ readOf (laid2 x t l) (x + l.length) = (0, 0)) := by
        by_cases he : errOf (x + l.length) = 0
        · right
          have hb := err_bounds he
          exact ⟨he, by rw [read_in (by omega), laid2_at, if_neg (by omega)]⟩
        · left
          exact err_two he
      have O1 : (errOf (x - 1) = 10 ∨ errOf (x - 1) = 15) ∨ (errOf (x - 1) = 0 ∧ readOf (laid2 x t l) (x - 1) = (0, 0)) ∨ (errOf (x - 1) = 0 ∧ readOf (laid2 x t l) (x - 1) = (255, 0)) := by
        rcases read_out (x := x) (t := t) (l := l) (y := x - 1) (by omega) with h | h | h
        · left; exact err_two h
        · exact .inr (.inl h)
        · exact .inr (.inr h)
      have hex : errOf x = 0 := (err_in (by omega)).1
      have hrd2 : readOf (loaded (laid2 x t l) x [l[0]] 1) x = (l[0], 0) := by
        rw [read_in (by omega), loaded_at, if_pos (by omega), show (((x.toNat : Nat) : Int) - x).toNat = 0 by omega]
        rfl
      have hs1 : ∀ z : Int, z = 0 → spanOf x (x + max 0 z) = 0 := by
        rintro z rfl
        rw [show x + max 0 (0 : Int) = x by omega]
        unfold spanOf
        rw [if_pos ⟨Int.le_refl _, hl, rfl⟩]
      clear hbd
      obtain ⟨b, off, rfl, hb, hcell⟩ := HR.out.2.2 (by omega)
      have hcl := hcell 0 l[0] (List.getElem?_eq_getElem (by omega))
      have hv := HR.out.2.1 l[0] (List.getElem_mem _)
      have hca1 : (1 : Int) ≤ (ca : Int) := by omega
      have hca2 : (0 : Int) ≤ (ca : Int) := by omega
      clear hcell
      have C1 : ∃ (r : Int × Int) (c : Int), ((c = 10 ∨ c = 15) ∨ (c = 0 ∧ r = (0, 0)) ∨ (c = 0 ∧ r = (255, 0))) ∧ ∀ W, KIN W → Mem W w.heap.size (laid2 x t l) →
          Calls Tryd.prog 10 #[.pointer (some ⟨w.heap.size, 0, none⟩), .int .i64 (x - 1)] W fun e w' => e = .returned (.tuple #[.agg #[.int .u8 r.1, .int .u8 r.2], .int .i64 c]) ∧ Below W.heap.size W w' :=
        ⟨_, _, O1, fun W h1 h2 => read_as2 _ _ _ _ _ rfl rfl W h1 h2⟩
      have C2 : ∃ (r : Int × Int) (c : Int), ((c = 10 ∨ c = 15) ∨ (c = 0 ∧ r = (0, 0))) ∧ ∀ W, KIN W → Mem W w.heap.size (laid2 x t l) →
          Calls Tryd.prog 10 #[.pointer (some ⟨w.heap.size, 0, none⟩), .int .i64 (x + l.length)] W fun e w' => e = .returned (.tuple #[.agg #[.int .u8 r.1, .int .u8 r.2], .int .i64 c]) ∧ Below W.heap.size W w' :=
        ⟨_, _, O2, fun W h1 h2 => read_as2 _ _ _ _ _ rfl rfl W h1 h2⟩
      clear O1 O2
      obtain ⟨r1, c1, hc1, C1⟩ := C1
      obtain ⟨r2, c2, hc2, C2⟩ := C2
      go_wp2_with fail
      (with_reducible refine (C1 _ (hk.q hbr) hmr).mono ?_)
      rintro e w6 ⟨rfl, hb6⟩
      have hm6 := hmr.call hb6
      have hB6 := Q.call hbr hb6
      clear hmr hbr hb6 C1
      go_wp2_with fail
      (with_reducible refine (C2 _ (hk.q (Q.alloc hB6 _)) (hm6.call ((Below.refl _ _).alloc (Nat.le_refl _) _))).mono ?_)
      rintro e w7 ⟨rfl, hb7⟩
      have hm7 := (hm6.call ((Below.refl _ _).alloc (Nat.le_refl _) _)).call hb7
      have hB7 := Q.call (Q.alloc hB6 _) hb7
      have k7 := (Blk.new w6 24 #[.int .u8 r1.1, .int .u8 r1.2]).call hb7
      clear hm6 hB6 hb7 C2
      go_wp2_with fail
      obtain ⟨W, hW⟩ : ∃ W, W = w7.alloc (.cells #[.int .u8 r2.1, .int .u8 r2.2] 24) := ⟨_, rfl⟩
      rw [← hW]
      have a8 : Blk W w6.heap.size 24 #[.int .u8 r1.1, .int .u8 r1.2] := by rw [hW]; exact k7.alloc _
      have b8 : Blk W w7.heap.size 24 #[.int .u8 r2.1, .int .u8 r2.2] := by rw [hW]; exact Blk.new _ _ _
      have hm8 : Mem W w.heap.size (laid2 x t l) := by rw [hW]; exact hm7.call ((Below.refl _ _).alloc (Nat.le_refl _) _)
      have hB8 : Below w.heap.size w W := by rw [hW]; exact Q.alloc hB7 _
      clear hW k7 hm7 hB7
      have ST : ∀ w' : World, Below W.heap.size W w' → ((fun w' : World => w'.cell? ⟨w6.heap.size, 0, none⟩ = some (.int .u8 r1.1) ∧ w'.cell? ⟨w6.heap.size, 1, none⟩ = some (.int .u8 r1.2) ∧ w'.cell? ⟨w7.heap.size, 0, none⟩ = some (.int .u8 r2.1) ∧ w'.cell? ⟨w7.heap.size, 1, none⟩ = some (.int .u8 r2.2) ∧ Below W.heap.size W w') w') :=
        fun w' h => ⟨(a8.call h).cell 0, (a8.call h).cell 1, (b8.call h).cell 0, (b8.call h).cell 1, h⟩
      have a80 := a8.cell 0
      have L0 : ∀ y : BW W, y.val.cell? ⟨w6.heap.size, 0, none⟩ = some (.int .u8 r1.1) := fun y => (ST y.val y.has).1
      have L1 : ∀ y : BW W, y.val.cell? ⟨w6.heap.size, 1, none⟩ = some (.int .u8 r1.2) := fun y => (ST y.val y.has).2.1
      have L2 : ∀ y : BW W, y.val.cell? ⟨w7.heap.size, 0, none⟩ = some (.int .u8 r2.1) := fun y => (ST y.val y.has).2.2.1
      have L3 : ∀ y : BW W, y.val.cell? ⟨w7.heap.size, 1, none⟩ = some (.int .u8 r2.2) := fun y => (ST y.val y.has).2.2.2.1
      clear ST a80
      rcases hc1 with (rfl | rfl) | ⟨rfl, rfl⟩ | ⟨rfl, rfl⟩
      all_goals rcases hc2 with (rfl | rfl) | ⟨rfl, rfl⟩
      all_goals
        refine wp_region_below (by kernel_rfl) (by kernel_rfl) ?_
        repeat (go_big_quiet_step (exact calls_bw (of_calls 255 (by decide) (by decide) _)))
        refine wpQuiet_nil ?_
        intro w9 hw9
        obtain ⟨y9, rfl⟩ := hw9
        have hm9 := hm8.call y9.has
        have hB9 := Q.call hB8 y9.has
        generalize y9.val = W9 at hm9 hB9 ⊢
        clear L0 L1 L2 L3
        have C : Calls Tryd.prog 17 #[.pointer (some ⟨w.heap.size, 0, none⟩), .int .i64 x, .slice (some ⟨b, off, none⟩) 1 ca] W9 fun e w' => e = .returned (.int .i64 0) ∧ Mem w' w.heap.size (loaded (laid2 x t l) x [l[0]] 1) ∧ Chg (· = w.heap.size) W9 w' :=
          load_ok w.heap.size _ x w.heap.size (some ⟨b, off, none⟩) ca [l[0]] W9 (hk.q hB9) hm9
            ⟨rfl, fun v h => by simp at h; rw [h]; exact hv, fun _ => ⟨b, off, rfl, hb, fun k v h => by
              obtain rfl : k = 0 := by
                rcases k with _ | k
                · rfl
                · simp at h
              simp at h
              subst h
              exact (hB9.cell (p := ⟨b, _, none⟩) hb).trans hcl⟩⟩ (Nat.le_refl _) (by simp) hl (hs1 _ (by simp))
        go_wp2_with fail
        (with_reducible refine C.mono ?_)
        rintro e w10 ⟨rfl, hm10, hc10⟩
        have hB10 := Q.chg hB9 hc10 (Nat.le_refl _)
        clear hm9 hB9 hc10 C
        have C := read_as2 w.heap.size _ x (l[0], 0) 0 hrd2 hex w10 (hk.q hB10) hm10
        go_wp2_with fail
        (with_reducible refine C.mono ?_)
        rintro e w11 ⟨rfl, hb11⟩
        have hB11 := Q.call hB10 hb11
        clear hm10 hb11 C
        go_wp2_with fail
        obtain ⟨W2, hW2⟩ : ∃ W2, W2 = w11.alloc (.cells #[.int .u8 l[0], .int .u8 0] 24) := ⟨_, rfl⟩
        rw [← hW2]
        have hB12 : Below w.heap.size w W2 := by rw [hW2]; exact Q.alloc hB11 _
        have b12 : Blk W2 w11.heap.size 24 #[.int .u8 l[0], .int .u8 0] := by rw [hW2]; exact Blk.new _ _ _
        have L0 : ∀ y : BW W2, y.val.cell? ⟨w11.heap.size, 0, none⟩ = some (.int .u8 l[0]) := fun y => (b12.call y.has).cell 0
        have L1 : ∀ y : BW W2, y.val.cell? ⟨w11.heap.size, 1, none⟩ = some (.int .u8 0) := fun y => (b12.call y.has).cell 1
        have L2 : ∀ y : BW W2, y.val.cell? ⟨b, off, none⟩ = some (.int .u8 l[0]) := fun y => ((Q.call hB12 y.has).cell (p := ⟨b, _, none⟩) hb).trans hcl
        clear hW2
        refine wp_region_below (by kernel_rfl) (by kernel_rfl) ?_
        repeat (go_big_quiet_step (first | exact calls_bw (of_calls _ hv.1 hv.2 _) | exact calls_bw (awake08_calls _ (hk.q (Q.call hB12 (BW.has _))))))
        refine wpQuiet_nil ?_
        intro w13 hw13
        obtain ⟨y13, rfl⟩ := hw13
        have hB13 := Q.call hB12 y13.has
        generalize y13.val = W13 at hB13 ⊢
        go_wp2
        go_returns
        exact ⟨rfl, hB13⟩
end Go.Proofs.YtjjebkgljgfecaaDoor
