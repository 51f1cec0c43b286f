/- The wheel: the walk of WheelRolls. (printed by gen/wh11.py) -/
import Derived.Test.YtjjebkgljgfecaaWh10
namespace Go.Proofs.Ytjjebkgljgfecaa
set_option linter.unusedVariables false
set_option linter.unusedSimpArgs false
open Go.RowKit
attribute [local go_sem] run_store_complex run_store_float
attribute [local go_sem ↓] Go.wp_at_zero Go.wp_at_succ

/-- The wheel, the document's wheel, the kept one, the clone. -/
def RollsMid (w0 : World) (g : Nat) (s r s' : St) (c : Value) (w : World) : Prop :=
  (s.ok ∧ s'.ok) ∧ Blk w g 57 s.cells ∧ Blk w (g + 1) 44 r.rcells ∧ Blk w (g + 1 + 1) 44 s'.rcells ∧ Below w0.heap.size w0 w ∧
    (c = .pointer none ∨ ∃ h, c = .pointer (some ⟨h, 0, none⟩) ∧ Blk w h 57 s'.cells ∧ g + 1 + 1 < h)
theorem RollsMid.chg {w0 w w' : World} {g : Nat} {s r s' s2 r2 : St} {c : Value} {S : Nat → Prop} (h : RollsMid w0 g s r s' c w) (hS : ∀ b, S b → b = g ∨ b = g + 1) (hg : w0.heap.size ≤ g) (h2 : s2.ok) (hc : Chg S w w')
    (hb : Blk w' g 57 s2.cells) (hr : Blk w' (g + 1) 44 r2.rcells) : RollsMid w0 g s2 r2 s' c w' := by
  obtain ⟨h1, k1, k2, k3, k4, k5⟩ := h
  refine ⟨⟨h2, h1.2⟩, hb, hr, k3.chg hc (fun e => by rcases hS _ e with h | h <;> omega), hc.below k4 k4.size (fun b e => by rcases hS b e with h | h <;> omega), ?_⟩
  rcases k5 with k5 | ⟨h, e, k5, k6⟩
  · exact .inl k5
  · exact .inr ⟨h, e, k5.chg hc (fun e => by rcases hS _ e with h | h <;> omega), k6⟩
theorem RollsMid.write {w0 w w' : World} {g : Nat} {s r s' s2 : St} {c : Value} (h : RollsMid w0 g s r s' c w) (hg : w0.heap.size ≤ g) (h2 : s2.ok) (hc : Chg (· = g) w w') (hb : Blk w' g 57 s2.cells) : RollsMid w0 g s2 r s' c w' :=
  h.chg (fun b e => .inl e) hg h2 hc hb (h.2.2.1.chg hc (by omega))
theorem RollsMid.ref {w0 w w' : World} {g : Nat} {s r s' r2 : St} {c : Value} (h : RollsMid w0 g s r s' c w) (hg : w0.heap.size ≤ g) (hc : Chg (· = g + 1) w w') (hb : Blk w' (g + 1) 44 r2.rcells) : RollsMid w0 g s r2 s' c w' :=
  h.chg (fun b e => .inr e) hg h.1.1 hc (h.2.1.chg hc (by omega)) hb
theorem RollsMid.call {w0 w w' : World} {g : Nat} {s r s' : St} {c : Value} (h : RollsMid w0 g s r s' c w) (hg : w0.heap.size ≤ g) (hb : Below w.heap.size w w') : RollsMid w0 g s r s' c w' :=
  h.chg (S := fun _ => False) (fun b e => e.elim) hg h.1.1 (.of hb) (h.2.1.call hb) (h.2.2.1.call hb)
theorem RollsMid.clone {w0 w w' : World} {g : Nat} {s r s' : St} {c : Value} {h : Nat} (hm : RollsMid w0 g s r s' c w) (hg : w0.heap.size ≤ g) (hc : Chg (· = g + 1 + 1) w w') (hk : Blk w' (g + 1 + 1) 44 s.rcells) (hh : Blk w' h 57 s.cells) (hgh : g + 1 + 1 < h) :
    RollsMid w0 g s r s (.pointer (some ⟨h, 0, none⟩)) w' := by
  obtain ⟨h1, k1, k2, k3, k4, k5⟩ := hm
  exact ⟨⟨h1.1, h1.1⟩, k1.chg hc (by omega), k2.chg hc (by omega), hk, hc.below k4 k4.size (fun b e => by omega), .inr ⟨h, rfl, hh, hgh⟩⟩
theorem RollsMid.W {w0 w : World} {g : Nat} {s r s' : St} {c : Value} (h : RollsMid w0 g s r s' c w) : Blk w g 57 s.cells := h.2.1
theorem RollsMid.X {w0 w : World} {g : Nat} {s r s' : St} {c : Value} (h : RollsMid w0 g s r s' c w) : Blk w (g + 1) 44 r.rcells := h.2.2.1
theorem RollsMid.B {w0 w : World} {g : Nat} {s r s' : St} {c : Value} (h : RollsMid w0 g s r s' c w) : Below w0.heap.size w0 w := h.2.2.2.2.1
theorem calls_bwn {P : Program} {f : FuncId} {args : Array Value} {w : World} {v : Value} {x : BW w}
    (h : Calls P f args x.val fun e w' => e = .returned v ∧ ∃ n, w' = x.val.drewN n) : Calls P f args x.val fun e w'' => e = .returned v ∧ ∃ y : BW w, w'' = y.val :=
  calls_bw (h.mono fun _ _ ⟨he, n, hw⟩ => ⟨he, by rw [hw]; exact Q.drewN (Below.refl _ _) n⟩)
theorem eql_ref (W : World) (s t : St) (hs : s.ok) (ht : t.ok) :
    (binOp .eql 44 (.agg #[.int .i64 s.X, .int .i64 s.Y, .int .i64 s.k, .int .u8 s.v]) (.agg #[.int .i64 t.X, .int .i64 t.Y, .int .i64 t.k, .int .u8 t.v])).run Try.prog W = .ok (.bool (s.eqB t)) W := by
  by_cases h : s = t
  · subst h
    rw [(St.eqB_iff hs hs).2 rfl]
    go_simp
  · rw [show s.eqB t = false by rw [← Bool.not_eq_true]; exact fun he => h ((St.eqB_iff hs ht).1 he)]
    have hne : ¬ (s.X = t.X ∧ s.Y = t.Y ∧ s.k = t.k ∧ s.v = t.v) := fun ⟨a, b, c, d⟩ => h (by cases s; cases t; simp_all)
    generalize h1 : (s.X == t.X) = c1
    generalize h2 : (s.Y == t.Y) = c2
    generalize h3 : ((s.k : Int) == (t.k : Int)) = c3
    generalize h4 : (s.v == t.v) = c4
    have hc : (c1 && c2 && c3 && c4) = false := by
      rw [← Bool.not_eq_true]
      intro hh
      simp only [Bool.and_eq_true] at hh
      obtain ⟨⟨⟨e1, e2⟩, e3⟩, e4⟩ := hh
      subst e1 e2 e3 e4
      refine hne ⟨by simpa using h1, by simpa using h2, ?_, by simpa using h4⟩
      have := beq_iff_eq.1 h3
      omega
    cases c1 <;> cases c2 <;> cases c3 <;> cases c4 <;> first | (exfalso; revert hc; decide) | (go_simp; try simp [h1, h2, h3, h4])
theorem cell_of {w W : World} {B b o : Nat} {v : Option Value} (hB : Below B w W) (hb : b < B) (c : w.cell? ⟨b, o, none⟩ = v) : W.cell? ⟨b, o, none⟩ = v := (hB.cell (p := ⟨b, o, none⟩) hb).trans c
theorem St.eqB_self {s : St} (hs : s.ok) : s.eqB s = true := (St.eqB_iff hs hs).2 rfl

set_option maxRecDepth 100000 in
set_option maxHeartbeats 6400000 in
theorem wheelRolls_walk (a : Option Addr) (len cap : Nat) (ops : List WOp) (n : Int) (w : World) (hlen : len ≤ maxLen) (hr : ReadsW w w.heap.size a len ops) :
    Calls Try.prog 5 #[.slice a len cap, .int .i64 n] w fun e w' => e = .returned (.bool true) ∧ Below w.heap.size w w' := by
  have HR := Lib.hid hr
  have hl63 : (len : Int) ≤ 9223372036854775807 := by unfold maxLen at hlen; omega
  clear hr hlen
  by_cases hok : len ≤ 200
  · go_enter Try.func5, Try.ntmps5
    go_wp2_with fail
    (with_reducible refine (newS_calls _).mono ?_)
    rintro e w1 ⟨rfl, hw1⟩
    have g1 : Blk w1 w.heap.size 57 St.init.cells := by rw [hw1]; exact Blk.new _ _ _
    have s1 : w1.heap.size = w.heap.size + 1 := by rw [hw1]; simp
    have b1 : Below w.heap.size w w1 := by rw [hw1]; exact Q.alloc (Below.refl _ _) _
    have S1 := Lib.hid s1
    clear hw1 s1
    go_wp2_with fail
    have hm : RollsMid w w.heap.size St.init St.init St.init (.pointer none) ((w1.alloc (.cells #[.int .i64 0, .int .i64 0, .int .i64 0, .int .u8 0] 44)).alloc (.cells #[.int .i64 0, .int .i64 0, .int .i64 0, .int .u8 0] 44)) :=
      ⟨⟨St.ok_init, St.ok_init⟩, (g1.alloc _).alloc _, (Blk.new' S1.out.symm).alloc _, Blk.new' (by simp [S1.out]), Q.alloc (Q.alloc b1 _) _, .inl rfl⟩
    generalize hW2 : (w1.alloc (.cells #[.int .i64 0, .int .i64 0, .int .i64 0, .int .u8 0] 44)).alloc (.cells #[.int .i64 0, .int .i64 0, .int .i64 0, .int .u8 0] 44) = W2 at hm ⊢
    have e1 := S1.out
    rw [e1]
    clear g1 b1 hW2 e1 S1
    go_loopw [8, 9, 10, 11, 12, 13] (fun c v _ _ _ _ wr => ∃ (k : Nat) (s s' : St), v = .int .i64 (k : Int) ∧ k ≤ len ∧ RollsMid w w.heap.size s s s' c wr)
      (fun _ v _ _ _ _ _ => len - (intOf v).toNat)
    case atStart => exact ⟨0, St.init, St.init, rfl, Nat.zero_le _, hm⟩
    case round =>
      clear hm
      obtain ⟨k, s, s', rfl, hk, hm⟩ := hrel
      by_cases hkn : k < len
      · obtain ⟨b, off, o, rfl, hbl, hget, C0, C1, C2, C3, C4⟩ := HR.out.at_ hkn
        have hki : (k : Int) < (len : Int) := by omega
        have hk0 : (0 : Int) ≤ (k : Int) := by omega
        obtain ⟨r, v, t⟩ := o
        simp only at C0 C1 C2 C3 C4
        clear hget
        have HC0 := Lib.hid C0
        have HC1 := Lib.hid C1
        have HC2 := Lib.hid C2
        clear C0 C1 C2
        by_cases hat : (k : Int) = n
        · have hd : ((k : Int) == n) = true := beq_iff_eq.2 hat
          clear hat
          have hmg := hm.2.1
          have hs := hm.1.1
          have hmk := hm.2.2.2.1
          have hgl := hmk.lt
          go_wp2_with fail
          (with_reducible refine (cloneS_calls _ _ s hmg).mono ?_)
          rintro e w3 ⟨rfl, hw3⟩
          have hh3 : Blk w3 wr.heap.size 57 s.cells := by rw [hw3]; exact Blk.new _ _ _
          have hm3 := hm.call (Nat.le_refl _) (show Below wr.heap.size wr w3 by rw [hw3]; exact Q.alloc (Below.refl _ _) _)
          have hwh : w.heap.size + 1 + 1 < wr.heap.size := hgl
          have x0 := hm3.2.2.1.cell 0
          have x1 := hm3.2.2.1.cell 1
          have x2 := hm3.2.2.1.cell 2
          have x3 := hm3.2.2.1.cell 3
          have y0 := hm3.2.2.2.1.cell 0
          have y1 := hm3.2.2.2.1.cell 1
          have y2 := hm3.2.2.2.1.cell 2
          have y3 := hm3.2.2.2.1.cell 3
          have z0 := hm3.2.2.2.1.frozen 0
          have z1 := hm3.2.2.2.1.frozen 1
          have z2 := hm3.2.2.2.1.frozen 2
          have z3 := hm3.2.2.2.1.frozen 3
          have HM := Lib.hid hm3
          have HH := Lib.hid hh3
          clear hw3 hm hmg hmk hm3 hh3
          unfold St.rcells rcs at x0 x1 x2 x3 y0 y1 y2 y3
          go_wp2_with fail
          have K3 := HM.out.2.2.2.1
          rw [K3.setCell, K3.setCell_setRow, K3.setCell_setRow, K3.setCell_setRow]
          have hm4 := HM.out.clone (Nat.le_refl _) (Chg.setRow w3 _ _) (K3.setRow s.rcells) (HH.out.other (Nat.ne_of_gt hwh) _) hwh
          rw [show (((((s'.rcells).setIfInBounds 0 (.int .i64 s.X)).setIfInBounds 1 (.int .i64 s.Y)).setIfInBounds 2 (.int .i64 s.k)).setIfInBounds 3 (.int .u8 s.v)) = s.rcells from rfl]
          generalize w3.setRow (w.heap.size + 1 + 1) s.rcells = w4 at hm4 ⊢
          have hh4 : Blk w4 wr.heap.size 57 s.cells := by
            obtain ⟨-, -, -, -, -, h | ⟨h, e, k, -⟩⟩ := hm4
            · cases h
            · cases e
              exact k
          clear HM HH K3 x0 x1 x2 x3 y0 y1 y2 y3 z0 z1 z2 z3
          generalize wr.heap.size = h at *
          have SC := same_calls w4 h w.heap.size s s hs hs hh4 hm4.2.1
          rw [St.eqB_self hs] at SC
          (with_reducible refine SC.mono ?_)
          rintro e w5 ⟨rfl, n5, hn5⟩
          have hm5 := hm4.call (Nat.le_refl _) (show Below w4.heap.size w4 w5 by rw [hn5]; exact Q.drewN (Below.refl _ _) _)
          clear SC hh4 hm4 hn5
          have hm := hm5
          clear hm5
          generalize w5 = wr at *
          have hs := hm.1.1
          rcases (by omega : r < 0 ∨ 2 < r ∨ (¬ r < 0 ∧ ¬ 2 < r ∧ t ≠ 0) ∨ (¬ r < 0 ∧ ¬ 2 < r ∧ t = 0 ∧ r ≠ 0) ∨ (r = 0 ∧ t = 0)) with hk | hk | hk | hk | hk
          · have hP : s.put r v t = s ∧ ruleOf r t = 0 ∧ errOf r t = 10 ∧ readErr r = 10 ∧ s.byteOf r = 0 := ⟨if_neg (by omega), if_pos (by omega), if_pos (by omega), if_pos (by omega), by unfold St.byteOf; rw [if_neg (by omega), if_neg (by omega), if_neg (by omega)]⟩
            obtain ⟨P1, P2, P3, P4, P5⟩ := hP
            have C := fun V h => write_calls V w.heap.size s r v t hs ⟨C3, C4⟩ h
            rw [P1, P2, P3] at C
            have hso : s.ok := P1 ▸ St.ok_put hs r t ⟨C3, C4⟩
            have hbw := hm.2.2.2.2.1
            have c0 := cell_of hbw hbl HC0.out
            have c1 := cell_of hbw hbl HC1.out
            have c2 := cell_of hbw hbl HC2.out
            have bsz := Nat.lt_of_lt_of_le hbl hbw.size
            have HM := Lib.hid hm
            have HO := Lib.hid hso
            have HP4 := Lib.hid P4
            have HP5 := Lib.hid P5
            clear hm P1 P2 P3 P4 P5 hbw hso
            go_wp2_with fail
            go_region_with ((go_at_call 12; (with_reducible refine (C _ (by repeat' (first | exact HM.out.W | with_reducible refine Blk.drew ?_ | with_reducible refine Blk.drewN ?_ _))).mono ?_); rintro e w5 ⟨rfl, hg5, hc5⟩))
            all_goals
              have hm5 := (HM.out.call (Nat.le_refl _) (Q.drew (Below.refl _ _))).write (Nat.le_refl _) HO.out hc5 hg5
              have hb5 := hm5.2.2.2.2.1
              have R := readS_calls w5 w.heap.size s r HO.out hg5
              rw [HP4.out, HP5.out] at R
              clear c0 c1 c2 bsz hc5 hg5
              have c0 := cell_of hb5 hbl HC0.out
              have c1 := cell_of hb5 hbl HC1.out
              have c2 := cell_of hb5 hbl HC2.out
              have HM5 := Lib.hid hm5
              clear hm5
              go_wp2_with fail
              (with_reducible refine R.mono ?_)
              rintro e w6 ⟨rfl, hb6⟩
              have hm6 := HM5.out.call (Nat.le_refl _) hb6
              have hb5' := hm6.2.2.2.2.1
              clear c0 c1 c2 R hb5
              have c0 := cell_of hb5' hbl HC0.out
              have c1 := cell_of hb5' hbl HC1.out
              have c2 := cell_of hb5' hbl HC2.out
              have bsz := Nat.lt_of_lt_of_le hbl hb5'.size
              have hm7 := hm6.call (Nat.le_refl _) (Q.alloc (Below.refl _ _) (.cells #[.int .u8 0, .int .u8 0] 37))
              have HM7 := Lib.hid hm7
              clear hm6 hm7 hb5' HM5 hb6
              go_wp2_with fail
              have HM8 := HM7
              (with_reducible refine (alike_calls _ w.heap.size (w.heap.size + 1) s HO.out HM8.out.W HM8.out.X).mono ?_)
              rintro e w9 ⟨rfl, hb9⟩
              have hm9 := HM8.out.call (Nat.le_refl _) hb9
              go_wp2
              refine ⟨⟨k + 1, _, _, by simp, by omega, hm9⟩, by simp [intOf]; omega⟩
          · have hk' : ¬ r < 0 := by omega
            have hP : s.put r v t = s ∧ ruleOf r t = 0 ∧ errOf r t = 10 ∧ readErr r = 10 ∧ s.byteOf r = 0 := ⟨if_neg (by omega), if_pos (by omega), if_pos (by omega), if_pos (by omega), by unfold St.byteOf; rw [if_neg (by omega), if_neg (by omega), if_neg (by omega)]⟩
            obtain ⟨P1, P2, P3, P4, P5⟩ := hP
            have C := fun V h => write_calls V w.heap.size s r v t hs ⟨C3, C4⟩ h
            rw [P1, P2, P3] at C
            have hso : s.ok := P1 ▸ St.ok_put hs r t ⟨C3, C4⟩
            have hbw := hm.2.2.2.2.1
            have c0 := cell_of hbw hbl HC0.out
            have c1 := cell_of hbw hbl HC1.out
            have c2 := cell_of hbw hbl HC2.out
            have bsz := Nat.lt_of_lt_of_le hbl hbw.size
            have HM := Lib.hid hm
            have HO := Lib.hid hso
            have HP4 := Lib.hid P4
            have HP5 := Lib.hid P5
            clear hm P1 P2 P3 P4 P5 hbw hso
            go_wp2_with fail
            go_region_with ((go_at_call 12; (with_reducible refine (C _ (by repeat' (first | exact HM.out.W | with_reducible refine Blk.drew ?_ | with_reducible refine Blk.drewN ?_ _))).mono ?_); rintro e w5 ⟨rfl, hg5, hc5⟩))
            all_goals
              have hm5 := (HM.out.call (Nat.le_refl _) (Q.drew (Below.refl _ _))).write (Nat.le_refl _) HO.out hc5 hg5
              have hb5 := hm5.2.2.2.2.1
              have R := readS_calls w5 w.heap.size s r HO.out hg5
              rw [HP4.out, HP5.out] at R
              clear c0 c1 c2 bsz hc5 hg5
              have c0 := cell_of hb5 hbl HC0.out
              have c1 := cell_of hb5 hbl HC1.out
              have c2 := cell_of hb5 hbl HC2.out
              have HM5 := Lib.hid hm5
              clear hm5
              go_wp2_with fail
              (with_reducible refine R.mono ?_)
              rintro e w6 ⟨rfl, hb6⟩
              have hm6 := HM5.out.call (Nat.le_refl _) hb6
              have hb5' := hm6.2.2.2.2.1
              clear c0 c1 c2 R hb5
              have c0 := cell_of hb5' hbl HC0.out
              have c1 := cell_of hb5' hbl HC1.out
              have c2 := cell_of hb5' hbl HC2.out
              have bsz := Nat.lt_of_lt_of_le hbl hb5'.size
              have hm7 := hm6.call (Nat.le_refl _) (Q.alloc (Below.refl _ _) (.cells #[.int .u8 0, .int .u8 0] 37))
              have HM7 := Lib.hid hm7
              clear hm6 hm7 hb5' HM5 hb6
              go_wp2_with fail
              have HM8 := HM7
              (with_reducible refine (alike_calls _ w.heap.size (w.heap.size + 1) s HO.out HM8.out.W HM8.out.X).mono ?_)
              rintro e w9 ⟨rfl, hb9⟩
              have hm9 := HM8.out.call (Nat.le_refl _) hb9
              go_wp2
              refine ⟨⟨k + 1, _, _, by simp, by omega, hm9⟩, by simp [intOf]; omega⟩
          · obtain ⟨hk1, hk2, hk3⟩ := hk
            have e1 : (t == 0) = false := beq_eq_false_iff_ne.2 hk3
            have e2 : (t != 0) = true := by simp [bne, e1]
            have hP : s.put r v t = s ∧ ruleOf r t = 4 ∧ errOf r t = 20 ∧ readErr r = 0 ∧ s.byteOf r = s.byteOf r := ⟨if_neg (fun h => hk3 h.2), by unfold ruleOf; rw [if_neg (by omega), if_neg hk3], by unfold errOf; rw [if_neg (by omega), if_neg hk3], if_neg (by omega), rfl⟩
            clear hk3
            obtain ⟨P1, P2, P3, P4, P5⟩ := hP
            have C := fun V h => write_calls V w.heap.size s r v t hs ⟨C3, C4⟩ h
            rw [P1, P2, P3] at C
            have hso : s.ok := P1 ▸ St.ok_put hs r t ⟨C3, C4⟩
            have hbw := hm.2.2.2.2.1
            have c0 := cell_of hbw hbl HC0.out
            have c1 := cell_of hbw hbl HC1.out
            have c2 := cell_of hbw hbl HC2.out
            have bsz := Nat.lt_of_lt_of_le hbl hbw.size
            have HM := Lib.hid hm
            have HO := Lib.hid hso
            have HP4 := Lib.hid P4
            have HP5 := Lib.hid P5
            clear hm P1 P2 P3 P4 P5 hbw hso
            go_wp2_with fail
            go_region_with ((go_at_call 12; (with_reducible refine (C _ (by repeat' (first | exact HM.out.W | with_reducible refine Blk.drew ?_ | with_reducible refine Blk.drewN ?_ _))).mono ?_); rintro e w5 ⟨rfl, hg5, hc5⟩))
            all_goals
              have hm5 := (HM.out.call (Nat.le_refl _) (Q.drew (Below.refl _ _))).write (Nat.le_refl _) HO.out hc5 hg5
              have hb5 := hm5.2.2.2.2.1
              have R := readS_calls w5 w.heap.size s r HO.out hg5
              rw [HP4.out] at R
              clear c0 c1 c2 bsz hc5 hg5
              have c0 := cell_of hb5 hbl HC0.out
              have c1 := cell_of hb5 hbl HC1.out
              have c2 := cell_of hb5 hbl HC2.out
              have HM5 := Lib.hid hm5
              clear hm5
              go_wp2_with fail
              (with_reducible refine R.mono ?_)
              rintro e w6 ⟨rfl, hb6⟩
              have hm6 := HM5.out.call (Nat.le_refl _) hb6
              have hb5' := hm6.2.2.2.2.1
              clear c0 c1 c2 R hb5
              have c0 := cell_of hb5' hbl HC0.out
              have c1 := cell_of hb5' hbl HC1.out
              have c2 := cell_of hb5' hbl HC2.out
              have bsz := Nat.lt_of_lt_of_le hbl hb5'.size
              have hm7 := hm6.call (Nat.le_refl _) (Q.alloc (Below.refl _ _) (.cells #[.int .u8 (s.byteOf r), .int .u8 0] 37))
              have HM7 := Lib.hid hm7
              clear hm6 hm7 hb5' HM5 hb6
              go_wp2_with fail
              have HM8 := HM7
              (with_reducible refine (alike_calls _ w.heap.size (w.heap.size + 1) s HO.out HM8.out.W HM8.out.X).mono ?_)
              rintro e w9 ⟨rfl, hb9⟩
              have hm9 := HM8.out.call (Nat.le_refl _) hb9
              go_wp2
              refine ⟨⟨k + 1, _, _, by simp, by omega, hm9⟩, by simp [intOf]; omega⟩
          · obtain ⟨hk1, hk2, rfl, hk3⟩ := hk
            have e1 : (r == 0) = false := beq_eq_false_iff_ne.2 hk3
            have hP : s.put r v 0 = s ∧ ruleOf r 0 = 0 ∧ errOf r 0 = 0 ∧ readErr r = 0 ∧ s.byteOf r = s.byteOf r := ⟨if_neg (fun h => hk3 h.1), by unfold ruleOf; rw [if_neg (by omega), if_pos rfl], by unfold errOf; rw [if_neg (by omega), if_pos rfl], if_neg (by omega), rfl⟩
            clear hk3
            obtain ⟨P1, P2, P3, P4, P5⟩ := hP
            have C := fun V h => write_calls V w.heap.size s r v 0 hs ⟨C3, C4⟩ h
            rw [P1, P2, P3] at C
            have hso : s.ok := P1 ▸ St.ok_put hs r 0 ⟨C3, C4⟩
            have hbw := hm.2.2.2.2.1
            have c0 := cell_of hbw hbl HC0.out
            have c1 := cell_of hbw hbl HC1.out
            have c2 := cell_of hbw hbl HC2.out
            have bsz := Nat.lt_of_lt_of_le hbl hbw.size
            have HM := Lib.hid hm
            have HO := Lib.hid hso
            have HP4 := Lib.hid P4
            have HP5 := Lib.hid P5
            clear hm P1 P2 P3 P4 P5 hbw hso
            go_wp2_with fail
            go_region_with ((go_at_call 12; (with_reducible refine (C _ (by repeat' (first | exact HM.out.W | with_reducible refine Blk.drew ?_ | with_reducible refine Blk.drewN ?_ _))).mono ?_); rintro e w5 ⟨rfl, hg5, hc5⟩))
            all_goals
              have hm5 := (HM.out.call (Nat.le_refl _) (Q.drew (Below.refl _ _))).write (Nat.le_refl _) HO.out hc5 hg5
              have hb5 := hm5.2.2.2.2.1
              have R := readS_calls w5 w.heap.size s r HO.out hg5
              rw [HP4.out] at R
              clear c0 c1 c2 bsz hc5 hg5
              have c0 := cell_of hb5 hbl HC0.out
              have c1 := cell_of hb5 hbl HC1.out
              have c2 := cell_of hb5 hbl HC2.out
              have HM5 := Lib.hid hm5
              clear hm5
              go_wp2_with fail
              (with_reducible refine R.mono ?_)
              rintro e w6 ⟨rfl, hb6⟩
              have hm6 := HM5.out.call (Nat.le_refl _) hb6
              have hb5' := hm6.2.2.2.2.1
              clear c0 c1 c2 R hb5
              have c0 := cell_of hb5' hbl HC0.out
              have c1 := cell_of hb5' hbl HC1.out
              have c2 := cell_of hb5' hbl HC2.out
              have bsz := Nat.lt_of_lt_of_le hbl hb5'.size
              have hm7 := hm6.call (Nat.le_refl _) (Q.alloc (Below.refl _ _) (.cells #[.int .u8 (s.byteOf r), .int .u8 0] 37))
              have HM7 := Lib.hid hm7
              clear hm6 hm7 hb5' HM5 hb6
              go_wp2_with fail
              have HM8 := HM7
              (with_reducible refine (alike_calls _ w.heap.size (w.heap.size + 1) s HO.out HM8.out.W HM8.out.X).mono ?_)
              rintro e w9 ⟨rfl, hb9⟩
              have hm9 := HM8.out.call (Nat.le_refl _) hb9
              go_wp2
              refine ⟨⟨k + 1, _, _, by simp, by omega, hm9⟩, by simp [intOf]; omega⟩
          · obtain ⟨rfl, rfl⟩ := hk
            have hP : s.put 0 v 0 = s.roll v ∧ ruleOf 0 0 = 0 ∧ errOf 0 0 = 0 ∧ readErr 0 = 0 ∧ (s.roll v).byteOf 0 = v := ⟨if_pos ⟨rfl, rfl⟩, rfl, rfl, rfl, rfl⟩
            obtain ⟨P1, P2, P3, P4, P5⟩ := hP
            have C := fun V h => write_calls V w.heap.size s 0 v 0 hs ⟨C3, C4⟩ h
            rw [P1, P2, P3] at C
            have hso : (s.roll v).ok := P1 ▸ St.ok_put hs 0 0 ⟨C3, C4⟩
            have hbw := hm.2.2.2.2.1
            have c0 := cell_of hbw hbl HC0.out
            have c1 := cell_of hbw hbl HC1.out
            have c2 := cell_of hbw hbl HC2.out
            have bsz := Nat.lt_of_lt_of_le hbl hbw.size
            have HM := Lib.hid hm
            have HO := Lib.hid hso
            have HP4 := Lib.hid P4
            have HP5 := Lib.hid P5
            clear hm P1 P2 P3 P4 P5 hbw hso
            go_wp2_with fail
            go_region_with ((go_at_call 12; (with_reducible refine (C _ (by repeat' (first | exact HM.out.W | with_reducible refine Blk.drew ?_ | with_reducible refine Blk.drewN ?_ _))).mono ?_); rintro e w5 ⟨rfl, hg5, hc5⟩))
            all_goals
              have hm5 := (HM.out.call (Nat.le_refl _) (Q.drew (Below.refl _ _))).write (Nat.le_refl _) HO.out hc5 hg5
              have hb5 := hm5.2.2.2.2.1
              have R := readS_calls w5 w.heap.size (s.roll v) 0 HO.out hg5
              rw [HP4.out, HP5.out] at R
              clear c0 c1 c2 bsz hc5 hg5
              have c0 := cell_of hb5 hbl HC0.out
              have c1 := cell_of hb5 hbl HC1.out
              have c2 := cell_of hb5 hbl HC2.out
              have HM5 := Lib.hid hm5
              clear hm5
              go_wp2_with fail
              (with_reducible refine R.mono ?_)
              rintro e w6 ⟨rfl, hb6⟩
              have hm6 := HM5.out.call (Nat.le_refl _) hb6
              have hb5' := hm6.2.2.2.2.1
              clear c0 c1 c2 R hb5
              have c0 := cell_of hb5' hbl HC0.out
              have c1 := cell_of hb5' hbl HC1.out
              have c2 := cell_of hb5' hbl HC2.out
              have bsz := Nat.lt_of_lt_of_le hbl hb5'.size
              have hm7 := hm6.call (Nat.le_refl _) (Q.alloc (Below.refl _ _) (.cells #[.int .u8 v, .int .u8 0] 37))
              have HM7 := Lib.hid hm7
              clear hm6 hm7 hb5' HM5 hb6
              go_wp2_with fail
              (with_reducible refine (refWrite_calls _ (w.heap.size + 1) s v hs ⟨C3, C4⟩ HM7.out.X).mono ?_)
              rintro e w7 ⟨rfl, hx7, hc7⟩
              have hm8 := HM7.out.ref (Nat.le_refl _) hc7 hx7
              have HM8 := Lib.hid hm8
              clear hx7 hc7 hm8 c0 c1 c2
              go_wp2_with fail
              (with_reducible refine (alike_calls _ w.heap.size (w.heap.size + 1) (s.roll v) HO.out HM8.out.W HM8.out.X).mono ?_)
              rintro e w9 ⟨rfl, hb9⟩
              have hm9 := HM8.out.call (Nat.le_refl _) hb9
              go_wp2
              refine ⟨⟨k + 1, _, _, by simp, by omega, hm9⟩, by simp [intOf]; omega⟩
        · have hd : ((k : Int) == n) = false := beq_eq_false_iff_ne.2 hat
          clear hat
          have hs := hm.1.1
          rcases (by omega : r < 0 ∨ 2 < r ∨ (¬ r < 0 ∧ ¬ 2 < r ∧ t ≠ 0) ∨ (¬ r < 0 ∧ ¬ 2 < r ∧ t = 0 ∧ r ≠ 0) ∨ (r = 0 ∧ t = 0)) with hk | hk | hk | hk | hk
          · have hP : s.put r v t = s ∧ ruleOf r t = 0 ∧ errOf r t = 10 ∧ readErr r = 10 ∧ s.byteOf r = 0 := ⟨if_neg (by omega), if_pos (by omega), if_pos (by omega), if_pos (by omega), by unfold St.byteOf; rw [if_neg (by omega), if_neg (by omega), if_neg (by omega)]⟩
            obtain ⟨P1, P2, P3, P4, P5⟩ := hP
            have C := fun V h => write_calls V w.heap.size s r v t hs ⟨C3, C4⟩ h
            rw [P1, P2, P3] at C
            have hso : s.ok := P1 ▸ St.ok_put hs r t ⟨C3, C4⟩
            have hbw := hm.2.2.2.2.1
            have c0 := cell_of hbw hbl HC0.out
            have c1 := cell_of hbw hbl HC1.out
            have c2 := cell_of hbw hbl HC2.out
            have bsz := Nat.lt_of_lt_of_le hbl hbw.size
            have HM := Lib.hid hm
            have HO := Lib.hid hso
            have HP4 := Lib.hid P4
            have HP5 := Lib.hid P5
            clear hm P1 P2 P3 P4 P5 hbw hso
            go_wp2_with fail
            go_region_with ((go_at_call 12; (with_reducible refine (C _ (by repeat' (first | exact HM.out.W | with_reducible refine Blk.drew ?_ | with_reducible refine Blk.drewN ?_ _))).mono ?_); rintro e w5 ⟨rfl, hg5, hc5⟩))
            all_goals
              have hm5 := (HM.out.call (Nat.le_refl _) (Q.drew (Below.refl _ _))).write (Nat.le_refl _) HO.out hc5 hg5
              have hb5 := hm5.2.2.2.2.1
              have R := readS_calls w5 w.heap.size s r HO.out hg5
              rw [HP4.out, HP5.out] at R
              clear c0 c1 c2 bsz hc5 hg5
              have c0 := cell_of hb5 hbl HC0.out
              have c1 := cell_of hb5 hbl HC1.out
              have c2 := cell_of hb5 hbl HC2.out
              have HM5 := Lib.hid hm5
              clear hm5
              go_wp2_with fail
              (with_reducible refine R.mono ?_)
              rintro e w6 ⟨rfl, hb6⟩
              have hm6 := HM5.out.call (Nat.le_refl _) hb6
              have hb5' := hm6.2.2.2.2.1
              clear c0 c1 c2 R hb5
              have c0 := cell_of hb5' hbl HC0.out
              have c1 := cell_of hb5' hbl HC1.out
              have c2 := cell_of hb5' hbl HC2.out
              have bsz := Nat.lt_of_lt_of_le hbl hb5'.size
              have hm7 := hm6.call (Nat.le_refl _) (Q.alloc (Below.refl _ _) (.cells #[.int .u8 0, .int .u8 0] 37))
              have HM7 := Lib.hid hm7
              clear hm6 hm7 hb5' HM5 hb6
              go_wp2_with fail
              have HM8 := HM7
              (with_reducible refine (alike_calls _ w.heap.size (w.heap.size + 1) s HO.out HM8.out.W HM8.out.X).mono ?_)
              rintro e w9 ⟨rfl, hb9⟩
              have hm9 := HM8.out.call (Nat.le_refl _) hb9
              go_wp2
              refine ⟨⟨k + 1, _, _, by simp, by omega, hm9⟩, by simp [intOf]; omega⟩
          · have hk' : ¬ r < 0 := by omega
            have hP : s.put r v t = s ∧ ruleOf r t = 0 ∧ errOf r t = 10 ∧ readErr r = 10 ∧ s.byteOf r = 0 := ⟨if_neg (by omega), if_pos (by omega), if_pos (by omega), if_pos (by omega), by unfold St.byteOf; rw [if_neg (by omega), if_neg (by omega), if_neg (by omega)]⟩
            obtain ⟨P1, P2, P3, P4, P5⟩ := hP
            have C := fun V h => write_calls V w.heap.size s r v t hs ⟨C3, C4⟩ h
            rw [P1, P2, P3] at C
            have hso : s.ok := P1 ▸ St.ok_put hs r t ⟨C3, C4⟩
            have hbw := hm.2.2.2.2.1
            have c0 := cell_of hbw hbl HC0.out
            have c1 := cell_of hbw hbl HC1.out
            have c2 := cell_of hbw hbl HC2.out
            have bsz := Nat.lt_of_lt_of_le hbl hbw.size
            have HM := Lib.hid hm
            have HO := Lib.hid hso
            have HP4 := Lib.hid P4
            have HP5 := Lib.hid P5
            clear hm P1 P2 P3 P4 P5 hbw hso
            go_wp2_with fail
            go_region_with ((go_at_call 12; (with_reducible refine (C _ (by repeat' (first | exact HM.out.W | with_reducible refine Blk.drew ?_ | with_reducible refine Blk.drewN ?_ _))).mono ?_); rintro e w5 ⟨rfl, hg5, hc5⟩))
            all_goals
              have hm5 := (HM.out.call (Nat.le_refl _) (Q.drew (Below.refl _ _))).write (Nat.le_refl _) HO.out hc5 hg5
              have hb5 := hm5.2.2.2.2.1
              have R := readS_calls w5 w.heap.size s r HO.out hg5
              rw [HP4.out, HP5.out] at R
              clear c0 c1 c2 bsz hc5 hg5
              have c0 := cell_of hb5 hbl HC0.out
              have c1 := cell_of hb5 hbl HC1.out
              have c2 := cell_of hb5 hbl HC2.out
              have HM5 := Lib.hid hm5
              clear hm5
              go_wp2_with fail
              (with_reducible refine R.mono ?_)
              rintro e w6 ⟨rfl, hb6⟩
              have hm6 := HM5.out.call (Nat.le_refl _) hb6
              have hb5' := hm6.2.2.2.2.1
              clear c0 c1 c2 R hb5
              have c0 := cell_of hb5' hbl HC0.out
              have c1 := cell_of hb5' hbl HC1.out
              have c2 := cell_of hb5' hbl HC2.out
              have bsz := Nat.lt_of_lt_of_le hbl hb5'.size
              have hm7 := hm6.call (Nat.le_refl _) (Q.alloc (Below.refl _ _) (.cells #[.int .u8 0, .int .u8 0] 37))
              have HM7 := Lib.hid hm7
              clear hm6 hm7 hb5' HM5 hb6
              go_wp2_with fail
              have HM8 := HM7
              (with_reducible refine (alike_calls _ w.heap.size (w.heap.size + 1) s HO.out HM8.out.W HM8.out.X).mono ?_)
              rintro e w9 ⟨rfl, hb9⟩
              have hm9 := HM8.out.call (Nat.le_refl _) hb9
              go_wp2
              refine ⟨⟨k + 1, _, _, by simp, by omega, hm9⟩, by simp [intOf]; omega⟩
          · obtain ⟨hk1, hk2, hk3⟩ := hk
            have e1 : (t == 0) = false := beq_eq_false_iff_ne.2 hk3
            have e2 : (t != 0) = true := by simp [bne, e1]
            have hP : s.put r v t = s ∧ ruleOf r t = 4 ∧ errOf r t = 20 ∧ readErr r = 0 ∧ s.byteOf r = s.byteOf r := ⟨if_neg (fun h => hk3 h.2), by unfold ruleOf; rw [if_neg (by omega), if_neg hk3], by unfold errOf; rw [if_neg (by omega), if_neg hk3], if_neg (by omega), rfl⟩
            clear hk3
            obtain ⟨P1, P2, P3, P4, P5⟩ := hP
            have C := fun V h => write_calls V w.heap.size s r v t hs ⟨C3, C4⟩ h
            rw [P1, P2, P3] at C
            have hso : s.ok := P1 ▸ St.ok_put hs r t ⟨C3, C4⟩
            have hbw := hm.2.2.2.2.1
            have c0 := cell_of hbw hbl HC0.out
            have c1 := cell_of hbw hbl HC1.out
            have c2 := cell_of hbw hbl HC2.out
            have bsz := Nat.lt_of_lt_of_le hbl hbw.size
            have HM := Lib.hid hm
            have HO := Lib.hid hso
            have HP4 := Lib.hid P4
            have HP5 := Lib.hid P5
            clear hm P1 P2 P3 P4 P5 hbw hso
            go_wp2_with fail
            go_region_with ((go_at_call 12; (with_reducible refine (C _ (by repeat' (first | exact HM.out.W | with_reducible refine Blk.drew ?_ | with_reducible refine Blk.drewN ?_ _))).mono ?_); rintro e w5 ⟨rfl, hg5, hc5⟩))
            all_goals
              have hm5 := (HM.out.call (Nat.le_refl _) (Q.drew (Below.refl _ _))).write (Nat.le_refl _) HO.out hc5 hg5
              have hb5 := hm5.2.2.2.2.1
              have R := readS_calls w5 w.heap.size s r HO.out hg5
              rw [HP4.out] at R
              clear c0 c1 c2 bsz hc5 hg5
              have c0 := cell_of hb5 hbl HC0.out
              have c1 := cell_of hb5 hbl HC1.out
              have c2 := cell_of hb5 hbl HC2.out
              have HM5 := Lib.hid hm5
              clear hm5
              go_wp2_with fail
              (with_reducible refine R.mono ?_)
              rintro e w6 ⟨rfl, hb6⟩
              have hm6 := HM5.out.call (Nat.le_refl _) hb6
              have hb5' := hm6.2.2.2.2.1
              clear c0 c1 c2 R hb5
              have c0 := cell_of hb5' hbl HC0.out
              have c1 := cell_of hb5' hbl HC1.out
              have c2 := cell_of hb5' hbl HC2.out
              have bsz := Nat.lt_of_lt_of_le hbl hb5'.size
              have hm7 := hm6.call (Nat.le_refl _) (Q.alloc (Below.refl _ _) (.cells #[.int .u8 (s.byteOf r), .int .u8 0] 37))
              have HM7 := Lib.hid hm7
              clear hm6 hm7 hb5' HM5 hb6
              go_wp2_with fail
              have HM8 := HM7
              (with_reducible refine (alike_calls _ w.heap.size (w.heap.size + 1) s HO.out HM8.out.W HM8.out.X).mono ?_)
              rintro e w9 ⟨rfl, hb9⟩
              have hm9 := HM8.out.call (Nat.le_refl _) hb9
              go_wp2
              refine ⟨⟨k + 1, _, _, by simp, by omega, hm9⟩, by simp [intOf]; omega⟩
          · obtain ⟨hk1, hk2, rfl, hk3⟩ := hk
            have e1 : (r == 0) = false := beq_eq_false_iff_ne.2 hk3
            have hP : s.put r v 0 = s ∧ ruleOf r 0 = 0 ∧ errOf r 0 = 0 ∧ readErr r = 0 ∧ s.byteOf r = s.byteOf r := ⟨if_neg (fun h => hk3 h.1), by unfold ruleOf; rw [if_neg (by omega), if_pos rfl], by unfold errOf; rw [if_neg (by omega), if_pos rfl], if_neg (by omega), rfl⟩
            clear hk3
            obtain ⟨P1, P2, P3, P4, P5⟩ := hP
            have C := fun V h => write_calls V w.heap.size s r v 0 hs ⟨C3, C4⟩ h
            rw [P1, P2, P3] at C
            have hso : s.ok := P1 ▸ St.ok_put hs r 0 ⟨C3, C4⟩
            have hbw := hm.2.2.2.2.1
            have c0 := cell_of hbw hbl HC0.out
            have c1 := cell_of hbw hbl HC1.out
            have c2 := cell_of hbw hbl HC2.out
            have bsz := Nat.lt_of_lt_of_le hbl hbw.size
            have HM := Lib.hid hm
            have HO := Lib.hid hso
            have HP4 := Lib.hid P4
            have HP5 := Lib.hid P5
            clear hm P1 P2 P3 P4 P5 hbw hso
            go_wp2_with fail
            go_region_with ((go_at_call 12; (with_reducible refine (C _ (by repeat' (first | exact HM.out.W | with_reducible refine Blk.drew ?_ | with_reducible refine Blk.drewN ?_ _))).mono ?_); rintro e w5 ⟨rfl, hg5, hc5⟩))
            all_goals
              have hm5 := (HM.out.call (Nat.le_refl _) (Q.drew (Below.refl _ _))).write (Nat.le_refl _) HO.out hc5 hg5
              have hb5 := hm5.2.2.2.2.1
              have R := readS_calls w5 w.heap.size s r HO.out hg5
              rw [HP4.out] at R
              clear c0 c1 c2 bsz hc5 hg5
              have c0 := cell_of hb5 hbl HC0.out
              have c1 := cell_of hb5 hbl HC1.out
              have c2 := cell_of hb5 hbl HC2.out
              have HM5 := Lib.hid hm5
              clear hm5
              go_wp2_with fail
              (with_reducible refine R.mono ?_)
              rintro e w6 ⟨rfl, hb6⟩
              have hm6 := HM5.out.call (Nat.le_refl _) hb6
              have hb5' := hm6.2.2.2.2.1
              clear c0 c1 c2 R hb5
              have c0 := cell_of hb5' hbl HC0.out
              have c1 := cell_of hb5' hbl HC1.out
              have c2 := cell_of hb5' hbl HC2.out
              have bsz := Nat.lt_of_lt_of_le hbl hb5'.size
              have hm7 := hm6.call (Nat.le_refl _) (Q.alloc (Below.refl _ _) (.cells #[.int .u8 (s.byteOf r), .int .u8 0] 37))
              have HM7 := Lib.hid hm7
              clear hm6 hm7 hb5' HM5 hb6
              go_wp2_with fail
              have HM8 := HM7
              (with_reducible refine (alike_calls _ w.heap.size (w.heap.size + 1) s HO.out HM8.out.W HM8.out.X).mono ?_)
              rintro e w9 ⟨rfl, hb9⟩
              have hm9 := HM8.out.call (Nat.le_refl _) hb9
              go_wp2
              refine ⟨⟨k + 1, _, _, by simp, by omega, hm9⟩, by simp [intOf]; omega⟩
          · obtain ⟨rfl, rfl⟩ := hk
            have hP : s.put 0 v 0 = s.roll v ∧ ruleOf 0 0 = 0 ∧ errOf 0 0 = 0 ∧ readErr 0 = 0 ∧ (s.roll v).byteOf 0 = v := ⟨if_pos ⟨rfl, rfl⟩, rfl, rfl, rfl, rfl⟩
            obtain ⟨P1, P2, P3, P4, P5⟩ := hP
            have C := fun V h => write_calls V w.heap.size s 0 v 0 hs ⟨C3, C4⟩ h
            rw [P1, P2, P3] at C
            have hso : (s.roll v).ok := P1 ▸ St.ok_put hs 0 0 ⟨C3, C4⟩
            have hbw := hm.2.2.2.2.1
            have c0 := cell_of hbw hbl HC0.out
            have c1 := cell_of hbw hbl HC1.out
            have c2 := cell_of hbw hbl HC2.out
            have bsz := Nat.lt_of_lt_of_le hbl hbw.size
            have HM := Lib.hid hm
            have HO := Lib.hid hso
            have HP4 := Lib.hid P4
            have HP5 := Lib.hid P5
            clear hm P1 P2 P3 P4 P5 hbw hso
            go_wp2_with fail
            go_region_with ((go_at_call 12; (with_reducible refine (C _ (by repeat' (first | exact HM.out.W | with_reducible refine Blk.drew ?_ | with_reducible refine Blk.drewN ?_ _))).mono ?_); rintro e w5 ⟨rfl, hg5, hc5⟩))
            all_goals
              have hm5 := (HM.out.call (Nat.le_refl _) (Q.drew (Below.refl _ _))).write (Nat.le_refl _) HO.out hc5 hg5
              have hb5 := hm5.2.2.2.2.1
              have R := readS_calls w5 w.heap.size (s.roll v) 0 HO.out hg5
              rw [HP4.out, HP5.out] at R
              clear c0 c1 c2 bsz hc5 hg5
              have c0 := cell_of hb5 hbl HC0.out
              have c1 := cell_of hb5 hbl HC1.out
              have c2 := cell_of hb5 hbl HC2.out
              have HM5 := Lib.hid hm5
              clear hm5
              go_wp2_with fail
              (with_reducible refine R.mono ?_)
              rintro e w6 ⟨rfl, hb6⟩
              have hm6 := HM5.out.call (Nat.le_refl _) hb6
              have hb5' := hm6.2.2.2.2.1
              clear c0 c1 c2 R hb5
              have c0 := cell_of hb5' hbl HC0.out
              have c1 := cell_of hb5' hbl HC1.out
              have c2 := cell_of hb5' hbl HC2.out
              have bsz := Nat.lt_of_lt_of_le hbl hb5'.size
              have hm7 := hm6.call (Nat.le_refl _) (Q.alloc (Below.refl _ _) (.cells #[.int .u8 v, .int .u8 0] 37))
              have HM7 := Lib.hid hm7
              clear hm6 hm7 hb5' HM5 hb6
              go_wp2_with fail
              (with_reducible refine (refWrite_calls _ (w.heap.size + 1) s v hs ⟨C3, C4⟩ HM7.out.X).mono ?_)
              rintro e w7 ⟨rfl, hx7, hc7⟩
              have hm8 := HM7.out.ref (Nat.le_refl _) hc7 hx7
              have HM8 := Lib.hid hm8
              clear hx7 hc7 hm8 c0 c1 c2
              go_wp2_with fail
              (with_reducible refine (alike_calls _ w.heap.size (w.heap.size + 1) (s.roll v) HO.out HM8.out.W HM8.out.X).mono ?_)
              rintro e w9 ⟨rfl, hb9⟩
              have hm9 := HM8.out.call (Nat.le_refl _) hb9
              go_wp2
              refine ⟨⟨k + 1, _, _, by simp, by omega, hm9⟩, by simp [intOf]; omega⟩
      · obtain rfl : k = len := by omega
        have HM := Lib.hid hm
        rcases hm.2.2.2.2.2 with rfl | ⟨h, rfl, hh, hgh⟩
        · clear hm
          go_wp2_with fail
          refine wp_region_below (by kernel_rfl) (by kernel_rfl) ?_
          repeat (go_big_quiet_step ((go_at_call 9; exact calls_bw (awake12_calls _))))
          refine wpQuiet_nil ?_
          intro w9 hw9
          obtain ⟨y9, rfl⟩ := hw9
          have B9 := Q.call HM.out.B y9.has
          generalize y9.val = W9 at B9 ⊢
          go_wp2
          go_returns
          exact ⟨rfl, B9⟩
        · have hs := hm.1.1
          have hs' := hm.1.2
          have hx := hm.X
          have hkb := hm.2.2.2.1
          have hw := hm.W
          clear hm
          have A := fun V => alike_calls V h (w.heap.size + 1 + 1) s' hs'
          have S := fun V => same_calls V h w.heap.size s' s hs' hs
          have A' : ∀ y : BW wr, _ := fun y => A y.val (hh.call y.has) (hkb.call y.has)
          have S' : ∀ y : BW wr, _ := fun y => S y.val (hh.call y.has) (hw.call y.has)
          have L0 : ∀ y : BW wr, y.val.cell? ⟨w.heap.size + 1, 0, none⟩ = some (.int .i64 s.X) := fun y => (hx.call y.has).cell 0
          have L1 : ∀ y : BW wr, y.val.cell? ⟨w.heap.size + 1, 1, none⟩ = some (.int .i64 s.Y) := fun y => (hx.call y.has).cell 1
          have L2 : ∀ y : BW wr, y.val.cell? ⟨w.heap.size + 1, 2, none⟩ = some (.int .i64 s.k) := fun y => (hx.call y.has).cell 2
          have L3 : ∀ y : BW wr, y.val.cell? ⟨w.heap.size + 1, 3, none⟩ = some (.int .u8 s.v) := fun y => (hx.call y.has).cell 3
          have M0 : ∀ y : BW wr, y.val.cell? ⟨w.heap.size + 1 + 1, 0, none⟩ = some (.int .i64 s'.X) := fun y => (hkb.call y.has).cell 0
          have M1 : ∀ y : BW wr, y.val.cell? ⟨w.heap.size + 1 + 1, 1, none⟩ = some (.int .i64 s'.Y) := fun y => (hkb.call y.has).cell 1
          have M2 : ∀ y : BW wr, y.val.cell? ⟨w.heap.size + 1 + 1, 2, none⟩ = some (.int .i64 s'.k) := fun y => (hkb.call y.has).cell 2
          have M3 : ∀ y : BW wr, y.val.cell? ⟨w.heap.size + 1 + 1, 3, none⟩ = some (.int .u8 s'.v) := fun y => (hkb.call y.has).cell 3
          have E := fun W => eql_ref W s' s hs' hs
          generalize s'.eqB s = q at *
          clear hs hs' hx hkb hw hh A S
          go_wp2_with fail
          refine wp_region_below (by kernel_rfl) (by kernel_rfl) ?_
          repeat (go_big_quiet_step (first | (go_at_call 9; exact calls_bw (awake12_calls _)) | (go_at_call 19; exact calls_bw (A' _)) | (go_at_call 16; exact calls_bwn (S' _))))
          refine wpQuiet_nil ?_
          intro w9 hw9
          obtain ⟨y9, rfl⟩ := hw9
          have B9 := Q.call HM.out.B y9.has
          generalize y9.val = W9 at B9 ⊢
          go_wp2
          go_returns
          exact ⟨by simp, B9⟩
  · go_enter Try.func5, Try.ntmps5
    go_wp2_with fail
    (with_reducible refine (newS_calls _).mono ?_)
    rintro e w1 ⟨rfl, hw1⟩
    have b1 : Below w.heap.size w w1 := by rw [hw1]; exact Q.alloc (Below.refl _ _) _
    clear hw1
    go_wp2_with (go_at_call 9; (with_reducible refine (awake12_calls _).mono ?_); rintro e w3 ⟨rfl, b3⟩)
    all_goals
      go_returns
      exact ⟨rfl, Q.call b1 b3⟩
end Go.Proofs.Ytjjebkgljgfecaa
