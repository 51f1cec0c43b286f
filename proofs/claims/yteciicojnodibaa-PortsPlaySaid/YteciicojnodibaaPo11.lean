/- Ports: awake, few. (printed by gen/po11.py) -/
import Derived.Test.YteciicojnodibaaPo10
namespace Go.Proofs.Yteciicojnodibaa
set_option linter.unusedVariables false
set_option linter.unusedSimpArgs false
open Go.RowKit
attribute [local go_sem ↓] Go.wp_at_zero Go.wp_at_succ

theorem Rd.nil {α : Type} {n : Nat} (E : Enc α n) (w : World) (R : Nat → Prop) : Rd E w R (.slice none 0 0) [] := ⟨none, 0, rfl, Nat.le_refl _, fun _ => rfl, fun h => absurd h (by simp)⟩
theorem few_yes (a b : Option Addr) (m n cm cn : Nat) (c : Option Addr) (k ck : Nat) (w : World) (h1 : m ≤ 300) (h2 : n ≤ 300) (h3 : k ≤ 200) :
    Calls Try.prog 11 #[.agg #[.slice a m cm, .slice b n cn], .slice c k ck] w fun e w' => e = .returned (.bool true) ∧ Below w.heap.size w w' := by
  have e1 : (m : Int) ≤ 300 := by omega
  have e2 : (n : Int) ≤ 300 := by omega
  have e3 : (k : Int) ≤ 200 := by omega
  go_enter Try.func11, Try.ntmps11
  go_wp2
  go_returns
  exact ⟨rfl, by repeat' (first | exact Below.refl _ _ | refine Q.alloc ?_ _)⟩
theorem few_no (a b : Option Addr) (m n cm cn : Nat) (c : Option Addr) (k ck : Nat) (w : World) (h : ¬ (m ≤ 300 ∧ n ≤ 300 ∧ k ≤ 200)) :
    Calls Try.prog 11 #[.agg #[.slice a m cm, .slice b n cn], .slice c k ck] w fun e w' => e = .returned (.bool false) ∧ Below w.heap.size w w' := by
  by_cases h1 : m ≤ 300
  · have e1 : (m : Int) ≤ 300 := by omega
    by_cases h2 : n ≤ 300
    · have e2 : (n : Int) ≤ 300 := by omega
      have e3 : ¬ (k : Int) ≤ 200 := by omega
      have e4 : decide ((k : Int) ≤ 200) = false := decide_eq_false e3
      go_enter Try.func11, Try.ntmps11
      go_wp2
      go_returns
      exact ⟨by first | rfl | simp [e4] | (simp; omega), by repeat' (first | exact Below.refl _ _ | refine Q.alloc ?_ _)⟩
    · have e2 : ¬ (n : Int) ≤ 300 := by omega
      have e4 : decide ((n : Int) ≤ 300) = false := decide_eq_false e2
      go_enter Try.func11, Try.ntmps11
      go_wp2
      go_returns
      exact ⟨by first | rfl | simp [e4] | (simp; omega), by repeat' (first | exact Below.refl _ _ | refine Q.alloc ?_ _)⟩
  · have e1 : ¬ (m : Int) ≤ 300 := by omega
    have e4 : decide ((m : Int) ≤ 300) = false := decide_eq_false e1
    go_enter Try.func11, Try.ntmps11
    go_wp2
    go_returns
    exact ⟨by first | rfl | simp [e4] | (simp; omega), by repeat' (first | exact Below.refl _ _ | refine Q.alloc ?_ _)⟩

/-- Ports alone: everything else is nobody's that could be turned. -/
def Alone (w0 w : World) (g : Nat) (s : PS) (T : Nat → Prop) : Prop := s.ok ∧ ∃ col v, IsP w col 1 g v s ∧ (∀ b, b < w.heap.size → T b → col b ≠ 1) ∧ (∀ b, b < w0.heap.size → col b ≠ 1) ∧ Below w0.heap.size w0 w
theorem Alone.mono {w0 w : World} {g : Nat} {s : PS} {T T' : Nat → Prop} (h : Alone w0 w g s T) (ht : ∀ b, T' b → T b) : Alone w0 w g s T' := by
  obtain ⟨h1, col, v, h2, h3, h4⟩ := h
  exact ⟨h1, col, v, h2, fun b hb hT => h3 b hb (ht b hT), h4⟩
/-- Behind what only makes new blocks: those are not turned either. -/
theorem Alone.new {w0 w w' : World} {g : Nat} {s : PS} {T : Nat → Prop} (h : Alone w0 w g s T) (hb : Below w.heap.size w w') : Alone w0 w' g s (fun b => T b ∨ w.heap.size ≤ b) := by
  obtain ⟨h1, col, v, h2, h3, h4, h5⟩ := h
  have h6 := h5.size
  have h7 := hb.size
  refine ⟨h1, paint col w.heap.size 9, v, h2.new hb 9, fun b hlt hT => ?_, fun b hlt => ?_, Q.call h5 hb⟩
  · by_cases hbw : b < w.heap.size
    · rw [paint_old hbw]
      rcases hT with hT | hT
      · exact h3 b hbw hT
      · omega
    · rw [paint_new (by omega)]
      decide
  · rw [paint_old (by omega)]
    exact h4 b hlt
theorem Alone.B {w0 w : World} {g : Nat} {s : PS} {T : Nat → Prop} (h : Alone w0 w g s T) : Below w0.heap.size w0 w := by
  obtain ⟨h1, col, v, h2, h3, h4, h5⟩ := h
  exact h5
theorem Alone.op {w0 w w' : World} {g : Nat} {s s' : PS} {col : Nat → Nat} {v : PV} {T : Nat → Prop} (h2 : IsP w col 1 g v s) (h3 : ∀ b, b < w.heap.size → T b → col b ≠ 1) (h4 : ∀ b, b < w0.heap.size → col b ≠ 1) (h5 : Below w0.heap.size w0 w) (hok : s'.ok)
    (hp : ∃ v', IsP w' (paint col w.heap.size 1) 1 g v' s') (hc : Chg (fun b => col b = 1) w w') :
    Alone w0 w' g s' (fun b => T b ∧ b < w.heap.size) ∧ (∀ b, T b → b < w.heap.size → w'.heap[b]? = w.heap[b]?) ∧ w.heap.size ≤ w'.heap.size := by
  obtain ⟨v', hp⟩ := hp
  have h6 := h5.size
  refine ⟨⟨hok, paint col w.heap.size 1, v', hp, fun b hlt hT => ?_, fun b hlt => ?_, ?_⟩, fun b hT hlt => hc.block b hlt (h3 b hlt hT), hc.size⟩
  · rw [paint_old hT.2]
    exact h3 b hT.2 hT.1
  · rw [paint_old (by omega)]
    exact h4 b hlt
  · exact ⟨hc.os.trans h5.os, hc.tape.trans h5.tape, hc.output.trans h5.output, Nat.le_trans h5.size hc.size, fun k hk => (hc.block k (by omega) (h4 k hk)).trans (h5.block k hk)⟩
theorem aread_calls {w0 w : World} {g : Nat} {s : PS} {T : Nat → Prop} (h : Alone w0 w g s T) (r : Int) :
    Calls Try.prog 14 #[.pointer (some ⟨g, 0, none⟩), .int .i64 r] w fun e w' => e = .returned (.tuple #[.agg #[.int .u8 (s.rd r).1, .int .u8 (s.rd r).2], .int .i64 (rErr r)]) ∧ Alone w0 w' g (s.took r) (fun b => T b ∧ b < w.heap.size) ∧ (∀ b, T b → b < w.heap.size → w'.heap[b]? = w.heap[b]?) ∧ w.heap.size ≤ w'.heap.size := by
  obtain ⟨h1, col, v, h2, h3, h4, h5⟩ := h
  exact (pread_calls w col 1 g v s r h2 h1 (by decide)).mono fun e w' ⟨he, v', hp, hc⟩ => ⟨he, Alone.op h2 h3 h4 h5 (PS.ok_took h1 r) ⟨v', hp⟩ hc⟩
theorem awrite_calls {w0 w : World} {g : Nat} {s : PS} {T : Nat → Prop} (h : Alone w0 w g s T) (r b t cyc : Int) :
    Calls Try.prog 15 #[.pointer (some ⟨g, 0, none⟩), .int .i64 r, .agg #[.int .u8 b, .int .u8 t], .int .i64 cyc] w fun e w' => e = .returned (.tuple #[.int .i64 (wRule r t), .int .i64 (s.wErr r t)]) ∧ Alone w0 w' g (s.wrote r b t cyc) (fun b => T b ∧ b < w.heap.size) ∧ (∀ b, T b → b < w.heap.size → w'.heap[b]? = w.heap[b]?) ∧ w.heap.size ≤ w'.heap.size := by
  obtain ⟨h1, col, v, h2, h3, h4, h5⟩ := h
  exact (pwrite_calls w col 1 g v s r b t cyc h2 (by decide)).mono fun e w' ⟨he, v', hp, hc⟩ => ⟨he, Alone.op h2 h3 h4 h5 (PS.ok_wrote h1 r b t cyc) ⟨v', hp⟩ hc⟩
theorem alog_calls {w0 w : World} {g : Nat} {s : PS} {T : Nat → Prop} (h : Alone w0 w g s T) :
    Calls Try.prog 19 #[.pointer (some ⟨g, 0, none⟩)] w fun e w' => ∃ sv, e = .returned sv ∧ w'.ownsRow w.heap.size 58 2 sv s.log.length (EE.row s.log) ∧ Below w.heap.size w w' := by
  obtain ⟨h1, col, v, h2, -⟩ := h
  exact plog_calls w col 1 g v s h2 h1
theorem anew_calls {w0 w : World} (x y : Value) (xs ys : List Int) (R : Nat → Prop) (hB : Below w0.heap.size w0 w) (hx : Rd EU w R x xs) (hy : Rd EU w R y ys) (h1 : xs.length ≤ 65536) (h2 : ys.length ≤ 65536) :
    Calls Try.prog 8 #[x, y] w fun e w' => ∃ g, e = .returned (.tuple #[.pointer (some ⟨g, 0, none⟩), .int .i64 0]) ∧ Below w.heap.size w w' ∧ Alone w0 w' g ⟨xs, ys, [], [], []⟩ (fun b => b < w.heap.size) := by
  refine (new_calls x y xs ys R w hx hy h1 h2 1 (by decide) (fun _ => 0)).mono fun e w' ⟨g, he, hg, hb, v, hp⟩ => ⟨g, he, hb, ⟨h1, h2, Nat.zero_le _, Nat.zero_le _, Nat.zero_le _⟩, _, v, hp, fun b _ hb => ?_, fun b hb' => ?_, Q.call hB hb⟩
  · rw [if_pos hb]
    decide
  · have := hB.size
    rw [if_pos (by omega)]
    decide
theorem Blk.hold {w w' : World} {g : Nat} {t : TypeId} {cs : Array Value} {T : Nat → Prop} (h : Blk w g t cs) (hk : ∀ b, T b → b < w.heap.size → w'.heap[b]? = w.heap[b]?) (ht : T g) : Blk w' g t cs := (hk g ht h.lt).trans h

set_option maxRecDepth 100000 in
set_option maxHeartbeats 3200000 in
theorem awake11_calls (w : World) : Calls Try.prog 7 #[] w fun e w' => e = .returned (.bool true) ∧ Below w.heap.size w w' := by
  go_enter Try.func7, Try.ntmps7
  go_wp2_with fail
  have b0 := Q.alloc (Below.refl _ w) (.cells #[.int .u8 5] 5)
  have hx : Rd EU (w.alloc (.cells #[.int .u8 5] 5)) (fun _ => True) (.slice (some ⟨w.heap.size, 0, none⟩) 1 1) [5] :=
    ⟨some ⟨w.heap.size, 0, none⟩, 1, rfl, Nat.le_refl _, (fun h => by cases h), fun _ => ⟨w.heap.size, 0, rfl, by simp, trivial, fun k x hk j u hu => by
      have hk0 : k = 0 := by
        have := (List.getElem?_eq_some_iff.1 hk).1
        simpa using this
      subst hk0
      have hj : j = 0 := by
        have := (List.getElem?_eq_some_iff.1 hu).1
        rw [EU.len] at this
        omega
      subst hj
      cases hk
      cases hu
      exact (Blk.new w 5 #[.int .u8 5]).cell 0⟩⟩
  (with_reducible refine (anew_calls _ _ [5] [] (fun _ => True) b0 hx (Rd.nil _ _ _) (by decide) (by decide)).mono ?_)
  rintro e w1 ⟨g, rfl, hb1, A1⟩
  have HA1 := Lib.hid A1
  clear hx b0 hb1 A1
  go_wp2_with fail
  (with_reducible refine (aread_calls HA1.out 0).mono ?_)
  rintro e w2 ⟨rfl, A2, hk2, hz2⟩
  rw [show ((⟨[5], [], [], [], []⟩ : PS).rd 0) = (5, 0) from rfl, show rErr 0 = 0 from rfl]
  have A2' := A2.new (Q.alloc (Below.refl _ _) (.cells #[.int .u8 5, .int .u8 0] 23))
  have y2 := Blk.new w2 23 #[.int .u8 5, .int .u8 0]
  have HA2 := Lib.hid A2'
  clear HA1 A2 A2' hk2 hz2
  go_wp2_with fail
  generalize hW2 : w2.alloc (.cells #[.int .u8 5, .int .u8 0] 23) = W2 at *
  (with_reducible refine (aread_calls HA2.out 0).mono ?_)
  rintro e w3 ⟨rfl, A3, hk3, hz3⟩
  rw [show (((⟨[5], [], [], [], []⟩ : PS).took 0).rd 0) = (0, 0) from rfl, show rErr 0 = 0 from rfl]
  have y3 := y2.hold hk3 (.inr (Nat.le_refl _))
  have y2lt := y2.lt
  have A3' := A3.new (Q.alloc (Below.refl _ _) (.cells #[.int .u8 0, .int .u8 0] 23))
  have z3 := Blk.new w3 23 #[.int .u8 0, .int .u8 0]
  have y3' := y3.alloc (.cells #[.int .u8 0, .int .u8 0] 23)
  have HA3 := Lib.hid A3'
  have HW2 := Lib.hid hW2
  have hw3 : w2.heap.size < w3.heap.size := y3.lt
  clear HA2 A3 A3' hk3 y2 y3 hW2
  go_wp2_with fail
  generalize hW3 : w3.alloc (.cells #[.int .u8 0, .int .u8 0] 23) = W3 at *
  (with_reducible refine (awrite_calls HA3.out 4 7 255 12).mono ?_)
  rintro e w4 ⟨rfl, A4, hk4, hz4⟩
  rw [show wRule 4 255 = 0 from rfl, show (((⟨[5], [], [], [], []⟩ : PS).took 0).took 0).wErr 4 255 = 0 from rfl]
  have y4 := y3'.hold hk4 (.inl ⟨.inr (Nat.le_refl _), y2lt⟩)
  have z4 := z3.hold hk4 (.inr (Nat.le_refl _))
  have z3lt := z3.lt
  have y3lt := y3'.lt
  have HA4 := Lib.hid A4
  have HW3 := Lib.hid hW3
  clear HA3 A4 hk4 y3' z3 hW3
  go_wp2_with fail
  (with_reducible refine (aread_calls HA4.out 4).mono ?_)
  rintro e w5 ⟨rfl, A5, hk5, hz5⟩
  rw [show (((((⟨[5], [], [], [], []⟩ : PS).took 0).took 0).wrote 4 7 255 12).rd 4) = (7, 0) from rfl, show rErr 4 = 0 from rfl]
  have y5 := y4.hold hk5 ⟨.inl ⟨.inr (Nat.le_refl _), y2lt⟩, y3lt⟩
  have z5 := z4.hold hk5 ⟨.inr (Nat.le_refl _), z3lt⟩
  have A5' := A5.new (Q.alloc (Below.refl _ _) (.cells #[.int .u8 7, .int .u8 0] 23))
  have x5 := Blk.new w5 23 #[.int .u8 7, .int .u8 0]
  have y5' := y5.alloc (.cells #[.int .u8 7, .int .u8 0] 23)
  have z5' := z5.alloc (.cells #[.int .u8 7, .int .u8 0] 23)
  have HA5 := Lib.hid A5'
  clear HA4 A5 A5' hk5 y4 z4 y5 z5
  go_wp2_with fail
  generalize w5.alloc (.cells #[.int .u8 7, .int .u8 0] 23) = W5 at *
  (with_reducible refine (alog_calls HA5.out).mono ?_)
  rintro e w6 ⟨sv, rfl, ho6, hb6⟩
  have hrd := Ow.rd (E := EE) (T := 58) (S := fun _ => True) (w := w6) (v := sv) (l := [(12, 7)]) ⟨own_lower ho6 (Nat.zero_le _), fun _ _ => trivial⟩
  obtain ⟨a6, c6, rfl⟩ := hrd.len
  obtain ⟨b, off, z, rfl, hlb, -, hz, hc⟩ := hrd.at_ (k := 0) (by simp)
  cases hz
  have d0 := hc 0 _ rfl
  have d1 := hc 1 _ rfl
  simp only [Nat.zero_mul, Nat.add_zero] at d0 d1
  have B6 := Lib.hid (Q.call HA5.out.B hb6)
  have y6 := y5'.call hb6
  have z6 := z5'.call hb6
  have x6 := x5.call hb6
  have u0 := y6.cell 0
  have u1 := y6.cell 1
  have u2 := z6.cell 0
  have u3 := z6.cell 1
  have u4 := x6.cell 0
  have u5 := x6.cell 1
  clear HA5 ho6 hrd hc y5' z5' x5 y6 z6 x6 hb6 HW2 HW3
  go_wp2_with fail
  trace_state
  go_returns
  exact ⟨rfl, B6.out⟩
end Go.Proofs.Yteciicojnodibaa
