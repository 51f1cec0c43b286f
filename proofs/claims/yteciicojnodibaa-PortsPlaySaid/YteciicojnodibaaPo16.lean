/- Ports: nil ones; two of the same bytes, of which one was made of a row of one's own. -/
import Derived.Test.YteciicojnodibaaPo15
namespace Go.Proofs.Yteciicojnodibaa
set_option linter.unusedVariables false
set_option linter.unusedSimpArgs false
open Go.RowKit
attribute [local go_sem ↓] Go.wp_at_zero Go.wp_at_succ

theorem nil_read (w : World) : Calls Try.prog 14 #[.pointer none, .int .i64 0] w fun e w' => e = .returned (.tuple #[.agg #[.int .u8 0, .int .u8 0], .int .i64 2]) ∧ Below w.heap.size w w' := by
  go_enter Try.func14, Try.ntmps14
  go_wp2
  go_returns
  exact ⟨rfl, by repeat' (first | exact Below.refl _ _ | refine Q.alloc ?_ _)⟩
theorem nil_write (w : World) : Calls Try.prog 15 #[.pointer none, .int .i64 0, .agg #[.int .u8 0, .int .u8 0], .int .i64 0] w fun e w' => e = .returned (.tuple #[.int .i64 0, .int .i64 2]) ∧ Below w.heap.size w w' := by
  go_enter Try.func15, Try.ntmps15
  go_wp2
  go_returns
  exact ⟨rfl, by repeat' (first | exact Below.refl _ _ | refine Q.alloc ?_ _)⟩
theorem nil_out (w : World) : Calls Try.prog 17 #[.pointer none] w fun e w' => e = .returned (.slice none 0 0) ∧ Below w.heap.size w w' := by
  go_enter Try.func17, Try.ntmps17
  go_wp2
  go_returns
  exact ⟨rfl, by repeat' (first | exact Below.refl _ _ | refine Q.alloc ?_ _)⟩
theorem nil_kept (w : World) : Calls Try.prog 18 #[.pointer none] w fun e w' => e = .returned (.slice none 0 0) ∧ Below w.heap.size w w' := by
  go_enter Try.func18, Try.ntmps18
  go_wp2
  go_returns
  exact ⟨rfl, by repeat' (first | exact Below.refl _ _ | refine Q.alloc ?_ _)⟩
theorem nil_log (w : World) : Calls Try.prog 19 #[.pointer none] w fun e w' => e = .returned (.slice none 0 0) ∧ Below w.heap.size w w' := by
  go_enter Try.func19, Try.ntmps19
  go_wp2
  go_returns
  exact ⟨rfl, by repeat' (first | exact Below.refl _ _ | refine Q.alloc ?_ _)⟩
theorem nil_left (w : World) : Calls Try.prog 20 #[.pointer none, .int .i64 0] w fun e w' => e = .returned (.int .i64 0) ∧ Below w.heap.size w w' := by
  go_enter Try.func20, Try.ntmps20
  go_wp2
  go_returns
  exact ⟨rfl, by repeat' (first | exact Below.refl _ _ | refine Q.alloc ?_ _)⟩
theorem nil_clone (w : World) : Calls Try.prog 12 #[.pointer none] w fun e w' => e = .returned (.pointer none) ∧ Below w.heap.size w w' := by
  go_enter Try.func12, Try.ntmps12
  go_wp2
  go_returns
  exact ⟨rfl, by repeat' (first | exact Below.refl _ _ | refine Q.alloc ?_ _)⟩
theorem nil_low (w : World) : Calls Try.prog 13 #[.pointer none, .pointer none] w fun e w' => e = .returned (.bool true) ∧ Below w.heap.size w w' := by
  go_enter Try.func13, Try.ntmps13
  go_wp2
  go_returns
  exact ⟨rfl, by repeat' (first | exact Below.refl _ _ | refine Q.alloc ?_ _)⟩
theorem eqlp_none_some (ad : Addr) (w : World) : (binOp .eql 25 (.pointer none) (.pointer (some ad))).run Try.prog w = .ok (.bool false) w := by
  have h : ∀ d : Nat, (Op.equalIn (d + 1) 25 (.pointer none) (.pointer (some ad))).run Try.prog w = .ok false w := fun d => by
    simp [Op.equalIn, run_underlying Try.underlying25, go_sem]
  simp only [binOp]
  simp [Op.equal, Op.maxDepth, h 9999]
attribute [local go_sem] eqlp_none_some
theorem nil_low1 (g : Nat) (w : World) : Calls Try.prog 13 #[.pointer none, .pointer (some ⟨g, 0, none⟩)] w fun e w' => e = .returned (.bool false) ∧ Below w.heap.size w w' := by
  go_enter Try.func13, Try.ntmps13
  go_wp2
  go_returns
  exact ⟨rfl, by repeat' (first | exact Below.refl _ _ | refine Q.alloc ?_ _)⟩
theorem nil_low2 (g : Nat) (w : World) : Calls Try.prog 13 #[.pointer (some ⟨g, 0, none⟩), .pointer none] w fun e w' => e = .returned (.bool false) ∧ Below w.heap.size w w' := by
  go_enter Try.func13, Try.ntmps13
  go_wp2
  go_returns
  exact ⟨rfl, by repeat' (first | exact Below.refl _ _ | refine Q.alloc ?_ _)⟩

/-- Two of the same bytes; what was made of a row of one's own does not hang together with it. -/
theorem two_new_own {w0 wa : World} (hA : Below w0.heap.size w0 wa) (va x y : Value) (xs ys : List Int) (R : Nat → Prop) (ha : wa.ownsRow w0.heap.size 5 1 va xs.length (EU.row xs)) (hx : Rd EU w0 R x xs) (hy : Rd EU w0 R y ys) (h1 : xs.length ≤ 65536) (h2 : ys.length ≤ 65536) :
    Calls Try.prog 8 #[va, y] wa fun e w1 => ∃ g, e = .returned (.tuple #[.pointer (some ⟨g, 0, none⟩), .int .i64 0]) ∧ Below wa.heap.size wa w1 ∧
      Calls Try.prog 8 #[x, y] w1 fun e w2 => ∃ h, e = .returned (.tuple #[.pointer (some ⟨h, 0, none⟩), .int .i64 0]) ∧ Below wa.heap.size wa w2 ∧
        ∀ W', Chg (fun b => va.ownBlock = some b) w2 W' → Two w0 W' g h ⟨xs, ys, [], [], []⟩ ⟨xs, ys, [], [], []⟩ (fun b => b < w0.heap.size) := by
  have s0 := hA.size
  have ra : Rd EU wa (fun _ => True) va xs := Ow.rd (T := 5) ⟨own_lower ha (Nat.zero_le _), fun _ _ => trivial⟩
  have hy0 : Rd EU wa (fun _ => True) y ys := hy.keep (fun b hb hR => ⟨hA.block b hb, trivial⟩) s0
  refine (new_calls va y xs ys (fun _ => True) wa ra hy0 h1 h2 1 (by decide) (fun b => if b < w0.heap.size then 0 else 9)).mono fun e w1 ⟨g, he, hg, hb, v, hp⟩ => ⟨g, he, hb, ?_⟩
  have s1 := hb.size
  have hx1 : Rd EU w1 (fun _ => True) x xs := hx.keep (fun b hb' hR => ⟨(hb.block b (by omega)).trans (hA.block b hb'), trivial⟩) (by omega)
  have hy1 : Rd EU w1 (fun _ => True) y ys := hy0.below hb
  refine (new_calls x y xs ys (fun _ => True) w1 hx1 hy1 h1 h2 2 (by decide) (fun b => if b < wa.heap.size then (if b < w0.heap.size then 0 else 9) else if b = g then 1 else 0)).mono fun e w2 ⟨h, he, hh, hb2, u, hq⟩ => ⟨h, he, Q.call hb hb2, fun W' hC => ?_⟩
  have s2 := hb2.size
  have hp2 : IsP w2 (fun b => if b < w1.heap.size then (if b < wa.heap.size then (if b < w0.heap.size then 0 else 9) else if b = g then 1 else 0) else if b = h then 2 else 0) 1 g v _ := hp.keep (fun b hlt _ => ⟨hb2.block b hlt, if_pos hlt⟩) s2
  have hC9 : Chg (fun b => (fun b => if b < w1.heap.size then (if b < wa.heap.size then (if b < w0.heap.size then 0 else 9) else if b = g then 1 else 0) else if b = h then 2 else 0) b = 9) w2 W' := hC.mono fun b hb' => by
    have := own_lt ha hb'
    have e1 : b < w1.heap.size := by omega
    have e2 : ¬ b < w0.heap.size := by omega
    simp only [e1, this.1, e2, if_true, if_false]
  have s3 := hC.size
  have o1 := hp2.other hC9 (by decide) (by decide) 9
  have o2 := hq.other hC9 (by decide) (by decide) 9
  refine ⟨⟨⟨h1, h2, Nat.zero_le _, Nat.zero_le _, Nat.zero_le _⟩, ⟨h1, h2, Nat.zero_le _, Nat.zero_le _, Nat.zero_le _⟩⟩, _, v, u, o1, o2, fun b _ hT => ?_, fun b hlt => ?_, ?_⟩
  · have hT' : b < w0.heap.size := hT
    rw [paint_old (by omega)]
    have e1 : b < w1.heap.size := by omega
    have e2 : b < wa.heap.size := by omega
    simp [e1, e2, hT']
  · rw [paint_old (by omega)]
    have e1 : b < w1.heap.size := by omega
    have e2 : b < wa.heap.size := by omega
    simp [e1, e2, hlt]
  · exact hC.below (Q.call (Q.call hA hb) hb2) (by omega) fun b hb' => (own_lt ha hb').2

/-- A row of one's own, of which an element was turned. -/
theorem rowU (l : List Int) : EU.row l = l.map (Value.int .u8) := by
  induction l with
  | nil => rfl
  | cons x l ih =>
    show [Value.int .u8 x] ++ EU.row l = _
    rw [ih]
    rfl
theorem rowU_set (l : List Int) (k : Nat) (x : Int) : (EU.row l).set k (.int .u8 x) = EU.row (l.set k x) := by
  rw [rowU, rowU, List.map_set]
theorem own_some {w : World} {B e size n c k : Nat} {a : Option Addr} {xs : List Value} (h : w.ownsRow B e size (.slice a n c) n xs) (hk : k < n) : ∃ g, a = some ⟨g, 0, none⟩ := by
  rcases h.2 with ⟨hv, hx⟩ | ⟨g, cap, cur, hv, -⟩
  · omega
  · simp only [Value.slice.injEq] at hv
    exact ⟨g, hv.1⟩
theorem chg_grown {w w' : World} {g : Nat} (h : w.grownBy w' (some g)) : Chg (fun b => b = g) w w' := ⟨h.os, h.tape, h.output, h.size, fun b hb hg => h.block b hb (fun e => hg (Option.some.inj e))⟩
theorem Two.kept1 {w0 W : World} {g h : Nat} {s t : PS} {T : Nat → Prop} (hm : Two w0 W g h s t T) :
    Calls Try.prog 18 #[.pointer (some ⟨g, 0, none⟩)] W fun e w' => ∃ sv, e = .returned sv ∧ w'.ownsRow W.heap.size 23 2 sv s.kept.length (EB.row s.kept) ∧ Below W.heap.size W w' := by
  obtain ⟨h1, col, v, u, h2, h3, -⟩ := hm
  exact pkept_calls W col 1 g v s h2 h1.1
theorem Two.log1 {w0 W : World} {g h : Nat} {s t : PS} {T : Nat → Prop} (hm : Two w0 W g h s t T) :
    Calls Try.prog 19 #[.pointer (some ⟨g, 0, none⟩)] W fun e w' => ∃ sv, e = .returned sv ∧ w'.ownsRow W.heap.size 58 2 sv s.log.length (EE.row s.log) ∧ Below W.heap.size W w' := by
  obtain ⟨h1, col, v, u, h2, h3, -⟩ := hm
  exact plog_calls W col 1 g v s h2 h1.1
end Go.Proofs.Yteciicojnodibaa
