/- Labels: a nil table has nothing. (printed by gen/lan.py) -/
import Derived.Test.YtggnkkmlabhofaaDoorLa8
import Derived.Test.YtggnkkmlabhofaaDoorLa9
namespace Go.Proofs.YtggnkkmlabhofaaDoor
set_option linter.unusedVariables false
set_option linter.unusedSimpArgs false
open Go.RowKit Go.Shelf
attribute [local go_sem ↓] Go.wp_at_zero Go.wp_at_succ

theorem few_eq (w : World) (sa ma : Option Addr) (s m sc mc : Nat) (dc tr : Int) (B : Bool) (hB : B = decide (s ≤ 80 ∧ m ≤ 80)) : Calls Tryd.prog 24 #[.agg #[.slice sa s sc, .slice ma m mc, .int .i64 dc, .int .i64 tr]] w fun e w' => e = .returned (.bool B) ∧ Below w.heap.size w w' := by
  have HB := Lib.hid hB
  clear hB
  by_cases h1 : s ≤ 80
  · have h1z : (s : Int) ≤ 80 := by omega
    by_cases h2 : m ≤ 80
    · have h2z : (m : Int) ≤ 80 := by omega
      have HE := Lib.hid (HB.out.trans (decide_eq_true ⟨h1, h2⟩))
      go_enter Tryd.func24, Tryd.ntmps24
      go_wp2_with fail
      go_ret
      exact ⟨boolE HE.out.symm, (by repeat' (first | with_reducible exact Below.refl _ _ | with_reducible assumption | with_reducible refine Q.alloc ?_ _ | with_reducible refine Q.drew ?_ | with_reducible refine Q.drewN ?_ _ | with_reducible refine Q.call ?_ (by assumption)))⟩
    · have h2z : ¬ (m : Int) ≤ 80 := by omega
      have HE := Lib.hid (HB.out.trans (decide_eq_false (fun h => h2 h.2)))
      go_enter Tryd.func24, Tryd.ntmps24
      go_wp2_with fail
      go_ret
      exact ⟨boolE HE.out.symm, (by repeat' (first | with_reducible exact Below.refl _ _ | with_reducible assumption | with_reducible refine Q.alloc ?_ _ | with_reducible refine Q.drew ?_ | with_reducible refine Q.drewN ?_ _ | with_reducible refine Q.call ?_ (by assumption)))⟩
  · have h1z : ¬ (s : Int) ≤ 80 := by omega
    have HE := Lib.hid (HB.out.trans (decide_eq_false (fun h => h1 h.1)))
    go_enter Tryd.func24, Tryd.ntmps24
    go_wp2_with fail
    go_ret
    exact ⟨boolE HE.out.symm, (by repeat' (first | with_reducible exact Below.refl _ _ | with_reducible assumption | with_reducible refine Q.alloc ?_ _ | with_reducible refine Q.drew ?_ | with_reducible refine Q.drewN ?_ _ | with_reducible refine Q.call ?_ (by assumption)))⟩
theorem policy_nil (w : World) : Calls Tryd.prog 37 #[.pointer none] w fun e w' => e = .returned (.agg #[.slice none 0 0, .slice none 0 0, .int .i64 0, .int .i64 0]) ∧ Below w.heap.size w w' := by
  go_enter Tryd.func37, Tryd.ntmps37
  go_wp2
  go_returns
  exact ⟨rfl, (by repeat' (first | with_reducible exact Below.refl _ _ | with_reducible assumption | with_reducible refine Q.alloc ?_ _ | with_reducible refine Q.drew ?_ | with_reducible refine Q.drewN ?_ _ | with_reducible refine Q.call ?_ (by assumption)))⟩
theorem there_nil (w : World) (x : Int) : Calls Tryd.prog 60 #[.pointer none, .int .i64 x] w fun e w' => e = .returned (.bool false) ∧ w = w' := by
  go_enter Tryd.func60, Tryd.ntmps60
  go_wp2
  go_ret
  exact ⟨rfl, rfl⟩
theorem secret_nil (w : World) (x : Int) : Calls Tryd.prog 33 #[.pointer none, .int .i64 x] w fun e w' => e = .returned (.int .u8 0) ∧ w = w' := by
  go_enter Tryd.func33, Tryd.ntmps33
  go_wp2_with (go_at_call 60; (with_reducible refine (there_nil _ _).mono ?_); rintro e w1 ⟨rfl, rfl⟩)
  go_ret
  exact ⟨rfl, rfl⟩
theorem sink_nil (w : World) (x : Int) : Calls Tryd.prog 38 #[.pointer none, .int .i64 x] w fun e w' => e = .returned (.int .u8 0) ∧ w = w' := by
  go_enter Tryd.func38, Tryd.ntmps38
  go_wp2_with (go_at_call 60; (with_reducible refine (there_nil _ _).mono ?_); rintro e w1 ⟨rfl, rfl⟩)
  go_ret
  exact ⟨rfl, rfl⟩
theorem and_zero (t : Int) : bits .and .u8 0 t = 0 := by
  simp [bits]
  rfl
theorem leaks_nil (w : World) (x bv bt : Int) : Calls Tryd.prog 39 #[.pointer none, .int .i64 x, .agg #[.int .u8 bv, .int .u8 bt]] w fun e w' => e = .returned (.int .u8 0) ∧ Below w.heap.size w w' := by
  obtain ⟨W, hW⟩ : ∃ W, W = w.alloc (.cells #[.int .u8 bv, .int .u8 bt] 57) := ⟨_, rfl⟩
  obtain ⟨hx, hhx⟩ : ∃ hx, hx = w.heap.size := ⟨_, rfl⟩
  have bW : Below w.heap.size w W := by rw [hW]; exact Q.alloc (Below.refl _ _) _
  have XB : Blk W hx 57 #[.int .u8 bv, .int .u8 bt] := by rw [hW]; exact Blk.new' hhx
  have C : ∀ y : BW W, Calls Tryd.prog 38 #[.pointer none, .int .i64 x] y.val fun e w' => e = .returned (.int .u8 0) ∧ w' = y.val := fun y => (sink_nil y.val x).mono fun e w' h => ⟨h.1, h.2.symm⟩
  have Lx1 : ∀ y : BW W, y.val.cell? ⟨hx, 1, none⟩ = some (.int .u8 bt) := fun y => (XB.call y.has).cell 1
  have HB := Lib.hid bW
  have HZ := Lib.hid (and_zero bt)
  clear XB bW
  go_enter Tryd.func39, Tryd.ntmps39
  go_wp2_with fail
  rw [← hhx, ← hW]
  clear hW hhx
  refine wp_region_below (by kernel_rfl) (by kernel_rfl) ?_
  repeat (go_big_quiet_step ((go_at_call 38; exact calls_bw' (C _))))
  refine wpQuiet_nil ?_
  first | (intro w9 hw9; obtain ⟨y1, rfl⟩ := hw9) | intro y1
  go_wp2_with fail
  go_ret
  refine ⟨?_, Q.call HB.out y1.has⟩
  first | rfl | (simp only [HZ.out]; rfl) | (show Ending.returned (.int .u8 (bits .and .u8 0 bt)) = _; rw [HZ.out])
theorem lay_nil1 (w : World) (p : Option Addr) : Calls Tryd.prog 40 #[.pointer none, .pointer p] w fun e w' => e = .returned (.int .i64 2) ∧ w = w' := by
  go_enter Tryd.func40, Tryd.ntmps40
  go_wp2
  go_ret
  exact ⟨rfl, rfl⟩
theorem lay_nil2 (w : World) (g : Nat) : Calls Tryd.prog 40 #[.pointer (some ⟨g, 0, none⟩), .pointer none] w fun e w' => e = .returned (.int .i64 2) ∧ w = w' := by
  go_enter Tryd.func40, Tryd.ntmps40
  go_wp2
  go_ret
  exact ⟨rfl, rfl⟩
theorem low_nil1 (w : World) (p q : Option Addr) : Calls Tryd.prog 30 #[.pointer none, .pointer p, .pointer q] w fun e w' => e = .returned (.bool false) ∧ w = w' := by
  go_enter Tryd.func30, Tryd.ntmps30
  go_wp2
  go_ret
  exact ⟨rfl, rfl⟩
theorem low_nil2 (w : World) (g : Nat) (q : Option Addr) : Calls Tryd.prog 30 #[.pointer (some ⟨g, 0, none⟩), .pointer none, .pointer q] w fun e w' => e = .returned (.bool false) ∧ w = w' := by
  go_enter Tryd.func30, Tryd.ntmps30
  go_wp2
  go_ret
  exact ⟨rfl, rfl⟩
theorem low_nil3 (w : World) (g h : Nat) : Calls Tryd.prog 30 #[.pointer (some ⟨g, 0, none⟩), .pointer (some ⟨h, 0, none⟩), .pointer none] w fun e w' => e = .returned (.bool false) ∧ w = w' := by
  go_enter Tryd.func30, Tryd.ntmps30
  go_wp2
  go_ret
  exact ⟨rfl, rfl⟩
theorem mnew_eq (w : World) : Calls Tryd.prog 34 #[] w fun e w' => e = .returned (.pointer (some ⟨w.heap.size, 0, none⟩)) ∧ Below w.heap.size w w' := by
  go_enter Tryd.func34, Tryd.ntmps34
  go_wp2
  go_ret
  exact ⟨rfl, (by repeat' (first | with_reducible exact Below.refl _ _ | with_reducible assumption | with_reducible refine Q.alloc ?_ _ | with_reducible refine Q.drew ?_ | with_reducible refine Q.drewN ?_ _ | with_reducible refine Q.call ?_ (by assumption)))⟩
theorem all_nil (w : World) : Calls Tryd.prog 35 #[.pointer none] w fun e w' => e = .returned (.func (.func 61) #[] #[.pointer (some ⟨w.heap.size, 0, none⟩)]) ∧ w' = w.alloc (.cells #[.pointer none] 49) := by
  go_enter Tryd.func35, Tryd.ntmps35
  go_wp2
  go_ret
  exact ⟨rfl, rfl⟩
attribute [local go_sem] Oper.semAt_some
theorem all_stops_nil (n : Nat) (g n₀ : Nat) (w : World) (hg : g < w.heap.size) (hc : w.cell? ⟨g, 0, none⟩ = some (.pointer none)) :
    SeqStopsK Fence.wide n Tryd.prog 61 #[.pointer (some ⟨g, 0, none⟩)] encA (Below n₀) (fun ys => ys = []) (fun _ => False) 0 w := fun l J Jx W hW _ _ hY h0 => by
  have hc' := (hW.cell (p := ⟨g, 0, none⟩) hg).trans hc
  refine callsIn_of_wp Tryd.func61 rfl trivial ?_ rfl
  simp only [Tryd.ntmps61, List.size_toArray, List.length_cons, List.length_nil, Nat.reduceAdd, Nat.reduceSub, Array.replicate_succ, Array.replicate_zero, List.push_toArray, List.append_toArray, List.nil_append, List.cons_append]
  gi_wp2
  refine bodyPost_ret (results_none rfl _ _ _) rfl ?_
  exact ⟨⟨_, rfl⟩, .inl ⟨[], rfl, h0⟩⟩
end Go.Proofs.YtggnkkmlabhofaaDoor
