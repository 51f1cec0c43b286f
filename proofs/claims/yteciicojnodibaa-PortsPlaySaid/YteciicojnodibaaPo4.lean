/- Ports: Write. (printed by gen/po4.py) -/
import Derived.Test.YteciicojnodibaaPo3
import Derived.Deep.RegionWith
namespace Go.Proofs.Yteciicojnodibaa
set_option linter.unusedVariables false
set_option linter.unusedSimpArgs false
open Go.RowKit
attribute [local go_sem ↓] Go.wp_at_zero Go.wp_at_succ

theorem w_bad (w : World) (g : Nat) (r b t cyc : Int) (h : r < 0 ∨ 4 < r) :
    Calls Try.prog 15 #[.pointer (some ⟨g, 0, none⟩), .int .i64 r, .agg #[.int .u8 b, .int .u8 t], .int .i64 cyc] w fun e w' => e = .returned (.tuple #[.int .i64 0, .int .i64 10]) ∧ Below w.heap.size w w' := by
  have e0 : (r == 0) = false := beq_eq_false_iff_ne.2 (by omega)
  have e1 : (r == 1) = false := beq_eq_false_iff_ne.2 (by omega)
  have e2 : (r == 2) = false := beq_eq_false_iff_ne.2 (by omega)
  have e3 : (r == 3) = false := beq_eq_false_iff_ne.2 (by omega)
  have e4 : (r == 4) = false := beq_eq_false_iff_ne.2 (by omega)
  clear h
  go_enter Try.func15, Try.ntmps15
  go_wp2_with fail
  go_returns
  exact ⟨rfl, Q.alloc (Below.refl _ _) _⟩
theorem w_alarm0 (w : World) (g : Nat) (b t cyc : Int) (h : t ≠ 0) :
    Calls Try.prog 15 #[.pointer (some ⟨g, 0, none⟩), .int .i64 0, .agg #[.int .u8 b, .int .u8 t], .int .i64 cyc] w fun e w' => e = .returned (.tuple #[.int .i64 4, .int .i64 20]) ∧ Below w.heap.size w w' := by
  have e0 : (t == 0) = false := beq_eq_false_iff_ne.2 h
  have e1 : (t != 0) = true := by simp [bne, e0]
  go_enter Try.func15, Try.ntmps15
  go_wp2_with fail
  go_returns
  exact ⟨rfl, Q.alloc (Below.refl _ _) _⟩
theorem w_alarm1 (w : World) (g : Nat) (b t cyc : Int) (h : t ≠ 0) :
    Calls Try.prog 15 #[.pointer (some ⟨g, 0, none⟩), .int .i64 1, .agg #[.int .u8 b, .int .u8 t], .int .i64 cyc] w fun e w' => e = .returned (.tuple #[.int .i64 4, .int .i64 20]) ∧ Below w.heap.size w w' := by
  have e0 : (t == 0) = false := beq_eq_false_iff_ne.2 h
  have e1 : (t != 0) = true := by simp [bne, e0]
  go_enter Try.func15, Try.ntmps15
  go_wp2_with fail
  go_returns
  exact ⟨rfl, Q.alloc (Below.refl _ _) _⟩
theorem w_alarm2 (w : World) (g : Nat) (b t cyc : Int) (h : t ≠ 0) :
    Calls Try.prog 15 #[.pointer (some ⟨g, 0, none⟩), .int .i64 2, .agg #[.int .u8 b, .int .u8 t], .int .i64 cyc] w fun e w' => e = .returned (.tuple #[.int .i64 4, .int .i64 20]) ∧ Below w.heap.size w w' := by
  have e0 : (t == 0) = false := beq_eq_false_iff_ne.2 h
  have e1 : (t != 0) = true := by simp [bne, e0]
  go_enter Try.func15, Try.ntmps15
  go_wp2_with fail
  go_returns
  exact ⟨rfl, Q.alloc (Below.refl _ _) _⟩
theorem w_quiet0 (w : World) (g : Nat) (b cyc : Int) :
    Calls Try.prog 15 #[.pointer (some ⟨g, 0, none⟩), .int .i64 0, .agg #[.int .u8 b, .int .u8 0], .int .i64 cyc] w fun e w' => e = .returned (.tuple #[.int .i64 0, .int .i64 0]) ∧ Below w.heap.size w w' := by
  go_enter Try.func15, Try.ntmps15
  go_wp2_with fail
  go_returns
  exact ⟨rfl, Q.alloc (Below.refl _ _) _⟩
theorem w_quiet1 (w : World) (g : Nat) (b cyc : Int) :
    Calls Try.prog 15 #[.pointer (some ⟨g, 0, none⟩), .int .i64 1, .agg #[.int .u8 b, .int .u8 0], .int .i64 cyc] w fun e w' => e = .returned (.tuple #[.int .i64 0, .int .i64 0]) ∧ Below w.heap.size w w' := by
  go_enter Try.func15, Try.ntmps15
  go_wp2_with fail
  go_returns
  exact ⟨rfl, Q.alloc (Below.refl _ _) _⟩
set_option maxHeartbeats 1600000 in
theorem w_full2 (w : World) (col : Nat → Nat) (c g : Nat) (v : PV) (s : PS) (b cyc : Int) (hp : IsP w col c g v s) (hl : 4096 ≤ s.out.length) :
    Calls Try.prog 15 #[.pointer (some ⟨g, 0, none⟩), .int .i64 2, .agg #[.int .u8 b, .int .u8 0], .int .i64 cyc] w fun e w' => e = .returned (.tuple #[.int .i64 0, .int .i64 18]) ∧ Below w.heap.size w w' := by
  have C := fun V (hB : Below w.heap.size w V) => put_full_U g 2 v.cells v.out s.out b V (hp.call hB).blk rfl (hp.call hB).out.1 hl
  try simp only at C
  have HP := Lib.hid hp
  clear hp hl
  go_enter Try.func15, Try.ntmps15
  go_wp2_with fail
  go_region_with ((go_at_call 32; (with_reducible refine (C _ (by repeat' (first | exact Below.refl _ _ | refine Q.alloc ?_ _ | refine Q.drew ?_))).mono ?_); rintro e w5 ⟨rfl, hb5⟩))
  all_goals
    have hB5 := Q.call (Q.alloc (Q.drew (Below.refl _ w)) (.cells #[.int .u8 b, .int .u8 0] 23)) hb5
    go_wp2
    go_returns
    exact ⟨rfl, hB5⟩
set_option maxHeartbeats 1600000 in
theorem w_ok2 (w : World) (col : Nat → Nat) (c g : Nat) (v : PV) (s : PS) (b cyc : Int) (hp : IsP w col c g v s) (h0 : c ≠ 0) (hl : s.out.length < 4096) :
    Calls Try.prog 15 #[.pointer (some ⟨g, 0, none⟩), .int .i64 2, .agg #[.int .u8 b, .int .u8 0], .int .i64 cyc] w fun e w' => e = .returned (.tuple #[.int .i64 0, .int .i64 0]) ∧ ∃ v', IsP w' (paint col w.heap.size c) c g v' { s with out := s.out ++ [b] } ∧ Chg (fun b => col b = c) w w' := by
  have C := fun V (hB : Below w.heap.size w V) => p_put_U w V col c g v s b hp h0 hB hl
  try simp only at C
  have HP := Lib.hid hp
  clear hp hl h0
  go_enter Try.func15, Try.ntmps15
  go_wp2_with fail
  go_region_with ((go_at_call 32; (with_reducible refine (C _ (by repeat' (first | exact Below.refl _ _ | refine Q.alloc ?_ _ | refine Q.drew ?_))).mono ?_); rintro e w5 ⟨rfl, v5, hp5, hc5⟩))
  all_goals
    have H5 := Lib.hid hp5
    have J5 := Lib.hid hc5
    clear hp5 hc5
    go_wp2
    go_returns
    exact ⟨rfl, v5, H5.out, J5.out⟩
set_option maxHeartbeats 1600000 in
theorem w_full3 (w : World) (col : Nat → Nat) (c g : Nat) (v : PV) (s : PS) (b t cyc : Int) (hp : IsP w col c g v s) (hl : 4096 ≤ s.kept.length) :
    Calls Try.prog 15 #[.pointer (some ⟨g, 0, none⟩), .int .i64 3, .agg #[.int .u8 b, .int .u8 t], .int .i64 cyc] w fun e w' => e = .returned (.tuple #[.int .i64 0, .int .i64 18]) ∧ Below w.heap.size w w' := by
  have C := fun V (hB : Below w.heap.size w V) => put_full_B g 3 v.cells v.kept s.kept (b, t) V (hp.call hB).blk rfl (hp.call hB).kept.1 hl
  try simp only at C
  have HP := Lib.hid hp
  clear hp hl
  go_enter Try.func15, Try.ntmps15
  go_wp2_with fail
  go_region_with ((go_at_call 33; (with_reducible refine (C _ (by repeat' (first | exact Below.refl _ _ | refine Q.alloc ?_ _ | refine Q.drew ?_))).mono ?_); rintro e w5 ⟨rfl, hb5⟩))
  all_goals
    have hB5 := Q.call (Q.alloc (Q.drew (Below.refl _ w)) (.cells #[.int .u8 b, .int .u8 t] 23)) hb5
    go_wp2
    go_returns
    exact ⟨rfl, hB5⟩
set_option maxHeartbeats 1600000 in
theorem w_ok3 (w : World) (col : Nat → Nat) (c g : Nat) (v : PV) (s : PS) (b t cyc : Int) (hp : IsP w col c g v s) (h0 : c ≠ 0) (hl : s.kept.length < 4096) :
    Calls Try.prog 15 #[.pointer (some ⟨g, 0, none⟩), .int .i64 3, .agg #[.int .u8 b, .int .u8 t], .int .i64 cyc] w fun e w' => e = .returned (.tuple #[.int .i64 0, .int .i64 0]) ∧ ∃ v', IsP w' (paint col w.heap.size c) c g v' { s with kept := s.kept ++ [(b, t)] } ∧ Chg (fun b => col b = c) w w' := by
  have C := fun V (hB : Below w.heap.size w V) => p_put_B w V col c g v s (b, t) hp h0 hB hl
  try simp only at C
  have HP := Lib.hid hp
  clear hp hl h0
  go_enter Try.func15, Try.ntmps15
  go_wp2_with fail
  go_region_with ((go_at_call 33; (with_reducible refine (C _ (by repeat' (first | exact Below.refl _ _ | refine Q.alloc ?_ _ | refine Q.drew ?_))).mono ?_); rintro e w5 ⟨rfl, v5, hp5, hc5⟩))
  all_goals
    have H5 := Lib.hid hp5
    have J5 := Lib.hid hc5
    clear hp5 hc5
    go_wp2
    go_returns
    exact ⟨rfl, v5, H5.out, J5.out⟩
set_option maxHeartbeats 1600000 in
theorem w_full4 (w : World) (col : Nat → Nat) (c g : Nat) (v : PV) (s : PS) (b t cyc : Int) (hp : IsP w col c g v s) (hl : 4096 ≤ s.log.length) :
    Calls Try.prog 15 #[.pointer (some ⟨g, 0, none⟩), .int .i64 4, .agg #[.int .u8 b, .int .u8 t], .int .i64 cyc] w fun e w' => e = .returned (.tuple #[.int .i64 0, .int .i64 18]) ∧ Below w.heap.size w w' := by
  have C := fun V (hB : Below w.heap.size w V) => put_full_E g 4 v.cells v.log s.log (cyc, b) V (hp.call hB).blk rfl (hp.call hB).log.1 hl
  try simp only at C
  have HP := Lib.hid hp
  clear hp hl
  go_enter Try.func15, Try.ntmps15
  go_wp2_with fail
  go_region_with ((go_at_call 34; (with_reducible refine (C _ (by repeat' (first | exact Below.refl _ _ | refine Q.alloc ?_ _ | refine Q.drew ?_))).mono ?_); rintro e w5 ⟨rfl, hb5⟩))
  all_goals
    have hB5 := Q.call (Q.alloc (Q.drew (Below.refl _ w)) (.cells #[.int .u8 b, .int .u8 t] 23)) hb5
    go_wp2
    go_returns
    exact ⟨rfl, hB5⟩
set_option maxHeartbeats 1600000 in
theorem w_ok4 (w : World) (col : Nat → Nat) (c g : Nat) (v : PV) (s : PS) (b t cyc : Int) (hp : IsP w col c g v s) (h0 : c ≠ 0) (hl : s.log.length < 4096) :
    Calls Try.prog 15 #[.pointer (some ⟨g, 0, none⟩), .int .i64 4, .agg #[.int .u8 b, .int .u8 t], .int .i64 cyc] w fun e w' => e = .returned (.tuple #[.int .i64 0, .int .i64 0]) ∧ ∃ v', IsP w' (paint col w.heap.size c) c g v' { s with log := s.log ++ [(cyc, b)] } ∧ Chg (fun b => col b = c) w w' := by
  have C := fun V (hB : Below w.heap.size w V) => p_put_E w V col c g v s (cyc, b) hp h0 hB hl
  try simp only at C
  have HP := Lib.hid hp
  clear hp hl h0
  go_enter Try.func15, Try.ntmps15
  go_wp2_with fail
  go_region_with ((go_at_call 34; (with_reducible refine (C _ (by repeat' (first | exact Below.refl _ _ | refine Q.alloc ?_ _ | refine Q.drew ?_))).mono ?_); rintro e w5 ⟨rfl, v5, hp5, hc5⟩))
  all_goals
    have H5 := Lib.hid hp5
    have J5 := Lib.hid hc5
    clear hp5 hc5
    go_wp2
    go_returns
    exact ⟨rfl, v5, H5.out, J5.out⟩
/-- The rule that is broken; the error; what becomes of ports. -/
def wRule (r t : Int) : Int := if (0 ≤ r ∧ r ≤ 2) ∧ t ≠ 0 then 4 else 0
def PS.wErr (s : PS) (r t : Int) : Int :=
  if r < 0 ∨ 4 < r then 10 else if r ≤ 2 ∧ t ≠ 0 then 20 else if (r = 2 ∧ 4096 ≤ s.out.length) ∨ (r = 3 ∧ 4096 ≤ s.kept.length) ∨ (r = 4 ∧ 4096 ≤ s.log.length) then 18 else 0
def PS.wrote (s : PS) (r : Int) (b t cyc : Int) : PS :=
  if s.wErr r t ≠ 0 then s else if r = 2 then { s with out := s.out ++ [b] } else if r = 3 then { s with kept := s.kept ++ [(b, t)] } else if r = 4 then { s with log := s.log ++ [(cyc, b)] } else s
theorem pwrite_calls (w : World) (col : Nat → Nat) (c g : Nat) (v : PV) (s : PS) (r b t cyc : Int) (hp : IsP w col c g v s) (h0 : c ≠ 0) :
    Calls Try.prog 15 #[.pointer (some ⟨g, 0, none⟩), .int .i64 r, .agg #[.int .u8 b, .int .u8 t], .int .i64 cyc] w fun e w' => e = .returned (.tuple #[.int .i64 (wRule r t), .int .i64 (s.wErr r t)]) ∧ ∃ v', IsP w' (paint col w.heap.size c) c g v' (s.wrote r b t cyc) ∧ Chg (fun b => col b = c) w w' := by
  have same : ∀ {a x : Int}, s.wErr r t = x → wRule r t = a → s.wrote r b t cyc = s →
      (Calls Try.prog 15 #[.pointer (some ⟨g, 0, none⟩), .int .i64 r, .agg #[.int .u8 b, .int .u8 t], .int .i64 cyc] w fun e w' => e = .returned (.tuple #[.int .i64 a, .int .i64 x]) ∧ Below w.heap.size w w') →
      Calls Try.prog 15 #[.pointer (some ⟨g, 0, none⟩), .int .i64 r, .agg #[.int .u8 b, .int .u8 t], .int .i64 cyc] w fun e w' => e = .returned (.tuple #[.int .i64 (wRule r t), .int .i64 (s.wErr r t)]) ∧ ∃ v', IsP w' (paint col w.heap.size c) c g v' (s.wrote r b t cyc) ∧ Chg (fun b => col b = c) w w' := by
    intro a x e1 e2 e3 h
    rw [e1, e2, e3]
    exact h.mono fun e w' ⟨he, hb⟩ => ⟨he, v, hp.new hb c, .of hb⟩
  by_cases hbad : r < 0 ∨ 4 < r
  · have e1 : s.wErr r t = 10 := if_pos hbad
    exact same e1 (if_neg (by omega)) (if_pos (by rw [e1]; decide)) (w_bad w g r b t cyc hbad)
  by_cases hal : r ≤ 2 ∧ t ≠ 0
  · have e1 : s.wErr r t = 20 := by unfold PS.wErr; rw [if_neg hbad, if_pos hal]
    refine same e1 (if_pos ⟨by omega, hal.2⟩) (if_pos (by rw [e1]; decide)) ?_
    rcases (by omega : r = 0 ∨ r = 1 ∨ r = 2) with rfl | rfl | rfl
    · exact w_alarm0 w g b t cyc hal.2
    · exact w_alarm1 w g b t cyc hal.2
    · exact w_alarm2 w g b t cyc hal.2
  have er : wRule r t = 0 := if_neg (by rintro ⟨h1, h2⟩; exact hal ⟨h1.2, h2⟩)
  by_cases hf : (r = 2 ∧ 4096 ≤ s.out.length) ∨ (r = 3 ∧ 4096 ≤ s.kept.length) ∨ (r = 4 ∧ 4096 ≤ s.log.length)
  · have e1 : s.wErr r t = 18 := by unfold PS.wErr; rw [if_neg hbad, if_neg hal, if_pos hf]
    refine same e1 er (if_pos (by rw [e1]; decide)) ?_
    rcases hf with ⟨rfl, hl⟩ | ⟨rfl, hl⟩ | ⟨rfl, hl⟩
    · obtain rfl : t = 0 := by omega
      exact w_full2 w col c g v s b cyc hp hl
    · exact w_full3 w col c g v s b t cyc hp hl
    · exact w_full4 w col c g v s b t cyc hp hl
  have e1 : s.wErr r t = 0 := by unfold PS.wErr; rw [if_neg hbad, if_neg hal, if_neg hf]
  have e2 : s.wrote r b t cyc = if r = 2 then { s with out := s.out ++ [b] } else if r = 3 then { s with kept := s.kept ++ [(b, t)] } else if r = 4 then { s with log := s.log ++ [(cyc, b)] } else s := if_neg (by rw [e1]; decide)
  rcases (by omega : r = 0 ∨ r = 1 ∨ r = 2 ∨ r = 3 ∨ r = 4) with rfl | rfl | rfl | rfl | rfl
  · obtain rfl : t = 0 := by omega
    exact same e1 er (by rw [e2]; rfl) (w_quiet0 w g b cyc)
  · obtain rfl : t = 0 := by omega
    exact same e1 er (by rw [e2]; rfl) (w_quiet1 w g b cyc)
  · obtain rfl : t = 0 := by omega
    rw [er, e1, e2]
    exact w_ok2 w col c g v s b cyc hp h0 (by omega)
  · rw [er, e1, e2]
    exact w_ok3 w col c g v s b t cyc hp h0 (by omega)
  · rw [er, e1, e2]
    exact w_ok4 w col c g v s b t cyc hp h0 (by omega)
end Go.Proofs.Yteciicojnodibaa
