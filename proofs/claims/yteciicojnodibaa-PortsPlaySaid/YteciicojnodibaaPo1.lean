/- Ports: Clone, last, put at three kinds of elements; next. (printed by gen/po1.py) -/
import Derived.Test.YteciicojnodibaaEl
namespace Go.Proofs.Yteciicojnodibaa
set_option linter.unusedVariables false
set_option linter.unusedSimpArgs false
open Go.RowKit

theorem info_U : (Try.prog.info? 5).map (fun i => (i.zero, i.size, i.bytes)) = some (some (.int .u8 0), 1, 1) := by kernel_rfl
theorem eqls_some_U (ad : Addr) (n c : Nat) (w : World) : (binOp .eql 29 (.slice (some ad) n c) (.slice none 0 0)).run Try.prog w = .ok (.bool false) w := by
  have h : ∀ d : Nat, (Op.equalIn (d + 1) 29 (.slice (some ad) n c) (.slice none 0 0)).run Try.prog w = .ok false w := fun d => by
    simp [Op.equalIn, run_underlying Try.underlying29, go_sem]
  simp only [binOp]
  simp [Op.equal, Op.maxDepth, h 9999]
theorem eqls_none_U (w : World) : (binOp .eql 29 (.slice none 0 0) (.slice none 0 0)).run Try.prog w = .ok (.bool true) w := by
  have h : ∀ d : Nat, (Op.equalIn (d + 1) 29 (.slice none 0 0) (.slice none 0 0)).run Try.prog w = .ok true w := fun d => by
    simp [Op.equalIn, run_underlying Try.underlying29, go_sem]
  simp only [binOp]
  simp [Op.equal, Op.maxDepth, h 9999]
attribute [local go_sem] eqls_some_U eqls_none_U
set_option maxHeartbeats 800000 in
theorem clone_U (v : Value) (l : List (Int)) (R : Nat → Prop) (w : World) (hl : l.length ≤ 70000) (hr : Rd EU w R v l) :
    Calls Try.prog 21 #[v] w fun e w' => ∃ sv, e = .returned sv ∧ w'.ownsRow w.heap.size 5 1 sv l.length (EU.row l) ∧ Below w.heap.size w w' := by
  obtain ⟨i0, hi0, hz0, hz1, hz2⟩ := info_parts info_U
  have hr' := hr
  obtain ⟨a, cap, rfl, hc, hn, -⟩ := hr
  cases a with
  | none =>
    have h0 := hn rfl
    subst h0
    obtain rfl : l = [] := List.eq_nil_of_length_eq_zero (by omega)
    go_enter Try.func21, Try.ntmps21
    go_wp2
    go_returns
    exact ⟨_, rfl, World.ownsRow_nil _ _ _ _, Below.refl _ _⟩
  | some ad =>
    have hba : Below w.heap.size w (w.alloc (.cells #[] 5)) := (Below.refl _ _).alloc (Nat.le_refl _) _
    have hsrc := (hr'.below hba).src
    have HO : (w.alloc (.cells #[] 5)).ownsRow w.heap.size 5 1 (.slice (some ⟨w.heap.size, 0, none⟩) 0 0) 0 [] := ⟨rfl, .inr ⟨w.heap.size, 0, #[], rfl, Nat.le_refl _, heap_alloc_new w _, Nat.le_refl _, Nat.zero_le _, rfl, rfl⟩⟩
    go_enter Try.func21, Try.ntmps21
    go_wp2_with (at_builtin; refine wpList_append_src rfl _ _ 29 rfl w.heap.size 5 i0 _ 1 1 Try.underlying29 hi0 hz0 hz1 hz2 rfl (by decide) (.slice (some ⟨w.heap.size, 0, none⟩) 0 0) 0 [] rfl HO _ l.length (EU.row l) rfl hsrc (EU.row_length _) (EU.row_one _) (by unfold maxLen; omega) (by omega) (by simp) ?_; intro v1 w1 hown1 hgrow1; simp only [Nat.zero_add, List.nil_append] at hown1)
    go_returns
    exact ⟨_, rfl, hown1, hba.grown hgrow1 (by simp) (by simp [Value.ownBlock])⟩
/-- The last element. -/
def lastU (l : List (Int)) : Int := l.getLastD 0
set_option maxHeartbeats 800000 in
theorem last_U (v : Value) (l : List (Int)) (R : Nat → Prop) (w : World) (hl : l.length ≤ 70000) (hr : Rd EU w R v l) :
    Calls Try.prog 29 #[v] w fun e w' => ∃ x, x = lastU l ∧ e = .returned (.int .u8 x) ∧ Below w.heap.size w w' := by
  obtain ⟨a, cap, rfl, hc, hn, hr⟩ := hr
  by_cases h0 : l.length = 0
  · obtain rfl := List.eq_nil_of_length_eq_zero h0
    go_enter Try.func29, Try.ntmps29
    go_wp2
    go_returns
    exact ⟨_, rfl, rfl, by repeat' (first | exact Below.refl _ _ | refine Q.alloc ?_ _)⟩
  · obtain ⟨b, off, rfl, hb, -, hcell⟩ := hr (by omega)
    obtain ⟨x, hx⟩ : ∃ x, l[l.length - 1]? = some x := ⟨l[l.length - 1], List.getElem?_eq_getElem (by omega)⟩
    have hlast : lastU l = x := by
      unfold lastU
      rw [List.getLastD_eq_getLast?, List.getLast?_eq_getElem?, hx]
      rfl
    have d0 := hcell (l.length - 1) x hx 0 _ rfl
    rw [hlast]
    have HL := Lib.hid hlast
    obtain ⟨m, hm⟩ : ∃ m, l.length = m + 1 := ⟨l.length - 1, by omega⟩
    have e0 : (((m + 1 : Nat) : Int) - 1) = (m : Int) := by omega
    have hm2 : m < 70000 := by omega
    rw [hm, show m + 1 - 1 = m by omega] at d0
    simp only [Nat.mul_one, Nat.add_zero] at d0
    rw [hm]
    clear hlast hcell hx hr h0 hl hm hn
    go_enter Try.func29, Try.ntmps29
    go_wp2
    go_returns
    exact ⟨x, rfl, rfl, by repeat' (first | exact Below.refl _ _ | refine Q.alloc ?_ _)⟩

theorem info_B : (Try.prog.info? 23).map (fun i => (i.zero, i.size, i.bytes)) = some (some (.agg #[.int .u8 0, .int .u8 0]), 2, 2) := by kernel_rfl
theorem eqls_some_B (ad : Addr) (n c : Nat) (w : World) : (binOp .eql 31 (.slice (some ad) n c) (.slice none 0 0)).run Try.prog w = .ok (.bool false) w := by
  have h : ∀ d : Nat, (Op.equalIn (d + 1) 31 (.slice (some ad) n c) (.slice none 0 0)).run Try.prog w = .ok false w := fun d => by
    simp [Op.equalIn, run_underlying Try.underlying31, go_sem]
  simp only [binOp]
  simp [Op.equal, Op.maxDepth, h 9999]
theorem eqls_none_B (w : World) : (binOp .eql 31 (.slice none 0 0) (.slice none 0 0)).run Try.prog w = .ok (.bool true) w := by
  have h : ∀ d : Nat, (Op.equalIn (d + 1) 31 (.slice none 0 0) (.slice none 0 0)).run Try.prog w = .ok true w := fun d => by
    simp [Op.equalIn, run_underlying Try.underlying31, go_sem]
  simp only [binOp]
  simp [Op.equal, Op.maxDepth, h 9999]
attribute [local go_sem] eqls_some_B eqls_none_B
set_option maxHeartbeats 800000 in
theorem clone_B (v : Value) (l : List (Int × Int)) (R : Nat → Prop) (w : World) (hl : l.length ≤ 70000) (hr : Rd EB w R v l) :
    Calls Try.prog 35 #[v] w fun e w' => ∃ sv, e = .returned sv ∧ w'.ownsRow w.heap.size 23 2 sv l.length (EB.row l) ∧ Below w.heap.size w w' := by
  obtain ⟨i0, hi0, hz0, hz1, hz2⟩ := info_parts info_B
  have hr' := hr
  obtain ⟨a, cap, rfl, hc, hn, -⟩ := hr
  cases a with
  | none =>
    have h0 := hn rfl
    subst h0
    obtain rfl : l = [] := List.eq_nil_of_length_eq_zero (by omega)
    go_enter Try.func35, Try.ntmps35
    go_wp2
    go_returns
    exact ⟨_, rfl, World.ownsRow_nil _ _ _ _, Below.refl _ _⟩
  | some ad =>
    have hba : Below w.heap.size w (w.alloc (.cells #[] 23)) := (Below.refl _ _).alloc (Nat.le_refl _) _
    have hsrc := (hr'.below hba).src
    have HO : (w.alloc (.cells #[] 23)).ownsRow w.heap.size 23 2 (.slice (some ⟨w.heap.size, 0, none⟩) 0 0) 0 [] := ⟨rfl, .inr ⟨w.heap.size, 0, #[], rfl, Nat.le_refl _, heap_alloc_new w _, Nat.le_refl _, Nat.zero_le _, rfl, rfl⟩⟩
    go_enter Try.func35, Try.ntmps35
    go_wp2_with (at_builtin; refine wpList_append_src rfl _ _ 31 rfl w.heap.size 23 i0 _ 2 2 Try.underlying31 hi0 hz0 hz1 hz2 rfl (by decide) (.slice (some ⟨w.heap.size, 0, none⟩) 0 0) 0 [] rfl HO _ l.length (EB.row l) rfl hsrc (EB.row_length _) (EB.row_one _) (by unfold maxLen; omega) (by omega) (by simp) ?_; intro v1 w1 hown1 hgrow1; simp only [Nat.zero_add, List.nil_append] at hown1)
    go_returns
    exact ⟨_, rfl, hown1, hba.grown hgrow1 (by simp) (by simp [Value.ownBlock])⟩
/-- The last element. -/
def lastB (l : List (Int × Int)) : Int × Int := l.getLastD (0, 0)
set_option maxHeartbeats 800000 in
theorem last_B (v : Value) (l : List (Int × Int)) (R : Nat → Prop) (w : World) (hl : l.length ≤ 70000) (hr : Rd EB w R v l) :
    Calls Try.prog 30 #[v] w fun e w' => ∃ x, x = lastB l ∧ e = .returned (.agg #[.int .u8 x.1, .int .u8 x.2]) ∧ Below w.heap.size w w' := by
  obtain ⟨a, cap, rfl, hc, hn, hr⟩ := hr
  by_cases h0 : l.length = 0
  · obtain rfl := List.eq_nil_of_length_eq_zero h0
    go_enter Try.func30, Try.ntmps30
    go_wp2
    go_returns
    exact ⟨_, rfl, rfl, by repeat' (first | exact Below.refl _ _ | refine Q.alloc ?_ _)⟩
  · obtain ⟨b, off, rfl, hb, -, hcell⟩ := hr (by omega)
    obtain ⟨x, hx⟩ : ∃ x, l[l.length - 1]? = some x := ⟨l[l.length - 1], List.getElem?_eq_getElem (by omega)⟩
    have hlast : lastB l = x := by
      unfold lastB
      rw [List.getLastD_eq_getLast?, List.getLast?_eq_getElem?, hx]
      rfl
    have d0 := hcell (l.length - 1) x hx 0 _ rfl
    have d1 := hcell (l.length - 1) x hx 1 _ rfl
    rw [hlast]
    have HL := Lib.hid hlast
    obtain ⟨m, hm⟩ : ∃ m, l.length = m + 1 := ⟨l.length - 1, by omega⟩
    have e0 : (((m + 1 : Nat) : Int) - 1) = (m : Int) := by omega
    have hm2 : m < 70000 := by omega
    rw [hm, show m + 1 - 1 = m by omega] at d0
    simp only [Nat.mul_one, Nat.add_zero] at d0
    rw [hm, show m + 1 - 1 = m by omega] at d1
    rw [hm]
    clear hlast hcell hx hr h0 hl hm hn
    go_enter Try.func30, Try.ntmps30
    go_wp2
    go_returns
    exact ⟨x, rfl, rfl, by repeat' (first | exact Below.refl _ _ | refine Q.alloc ?_ _)⟩

theorem info_E : (Try.prog.info? 58).map (fun i => (i.zero, i.size, i.bytes)) = some (some (.agg #[.int .i64 0, .int .u8 0]), 2, 16) := by kernel_rfl
theorem eqls_some_E (ad : Addr) (n c : Nat) (w : World) : (binOp .eql 55 (.slice (some ad) n c) (.slice none 0 0)).run Try.prog w = .ok (.bool false) w := by
  have h : ∀ d : Nat, (Op.equalIn (d + 1) 55 (.slice (some ad) n c) (.slice none 0 0)).run Try.prog w = .ok false w := fun d => by
    simp [Op.equalIn, run_underlying Try.underlying55, go_sem]
  simp only [binOp]
  simp [Op.equal, Op.maxDepth, h 9999]
theorem eqls_none_E (w : World) : (binOp .eql 55 (.slice none 0 0) (.slice none 0 0)).run Try.prog w = .ok (.bool true) w := by
  have h : ∀ d : Nat, (Op.equalIn (d + 1) 55 (.slice none 0 0) (.slice none 0 0)).run Try.prog w = .ok true w := fun d => by
    simp [Op.equalIn, run_underlying Try.underlying55, go_sem]
  simp only [binOp]
  simp [Op.equal, Op.maxDepth, h 9999]
attribute [local go_sem] eqls_some_E eqls_none_E
set_option maxHeartbeats 800000 in
theorem clone_E (v : Value) (l : List (Int × Int)) (R : Nat → Prop) (w : World) (hl : l.length ≤ 70000) (hr : Rd EE w R v l) :
    Calls Try.prog 36 #[v] w fun e w' => ∃ sv, e = .returned sv ∧ w'.ownsRow w.heap.size 58 2 sv l.length (EE.row l) ∧ Below w.heap.size w w' := by
  obtain ⟨i0, hi0, hz0, hz1, hz2⟩ := info_parts info_E
  have hr' := hr
  obtain ⟨a, cap, rfl, hc, hn, -⟩ := hr
  cases a with
  | none =>
    have h0 := hn rfl
    subst h0
    obtain rfl : l = [] := List.eq_nil_of_length_eq_zero (by omega)
    go_enter Try.func36, Try.ntmps36
    go_wp2
    go_returns
    exact ⟨_, rfl, World.ownsRow_nil _ _ _ _, Below.refl _ _⟩
  | some ad =>
    have hba : Below w.heap.size w (w.alloc (.cells #[] 58)) := (Below.refl _ _).alloc (Nat.le_refl _) _
    have hsrc := (hr'.below hba).src
    have HO : (w.alloc (.cells #[] 58)).ownsRow w.heap.size 58 2 (.slice (some ⟨w.heap.size, 0, none⟩) 0 0) 0 [] := ⟨rfl, .inr ⟨w.heap.size, 0, #[], rfl, Nat.le_refl _, heap_alloc_new w _, Nat.le_refl _, Nat.zero_le _, rfl, rfl⟩⟩
    go_enter Try.func36, Try.ntmps36
    go_wp2_with (at_builtin; refine wpList_append_src rfl _ _ 55 rfl w.heap.size 58 i0 _ 2 16 Try.underlying55 hi0 hz0 hz1 hz2 rfl (by decide) (.slice (some ⟨w.heap.size, 0, none⟩) 0 0) 0 [] rfl HO _ l.length (EE.row l) rfl hsrc (EE.row_length _) (EE.row_one _) (by unfold maxLen; omega) (by omega) (by simp) ?_; intro v1 w1 hown1 hgrow1; simp only [Nat.zero_add, List.nil_append] at hown1)
    go_returns
    exact ⟨_, rfl, hown1, hba.grown hgrow1 (by simp) (by simp [Value.ownBlock])⟩
/-- The last element. -/
def lastE (l : List (Int × Int)) : Int × Int := l.getLastD (0, 0)
set_option maxHeartbeats 800000 in
theorem last_E (v : Value) (l : List (Int × Int)) (R : Nat → Prop) (w : World) (hl : l.length ≤ 70000) (hr : Rd EE w R v l) :
    Calls Try.prog 31 #[v] w fun e w' => ∃ x, x = lastE l ∧ e = .returned (.agg #[.int .i64 x.1, .int .u8 x.2]) ∧ Below w.heap.size w w' := by
  obtain ⟨a, cap, rfl, hc, hn, hr⟩ := hr
  by_cases h0 : l.length = 0
  · obtain rfl := List.eq_nil_of_length_eq_zero h0
    go_enter Try.func31, Try.ntmps31
    go_wp2
    go_returns
    exact ⟨_, rfl, rfl, by repeat' (first | exact Below.refl _ _ | refine Q.alloc ?_ _)⟩
  · obtain ⟨b, off, rfl, hb, -, hcell⟩ := hr (by omega)
    obtain ⟨x, hx⟩ : ∃ x, l[l.length - 1]? = some x := ⟨l[l.length - 1], List.getElem?_eq_getElem (by omega)⟩
    have hlast : lastE l = x := by
      unfold lastE
      rw [List.getLastD_eq_getLast?, List.getLast?_eq_getElem?, hx]
      rfl
    have d0 := hcell (l.length - 1) x hx 0 _ rfl
    have d1 := hcell (l.length - 1) x hx 1 _ rfl
    rw [hlast]
    have HL := Lib.hid hlast
    obtain ⟨m, hm⟩ : ∃ m, l.length = m + 1 := ⟨l.length - 1, by omega⟩
    have e0 : (((m + 1 : Nat) : Int) - 1) = (m : Int) := by omega
    have hm2 : m < 70000 := by omega
    rw [hm, show m + 1 - 1 = m by omega] at d0
    simp only [Nat.mul_one, Nat.add_zero] at d0
    rw [hm, show m + 1 - 1 = m by omega] at d1
    rw [hm]
    clear hlast hcell hx hr h0 hl hm hn
    go_enter Try.func31, Try.ntmps31
    go_wp2
    go_returns
    exact ⟨x, rfl, rfl, by repeat' (first | exact Below.refl _ _ | refine Q.alloc ?_ _)⟩
end Go.Proofs.Yteciicojnodibaa
