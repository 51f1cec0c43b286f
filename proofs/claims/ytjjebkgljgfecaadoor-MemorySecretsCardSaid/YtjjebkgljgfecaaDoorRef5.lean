/- The two memories answer alike: plain laws. And the document's Write whole. -/
import Derived.Test.YtjjebkgljgfecaaDoorRef4
namespace Go.Proofs.YtjjebkgljgfecaaDoor
set_option linter.unusedVariables false
set_option linter.unusedSimpArgs false
open Go.RowKit

/-- What both hold is the same. -/
def Rel (f : Nat → Int × Int) (l : List PD) : Prop := ∀ y : Int, (isRAM y = true ∨ isROM y = true) → f y.toNat = lastAt l y

theorem kind_dec (x : Int) : (kindOf x = -1 ∧ (x < 0 ∨ 65536 ≤ x)) ∨ (kindOf x = 0 ∧ 0 ≤ x ∧ x < 32768) ∨ (kindOf x = 32768 ∧ 32768 ≤ x ∧ x < 32784) ∨ (kindOf x = 32784 ∧ 32784 ≤ x ∧ x < 49152) ∨ (kindOf x = 49152 ∧ 49152 ≤ x ∧ x < 65536) := by
  unfold kindOf
  repeat' split
  all_goals omega
theorem isRAM_iff (x : Int) : isRAM x = true ↔ 0 ≤ x ∧ x < 32768 := by unfold isRAM; simp
theorem isROM_iff (x : Int) : isROM x = true ↔ 49152 ≤ x ∧ x < 65536 := by unfold isROM; simp
theorem isDev_iff (x : Int) : isDev x = true ↔ 32768 ≤ x ∧ x < 32784 := by unfold isDev; simp
theorem isOne_iff (x y : Int) : isOne x y = true ↔ (0 ≤ x ∧ x < 32768 ∧ 0 ≤ y ∧ y < 32768) ∨ (49152 ≤ x ∧ x < 65536 ∧ 49152 ≤ y ∧ y < 65536) := by
  unfold isOne
  rw [Bool.or_eq_true, Bool.and_eq_true, Bool.and_eq_true, isRAM_iff, isRAM_iff, isROM_iff, isROM_iff]
  omega
theorem bool_false {b : Bool} : b = false ↔ ¬ b = true := by cases b <;> simp

theorem refErr_ok {x : Int} (h1 : ¬ (x < 0 ∨ 65535 < x)) (h2 : ¬ (32768 ≤ x ∧ x < 32784)) : refErr x = 0 := by
  unfold refErr
  rw [if_neg h1, if_neg (fun h => h2 ((isDev_iff x).1 h))]
theorem err_same (x : Int) : errOf x = refErr x := by
  unfold errOf refErr
  simp only [isDev_iff]
  have := kind_dec x
  repeat' split
  all_goals first | rfl | omega
theorem loads_iff (x : Int) : loadsOf x = true ↔ isRAM x = true ∨ isROM x = true := by
  unfold loadsOf
  rw [isRAM_iff, isROM_iff, Bool.or_eq_true, decide_eq_true_eq, decide_eq_true_eq]
  have := kind_dec x
  omega
theorem span_iff (x y : Int) : spanOf x y = 0 ↔ x ≤ y ∧ isOne x y = true := by
  unfold spanOf
  simp only [loads_iff, isRAM_iff, isROM_iff, isOne_iff]
  have h1 := kind_dec x
  have h2 := kind_dec y
  split
  · simp; omega
  · simp; omega
theorem span_same (x y : Int) : spanOf x y = refLabelErr x y := by
  unfold refLabelErr
  rcases span_two x y with h | h
  · have := (span_iff x y).1 h
    rw [h, if_neg]
    rintro (h1 | h1)
    · omega
    · rw [this.2] at h1; cases h1
  · have hn : ¬ (x ≤ y ∧ isOne x y = true) := fun hc => by rw [(span_iff x y).2 hc] at h; exact absurd h (by decide)
    rw [h, if_pos]
    by_cases hxy : y < x
    · exact .inl hxy
    · exact .inr (bool_false.2 (fun ho => hn ⟨by omega, ho⟩))
theorem load_same (x : Int) (n : Nat) (hn : n ≤ 65536) : loadErr x n = refLoadErr x n := by
  unfold loadErr refLoadErr
  by_cases h : loadsOf x = true ∧ n ≤ 65536 ∧ spanOf x (x + max 0 ((n : Int) - 1)) = 0
  · rw [if_pos h, if_neg]
    have h1 := (loads_iff x).1 h.1
    have h2 := (span_iff _ _).1 h.2.2
    rintro (⟨h3, h4⟩ | ⟨h3, h4⟩)
    · rw [h3, h4] at h1
      simp at h1
    · rw [show x + max 0 ((n : Int) - 1) = x + n - 1 by omega, h4] at h2
      exact absurd h2.2 (by simp)
  · rw [if_neg h, if_pos]
    by_cases h1 : loadsOf x = true
    · right
      have h2 : ¬ spanOf x (x + max 0 ((n : Int) - 1)) = 0 := fun hc => h ⟨h1, hn, hc⟩
      rw [span_iff] at h2
      rw [loads_iff, isRAM_iff, isROM_iff] at h1
      by_cases h0 : 0 < n
      · refine ⟨h0, bool_false.2 (fun ho => h2 ?_)⟩
        rw [show x + max 0 ((n : Int) - 1) = x + n - 1 by omega]
        exact ⟨by omega, ho⟩
      · refine absurd ?_ h2
        rw [show x + max 0 ((n : Int) - 1) = x by omega, isOne_iff]
        omega
    · left
      rw [loads_iff] at h1
      exact ⟨bool_false.2 (fun h => h1 (.inl h)), bool_false.2 (fun h => h1 (.inr h))⟩
theorem rel_at {f : Nat → Int × Int} {l : List PD} (h : Rel f l) {y : Int} (hy : isRAM y = true ∨ isROM y = true) : f y.toNat = refAt l y := by
  unfold refAt
  rw [if_neg, h y hy]
  rintro ⟨h1, h2⟩
  rw [h1, h2] at hy
  simp at hy
theorem read_same {f : Nat → Int × Int} {l : List PD} (h : Rel f l) (x : Int) : readOf f x = refRead l x := by
  unfold readOf refRead
  rw [err_same]
  by_cases he : refErr x = 0
  · rw [if_pos he, if_pos he]
    have hk := kind_dec x
    have he2 : errOf x = 0 := by rw [err_same]; exact he
    have hb := err_bounds he2
    by_cases h2 : kindOf x = 32784
    · rw [if_pos h2]
      unfold refAt
      rw [if_pos]
      rw [bool_false, bool_false, isRAM_iff, isROM_iff]
      omega
    · rw [if_neg h2]
      refine rel_at h ?_
      rw [isRAM_iff, isROM_iff]
      omega
  · rw [if_neg he, if_neg he]

theorem rel_upd {f : Nat → Int × Int} {l : List PD} (h : Rel f l) (x v t : Int) (hx : 0 ≤ x) : Rel (upd f x (v, t)) (l ++ [⟨x, v, t⟩]) := by
  intro y hy
  have hy0 : 0 ≤ y := by rw [isRAM_iff, isROM_iff] at hy; omega
  rw [lastAt_snoc]
  unfold upd
  rw [Int.toNat_of_nonneg hy0]
  by_cases hxy : x = y
  · rw [if_pos hxy.symm, if_pos hxy]
  · rw [if_neg (fun e => hxy e.symm), if_neg hxy, h y hy]
theorem rel_loaded {f : Nat → Int × Int} {l : List PD} (h : Rel f l) (x : Int) (bs : List Int) (hx : 0 ≤ x) : ∀ k, Rel (loaded f x bs k) (refLoaded l x bs k)
  | 0 => h
  | k + 1 => rel_upd (rel_loaded h x bs hx k) _ _ _ (by omega)
theorem rel_labelled {f : Nat → Int × Int} {l : List PD} (h : Rel f l) (x t : Int) (n : Nat) (hx : ∀ k : Nat, k < n → isRAM (x + k) = true ∨ isROM (x + k) = true) : ∀ k, k ≤ n → Rel (labelled f x t k) (refLabelled l x t k)
  | 0, _ => h
  | k + 1, hk => by
    have ih := rel_labelled h x t n hx k (by omega)
    intro y hy
    have hy0 : 0 ≤ y := by rw [isRAM_iff, isROM_iff] at hy; omega
    rw [refLabelled, labelled, lastAt_snoc]
    unfold setT
    rw [Int.toNat_of_nonneg hy0]
    by_cases hxy : x + (k : Int) = y
    · rw [if_pos hxy.symm, if_pos hxy]
      have := rel_at ih (hx k (by omega))
      rw [← this, hxy]
    · rw [if_neg (fun e => hxy e.symm), if_neg hxy, ih y hy]
theorem rel_wrote {f : Nat → Int × Int} {l : List PD} (h : Rel f l) (x v t : Int) : Rel (wrote f x (v, t)) (if isRAM x = true then l ++ [⟨x, v, t⟩] else l) := by
  unfold wrote
  have hk := kind_dec x
  by_cases hr : isRAM x = true
  · have hr2 := (isRAM_iff x).1 hr
    rw [if_pos hr, if_pos]
    · exact rel_upd h x v t hr2.1
    · refine ⟨?_, by omega⟩
      rw [err_same]
      exact refErr_ok (by omega) (by omega)
  · rw [if_neg hr, if_neg]
    · exact h
    · rintro ⟨_, h2⟩
      rw [isRAM_iff] at hr
      omega

set_option maxHeartbeats 1600000 in
theorem refWrite_calls (B g : Nat) (sv : Value) (l : List PD) (x v t : Int) (w : World) (hr : IsRef w B g sv l) (hB : B ≤ w.heap.size) (hl : l.length ≤ 1000000) :
    Calls Tryd.prog 30 #[.pointer (some ⟨g, 0, none⟩), .int .i64 x, .agg #[.int .u8 v, .int .u8 t]] w fun e w' => e = .returned (.int .i64 (refErr x)) ∧ ∃ sv', IsRef w' B g sv' (if isRAM x = true then l ++ [⟨x, v, t⟩] else l) ∧ Chg (RefF g sv) w w' ∧ (∀ b, RefF g sv' b → RefF g sv b ∨ w.heap.size ≤ b) := by
  by_cases hx : 0 ≤ x ∧ x < 32768
  · rw [if_pos ((isRAM_iff x).2 hx), refErr_ok (by omega) (by omega)]
    exact refWrite_ram B g sv l x v t w hr hB hl hx.1 hx.2
  · have hn : isRAM x = false := bool_false.2 (fun h => hx ((isRAM_iff x).1 h))
    rw [if_neg (by rw [hn]; simp)]
    have key : ∀ w', Below w.heap.size w w' → ∃ sv', IsRef w' B g sv' l ∧ Chg (RefF g sv) w w' ∧ (∀ b, RefF g sv' b → RefF g sv b ∨ w.heap.size ≤ b) := fun w' hb => ⟨sv, hr.call hb, .of hb, fun b h => .inl h⟩
    have D := fun w => isDev_calls x w
    have A := fun w => isRAM_calls x w
    rw [hn] at A
    have H : Hid (∀ w', Below w.heap.size w w' → ∃ sv', IsRef w' B g sv' l ∧ Chg (RefF g sv) w w' ∧ (∀ b, RefF g sv' b → RefF g sv b ∨ w.heap.size ≤ b)) := key
    clear key hr hx hn hl hB
    by_cases h1 : x < 0
    · rw [show refErr x = 10 by unfold refErr; rw [if_pos (.inl h1)]]
      go_enter Tryd.func30, Tryd.ntmps30
      go_wp2
      go_returns
      exact ⟨rfl, H.out _ (Q.alloc (Below.refl _ _) _)⟩
    · by_cases h2 : 65535 < x
      · rw [show refErr x = 10 by unfold refErr; rw [if_pos (.inr h2)]]
        go_enter Tryd.func30, Tryd.ntmps30
        go_wp2
        go_returns
        exact ⟨rfl, H.out _ (Q.alloc (Below.refl _ _) _)⟩
      · cases hd : isDev x
        · rw [show refErr x = 0 by unfold refErr; rw [if_neg (by omega), if_neg (by rw [hd]; simp)]]
          rw [hd] at D
          go_enter Tryd.func30, Tryd.ntmps30
          go_wp2_with (first
            | (go_at_call 31; (with_reducible refine (D _).mono ?_); rintro e w1 ⟨rfl, rfl⟩)
            | (go_at_call 12; (with_reducible refine (A _).mono ?_); rintro e w1 ⟨rfl, rfl⟩))
          go_returns
          exact ⟨rfl, H.out _ (Q.alloc (Below.refl _ _) _)⟩
        · rw [show refErr x = 15 by unfold refErr; rw [if_neg (by omega), if_pos hd]]
          rw [hd] at D
          go_enter Tryd.func30, Tryd.ntmps30
          go_wp2_with (go_at_call 31; (with_reducible refine (D _).mono ?_); rintro e w1 ⟨rfl, rfl⟩)
          go_returns
          exact ⟨rfl, H.out _ (Q.alloc (Below.refl _ _) _)⟩
end Go.Proofs.YtjjebkgljgfecaaDoor
