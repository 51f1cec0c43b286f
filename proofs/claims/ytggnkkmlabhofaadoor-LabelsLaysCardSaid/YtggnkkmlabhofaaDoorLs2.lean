/- The law LabelsLays: its plain part. (printed by gen/ls2.py) -/
import Derived.Test.YtggnkkmlabhofaaDoorLs0
import Derived.Test.YtggnkkmlabhofaaDoorLs1
import Derived.Test.YtggnkkmlabhofaaDoorAl0
import Derived.Test.YtggnkkmlabhofaaDoorLl2
namespace Go.Proofs.YtggnkkmlabhofaaDoor
set_option linter.unusedVariables false
set_option linter.unusedSimpArgs false
open Go.RowKit

theorem labelled_at (f : Nat → Int × Int) (x t : Int) (j : Nat) : ∀ m : Nat, labelled f x t m j = if x ≤ (j : Int) ∧ (j : Int) < x + m then ((f j).1, t) else f j
  | 0 => by rw [if_neg (by omega)]; rfl
  | m + 1 => by
    rw [labelled, setT]
    by_cases h : (j : Int) = x + m
    · rw [if_pos h, if_pos (by omega), labelled_at f x t j m, if_neg (by omega)]
    · rw [if_neg h, labelled_at f x t j m]
      by_cases h2 : x ≤ (j : Int) ∧ (j : Int) < x + m
      · rw [if_pos h2, if_pos (by omega)]
      · rw [if_neg h2, if_neg (by omega)]


theorem labelled_pt (f : Nat → Int × Int) (x : Sp) (h : x.f ≤ x.t) : labelled f x.f x.b (x.t - x.f + 1).toNat = fun k => ((f k).1, pt x (fun j => (f j).2) k) := by
  funext k
  rw [labelled_at]
  unfold pt
  by_cases c : x.f ≤ (k : Int) ∧ (k : Int) ≤ x.t
  · rw [if_pos c, if_pos (by omega)]
  · rw [if_neg c, if_neg (by omega)]
theorem layAll_eq : ∀ (l : List Sp) (f : Nat → Int × Int), (∀ x ∈ l, x.f ≤ x.t) → layAll f l = fun k => ((f k).1, fillT l (fun j => (f j).2) k)
  | [], f, _ => rfl
  | x :: r, f, h => by
    show layAll (labelled f x.f x.b (x.t - x.f + 1).toNat) r = _
    rw [labelled_pt f x (h x (by simp)), layAll_eq r _ (fun y hy => h y (by simp [hy]))]
    rfl
theorem ld_zero (ops : List LD) : ∀ k, (ldAll ops k).2 = 0 := by
  have key : ∀ (ops : List LD) (f : Nat → Int × Int), (∀ k, (f k).2 = 0) → ∀ k, (ops.foldl ld1 f k).2 = 0 := by
    intro ops
    induction ops with
    | nil => intro f h k; exact h k
    | cons o r ih =>
      intro f h
      refine ih (ld1 f o) (fun k => ?_)
      unfold ld1
      split
      · have hl : ∀ n j, (loaded f o.at_ o.l n j).2 = 0 := by
          intro n
          induction n with
          | zero => intro j; exact h j
          | succ n ih2 =>
            intro j
            rw [loaded, upd]
            split
            · rfl
            · exact ih2 j
        exact hl _ k
      · exact h k
  exact key ops _ (fun _ => rfl)
theorem lays_mem (ops : List LD) (l : List Sp) (h : ∀ x ∈ l, x.f ≤ x.t) : layAll (ldAll ops) l = fun k => ((ldAll ops k).1, fillT l (fun _ => 0) k) := by
  rw [layAll_eq l _ h]
  have e : (fun j => (ldAll ops j).2) = fun _ => (0 : Int) := funext (ld_zero ops)
  rw [e]
theorem span_lies {x : Sp} (h : liesB x true = true) : spanOf x.f x.t = 0 := by
  have h := of_decide_eq_true h
  have hk : (kindOf x.f = 0 ∧ kindOf x.t = 0) ∨ (kindOf x.f = 49152 ∧ kindOf x.t = 49152) := by
    unfold kindOf
    by_cases c : x.t ≤ 32767
    · exact .inl ⟨by rw [if_neg (by omega), if_pos (by omega)], by rw [if_neg (by omega), if_pos (by omega)]⟩
    · exact .inr ⟨by rw [if_neg (by omega), if_neg (by omega), if_neg (by omega), if_neg (by omega), if_pos (by omega)], by rw [if_neg (by omega), if_neg (by omega), if_neg (by omega), if_neg (by omega), if_pos (by omega)]⟩
  unfold spanOf
  rcases hk with ⟨h1, h2⟩ | ⟨h1, h2⟩
  · rw [if_pos ⟨by omega, by unfold loadsOf; rw [h1]; rfl, by rw [h1, h2]⟩]
  · rw [if_pos ⟨by omega, by unfold loadsOf; rw [h1]; rfl, by rw [h1, h2]⟩]
theorem kind_in {x y : Int} {k : Nat} (h : spanOf x y = 0) (h1 : x ≤ (k : Int)) (h2 : (k : Int) ≤ y) : errOf (k : Int) = 0 ∧ ∀ f : Nat → Int × Int, readOf f (k : Int) = f k := by
  obtain ⟨_, hb⟩ := span_ok h
  have hk : kindOf (k : Int) = 0 ∨ kindOf (k : Int) = 49152 := by
    unfold kindOf
    rcases hb with hb | hb
    · exact .inl (by rw [if_neg (by omega), if_pos (by omega)])
    · exact .inr (by rw [if_neg (by omega), if_neg (by omega), if_neg (by omega), if_neg (by omega), if_pos (by omega)])
  have he : errOf (k : Int) = 0 := by unfold errOf; rcases hk with e | e <;> rw [e] <;> rfl
  refine ⟨he, fun f => ?_⟩
  unfold readOf
  rw [if_pos he, if_neg (by rcases hk with e | e <;> rw [e] <;> decide)]
  rfl
/-- What is told of an address is one that may be labelled. -/
structure Lain (A : Nat → Int) : Prop where
  at_ : ∀ k : Nat, k < 65536 → A k ≠ 0 → errOf (k : Int) = 0 ∧ ∀ f : Nat → Int × Int, readOf f (k : Int) = f k
theorem lain_of {s m : List Sp} {d t : Int} (h : chk s m d t = 0) : Lain (fillT (srt s) (fun _ => 0)) := by
  obtain ⟨cs, _, _⟩ := chk_lies h
  refine ⟨fun k hk ha => ?_⟩
  obtain ⟨x, hx, h1, h2⟩ := (told_of h).only k hk ha
  exact kind_in (span_lies (chkL_lies _ _ _ _ cs x ((srt_perm s).mem_iff.1 hx)).1) h1 h2
theorem lays_spans {s m : List Sp} {d t : Int} (h : chk s m d t = 0) : ∀ x ∈ srt s, spanOf x.f x.t = 0 ∧ x.f ≤ x.t := by
  obtain ⟨cs, _, _⟩ := chk_lies h
  intro x hx
  have hl := (chkL_lies _ _ _ _ cs x ((srt_perm s).mem_iff.1 hx)).1
  exact ⟨span_lies hl, (lies_bnd hl).2.1⟩
theorem secs_tabs (F : Nat → Int × Int) (A : Nat → Int) : ∀ n, (secs (fun k => ((F k).1, A k)) n).length = (tabs A n).length
  | 0 => rfl
  | n + 1 => by
    rw [secs, tabs, List.length_append, List.length_append, secs_tabs F A n]
    split <;> rfl
/-- What each one that Secret gives must be; and each one of All. -/
def GoodY (F : Nat → Int × Int) (A : Nat → Int) (x : Nat × Int × Int) : Prop := x.2.2 ≠ 0 ∧ x.2.2 = bitsAt A x.1 ∧ errOf x.1 = 0 ∧ readOf F x.1 = (x.2.1, 0)
def GoodZ (f : Nat → Int × Int) (x : Nat × Int) : Prop := errOf x.1 = 0 ∧ (readOf f x.1).2 = x.2
theorem good_y {F : Nat → Int × Int} {A : Nat → Int} (hA : Lain A) (h0 : ∀ k, (F k).2 = 0) {k : Nat} (hk : k < 65536) (ha : A k ≠ 0) : GoodY F A (k, (F k).1, A k) := by
  obtain ⟨h1, h2⟩ := hA.at_ k hk ha
  refine ⟨ha, ?_, h1, ?_⟩
  · show A k = bitsAt A (k : Int)
    unfold bitsAt
    rw [if_pos (by omega)]
    rfl
  · show readOf F (k : Int) = ((F k).1, 0)
    rw [h2 F, ← h0 k]
theorem good_z {F : Nat → Int × Int} {A : Nat → Int} (hA : Lain A) {k : Nat} (hk : k < 65536) (ha : A k ≠ 0) : GoodZ (fun k => ((F k).1, A k)) (k, A k) := by
  obtain ⟨h1, h2⟩ := hA.at_ k hk ha
  exact ⟨h1, by show (readOf _ (k : Int)).2 = A k; rw [h2]⟩
theorem lays_low (F : Nat → Int × Int) (A S : Nat → Int) (hA : Lain A) (k : Nat) (hk : k < 65536) : lowV (fun k => ((F k).1, A k)) F S k = 0 ∧ lowV F (fun k => ((F k).1, A k)) S k = 0 := by
  have e : (readOf (fun k => ((F k).1, A k)) (k : Int)).1 = (readOf F (k : Int)).1 := by
    unfold readOf
    split
    · split
      · rfl
      · rfl
    · rfl
  have h := lowV_self F S k
  unfold lowV at h ⊢
  rw [e]
  exact ⟨h, h⟩
end Go.Proofs.YtggnkkmlabhofaaDoor
