/- Policies: where a span lies, what it meets, and what is taken. (printed by gen/la1.py) -/
import Derived.Test.YtggnkkmlabhofaaDoorSo8
import Derived.BigRegion
namespace Go.Proofs.YtggnkkmlabhofaaDoor
set_option linter.unusedVariables false
set_option linter.unusedSimpArgs false
open Go.RowKit Go.Sort Go.Shelf Go.Lib
attribute [local go_sem ↓] Go.wp_at_zero Go.wp_at_succ

theorem boolE {a b : Bool} (h : a = b) : Ending.returned (.bool a) = .returned (.bool b) := by rw [h]
def Sp.val (x : Sp) : Value := .agg #[.int .i64 x.f, .int .i64 x.t, .int .u8 x.b]
def liesB (x : Sp) (rom : Bool) : Bool := decide (0 ≤ x.f ∧ x.f ≤ x.t ∧ (x.t ≤ 32767 ∨ (rom = true ∧ 49152 ≤ x.f ∧ x.t < 65536)))
def meetB (x y : Sp) : Bool := decide (x.f ≤ y.t ∧ y.f ≤ x.t)
set_option maxHeartbeats 1600000 in
theorem lies_eq (w : World) (f t b : Int) (rom B : Bool) (hB : B = liesB ⟨f, t, b⟩ rom) : Calls Tryd.prog 52 #[.agg #[.int .i64 f, .int .i64 t, .int .u8 b], .bool rom] w fun e w' => e = .returned (.bool B) ∧ Below w.heap.size w w' := by
  have HB := Lib.hid hB
  clear hB
  cases rom with
  | false =>
    by_cases h1 : 0 ≤ f
    rotate_left
    · skip
      have HE := Lib.hid (HB.out.trans (show liesB ⟨f, t, b⟩ false = false from decide_eq_false (by simp; omega)))
      go_enter Tryd.func52, Tryd.ntmps52
      go_wp2_with fail
      go_ret
      exact ⟨boolE HE.out.symm, (by repeat' (first | with_reducible exact Below.refl _ _ | with_reducible assumption | with_reducible refine Q.alloc ?_ _ | with_reducible refine Q.drew ?_ | with_reducible refine Q.drewN ?_ _ | with_reducible refine Q.call ?_ (by assumption)))⟩
    by_cases h2 : f ≤ t
    rotate_left
    · skip
      have HE := Lib.hid (HB.out.trans (show liesB ⟨f, t, b⟩ false = false from decide_eq_false (by simp; omega)))
      go_enter Tryd.func52, Tryd.ntmps52
      go_wp2_with fail
      go_ret
      exact ⟨boolE HE.out.symm, (by repeat' (first | with_reducible exact Below.refl _ _ | with_reducible assumption | with_reducible refine Q.alloc ?_ _ | with_reducible refine Q.drew ?_ | with_reducible refine Q.drewN ?_ _ | with_reducible refine Q.call ?_ (by assumption)))⟩
    by_cases h3 : t ≤ 32767
    rotate_left
    · skip
      have HE := Lib.hid (HB.out.trans (show liesB ⟨f, t, b⟩ false = false from decide_eq_false (by simp; omega)))
      go_enter Tryd.func52, Tryd.ntmps52
      go_wp2_with fail
      go_ret
      exact ⟨boolE HE.out.symm, (by repeat' (first | with_reducible exact Below.refl _ _ | with_reducible assumption | with_reducible refine Q.alloc ?_ _ | with_reducible refine Q.drew ?_ | with_reducible refine Q.drewN ?_ _ | with_reducible refine Q.call ?_ (by assumption)))⟩
    have HE := Lib.hid (HB.out.trans (show liesB ⟨f, t, b⟩ false = true from decide_eq_true ⟨h1, h2, .inl h3⟩))
    go_enter Tryd.func52, Tryd.ntmps52
    go_wp2_with fail
    go_ret
    exact ⟨boolE HE.out.symm, (by repeat' (first | with_reducible exact Below.refl _ _ | with_reducible assumption | with_reducible refine Q.alloc ?_ _ | with_reducible refine Q.drew ?_ | with_reducible refine Q.drewN ?_ _ | with_reducible refine Q.call ?_ (by assumption)))⟩
  | true =>
    by_cases h1 : 0 ≤ f
    rotate_left
    · skip
      have HE := Lib.hid (HB.out.trans (show liesB ⟨f, t, b⟩ true = false from decide_eq_false (by simp; omega)))
      go_enter Tryd.func52, Tryd.ntmps52
      go_wp2_with fail
      go_ret
      exact ⟨boolE HE.out.symm, (by repeat' (first | with_reducible exact Below.refl _ _ | with_reducible assumption | with_reducible refine Q.alloc ?_ _ | with_reducible refine Q.drew ?_ | with_reducible refine Q.drewN ?_ _ | with_reducible refine Q.call ?_ (by assumption)))⟩
    by_cases h2 : f ≤ t
    rotate_left
    · skip
      have HE := Lib.hid (HB.out.trans (show liesB ⟨f, t, b⟩ true = false from decide_eq_false (by simp; omega)))
      go_enter Tryd.func52, Tryd.ntmps52
      go_wp2_with fail
      go_ret
      exact ⟨boolE HE.out.symm, (by repeat' (first | with_reducible exact Below.refl _ _ | with_reducible assumption | with_reducible refine Q.alloc ?_ _ | with_reducible refine Q.drew ?_ | with_reducible refine Q.drewN ?_ _ | with_reducible refine Q.call ?_ (by assumption)))⟩
    by_cases h3 : t ≤ 32767
    · skip
      have HE := Lib.hid (HB.out.trans (show liesB ⟨f, t, b⟩ true = true from decide_eq_true ⟨h1, h2, .inl h3⟩))
      go_enter Tryd.func52, Tryd.ntmps52
      go_wp2_with fail
      go_ret
      exact ⟨boolE HE.out.symm, (by repeat' (first | with_reducible exact Below.refl _ _ | with_reducible assumption | with_reducible refine Q.alloc ?_ _ | with_reducible refine Q.drew ?_ | with_reducible refine Q.drewN ?_ _ | with_reducible refine Q.call ?_ (by assumption)))⟩
    by_cases h4 : 49152 ≤ f
    rotate_left
    · skip
      have HE := Lib.hid (HB.out.trans (show liesB ⟨f, t, b⟩ true = false from decide_eq_false (by simp; omega)))
      go_enter Tryd.func52, Tryd.ntmps52
      go_wp2_with fail
      go_ret
      exact ⟨boolE HE.out.symm, (by repeat' (first | with_reducible exact Below.refl _ _ | with_reducible assumption | with_reducible refine Q.alloc ?_ _ | with_reducible refine Q.drew ?_ | with_reducible refine Q.drewN ?_ _ | with_reducible refine Q.call ?_ (by assumption)))⟩
    by_cases h5 : t < 65536
    rotate_left
    · skip
      have HE := Lib.hid (HB.out.trans (show liesB ⟨f, t, b⟩ true = false from decide_eq_false (by simp; omega)))
      go_enter Tryd.func52, Tryd.ntmps52
      go_wp2_with fail
      go_ret
      exact ⟨boolE HE.out.symm, (by repeat' (first | with_reducible exact Below.refl _ _ | with_reducible assumption | with_reducible refine Q.alloc ?_ _ | with_reducible refine Q.drew ?_ | with_reducible refine Q.drewN ?_ _ | with_reducible refine Q.call ?_ (by assumption)))⟩
    have HE := Lib.hid (HB.out.trans (show liesB ⟨f, t, b⟩ true = true from decide_eq_true ⟨h1, h2, .inr ⟨rfl, h4, h5⟩⟩))
    go_enter Tryd.func52, Tryd.ntmps52
    go_wp2_with fail
    go_ret
    exact ⟨boolE HE.out.symm, (by repeat' (first | with_reducible exact Below.refl _ _ | with_reducible assumption | with_reducible refine Q.alloc ?_ _ | with_reducible refine Q.drew ?_ | with_reducible refine Q.drewN ?_ _ | with_reducible refine Q.call ?_ (by assumption)))⟩
theorem meets_eq (w : World) (f t b f' t' b' : Int) : Calls Tryd.prog 74 #[.agg #[.int .i64 f, .int .i64 t, .int .u8 b], .agg #[.int .i64 f', .int .i64 t', .int .u8 b']] w fun e w' => e = .returned (.bool (meetB ⟨f, t, b⟩ ⟨f', t', b'⟩)) ∧ Below w.heap.size w w' := by
  by_cases h1 : f ≤ t'
  · by_cases h2 : f' ≤ t
    · rw [show meetB ⟨f, t, b⟩ ⟨f', t', b'⟩ = true from decide_eq_true ⟨h1, h2⟩]
      go_enter Tryd.func74, Tryd.ntmps74
      go_wp2_with fail
      go_ret
      exact ⟨rfl, (by repeat' (first | with_reducible exact Below.refl _ _ | with_reducible assumption | with_reducible refine Q.alloc ?_ _ | with_reducible refine Q.drew ?_ | with_reducible refine Q.drewN ?_ _ | with_reducible refine Q.call ?_ (by assumption)))⟩
    · rw [show meetB ⟨f, t, b⟩ ⟨f', t', b'⟩ = false from decide_eq_false (fun h => h2 h.2)]
      go_enter Tryd.func74, Tryd.ntmps74
      go_wp2_with fail
      go_ret
      exact ⟨rfl, (by repeat' (first | with_reducible exact Below.refl _ _ | with_reducible assumption | with_reducible refine Q.alloc ?_ _ | with_reducible refine Q.drew ?_ | with_reducible refine Q.drewN ?_ _ | with_reducible refine Q.call ?_ (by assumption)))⟩
  · rw [show meetB ⟨f, t, b⟩ ⟨f', t', b'⟩ = false from decide_eq_false (fun h => h1 h.1)]
    go_enter Tryd.func74, Tryd.ntmps74
    go_wp2_with fail
    go_ret
    exact ⟨rfl, (by repeat' (first | with_reducible exact Below.refl _ _ | with_reducible assumption | with_reducible refine Q.alloc ?_ _ | with_reducible refine Q.drew ?_ | with_reducible refine Q.drewN ?_ _ | with_reducible refine Q.call ?_ (by assumption)))⟩
/-- The cells of a row that is read. -/
theorem Rd.cells {w : World} {R : Nat → Prop} {a : Option Addr} {m cap : Nat} {l : List Sp} (h : Rd ES w R (.slice a m cap) l) {i : Nat} (hi : i < l.length) : ∃ b off, a = some ⟨b, off, none⟩ ∧ b < w.heap.size ∧ R b ∧ ∀ k x, l[k]? = some x → ∀ j u, (ES.enc x)[j]? = some u → w.cell? ⟨b, off + k * 3 + j, none⟩ = some u := by
  obtain ⟨a', cap', e, _, _, hr⟩ := h
  cases e
  exact hr (by omega)
/-- The first place at which one meets x, or -1. -/
def idxM (x : Sp) : List Sp → Nat → Int
  | [], _ => -1
  | y :: r, k => if meetB x y then k else idxM x r (k + 1)
theorem idxM_any (x : Sp) : ∀ (l : List Sp) (k : Nat), decide (0 ≤ idxM x l k) = l.any (meetB x)
  | [], k => by simp [idxM]
  | y :: r, k => by
    unfold idxM
    by_cases h : meetB x y = true
    · simp [h]
    · have h' : meetB x y = false := by simpa using h
      simp only [h', List.any_cons, Bool.false_or, Bool.false_eq_true, if_false]
      exact idxM_any x r (k + 1)
theorem idxM_le (x : Sp) : ∀ (l : List Sp) (k : Nat), idxM x l k ≤ k + l.length ∧ -1 ≤ idxM x l k
  | [], k => by simp only [idxM, List.length_nil]; omega
  | y :: r, k => by
    unfold idxM
    have := idxM_le x r (k + 1)
    split <;> (simp only [List.length_cons] at *; omega)
set_option maxHeartbeats 1600000 in
theorem indexM_eq (w : World) (R : Nat → Prop) (v : Value) (l : List Sp) (f t b : Int) (hr : Rd ES w R v l) (hl : l.length ≤ 1000) :
    Calls Tryd.prog 85 #[v, .func (.func 74) #[.agg #[.int .i64 f, .int .i64 t, .int .u8 b]] #[]] w fun e w' => e = .returned (.int .i64 (idxM ⟨f, t, b⟩ l 0)) ∧ Below w.heap.size w w' := by
  have hR := Lib.hid hr
  obtain ⟨a, cap, rfl, hc, hn, -⟩ := hr
  go_enter Tryd.func85, Tryd.ntmps85
  go_wp2_with fail
  go_loopg [8] l.length (fun kx s8 wr => ∃ i : Nat, s8 = .int .i64 i ∧ i ≤ l.length ∧ l.length - i ≤ kx ∧ Aside (Below w.heap.size w wr) ∧ Aside (idxM ⟨f, t, b⟩ l 0 = idxM ⟨f, t, b⟩ (l.drop i) i))
  case atStart => exact ⟨0, rfl, Nat.zero_le _, Nat.le_refl _, Below.refl _ _, by show _ = _; rw [List.drop_zero]⟩
  case round =>
    obtain ⟨i, rfl, hil, hk, B1, I1⟩ := hrel
    by_cases hlt : i < l.length
    · have hltz : (i : Int) < (l.length : Int) := by omega
      obtain ⟨b0, off, ha, hb0, -, hcell⟩ := (hR.out.below B1.out).cells hlt
      subst ha
      obtain ⟨y, hy⟩ : ∃ y, l[i]? = some y := ⟨l[i], List.getElem?_eq_getElem hlt⟩
      have c0 : wr.cell? ⟨b0, off + i * 3, none⟩ = some (.int .i64 y.f) := hcell i y hy 0 _ rfl
      have c1 : wr.cell? ⟨b0, off + i * 3 + 1, none⟩ = some (.int .i64 y.t) := hcell i y hy 1 _ rfl
      have c2 : wr.cell? ⟨b0, off + i * 3 + 2, none⟩ = some (.int .u8 y.b) := hcell i y hy 2 _ rfl
      have hd : l.drop i = y :: l.drop (i + 1) := by
        rw [List.drop_eq_getElem_cons hlt]
        rw [List.getElem?_eq_getElem hlt] at hy
        rw [Option.some.inj hy]
      have HD : Aside (idxM ⟨f, t, b⟩ l 0 = if meetB ⟨f, t, b⟩ y then (i : Int) else idxM ⟨f, t, b⟩ (l.drop (i + 1)) (i + 1)) := by show _ = _; rw [I1.out, hd]; rfl
      clear hy hcell hd I1
      have MM := fun V => meets_eq V f t b y.f y.t y.b
      obtain ⟨mb, hmb⟩ : ∃ mb, mb = meetB ⟨f, t, b⟩ y := ⟨_, rfl⟩
      have e : (⟨y.f, y.t, y.b⟩ : Sp) = y := rfl
      simp only [e] at MM
      rw [← hmb] at MM HD
      clear e hmb
      have w1h := B1.out.size
      cases mb with
      | true =>
        go_wp2_with (go_at_call 74; (with_reducible refine (MM _).mono ?_); rintro e w1 ⟨rfl, hb1⟩)
        go_ret
        have h := HD.out
        simp only [if_true] at h
        exact ⟨by rw [h]; rfl, Q.call B1.out hb1⟩
      | false =>
        go_wp2_with (go_at_call 74; (with_reducible refine (MM _).mono ?_); rintro e w1 ⟨rfl, hb1⟩)
        go_roundg (l.length - (i + 1))
        case measure => omega
        case rel => exact ⟨i + 1, by go_num, by omega, Nat.le_refl _, Q.call B1.out hb1, by have h := HD.out; simp only [Bool.false_eq_true, if_false] at h; exact h⟩
    · have hltz : ¬ (i : Int) < (l.length : Int) := by omega
      go_wp2_with fail
      go_ret
      have h := I1.out
      rw [List.drop_eq_nil_of_le (by omega)] at h
      exact ⟨by rw [h]; rfl, B1.out⟩
theorem containsM_eq (w : World) (R : Nat → Prop) (v : Value) (l : List Sp) (f t b : Int) (hr : Rd ES w R v l) (hl : l.length ≤ 1000) :
    Calls Tryd.prog 73 #[v, .func (.func 74) #[.agg #[.int .i64 f, .int .i64 t, .int .u8 b]] #[]] w fun e w' => e = .returned (.bool (l.any (meetB ⟨f, t, b⟩))) ∧ Below w.heap.size w w' := by
  have HI := fun V (h : Rd ES V R v l) => indexM_eq V R v l f t b h hl
  have hA := Lib.hid (idxM_any ⟨f, t, b⟩ l 0)
  have hR := Lib.hid hr
  clear hr
  obtain ⟨ix, hix⟩ : ∃ ix, ix = idxM ⟨f, t, b⟩ l 0 := ⟨_, rfl⟩
  rw [← hix] at HI hA
  clear hix
  go_enter Tryd.func73, Tryd.ntmps73
  go_wp2_with (go_at_call 85; (with_reducible refine (HI _ hR.out).mono ?_); rintro e w1 ⟨rfl, hb1⟩)
  go_ret
  exact ⟨boolE hA.out, hb1⟩
end Go.Proofs.YtggnkkmlabhofaaDoor
