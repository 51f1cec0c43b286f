/- An argument that is a slice of calls. (printed by gen/whopen.py) -/
import Derived.Test.YtjjebkgljgfecaaOpen
import Derived.Test.YtjjebkgljgfecaaWh10
namespace Go.Proofs.Ytjjebkgljgfecaa
set_option linter.unusedVariables false
set_option linter.unusedSimpArgs false
open Go.ChangeShapes Go.WideShapes Go.ChangeAt Go.RowKit Go.Deep

theorem choose_below {α : Type} [Inhabited α] {P : Nat → α → Prop} {n : Nat} (h : ∀ i, i < n → ∃ r, P i r) : ∃ f : Nat → α, ∀ i, i < n → P i (f i) := by
  classical
  refine ⟨fun i => if hi : i < n then Classical.choose (h i hi) else default, fun i hi => ?_⟩
  simp only [hi, dif_pos]
  exact Classical.choose_spec (h i hi)
theorem at_add {x : Addr} {b off : Nat} (hx : x = ⟨b, off, none⟩) (n : Nat) : x.add n = ⟨b, off + n, none⟩ := by
  subst hx
  unfold Addr.add
  split
  · simp_all
  · rfl
theorem u8_bnd {n : Int} (h : (Lit.int .u8 n).wf = true) : 0 ≤ n ∧ n ≤ 255 := by
  simp [Lit.wf, IntKind.min, IntKind.max, IntKind.signed, IntKind.bits] at h
  omega
theorem leaf_slice {H : Type} {enc : TypeId × Value → H} {w : World} {base : Nat} {spare : Nat → Bool} {held : Bool} {P : Program} {t e : TypeId} {m : Nat} {c : Value} {y : DataW H × List MemPlace} (ht : P.underlying t = some (.slice e)) (h : DataW.trod enc P w base spare held m t [c] = some y) :
    ∃ a len cap, c = .slice a len cap ∧ DataW.Trod enc P w base spare held t (.slice a len cap) y.1 y.2 := by
  rcases open_slice ht h with ⟨hcs, _⟩ | ⟨x, l, cp, m', k, D, Pl, hcs, _⟩
  · simp at hcs
    subst hcs
    exact ⟨none, 0, 0, rfl, m, h⟩
  · simp at hcs
    subst hcs
    exact ⟨some x, l, cp, rfl, m, h⟩
instance : Inhabited WOp := ⟨⟨0, 0, 0⟩⟩
theorem readsW_of_rows {H : Type} {enc : TypeId × Value → H} {w : World} {base : Nat} {spare : Nat → Bool} {held : Bool} {a : Option Addr} {len cap : Nat}
    (h : (a = none ∧ len = 0 ∧ cap = 0) ∨ ∃ x, a = some x ∧ len ≤ cap ∧ cap ≤ maxLen ∧ ∀ i, i < len → ∀ (j : Nat) (t' : TypeId), [3, 5, 5][j]? = some t' →
      ∃ (c : Value) (m : Nat) (y : DataW H × List MemPlace), w.cell? (x.add (i * [3, 5, 5].length + j)) = some c ∧ DataW.trod enc Try.prog w base spare held m t' [c] = some y) :
    (∃ l, ReadsW w w.heap.size a len l) ∧ len ≤ maxLen := by
  rcases h with ⟨rfl, rfl, rfl⟩ | ⟨x, rfl, hl, hm, hc⟩
  · exact ⟨⟨[], rfl, fun h => absurd h (by simp)⟩, Nat.zero_le _⟩
  · refine ⟨?_, Nat.le_trans hl hm⟩
    by_cases h0 : len = 0
    · subst h0
      exact ⟨[], rfl, fun h => absurd h (by simp)⟩
    · have key : ∀ i, i < len → ∃ r : WOp, w.cell? (x.add (i * 3 + 0)) = some (.int .i64 r.r) ∧ w.cell? (x.add (i * 3 + 1)) = some (.int .u8 r.v) ∧ w.cell? (x.add (i * 3 + 2)) = some (.int .u8 r.t) ∧ 0 ≤ r.v ∧ r.v ≤ 255 := by
        intro i hi
        obtain ⟨c0, m0, y0, e0, t0⟩ := hc i hi 0 _ rfl
        obtain ⟨c1, m1, y1, e1, t1⟩ := hc i hi 1 _ rfl
        obtain ⟨c2, m2, y2, e2, t2⟩ := hc i hi 2 _ rfl
        obtain ⟨a0, rfl, w0⟩ := leaf_int Try.underlying3 t0
        obtain ⟨a1, rfl, w1⟩ := leaf_int Try.underlying5 t1
        obtain ⟨a2, rfl, w2⟩ := leaf_int Try.underlying5 t2
        exact ⟨⟨a0, a1, a2⟩, e0, e1, e2, (u8_bnd w1).1, (u8_bnd w1).2⟩
      obtain ⟨f, hf⟩ := choose_below key
      have hx0 := (hf 0 (by omega)).1
      rw [show x.add (0 * 3 + 0) = x from rfl] at hx0
      obtain ⟨b, off, sp⟩ := x
      have hsp : sp = none := by
        cases sp with
        | none => rfl
        | some s => simp [World.cell?] at hx0; split at hx0 <;> simp_all
      subst hsp
      refine ⟨(List.range len).map f, by simp, fun _ => ⟨b, off, rfl, World.block_lt_of_cell? w _ hx0, fun k r hk => ?_⟩⟩
      have hkl : k < len := by
        have := (List.getElem?_eq_some_iff.1 hk).1
        simpa using this
      have hr : r = f k := by
        rw [List.getElem?_map, List.getElem?_range hkl] at hk
        simpa using hk.symm
      subst hr
      obtain ⟨e0, e1, e2, eb⟩ := hf k hkl
      have hadd : ∀ n, (⟨b, off, none⟩ : Addr).add n = ⟨b, off + n, none⟩ := fun n => at_add rfl n
      rw [hadd] at e0 e1 e2
      exact ⟨e0, e1, e2, eb⟩
theorem flatW : flat Try.prog 6 39 = some [3, 5, 5] := by kernel_rfl
end Go.Proofs.Ytjjebkgljgfecaa
