/- An argument that is a slice of records, as a list of records; a slice of bytes with secrets. -/
import Derived.Test.YtijlmdpcbclmaaaOpen
import Derived.Test.YtijlmdpcbclmaaaRec
namespace Go.Proofs.Ytijlmdpcbclmaaa
set_option linter.unusedVariables false
set_option linter.unusedSimpArgs false
open Go.ChangeShapes Go.WideShapes Go.ChangeAt Go.RowKit Go.Deep

theorem choose_below {α : Type} [Inhabited α] {P : Nat → α → Prop} {n : Nat} (h : ∀ i, i < n → ∃ r, P i r) : ∃ f : Nat → α, ∀ i, i < n → P i (f i) := by
  classical
  refine ⟨fun i => if hi : i < n then Classical.choose (h i hi) else default, fun i hi => ?_⟩
  simp only [hi, dif_pos]
  exact Classical.choose_spec (h i hi)

instance : Inhabited RD := ⟨⟨0, false, 0, 0⟩⟩
section
variable {H : Type} {enc : TypeId × Value → H} {w : World} {base : Nat} {spare : Nat → Bool} {held : Bool}

theorem at_add {x : Addr} {b off : Nat} (hx : x = ⟨b, off, none⟩) (n : Nat) : x.add n = ⟨b, off + n, none⟩ := by
  subst hx
  unfold Addr.add
  split
  · simp_all
  · rfl

theorem reads_of_rows {a : Option Addr} {len cap : Nat}
    (h : (a = none ∧ len = 0 ∧ cap = 0) ∨ ∃ x, a = some x ∧ len ≤ cap ∧ cap ≤ maxLen ∧ ∀ i, i < len → ∀ (j : Nat) (t' : TypeId), [3, 4, 5, 5][j]? = some t' →
      ∃ (c : Value) (m : Nat) (y : DataW H × List MemPlace), w.cell? (x.add (i * [3, 4, 5, 5].length + j)) = some c ∧ DataW.trod enc Try.prog w base spare held m t' [c] = some y) :
    ∃ l, Reads w w.heap.size a len l := by
  rcases h with ⟨rfl, rfl, rfl⟩ | ⟨x, rfl, hl, hm, hc⟩
  · exact ⟨[], rfl, fun h => absurd h (by simp)⟩
  · by_cases h0 : len = 0
    · subst h0
      exact ⟨[], rfl, fun h => absurd h (by simp)⟩
    · have key : ∀ i, i < len → ∃ r : RD, w.cell? (x.add (i * 4 + 0)) = some (.int .i64 r.addr) ∧ w.cell? (x.add (i * 4 + 1)) = some (.bool r.wr) ∧ w.cell? (x.add (i * 4 + 2)) = some (.int .u8 r.v) ∧ w.cell? (x.add (i * 4 + 3)) = some (.int .u8 r.t) := by
        intro i hi
        obtain ⟨c0, m0, y0, e0, t0⟩ := hc i hi 0 _ rfl
        obtain ⟨c1, m1, y1, e1, t1⟩ := hc i hi 1 _ rfl
        obtain ⟨c2, m2, y2, e2, t2⟩ := hc i hi 2 _ rfl
        obtain ⟨c3, m3, y3, e3, t3⟩ := hc i hi 3 _ rfl
        obtain ⟨a0, rfl, w0⟩ := leaf_int Try.underlying3 t0
        obtain ⟨a1, rfl⟩ := leaf_bool Try.underlying4 t1
        obtain ⟨a2, rfl, w2⟩ := leaf_int Try.underlying5 t2
        obtain ⟨a3, rfl, w3⟩ := leaf_int Try.underlying5 t3
        exact ⟨⟨a0, a1, a2, a3⟩, e0, e1, e2, e3⟩
      obtain ⟨f, hf⟩ := choose_below key
      have hx0 := (hf 0 (by omega)).1
      rw [show x.add (0 * 4 + 0) = x from rfl] at hx0
      obtain ⟨b, off, sp⟩ := x
      have hsp : sp = none := by
        cases sp with
        | none => rfl
        | some s => simp [World.cell?] at hx0; split at hx0 <;> simp_all
      subst hsp
      refine ⟨(List.range len).map f, by simp, fun _ => ⟨b, off, rfl, World.block_lt_of_cell? w _ hx0, fun k r hk => ?_⟩⟩
      have hkl : k < len := by
        have := (List.getElem?_eq_some_iff.1 hk).1
        simpa using this
      have hr : r = f k := by
        rw [List.getElem?_map, List.getElem?_range hkl] at hk
        simpa using hk.symm
      subst hr
      obtain ⟨e0, e1, e2, e3⟩ := hf k hkl
      have hadd : ∀ n, (⟨b, off, none⟩ : Addr).add n = ⟨b, off + n, none⟩ := fun n => at_add rfl n
      rw [hadd] at e0 e1 e2 e3
      exact ⟨e0, e1, e2, e3⟩
end
end Go.Proofs.Ytijlmdpcbclmaaa
