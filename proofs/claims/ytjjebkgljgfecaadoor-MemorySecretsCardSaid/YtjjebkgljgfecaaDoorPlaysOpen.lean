/- An argument that is a slice of calls, each with bytes, as a list of calls. -/
import Derived.Test.YtjjebkgljgfecaaDoorLoadsOpen
import Derived.Test.YtjjebkgljgfecaaDoorRef9
namespace Go.Proofs.YtjjebkgljgfecaaDoor
set_option linter.unusedVariables false
set_option linter.unusedSimpArgs false
open Go.ChangeShapes Go.WideShapes Go.ChangeAt Go.RowKit Go.Deep

instance : Inhabited OpD := ⟨⟨0, 0, 0, 0, 0, none, 0, 0, []⟩⟩
section
variable {H : Type} {enc : TypeId × Value → H} {w : World} {base : Nat} {spare : Nat → Bool} {held : Bool}
theorem leaf_slice {P : Program} {t e : TypeId} {m : Nat} {c : Value} {y : DataW H × List MemPlace} (ht : P.underlying t = some (.slice e)) (h : DataW.trod enc P w base spare held m t [c] = some y) :
    ∃ a len cap, c = .slice a len cap ∧ DataW.Trod enc P w base spare held t (.slice a len cap) y.1 y.2 := by
  rcases open_slice ht h with ⟨hcs, _⟩ | ⟨x, l, cp, m', k, D, Pl, hcs, _⟩
  · simp at hcs
    subst hcs
    exact ⟨none, 0, 0, rfl, m, h⟩
  · simp at hcs
    subst hcs
    exact ⟨some x, l, cp, rfl, m, h⟩
theorem flatU : flat Tryd.prog 6 5 = some [5] := by kernel_rfl
theorem readsO_of_rows {a : Option Addr} {len cap : Nat}
    (h : (a = none ∧ len = 0 ∧ cap = 0) ∨ ∃ x, a = some x ∧ len ≤ cap ∧ cap ≤ maxLen ∧ ∀ i, i < len → ∀ (j : Nat) (t' : TypeId), [3, 3, 3, 5, 5, 41][j]? = some t' →
      ∃ (c : Value) (m : Nat) (y : DataW H × List MemPlace), w.cell? (x.add (i * [3, 3, 3, 5, 5, 41].length + j)) = some c ∧ DataW.trod enc Tryd.prog w base spare held m t' [c] = some y) :
    (∃ l, ReadsO w w.heap.size a len l) ∧ len ≤ maxLen := by
  rcases h with ⟨rfl, rfl, rfl⟩ | ⟨x, rfl, hl, hm, hc⟩
  · exact ⟨⟨[], rfl, fun h => absurd h (by simp)⟩, Nat.zero_le _⟩
  · refine ⟨?_, Nat.le_trans hl hm⟩
    by_cases h0 : len = 0
    · subst h0
      exact ⟨[], rfl, fun h => absurd h (by simp)⟩
    · have key : ∀ i, i < len → ∃ o : OpD, w.cell? (x.add (i * 6 + 0)) = some (.int .i64 o.ask) ∧ w.cell? (x.add (i * 6 + 1)) = some (.int .i64 o.at_) ∧ w.cell? (x.add (i * 6 + 2)) = some (.int .i64 o.to) ∧
          w.cell? (x.add (i * 6 + 3)) = some (.int .u8 o.v) ∧ w.cell? (x.add (i * 6 + 4)) = some (.int .u8 o.t) ∧ w.cell? (x.add (i * 6 + 5)) = some (.slice o.a o.n o.ca) ∧ o.lies w w.heap.size := by
        intro i hi
        obtain ⟨c0, m0, y0, e0, t0⟩ := hc i hi 0 _ rfl
        obtain ⟨c1, m1, y1, e1, t1⟩ := hc i hi 1 _ rfl
        obtain ⟨c2, m2, y2, e2, t2⟩ := hc i hi 2 _ rfl
        obtain ⟨c3, m3, y3, e3, t3⟩ := hc i hi 3 _ rfl
        obtain ⟨c4, m4, y4, e4, t4⟩ := hc i hi 4 _ rfl
        obtain ⟨c5, m5, y5, e5, t5⟩ := hc i hi 5 _ rfl
        obtain ⟨a0, rfl, w0⟩ := leaf_int Tryd.underlying3 t0
        obtain ⟨a1, rfl, w1⟩ := leaf_int Tryd.underlying3 t1
        obtain ⟨a2, rfl, w2⟩ := leaf_int Tryd.underlying3 t2
        obtain ⟨a3, rfl, w3⟩ := leaf_int Tryd.underlying5 t3
        obtain ⟨a4, rfl, w4⟩ := leaf_int Tryd.underlying5 t4
        obtain ⟨sa, sl, sc, rfl, htr⟩ := leaf_slice Tryd.underlying41 t5
        obtain ⟨bs, hbs⟩ := (readsU_of_rows (open_rows Tryd.underlying41 flatU (by kernel_rfl) htr)).1
        exact ⟨⟨a0, a1, a2, a3, a4, sa, sl, sc, bs⟩, e0, e1, e2, e3, e4, e5, hbs⟩
      obtain ⟨f, hf⟩ := choose_below key
      have hx0 := (hf 0 (by omega)).1
      rw [show x.add (0 * 6 + 0) = x from rfl] at hx0
      obtain ⟨b, off, sp⟩ := x
      have hsp : sp = none := by
        cases sp with
        | none => rfl
        | some s => simp [World.cell?] at hx0; split at hx0 <;> simp_all
      subst hsp
      refine ⟨(List.range len).map f, by simp, fun _ => ⟨b, off, rfl, World.block_lt_of_cell? w _ hx0, fun k r hk => ?_⟩⟩
      have hkl : k < len := by
        have := (List.getElem?_eq_some_iff.1 hk).1
        simpa using this
      have hr : r = f k := by
        rw [List.getElem?_map, List.getElem?_range hkl] at hk
        simpa using hk.symm
      subst hr
      obtain ⟨e0, e1, e2, e3, e4, e5, e6⟩ := hf k hkl
      have hadd : ∀ n, (⟨b, off, none⟩ : Addr).add n = ⟨b, off + n, none⟩ := fun n => at_add rfl n
      rw [hadd] at e0 e1 e2 e3 e4 e5
      exact ⟨e0, e1, e2, e3, e4, e5, e6⟩
end
end Go.Proofs.YtjjebkgljgfecaaDoor
