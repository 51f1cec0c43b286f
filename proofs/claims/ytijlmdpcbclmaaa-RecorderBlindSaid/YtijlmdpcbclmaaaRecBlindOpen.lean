/- An argument that is a slice of bytes with secrets, as a list of pairs; and the whole walk of RecorderBlind. -/
import Derived.Test.YtijlmdpcbclmaaaRecOpen
import Derived.Test.YtijlmdpcbclmaaaRec7
namespace Go.Proofs.Ytijlmdpcbclmaaa
set_option linter.unusedVariables false
set_option linter.unusedSimpArgs false
open Go.ChangeShapes Go.WideShapes Go.ChangeAt Go.RowKit Go.Deep

section
variable {H : Type} {enc : TypeId × Value → H} {w : World} {base : Nat} {spare : Nat → Bool} {held : Bool}
theorem readsB_of_rows {a : Option Addr} {len cap : Nat}
    (h : (a = none ∧ len = 0 ∧ cap = 0) ∨ ∃ x, a = some x ∧ len ≤ cap ∧ cap ≤ maxLen ∧ ∀ i, i < len → ∀ (j : Nat) (t' : TypeId), [5, 5][j]? = some t' →
      ∃ (c : Value) (m : Nat) (y : DataW H × List MemPlace), w.cell? (x.add (i * [5, 5].length + j)) = some c ∧ DataW.trod enc Try.prog w base spare held m t' [c] = some y) :
    ∃ l, ReadsB w w.heap.size a len l := by
  rcases h with ⟨rfl, rfl, rfl⟩ | ⟨x, rfl, hl, hm, hc⟩
  · exact ⟨[], rfl, fun h => absurd h (by simp)⟩
  · by_cases h0 : len = 0
    · subst h0
      exact ⟨[], rfl, fun h => absurd h (by simp)⟩
    · have key : ∀ i, i < len → ∃ r : Int × Int, w.cell? (x.add (i * 2 + 0)) = some (.int .u8 r.1) ∧ w.cell? (x.add (i * 2 + 1)) = some (.int .u8 r.2) := by
        intro i hi
        obtain ⟨c0, m0, y0, e0, t0⟩ := hc i hi 0 _ rfl
        obtain ⟨c1, m1, y1, e1, t1⟩ := hc i hi 1 _ rfl
        obtain ⟨a0, rfl, w0⟩ := leaf_int Try.underlying5 t0
        obtain ⟨a1, rfl, w1⟩ := leaf_int Try.underlying5 t1
        exact ⟨⟨a0, a1⟩, e0, e1⟩
      obtain ⟨f, hf⟩ := choose_below key
      have hx0 := (hf 0 (by omega)).1
      rw [show x.add (0 * 4 + 0) = x from rfl] at hx0
      obtain ⟨b, off, sp⟩ := x
      have hsp : sp = none := by
        cases sp with
        | none => rfl
        | some s => simp [World.cell?] at hx0; split at hx0 <;> simp_all
      subst hsp
      refine ⟨(List.range len).map f, by simp, fun _ => ⟨b, off, rfl, World.block_lt_of_cell? w _ hx0, fun k r hk => ?_⟩⟩
      have hkl : k < len := by
        have := (List.getElem?_eq_some_iff.1 hk).1
        simpa using this
      have hr : r = f k := by
        rw [List.getElem?_map, List.getElem?_range hkl] at hk
        simpa using hk.symm
      subst hr
      obtain ⟨e0, e1⟩ := hf k hkl
      have hadd : ∀ n, (⟨b, off, none⟩ : Addr).add n = ⟨b, off + n, none⟩ := fun n => at_add rfl n
      rw [hadd] at e0 e1
      exact ⟨e0, e1⟩

theorem rows_none {P : Addr → Prop} {a : Option Addr} {len cap : Nat} (h : (a = none ∧ len = 0 ∧ cap = 0) ∨ ∃ x, a = some x ∧ P x) : (a = none → cap = 0) ∧ (a = none → len = 0) := by
  rcases h with ⟨_, h1, h2⟩ | ⟨x, e, _⟩
  · exact ⟨fun _ => h2, fun _ => h1⟩
  · exact ⟨fun h => by rw [e] at h; simp at h, fun h => by rw [e] at h; simp at h⟩
end

theorem recorderBlind_walk (a b : Option Addr) (na nb ca cb : Nat) (t0 t1 : Int) (w : World) (la : List RD) (lo : List (Int × Int)) (hra : Reads w w.heap.size a na la) (hrb : ReadsB w w.heap.size b nb lo)
    (hc : (a = none → ca = 0) ∧ (a = none → na = 0)) :
    Calls Try.prog 4 #[.slice a na ca, .slice b nb cb, .agg #[.int .i64 t0, .int .i64 t1]] w fun e w' => e = .returned (.bool true) ∧ Below w.heap.size w w' := by
  by_cases h : na ≤ 60 ∧ nb ≤ 60
  · obtain rfl := hra.1
    exact recorderBlind_ok a b ca cb nb la lo t0 t1 h.1 h.2 w hra hrb hc.1 hc.2
  · exact recorderBlind_long a b na nb ca cb t0 t1 (by omega) w
end Go.Proofs.Ytijlmdpcbclmaaa
