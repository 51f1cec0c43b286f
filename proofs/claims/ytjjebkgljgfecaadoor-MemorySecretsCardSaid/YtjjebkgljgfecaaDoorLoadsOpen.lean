/- An argument that is a slice of plain bytes, as a list of numbers; the whole walk of MemoryLoads. -/
import Derived.Test.YtjjebkgljgfecaaDoorOpen
import Derived.Test.YtjjebkgljgfecaaDoorMem9
namespace Go.Proofs.YtjjebkgljgfecaaDoor
set_option linter.unusedVariables false
set_option linter.unusedSimpArgs false
open Go.ChangeShapes Go.WideShapes Go.ChangeAt Go.RowKit Go.Deep

theorem choose_below {α : Type} [Inhabited α] {P : Nat → α → Prop} {n : Nat} (h : ∀ i, i < n → ∃ r, P i r) : ∃ f : Nat → α, ∀ i, i < n → P i (f i) := by
  classical
  refine ⟨fun i => if hi : i < n then Classical.choose (h i hi) else default, fun i hi => ?_⟩
  simp only [hi, dif_pos]
  exact Classical.choose_spec (h i hi)
theorem at_add {x : Addr} {b off : Nat} (hx : x = ⟨b, off, none⟩) (n : Nat) : x.add n = ⟨b, off + n, none⟩ := by
  subst hx
  unfold Addr.add
  split
  · simp_all
  · rfl

section
variable {H : Type} {enc : TypeId × Value → H} {w : World} {base : Nat} {spare : Nat → Bool} {held : Bool}
theorem readsU_of_rows {a : Option Addr} {len cap : Nat}
    (h : (a = none ∧ len = 0 ∧ cap = 0) ∨ ∃ x, a = some x ∧ len ≤ cap ∧ cap ≤ maxLen ∧ ∀ i, i < len → ∀ (j : Nat) (t' : TypeId), [5][j]? = some t' →
      ∃ (c : Value) (m : Nat) (y : DataW H × List MemPlace), w.cell? (x.add (i * [5].length + j)) = some c ∧ DataW.trod enc Tryd.prog w base spare held m t' [c] = some y) :
    (∃ l, ReadsU w w.heap.size a len l) ∧ len ≤ cap := by
  rcases h with ⟨rfl, rfl, rfl⟩ | ⟨x, rfl, hl, hm, hc⟩
  · exact ⟨⟨[], rfl, fun v h => by simp at h, fun h => absurd h (by simp)⟩, Nat.le_refl _⟩
  · refine ⟨?_, hl⟩
    by_cases h0 : len = 0
    · subst h0
      exact ⟨[], rfl, fun v h => by simp at h, fun h => absurd h (by simp)⟩
    · have key : ∀ i, i < len → ∃ r : Int, w.cell? (x.add (i * 1 + 0)) = some (.int .u8 r) ∧ 0 ≤ r ∧ r < 256 := by
        intro i hi
        obtain ⟨c0, m0, y0, e0, t0⟩ := hc i hi 0 _ rfl
        obtain ⟨a0, rfl, w0⟩ := leaf_int Tryd.underlying5 t0
        have hw : (0 ≤ a0) ∧ a0 < 256 := by
          simp [Lit.wf, IntKind.min, IntKind.max, IntKind.bits, IntKind.signed] at w0
          omega
        exact ⟨a0, e0, hw.1, hw.2⟩
      obtain ⟨f, hf⟩ := choose_below key
      have hx0 := (hf 0 (by omega)).1
      rw [show x.add (0 * 1 + 0) = x from rfl] at hx0
      obtain ⟨b, off, sp⟩ := x
      have hsp : sp = none := by
        cases sp with
        | none => rfl
        | some s => simp [World.cell?] at hx0; split at hx0 <;> simp_all
      subst hsp
      refine ⟨(List.range len).map f, by simp, fun v hv => ?_, fun _ => ⟨b, off, rfl, World.block_lt_of_cell? w _ hx0, fun k r hk => ?_⟩⟩
      · obtain ⟨i, hi, rfl⟩ := List.mem_map.1 hv
        exact (hf i (List.mem_range.1 hi)).2
      have hkl : k < len := by
        have := (List.getElem?_eq_some_iff.1 hk).1
        simpa using this
      have hr : r = f k := by
        rw [List.getElem?_map, List.getElem?_range hkl] at hk
        simpa using hk.symm
      subst hr
      have e0 := (hf k hkl).1
      have hadd : ∀ n, (⟨b, off, none⟩ : Addr).add n = ⟨b, off + n, none⟩ := fun n => at_add rfl n
      rw [hadd, Nat.mul_one, Nat.add_zero] at e0
      exact e0
end

theorem memoryLoads_walk (x t : Int) (a : Option Addr) (n ca : Nat) (l : List Int) (w : World) (hk : KIN w) (hr : ReadsU w w.heap.size a n l) (hca : n ≤ ca) :
    Calls Tryd.prog 5 #[.int .i64 x, .slice a n ca, .int .u8 t] w fun e w' => e = .returned (.bool true) ∧ Below w.heap.size w w' := by
  by_cases h1 : 1 ≤ n
  · by_cases h2 : n ≤ 100
    · cases hl : loadsOf x with
      | false => exact memoryLoads_bad x t a n ca w hk h1 h2 (loadErr_no hl n) (.inl hl)
      | true =>
        rcases span_two x (x + n - 1) with hs | hs
        · obtain rfl := hr.1
          exact memoryLoads_ok x t a l ca w hk h1 h2 hr hca hl hs
        · have hb := loads_bounds hl
          refine memoryLoads_bad x t a n ca w hk h1 h2 ?_ (.inr ⟨by omega, by omega, hs⟩)
          unfold loadErr
          rw [if_neg]
          rintro ⟨_, _, h⟩
          rw [show x + max 0 ((n : Int) - 1) = x + n - 1 by omega, hs] at h
          exact absurd h (by decide)
    · exact memoryLoads_long x t a n ca w hk (.inr ⟨h1, by omega⟩)
  · exact memoryLoads_long x t a n ca w hk (.inl (by omega))
end Go.Proofs.YtjjebkgljgfecaaDoor
