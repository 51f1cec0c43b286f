/- Arguments: a slice of policy spans. (printed by gen/laopen.py) -/
import Derived.Test.YtggnkkmlabhofaaDoorOpen
import Derived.Test.YtggnkkmlabhofaaDoorSo7
namespace Go.Proofs.YtggnkkmlabhofaaDoor
set_option linter.unusedVariables false
set_option linter.unusedSimpArgs false
open Go.ChangeShapes Go.WideShapes Go.ChangeAt Go.RowKit Go.Deep

theorem choose_below {α : Type} [Inhabited α] {P : Nat → α → Prop} {n : Nat} (h : ∀ i, i < n → ∃ r, P i r) : ∃ f : Nat → α, ∀ i, i < n → P i (f i) := by
  classical
  refine ⟨fun i => if hi : i < n then Classical.choose (h i hi) else default, fun i hi => ?_⟩
  simp only [hi, dif_pos]
  exact Classical.choose_spec (h i hi)
theorem at_add {x : Addr} {b off : Nat} (hx : x = ⟨b, off, none⟩) (n : Nat) : x.add n = ⟨b, off + n, none⟩ := by
  subst hx
  unfold Addr.add
  split
  · simp_all
  · rfl
theorem leaf_slice {H : Type} {enc : TypeId × Value → H} {w : World} {base : Nat} {spare : Nat → Bool} {held : Bool} {P : Program} {t e : TypeId} {m : Nat} {c : Value} {y : DataW H × List MemPlace} (ht : P.underlying t = some (.slice e)) (h : DataW.trod enc P w base spare held m t [c] = some y) :
    ∃ a len cap, c = .slice a len cap ∧ DataW.Trod enc P w base spare held t (.slice a len cap) y.1 y.2 := by
  rcases open_slice ht h with ⟨hcs, _⟩ | ⟨x, l, cp, m', k, D, Pl, hcs, _⟩
  · simp at hcs
    subst hcs
    exact ⟨none, 0, 0, rfl, m, h⟩
  · simp at hcs
    subst hcs
    exact ⟨some x, l, cp, rfl, m, h⟩
instance : Inhabited Sp := ⟨⟨0, 0, 0⟩⟩
theorem flatS : flat Tryd.prog 6 91 = some [3, 3, 5] := by kernel_rfl
/-- A slice of spans that came in. -/
theorem sp_of_trod {H : Type} {enc : TypeId × Value → H} {w : World} {base : Nat} {spare : Nat → Bool} {held : Bool} {m : Nat} {c : Value} {y : DataW H × List MemPlace} (h : DataW.trod enc Tryd.prog w base spare held m 42 [c] = some y) :
    ∃ a cap, ∃ l : List Sp, c = .slice a l.length cap ∧ Rd ES w (fun _ => True) (.slice a l.length cap) l := by
  obtain ⟨a, len, cap, rfl, t0⟩ := leaf_slice Tryd.underlying42 h
  rcases open_rows Tryd.underlying42 flatS (by kernel_rfl) t0 with ⟨rfl, rfl, rfl⟩ | ⟨x, rfl, hl, hm, hc⟩
  · exact ⟨none, 0, [], rfl, none, 0, rfl, Nat.le_refl _, fun _ => rfl, fun h => absurd h (by simp)⟩
  · by_cases h0 : len = 0
    · subst h0
      exact ⟨some x, cap, [], rfl, some x, cap, rfl, hl, (fun h => by cases h), fun h => absurd h (by simp)⟩
    · have key : ∀ i, i < len → ∃ r : Sp, w.cell? (x.add (i * 3 + 0)) = some (.int .i64 r.f) ∧ w.cell? (x.add (i * 3 + 1)) = some (.int .i64 r.t) ∧ w.cell? (x.add (i * 3 + 2)) = some (.int .u8 r.b) := by
        intro i hi
        obtain ⟨c0, m0, y0, e0, t0⟩ := hc i hi 0 _ rfl
        obtain ⟨c1, m1, y1, e1, t1⟩ := hc i hi 1 _ rfl
        obtain ⟨c2, m2, y2, e2, t2⟩ := hc i hi 2 _ rfl
        obtain ⟨a0, rfl, w0⟩ := leaf_int Tryd.underlying3 t0
        obtain ⟨a1, rfl, w1⟩ := leaf_int Tryd.underlying3 t1
        obtain ⟨a2, rfl, w2⟩ := leaf_int Tryd.underlying5 t2
        exact ⟨⟨a0, a1, a2⟩, e0, e1, e2⟩
      obtain ⟨f, hf⟩ := choose_below key
      have hx0 := (hf 0 (by omega)).1
      rw [show x.add (0 * 3 + 0) = x from rfl] at hx0
      obtain ⟨b, off, sp⟩ := x
      have hsp : sp = none := by
        cases sp with
        | none => rfl
        | some s => simp [World.cell?] at hx0; split at hx0 <;> simp_all
      subst hsp
      have hlt := World.block_lt_of_cell? w _ hx0
      refine ⟨some ⟨b, off, none⟩, cap, (List.range len).map f, by simp, some ⟨b, off, none⟩, cap, by simp, by simpa using hl, (fun h => by cases h), fun _ => ⟨b, off, rfl, hlt, trivial, fun k r hk j u hu => ?_⟩⟩
      have hkl : k < len := by
        have := (List.getElem?_eq_some_iff.1 hk).1
        simpa using this
      have hr : r = f k := by
        rw [List.getElem?_map, List.getElem?_range hkl] at hk
        simpa using hk.symm
      subst hr
      obtain ⟨e0, e1, e2⟩ := hf k hkl
      have hadd : ∀ n, (⟨b, off, none⟩ : Addr).add n = ⟨b, off + n, none⟩ := fun n => at_add rfl n
      rw [hadd] at e0 e1 e2
      rcases j with _ | _ | _ | j
      · have : Value.int .i64 (f k).f = u := Option.some.inj hu
        subst this; exact e0
      · have : Value.int .i64 (f k).t = u := Option.some.inj hu
        subst this; exact e1
      · have : Value.int .u8 (f k).b = u := Option.some.inj hu
        subst this; exact e2
      · simp [ES] at hu
end Go.Proofs.YtggnkkmlabhofaaDoor
