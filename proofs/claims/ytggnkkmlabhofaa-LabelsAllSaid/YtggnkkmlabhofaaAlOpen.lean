/- Arguments: a slice of policy spans. (printed by gen/alopen.py; with bounds of the bits) -/
import Derived.Test.YtggnkkmlabhofaaOpen
import Derived.Test.YtggnkkmlabhofaaAl2
import Derived.Test.YtggnkkmlabhofaaAl3
namespace Go.Proofs.Ytggnkkmlabhofaa
set_option linter.unusedVariables false
set_option linter.unusedSimpArgs false
open Go.ChangeShapes Go.WideShapes Go.ChangeAt Go.RowKit Go.Deep

theorem choose_below {α : Type} [Inhabited α] {P : Nat → α → Prop} {n : Nat} (h : ∀ i, i < n → ∃ r, P i r) : ∃ f : Nat → α, ∀ i, i < n → P i (f i) := by
  classical
  refine ⟨fun i => if hi : i < n then Classical.choose (h i hi) else default, fun i hi => ?_⟩
  simp only [hi, dif_pos]
  exact Classical.choose_spec (h i hi)
theorem at_add {x : Addr} {b off : Nat} (hx : x = ⟨b, off, none⟩) (n : Nat) : x.add n = ⟨b, off + n, none⟩ := by
  subst hx
  unfold Addr.add
  split
  · simp_all
  · rfl
theorem leaf_slice {H : Type} {enc : TypeId × Value → H} {w : World} {base : Nat} {spare : Nat → Bool} {held : Bool} {P : Program} {t e : TypeId} {m : Nat} {c : Value} {y : DataW H × List MemPlace} (ht : P.underlying t = some (.slice e)) (h : DataW.trod enc P w base spare held m t [c] = some y) :
    ∃ a len cap, c = .slice a len cap ∧ DataW.Trod enc P w base spare held t (.slice a len cap) y.1 y.2 := by
  rcases open_slice ht h with ⟨hcs, _⟩ | ⟨x, l, cp, m', k, D, Pl, hcs, _⟩
  · simp at hcs
    subst hcs
    exact ⟨none, 0, 0, rfl, m, h⟩
  · simp at hcs
    subst hcs
    exact ⟨some x, l, cp, rfl, m, h⟩
theorem u8_bnd {n : Int} (h : (Lit.int .u8 n).wf = true) : 0 ≤ n ∧ n ≤ 255 := by
  simp [Lit.wf, IntKind.min, IntKind.max, IntKind.signed, IntKind.bits] at h
  omega
instance : Inhabited Sp := ⟨⟨0, 0, 0⟩⟩
theorem flatS : flat Try.prog 6 53 = some [3, 3, 5] := by kernel_rfl
/-- A slice of spans that came in. -/
theorem sp_of_trod {H : Type} {enc : TypeId × Value → H} {w : World} {base : Nat} {spare : Nat → Bool} {held : Bool} {m : Nat} {c : Value} {y : DataW H × List MemPlace} (h : DataW.trod enc Try.prog w base spare held m 22 [c] = some y) :
    ∃ a cap, ∃ l : List Sp, c = .slice a l.length cap ∧ Rd ES w (fun _ => True) (.slice a l.length cap) l ∧ ∀ y ∈ l, 0 ≤ y.b ∧ y.b ≤ 255 := by
  obtain ⟨a, len, cap, rfl, t0⟩ := leaf_slice Try.underlying22 h
  rcases open_rows Try.underlying22 flatS (by kernel_rfl) t0 with ⟨rfl, rfl, rfl⟩ | ⟨x, rfl, hl, hm, hc⟩
  · exact ⟨none, 0, [], rfl, ⟨none, 0, rfl, Nat.le_refl _, fun _ => rfl, fun h => absurd h (by simp)⟩, by simp⟩
  · by_cases h0 : len = 0
    · subst h0
      exact ⟨some x, cap, [], rfl, ⟨some x, cap, rfl, hl, (fun h => by cases h), fun h => absurd h (by simp)⟩, by simp⟩
    · have key : ∀ i, i < len → ∃ r : Sp, w.cell? (x.add (i * 3 + 0)) = some (.int .i64 r.f) ∧ w.cell? (x.add (i * 3 + 1)) = some (.int .i64 r.t) ∧ w.cell? (x.add (i * 3 + 2)) = some (.int .u8 r.b) ∧ 0 ≤ r.b ∧ r.b ≤ 255 := by
        intro i hi
        obtain ⟨c0, m0, y0, e0, t0⟩ := hc i hi 0 _ rfl
        obtain ⟨c1, m1, y1, e1, t1⟩ := hc i hi 1 _ rfl
        obtain ⟨c2, m2, y2, e2, t2⟩ := hc i hi 2 _ rfl
        obtain ⟨a0, rfl, w0⟩ := leaf_int Try.underlying3 t0
        obtain ⟨a1, rfl, w1⟩ := leaf_int Try.underlying3 t1
        obtain ⟨a2, rfl, w2⟩ := leaf_int Try.underlying5 t2
        exact ⟨⟨a0, a1, a2⟩, e0, e1, e2, u8_bnd w2⟩
      obtain ⟨f, hf⟩ := choose_below key
      have hx0 := (hf 0 (by omega)).1
      rw [show x.add (0 * 3 + 0) = x from rfl] at hx0
      obtain ⟨b, off, sp⟩ := x
      have hsp : sp = none := by
        cases sp with
        | none => rfl
        | some s => simp [World.cell?] at hx0; split at hx0 <;> simp_all
      subst hsp
      have hlt := World.block_lt_of_cell? w _ hx0
      refine ⟨some ⟨b, off, none⟩, cap, (List.range len).map f, by simp, ⟨some ⟨b, off, none⟩, cap, by simp, by simpa using hl, (fun h => by cases h), fun _ => ⟨b, off, rfl, hlt, trivial, fun k r hk j u hu => ?_⟩⟩, fun y hy => ?_⟩
      rotate_left
      · obtain ⟨k, hk, rfl⟩ := List.mem_map.1 hy
        exact (hf k (List.mem_range.1 hk)).2.2.2
      have hkl : k < len := by
        have := (List.getElem?_eq_some_iff.1 hk).1
        simpa using this
      have hr : r = f k := by
        rw [List.getElem?_map, List.getElem?_range hkl] at hk
        simpa using hk.symm
      subst hr
      obtain ⟨e0, e1, e2, _⟩ := hf k hkl
      have hadd : ∀ n, (⟨b, off, none⟩ : Addr).add n = ⟨b, off + n, none⟩ := fun n => at_add rfl n
      rw [hadd] at e0 e1 e2
      rcases j with _ | _ | _ | j
      · have : Value.int .i64 (f k).f = u := Option.some.inj hu
        subst this; exact e0
      · have : Value.int .i64 (f k).t = u := Option.some.inj hu
        subst this; exact e1
      · have : Value.int .u8 (f k).b = u := Option.some.inj hu
        subst this; exact e2
      · simp [ES] at hu
theorem labelsAll_open {H : Type} {enc : TypeId × Value → H} {W : World} {base : Nat} {spare : Nat → Bool} {held : Bool} {m0 m1 : Nat} {y0 y1 : DataW H × List MemPlace} {c0 c1 : Value} (dc tr x : Int)
    (h0 : DataW.trod enc Try.prog W base spare held m0 22 [c0] = some y0) (h1 : DataW.trod enc Try.prog W base spare held m1 22 [c1] = some y1) :
    Calls Try.prog 3 #[.agg #[c0, c1, .int .i64 dc, .int .i64 tr], .int .i64 x] W fun e w' => e = .returned (.bool true) ∧ Below W.heap.size W w' := by
  obtain ⟨sa, sc, s, rfl, rs, bs⟩ := sp_of_trod h0
  obtain ⟨ma, mc, m, rfl, rm, bm⟩ := sp_of_trod h1
  by_cases hf : s.length ≤ 80 ∧ m.length ≤ 80
  · by_cases hC : chk s m dc tr = 0
    · by_cases hse : s.length = 0
      · exact al_ok0 W (fun _ => True) sa ma sc mc s m dc tr x rs rm bs bm hse hf hC
      · exact al_ok1 W (fun _ => True) sa ma sc mc s m dc tr x rs rm bs bm hse hf hC
    · exact al_bad W (fun _ => True) sa ma sc mc s m dc tr x rs rm hf hC
  · exact al_long W (fun _ => True) sa ma sc mc s m dc tr x rs rm hf
end Go.Proofs.Ytggnkkmlabhofaa
