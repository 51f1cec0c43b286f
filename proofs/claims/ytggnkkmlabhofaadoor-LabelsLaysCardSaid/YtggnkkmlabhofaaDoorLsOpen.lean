/- Arguments of the laws of labels: spans, loads, turned bytes. (printed by gen/llopen.py) -/
import Derived.Test.YtggnkkmlabhofaaDoorLlDoor
import Derived.Test.YtggnkkmlabhofaaDoorLs3
namespace Go.Proofs.YtggnkkmlabhofaaDoor
set_option linter.unusedVariables false
set_option linter.unusedSimpArgs false
open Go.ChangeShapes Go.WideShapes Go.ChangeAt Go.RowKit Go.Deep

theorem choose_below {α : Type} [Inhabited α] {P : Nat → α → Prop} {n : Nat} (h : ∀ i, i < n → ∃ r, P i r) : ∃ f : Nat → α, ∀ i, i < n → P i (f i) := by
  classical
  refine ⟨fun i => if hi : i < n then Classical.choose (h i hi) else default, fun i hi => ?_⟩
  simp only [hi, dif_pos]
  exact Classical.choose_spec (h i hi)
theorem at_add {x : Addr} {b off : Nat} (hx : x = ⟨b, off, none⟩) (n : Nat) : x.add n = ⟨b, off + n, none⟩ := by
  subst hx
  unfold Addr.add
  split
  · simp_all
  · rfl
theorem leaf_slice {H : Type} {enc : TypeId × Value → H} {w : World} {base : Nat} {spare : Nat → Bool} {held : Bool} {P : Program} {t e : TypeId} {m : Nat} {c : Value} {y : DataW H × List MemPlace} (ht : P.underlying t = some (.slice e)) (h : DataW.trod enc P w base spare held m t [c] = some y) :
    ∃ a len cap, c = .slice a len cap ∧ DataW.Trod enc P w base spare held t (.slice a len cap) y.1 y.2 := by
  rcases open_slice ht h with ⟨hcs, _⟩ | ⟨x, l, cp, m', k, D, Pl, hcs, _⟩
  · simp at hcs
    subst hcs
    exact ⟨none, 0, 0, rfl, m, h⟩
  · simp at hcs
    subst hcs
    exact ⟨some x, l, cp, rfl, m, h⟩
theorem u8_bnd {n : Int} (h : (Lit.int .u8 n).wf = true) : 0 ≤ n ∧ n ≤ 255 := by
  simp [Lit.wf, IntKind.min, IntKind.max, IntKind.signed, IntKind.bits] at h
  omega
instance : Inhabited Sp := ⟨⟨0, 0, 0⟩⟩
theorem flatS : flat Tryd.prog 6 91 = some [3, 3, 5] := by kernel_rfl
/-- A slice of spans that came in. -/
theorem sp_of_trod {H : Type} {enc : TypeId × Value → H} {w : World} {base : Nat} {spare : Nat → Bool} {held : Bool} {m : Nat} {c : Value} {y : DataW H × List MemPlace} (h : DataW.trod enc Tryd.prog w base spare held m 42 [c] = some y) :
    ∃ a cap, ∃ l : List Sp, c = .slice a l.length cap ∧ Rd ES w (fun _ => True) (.slice a l.length cap) l ∧ ∀ y ∈ l, 0 ≤ y.b ∧ y.b ≤ 255 := by
  obtain ⟨a, len, cap, rfl, t0⟩ := leaf_slice Tryd.underlying42 h
  rcases open_rows Tryd.underlying42 flatS (by kernel_rfl) t0 with ⟨rfl, rfl, rfl⟩ | ⟨x, rfl, hl, hm, hc⟩
  · exact ⟨none, 0, [], rfl, ⟨none, 0, rfl, Nat.le_refl _, fun _ => rfl, fun h => absurd h (by simp)⟩, by simp⟩
  · by_cases h0 : len = 0
    · subst h0
      exact ⟨some x, cap, [], rfl, ⟨some x, cap, rfl, hl, (fun h => by cases h), fun h => absurd h (by simp)⟩, by simp⟩
    · have key : ∀ i, i < len → ∃ r : Sp, w.cell? (x.add (i * 3 + 0)) = some (.int .i64 r.f) ∧ w.cell? (x.add (i * 3 + 1)) = some (.int .i64 r.t) ∧ w.cell? (x.add (i * 3 + 2)) = some (.int .u8 r.b) ∧ 0 ≤ r.b ∧ r.b ≤ 255 := by
        intro i hi
        obtain ⟨c0, m0, y0, e0, t0⟩ := hc i hi 0 _ rfl
        obtain ⟨c1, m1, y1, e1, t1⟩ := hc i hi 1 _ rfl
        obtain ⟨c2, m2, y2, e2, t2⟩ := hc i hi 2 _ rfl
        obtain ⟨a0, rfl, w0⟩ := leaf_int Tryd.underlying3 t0
        obtain ⟨a1, rfl, w1⟩ := leaf_int Tryd.underlying3 t1
        obtain ⟨a2, rfl, w2⟩ := leaf_int Tryd.underlying5 t2
        exact ⟨⟨a0, a1, a2⟩, e0, e1, e2, u8_bnd w2⟩
      obtain ⟨f, hf⟩ := choose_below key
      have hx0 := (hf 0 (by omega)).1
      rw [show x.add (0 * 3 + 0) = x from rfl] at hx0
      obtain ⟨b, off, sp⟩ := x
      have hsp : sp = none := by
        cases sp with
        | none => rfl
        | some s => simp [World.cell?] at hx0; split at hx0 <;> simp_all
      subst hsp
      have hlt := World.block_lt_of_cell? w _ hx0
      refine ⟨some ⟨b, off, none⟩, cap, (List.range len).map f, by simp, ⟨some ⟨b, off, none⟩, cap, by simp, by simpa using hl, (fun h => by cases h), fun _ => ⟨b, off, rfl, hlt, trivial, fun k r hk j u hu => ?_⟩⟩, fun y hy => ?_⟩
      rotate_left
      · obtain ⟨k, hk, rfl⟩ := List.mem_map.1 hy
        exact (hf k (List.mem_range.1 hk)).2.2.2
      have hkl : k < len := by
        have := (List.getElem?_eq_some_iff.1 hk).1
        simpa using this
      have hr : r = f k := by
        rw [List.getElem?_map, List.getElem?_range hkl] at hk
        simpa using hk.symm
      subst hr
      obtain ⟨e0, e1, e2, _⟩ := hf k hkl
      have hadd : ∀ n, (⟨b, off, none⟩ : Addr).add n = ⟨b, off + n, none⟩ := fun n => at_add rfl n
      rw [hadd] at e0 e1 e2
      rcases j with _ | _ | _ | j
      · have : Value.int .i64 (f k).f = u := Option.some.inj hu
        subst this; exact e0
      · have : Value.int .i64 (f k).t = u := Option.some.inj hu
        subst this; exact e1
      · have : Value.int .u8 (f k).b = u := Option.some.inj hu
        subst this; exact e2
      · simp [ES] at hu
section
variable {H : Type} {enc : TypeId × Value → H} {w : World} {base : Nat} {spare : Nat → Bool} {held : Bool}
theorem readsU_of_rows {a : Option Addr} {len cap : Nat}
    (h : (a = none ∧ len = 0 ∧ cap = 0) ∨ ∃ x, a = some x ∧ len ≤ cap ∧ cap ≤ maxLen ∧ ∀ i, i < len → ∀ (j : Nat) (t' : TypeId), [5][j]? = some t' →
      ∃ (c : Value) (m : Nat) (y : DataW H × List MemPlace), w.cell? (x.add (i * [5].length + j)) = some c ∧ DataW.trod enc Tryd.prog w base spare held m t' [c] = some y) :
    (∃ l, ReadsU w w.heap.size a len l) ∧ len ≤ cap := by
  rcases h with ⟨rfl, rfl, rfl⟩ | ⟨x, rfl, hl, hm, hc⟩
  · exact ⟨⟨[], rfl, fun v h => by simp at h, fun h => absurd h (by simp)⟩, Nat.le_refl _⟩
  · refine ⟨?_, hl⟩
    by_cases h0 : len = 0
    · subst h0
      exact ⟨[], rfl, fun v h => by simp at h, fun h => absurd h (by simp)⟩
    · have key : ∀ i, i < len → ∃ r : Int, w.cell? (x.add (i * 1 + 0)) = some (.int .u8 r) ∧ 0 ≤ r ∧ r < 256 := by
        intro i hi
        obtain ⟨c0, m0, y0, e0, t0⟩ := hc i hi 0 _ rfl
        obtain ⟨a0, rfl, w0⟩ := leaf_int Tryd.underlying5 t0
        have hw : (0 ≤ a0) ∧ a0 < 256 := by
          simp [Lit.wf, IntKind.min, IntKind.max, IntKind.bits, IntKind.signed] at w0
          omega
        exact ⟨a0, e0, hw.1, hw.2⟩
      obtain ⟨f, hf⟩ := choose_below key
      have hx0 := (hf 0 (by omega)).1
      rw [show x.add (0 * 1 + 0) = x from rfl] at hx0
      obtain ⟨b, off, sp⟩ := x
      have hsp : sp = none := by
        cases sp with
        | none => rfl
        | some s => simp [World.cell?] at hx0; split at hx0 <;> simp_all
      subst hsp
      refine ⟨(List.range len).map f, by simp, fun v hv => ?_, fun _ => ⟨b, off, rfl, World.block_lt_of_cell? w _ hx0, fun k r hk => ?_⟩⟩
      · obtain ⟨i, hi, rfl⟩ := List.mem_map.1 hv
        exact (hf i (List.mem_range.1 hi)).2
      have hkl : k < len := by
        have := (List.getElem?_eq_some_iff.1 hk).1
        simpa using this
      have hr : r = f k := by
        rw [List.getElem?_map, List.getElem?_range hkl] at hk
        simpa using hk.symm
      subst hr
      have e0 := (hf k hkl).1
      have hadd : ∀ n, (⟨b, off, none⟩ : Addr).add n = ⟨b, off + n, none⟩ := fun n => at_add rfl n
      rw [hadd, Nat.mul_one, Nat.add_zero] at e0
      exact e0
instance : Inhabited LD := ⟨⟨0, none, 0, 0, []⟩⟩
theorem flatU : flat Tryd.prog 6 5 = some [5] := by kernel_rfl
theorem readsL_of_rows {a : Option Addr} {len cap : Nat}
    (h : (a = none ∧ len = 0 ∧ cap = 0) ∨ ∃ x, a = some x ∧ len ≤ cap ∧ cap ≤ maxLen ∧ ∀ i, i < len → ∀ (j : Nat) (t' : TypeId), [3, 63][j]? = some t' →
      ∃ (c : Value) (m : Nat) (y : DataW H × List MemPlace), w.cell? (x.add (i * [3, 63].length + j)) = some c ∧ DataW.trod enc Tryd.prog w base spare held m t' [c] = some y) :
    (∃ l, ReadsL w w.heap.size a len l) ∧ len ≤ maxLen := by
  rcases h with ⟨rfl, rfl, rfl⟩ | ⟨x, rfl, hl, hm, hc⟩
  · exact ⟨⟨[], rfl, fun h => absurd h (by simp)⟩, Nat.zero_le _⟩
  · refine ⟨?_, Nat.le_trans hl hm⟩
    by_cases h0 : len = 0
    · subst h0
      exact ⟨[], rfl, fun h => absurd h (by simp)⟩
    · have key : ∀ i, i < len → ∃ o : LD, w.cell? (x.add (i * 2 + 0)) = some (.int .i64 o.at_) ∧ w.cell? (x.add (i * 2 + 1)) = some (.slice o.a o.n o.ca) ∧ ReadsU w w.heap.size o.a o.n o.l := by
        intro i hi
        obtain ⟨c0, m0, y0, e0, t0⟩ := hc i hi 0 _ rfl
        obtain ⟨c5, m5, y5, e5, t5⟩ := hc i hi 1 _ rfl
        obtain ⟨a0, rfl, w0⟩ := leaf_int Tryd.underlying3 t0
        obtain ⟨sa, sl, sc, rfl, htr⟩ := leaf_slice Tryd.underlying63 t5
        obtain ⟨bs, hbs⟩ := (readsU_of_rows (open_rows Tryd.underlying63 flatU (by kernel_rfl) htr)).1
        exact ⟨⟨a0, sa, sl, sc, bs⟩, e0, e5, hbs⟩
      obtain ⟨f, hf⟩ := choose_below key
      have hx0 := (hf 0 (by omega)).1
      rw [show x.add (0 * 2 + 0) = x from rfl] at hx0
      obtain ⟨b, off, sp⟩ := x
      have hsp : sp = none := by
        cases sp with
        | none => rfl
        | some s => simp [World.cell?] at hx0; split at hx0 <;> simp_all
      subst hsp
      refine ⟨(List.range len).map f, by simp, fun _ => ⟨b, off, rfl, World.block_lt_of_cell? w _ hx0, fun k r hk => ?_⟩⟩
      have hkl : k < len := by
        have := (List.getElem?_eq_some_iff.1 hk).1
        simpa using this
      have hr : r = f k := by
        rw [List.getElem?_map, List.getElem?_range hkl] at hk
        simpa using hk.symm
      subst hr
      obtain ⟨e0, e1, e6⟩ := hf k hkl
      have hadd : ∀ n, (⟨b, off, none⟩ : Addr).add n = ⟨b, off + n, none⟩ := fun n => at_add rfl n
      rw [hadd] at e0 e1
      exact ⟨e0, e1, e6⟩
end
theorem labelsLays_open {H : Type} {enc : TypeId × Value → H} {W : World} {base : Nat} {spare : Nat → Bool} {held : Bool} {m0 m1 : Nat} {y0 y1 : DataW H × List MemPlace} {c0 c1 : Value} {a : Option Addr} {len cap : Nat} (dc tr : Int) (h0 : DataW.trod enc Tryd.prog W base spare held m0 42 [c0] = some y0) (h1 : DataW.trod enc Tryd.prog W base spare held m1 42 [c1] = some y1) (hr : (∃ l, ReadsL W W.heap.size a len l) ∧ len ≤ maxLen) (hK : KIN W) :
    Calls Tryd.prog 7 #[.agg #[c0, c1, .int .i64 dc, .int .i64 tr], .slice a len cap] W fun e w' => e = .returned (.bool true) ∧ Below W.heap.size W w' := by
  obtain ⟨sa, sc, s, rfl, rs, bs⟩ := sp_of_trod h0
  obtain ⟨ma, mc, m, rfl, rm, bm⟩ := sp_of_trod h1
  obtain ⟨⟨ops, hr⟩, hlen⟩ := hr
  by_cases hf : s.length ≤ 80 ∧ m.length ≤ 80
  · exact ly_few W (fun _ => True) sa ma sc mc s m dc tr a len cap ops hK rs rm hr hlen hf
  · exact ly_many W (fun _ => True) sa ma sc mc s m dc tr a len cap ops hK rs rm hr hlen hf
end Go.Proofs.YtggnkkmlabhofaaDoor
