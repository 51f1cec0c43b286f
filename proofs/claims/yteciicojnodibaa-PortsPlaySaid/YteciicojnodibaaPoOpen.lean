/- Arguments: what comes in (two slices of bytes), and a slice of calls. (printed by gen/poopen.py) -/
import Derived.Test.YteciicojnodibaaOpen
import Derived.Test.YteciicojnodibaaPo15
namespace Go.Proofs.Yteciicojnodibaa
set_option linter.unusedVariables false
set_option linter.unusedSimpArgs false
open Go.ChangeShapes Go.WideShapes Go.ChangeAt Go.RowKit Go.Deep

theorem choose_below {α : Type} [Inhabited α] {P : Nat → α → Prop} {n : Nat} (h : ∀ i, i < n → ∃ r, P i r) : ∃ f : Nat → α, ∀ i, i < n → P i (f i) := by
  classical
  refine ⟨fun i => if hi : i < n then Classical.choose (h i hi) else default, fun i hi => ?_⟩
  simp only [hi, dif_pos]
  exact Classical.choose_spec (h i hi)
theorem at_add {x : Addr} {b off : Nat} (hx : x = ⟨b, off, none⟩) (n : Nat) : x.add n = ⟨b, off + n, none⟩ := by
  subst hx
  unfold Addr.add
  split
  · simp_all
  · rfl
theorem u8_bnd {n : Int} (h : (Lit.int .u8 n).wf = true) : 0 ≤ n ∧ n ≤ 255 := by
  simp [Lit.wf, IntKind.min, IntKind.max, IntKind.signed, IntKind.bits] at h
  omega
theorem leaf_slice {H : Type} {enc : TypeId × Value → H} {w : World} {base : Nat} {spare : Nat → Bool} {held : Bool} {P : Program} {t e : TypeId} {m : Nat} {c : Value} {y : DataW H × List MemPlace} (ht : P.underlying t = some (.slice e)) (h : DataW.trod enc P w base spare held m t [c] = some y) :
    ∃ a len cap, c = .slice a len cap ∧ DataW.Trod enc P w base spare held t (.slice a len cap) y.1 y.2 := by
  rcases open_slice ht h with ⟨hcs, _⟩ | ⟨x, l, cp, m', k, D, Pl, hcs, _⟩
  · simp at hcs
    subst hcs
    exact ⟨none, 0, 0, rfl, m, h⟩
  · simp at hcs
    subst hcs
    exact ⟨some x, l, cp, rfl, m, h⟩
instance : Inhabited POp := ⟨⟨0, 0, 0, 0, 0⟩⟩
theorem readsP_of_rows {H : Type} {enc : TypeId × Value → H} {w : World} {base : Nat} {spare : Nat → Bool} {held : Bool} {a : Option Addr} {len cap : Nat}
    (h : (a = none ∧ len = 0 ∧ cap = 0) ∨ ∃ x, a = some x ∧ len ≤ cap ∧ cap ≤ maxLen ∧ ∀ i, i < len → ∀ (j : Nat) (t' : TypeId), [3, 3, 5, 5, 3][j]? = some t' →
      ∃ (c : Value) (m : Nat) (y : DataW H × List MemPlace), w.cell? (x.add (i * [3, 3, 5, 5, 3].length + j)) = some c ∧ DataW.trod enc Try.prog w base spare held m t' [c] = some y) :
    (∃ l, ReadsP w w.heap.size a len l) ∧ len ≤ maxLen := by
  rcases h with ⟨rfl, rfl, rfl⟩ | ⟨x, rfl, hl, hm, hc⟩
  · exact ⟨⟨[], rfl, fun h => absurd h (by simp)⟩, Nat.zero_le _⟩
  · refine ⟨?_, Nat.le_trans hl hm⟩
    by_cases h0 : len = 0
    · subst h0
      exact ⟨[], rfl, fun h => absurd h (by simp)⟩
    · have key : ∀ i, i < len → ∃ r : POp, w.cell? (x.add (i * 5 + 0)) = some (.int .i64 r.ask) ∧ w.cell? (x.add (i * 5 + 1)) = some (.int .i64 r.reg) ∧ w.cell? (x.add (i * 5 + 2)) = some (.int .u8 r.v) ∧ w.cell? (x.add (i * 5 + 3)) = some (.int .u8 r.t) ∧ w.cell? (x.add (i * 5 + 4)) = some (.int .i64 r.cyc) ∧ 0 ≤ r.v ∧ r.v ≤ 255 ∧ 0 ≤ r.t ∧ r.t ≤ 255 := by
        intro i hi
        obtain ⟨c0, m0, y0, e0, t0⟩ := hc i hi 0 _ rfl
        obtain ⟨c1, m1, y1, e1, t1⟩ := hc i hi 1 _ rfl
        obtain ⟨c2, m2, y2, e2, t2⟩ := hc i hi 2 _ rfl
        obtain ⟨c3, m3, y3, e3, t3⟩ := hc i hi 3 _ rfl
        obtain ⟨c4, m4, y4, e4, t4⟩ := hc i hi 4 _ rfl
        obtain ⟨a0, rfl, w0⟩ := leaf_int Try.underlying3 t0
        obtain ⟨a1, rfl, w1⟩ := leaf_int Try.underlying3 t1
        obtain ⟨a2, rfl, w2⟩ := leaf_int Try.underlying5 t2
        obtain ⟨a3, rfl, w3⟩ := leaf_int Try.underlying5 t3
        obtain ⟨a4, rfl, w4⟩ := leaf_int Try.underlying3 t4
        exact ⟨⟨a0, a1, a2, a3, a4⟩, e0, e1, e2, e3, e4, (u8_bnd w2).1, (u8_bnd w2).2, (u8_bnd w3).1, (u8_bnd w3).2⟩
      obtain ⟨f, hf⟩ := choose_below key
      have hx0 := (hf 0 (by omega)).1
      rw [show x.add (0 * 5 + 0) = x from rfl] at hx0
      obtain ⟨b, off, sp⟩ := x
      have hsp : sp = none := by
        cases sp with
        | none => rfl
        | some s => simp [World.cell?] at hx0; split at hx0 <;> simp_all
      subst hsp
      refine ⟨(List.range len).map f, by simp, fun _ => ⟨b, off, rfl, World.block_lt_of_cell? w _ hx0, fun k r hk => ?_⟩⟩
      have hkl : k < len := by
        have := (List.getElem?_eq_some_iff.1 hk).1
        simpa using this
      have hr : r = f k := by
        rw [List.getElem?_map, List.getElem?_range hkl] at hk
        simpa using hk.symm
      subst hr
      obtain ⟨e0, e1, e2, e3, e4, eb⟩ := hf k hkl
      have hadd : ∀ n, (⟨b, off, none⟩ : Addr).add n = ⟨b, off + n, none⟩ := fun n => at_add rfl n
      rw [hadd] at e0 e1 e2 e3 e4
      exact ⟨e0, e1, e2, e3, e4, eb⟩
theorem flatP : flat Try.prog 6 37 = some [3, 3, 5, 5, 3] := by kernel_rfl
theorem flatU : flat Try.prog 6 5 = some [5] := by kernel_rfl
/-- A slice of bytes that came in. -/
theorem rd_of_trod {H : Type} {enc : TypeId × Value → H} {w : World} {base : Nat} {spare : Nat → Bool} {held : Bool} {m : Nat} {c : Value} {y : DataW H × List MemPlace} (h : DataW.trod enc Try.prog w base spare held m 29 [c] = some y) :
    ∃ l, Rd EU w (fun _ => True) c l := by
  obtain ⟨a, len, cap, rfl, t0⟩ := leaf_slice Try.underlying29 h
  rcases open_rows Try.underlying29 flatU (by kernel_rfl) t0 with ⟨rfl, rfl, rfl⟩ | ⟨x, rfl, hl, hm, hc⟩
  · exact ⟨[], Rd.nil _ _ _⟩
  · by_cases h0 : len = 0
    · subst h0
      exact ⟨[], some x, cap, rfl, Nat.zero_le _, (fun h => by cases h), fun h => absurd h (by simp)⟩
    · have key : ∀ i, i < len → ∃ r : Int, w.cell? (x.add (i * 1 + 0)) = some (.int .u8 r) := by
        intro i hi
        obtain ⟨c0, m0, y0, e0, t0⟩ := hc i hi 0 _ rfl
        obtain ⟨a0, rfl, w0⟩ := leaf_int Try.underlying5 t0
        exact ⟨a0, e0⟩
      obtain ⟨f, hf⟩ := choose_below key
      have hx0 := hf 0 (by omega)
      rw [show x.add (0 * 1 + 0) = x from rfl] at hx0
      obtain ⟨b, off, sp⟩ := x
      have hsp : sp = none := by
        cases sp with
        | none => rfl
        | some s => simp [World.cell?] at hx0; split at hx0 <;> simp_all
      subst hsp
      refine ⟨(List.range len).map f, some ⟨b, off, none⟩, cap, by simp, by simpa using hl, (fun h => by cases h), fun _ => ⟨b, off, rfl, World.block_lt_of_cell? w _ hx0, trivial, fun k r hk j u hu => ?_⟩⟩
      have hkl : k < len := by
        have := (List.getElem?_eq_some_iff.1 hk).1
        simpa using this
      have hr : r = f k := by
        rw [List.getElem?_map, List.getElem?_range hkl] at hk
        simpa using hk.symm
      subst hr
      have hj : j = 0 := by
        have := (List.getElem?_eq_some_iff.1 hu).1
        rw [EU.len] at this
        omega
      subst hj
      cases hu
      have e0 := hf k hkl
      rw [at_add rfl] at e0
      simpa using e0
theorem portsLow_all {H : Type} {enc : TypeId × Value → H} {w : World} {base : Nat} {spare : Nat → Bool} {held : Bool} {m0 m1 m2 m3 : Nat} {y0 y1 y2 y3 : DataW H × List MemPlace} {c0 c1 c2 c3 : Value} {a : Option Addr} {len cap : Nat} {ops : List POp}
    (h0 : DataW.trod enc Try.prog w base spare held m0 29 [c0] = some y0) (h1 : DataW.trod enc Try.prog w base spare held m1 29 [c1] = some y1) (h2 : DataW.trod enc Try.prog w base spare held m2 29 [c2] = some y2) (h3 : DataW.trod enc Try.prog w base spare held m3 29 [c3] = some y3)
    (hr : ReadsP w w.heap.size a len ops) :
    Calls Try.prog 5 #[.agg #[c0, c1], .agg #[c2, c3], .slice a len cap] w fun e w' => e = .returned (.bool true) ∧ Below w.heap.size w w' := by
  obtain ⟨l0, r0⟩ := rd_of_trod h0
  obtain ⟨l1, r1⟩ := rd_of_trod h1
  obtain ⟨l2, r2⟩ := rd_of_trod h2
  obtain ⟨l3, r3⟩ := rd_of_trod h3
  exact portsLow_walk c0 c1 c2 c3 l0 l1 l2 l3 a len cap ops w r0 r1 r2 r3 hr
end Go.Proofs.Yteciicojnodibaa
