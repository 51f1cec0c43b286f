/- The lexer: an argument that is a slice of tokens. (printed by gen/lxopen.py) -/
import Derived.Test.YtlmcdbegnjikdaaDoorLx30
import Derived.Test.YtlmcdbegnjikdaaDoorOpen
namespace Go.Proofs.YtlmcdbegnjikdaaDoor
set_option linter.unusedVariables false
set_option linter.unusedSimpArgs false
open Go.RowKit

theorem choose_below {α : Type} [Inhabited α] {P : Nat → α → Prop} {n : Nat} (h : ∀ i, i < n → ∃ r, P i r) : ∃ f : Nat → α, ∀ i, i < n → P i (f i) := by
  classical
  refine ⟨fun i => if hi : i < n then Classical.choose (h i hi) else default, fun i hi => ?_⟩
  simp only [hi, dif_pos]
  exact Classical.choose_spec (h i hi)
theorem at_add {x : Addr} {b off : Nat} (hx : x = ⟨b, off, none⟩) (n : Nat) : x.add n = ⟨b, off + n, none⟩ := by
  subst hx
  unfold Addr.add
  split
  · simp_all
  · rfl
theorem leaf_string {H : Type} {enc : TypeId × Value → H} {w : World} {base : Nat} {spare : Nat → Bool} {held : Bool} {P : Program} {t : TypeId} {m : Nat} {c : Value} {y : DataW H × List MemPlace} (ht : P.underlying t = some .string) (h : DataW.trod enc P w base spare held m t [c] = some y) : ∃ s, c = .string s := by
  obtain ⟨s, hs, _⟩ := DataW.trod_string ht h
  exact ⟨s, by simpa using hs⟩
instance : Inhabited Tok := ⟨⟨0, [], 0, 0, 0⟩⟩
theorem toks_of_rows {H : Type} {enc : TypeId × Value → H} {w : World} {base : Nat} {spare : Nat → Bool} {held : Bool} {a : Option Addr} {len cap : Nat}
    (h : (a = none ∧ len = 0 ∧ cap = 0) ∨ ∃ x, a = some x ∧ len ≤ cap ∧ cap ≤ maxLen ∧ ∀ i, i < len → ∀ (j : Nat) (t' : TypeId), [3, 9, 3, 3, 3][j]? = some t' →
      ∃ (c : Value) (m : Nat) (y : DataW H × List MemPlace), w.cell? (x.add (i * [3, 9, 3, 3, 3].length + j)) = some c ∧ DataW.trod enc Tryd.prog w base spare held m t' [c] = some y) :
    (∃ l : List Tok, len = l.length ∧ Rd ET w (fun _ => True) (.slice a len cap) l) ∧ len ≤ maxLen := by
  rcases h with ⟨rfl, rfl, rfl⟩ | ⟨x, rfl, hl, hm, hc⟩
  · exact ⟨⟨[], rfl, none, 0, rfl, Nat.le_refl _, fun _ => rfl, fun h => absurd h (by simp)⟩, Nat.zero_le _⟩
  · refine ⟨?_, Nat.le_trans hl hm⟩
    by_cases h0 : len = 0
    · subst h0
      exact ⟨[], rfl, some x, cap, rfl, hl, (fun h => by cases h), fun h => absurd h (by simp)⟩
    · have key : ∀ i, i < len → ∃ r : Tok, w.cell? (x.add (i * 5 + 0)) = some (.int .i64 r.kind) ∧ w.cell? (x.add (i * 5 + 1)) = some (.string (str r.text)) ∧ w.cell? (x.add (i * 5 + 2)) = some (.int .i64 r.n) ∧ w.cell? (x.add (i * 5 + 3)) = some (.int .i64 r.line) ∧ w.cell? (x.add (i * 5 + 4)) = some (.int .i64 r.col) := by
        intro i hi
        obtain ⟨c0, m0, y0, e0, t0⟩ := hc i hi 0 _ rfl
        obtain ⟨c1, m1, y1, e1, t1⟩ := hc i hi 1 _ rfl
        obtain ⟨c2, m2, y2, e2, t2⟩ := hc i hi 2 _ rfl
        obtain ⟨c3, m3, y3, e3, t3⟩ := hc i hi 3 _ rfl
        obtain ⟨c4, m4, y4, e4, t4⟩ := hc i hi 4 _ rfl
        obtain ⟨a0, rfl, w0⟩ := leaf_int Tryd.underlying3 t0
        obtain ⟨a1, rfl⟩ := leaf_string Tryd.underlying9 t1
        obtain ⟨a2, rfl, w2⟩ := leaf_int Tryd.underlying3 t2
        obtain ⟨a3, rfl, w3⟩ := leaf_int Tryd.underlying3 t3
        obtain ⟨a4, rfl, w4⟩ := leaf_int Tryd.underlying3 t4
        exact ⟨⟨a0, a1.data.toList, a2, a3, a4⟩, e0, by rw [str_of]; exact e1, e2, e3, e4⟩
      obtain ⟨f, hf⟩ := choose_below key
      have hx0 := (hf 0 (by omega)).1
      rw [show x.add (0 * 5 + 0) = x from rfl] at hx0
      obtain ⟨b, off, sp⟩ := x
      have hsp : sp = none := by
        cases sp with
        | none => rfl
        | some s => simp [World.cell?] at hx0; split at hx0 <;> simp_all
      subst hsp
      have hlt := World.block_lt_of_cell? w _ hx0
      refine ⟨(List.range len).map f, by simp, some ⟨b, off, none⟩, cap, by simp, by simpa using hl, (fun h => by cases h), fun _ => ⟨b, off, rfl, hlt, trivial, fun k r hk j u hu => ?_⟩⟩
      have hkl : k < len := by
        have := (List.getElem?_eq_some_iff.1 hk).1
        simpa using this
      have hr : r = f k := by
        rw [List.getElem?_map, List.getElem?_range hkl] at hk
        simpa using hk.symm
      subst hr
      obtain ⟨e0, e1, e2, e3, e4⟩ := hf k hkl
      have hadd : ∀ n, (⟨b, off, none⟩ : Addr).add n = ⟨b, off + n, none⟩ := fun n => at_add rfl n
      rw [hadd] at e0 e1 e2 e3 e4
      rcases j with _ | _ | _ | _ | _ | j
      · have : Value.int .i64 (f k).kind = u := Option.some.inj hu
        subst this; exact e0
      · have : Value.string (str (f k).text) = u := Option.some.inj hu
        subst this; exact e1
      · have : Value.int .i64 (f k).n = u := Option.some.inj hu
        subst this; exact e2
      · have : Value.int .i64 (f k).line = u := Option.some.inj hu
        subst this; exact e3
      · have : Value.int .i64 (f k).col = u := Option.some.inj hu
        subst this; exact e4
      · simp [ET] at hu
theorem texts_row {H : Type} {enc : TypeId × Value → H} {w : World} {base : Nat} {spare : Nat → Bool} {held : Bool} {a : Option Addr} {len cap : Nat} {m : Int} (hm : w.cell? ⟨0, 0, none⟩ = some (.int .i64 m))
    (h : (a = none ∧ len = 0 ∧ cap = 0) ∨ ∃ x, a = some x ∧ len ≤ cap ∧ cap ≤ maxLen ∧ ∀ i, i < len → ∀ (j : Nat) (t' : TypeId), [3, 9, 3, 3, 3][j]? = some t' →
      ∃ (c : Value) (m : Nat) (y : DataW H × List MemPlace), w.cell? (x.add (i * [3, 9, 3, 3, 3].length + j)) = some c ∧ DataW.trod enc Tryd.prog w base spare held m t' [c] = some y) :
    Calls Tryd.prog 6 #[.slice a len cap] w fun e w' => e = .returned (.bool true) ∧ Below w.heap.size w w' := by
  obtain ⟨⟨l, hl⟩, hx⟩ := toks_of_rows h
  exact texts_walk w a len cap l hl hx m hm
end Go.Proofs.YtlmcdbegnjikdaaDoor
