/- What an argument's reading says of its cells: a struct, or an array, opened down to one-cell parts. No function of the program. -/
import Derived.Test.YtggnkkmlabhofaaDoorRows
import Derived.WalkKit
import Derived.ProofKit
import Derived.OpenShut
import Derived.ShutString
import Derived.ChangeOld
import Derived.Below
import Derived.Deep.Slices
namespace Go.Proofs.YtggnkkmlabhofaaDoor
set_option linter.unusedVariables false
set_option linter.unusedSimpArgs false
open Go.ChangeShapes Go.WideShapes Go.ChangeAt Go.RowKit Go.Deep

/-- A struct's fields, one behind the other. -/
def flatFields (P : Program) (F : TypeId → Option (List TypeId)) : List Field → Nat → Option (List TypeId)
  | [], _ => some []
  | f :: r, o => (F f.type).bind fun a => if f.offset = o ∧ P.cellsOf f.type = a.length then (flatFields P F r (o + a.length)).map (a ++ ·) else none
/-- The one-cell types of which a type is made, in order. -/
def flat (P : Program) : Nat → TypeId → Option (List TypeId)
  | 0, _ => none
  | n + 1, t =>
    match P.underlying t with
    | some (.struct fs) => flatFields P (flat P n) fs.toList 0
    | some (.array k e) => (flat P n e).bind fun a => if P.cellsOf e = a.length then some (List.replicate k a).flatten else none
    | some _ => some [t]
    | none => none

section
variable {H : Type} {enc : TypeId × Value → H} {P : Program} {w : World} {base : Nat} {spare : Nat → Bool} {held : Bool}

theorem trod_one {t : TypeId} {d : TypeDesc} {fuel : Nat} {cs : List Value} {x : DataW H × List MemPlace} (ht : P.underlying t = some d) (hs : ∀ fs, d ≠ .struct fs) (ha : ∀ k e, d ≠ .array k e)
    (h : DataW.trod enc P w base spare held fuel t cs = some x) : ∃ v, cs = [v] := by
  cases fuel with
  | zero => simp [DataW.trod] at h
  | succ n =>
    unfold DataW.trod at h
    rw [ht] at h
    split at h <;> first | exact ⟨_, rfl⟩ | (simp_all; done)

theorem flat_get (a : List TypeId) (k : Nat) : ∀ i t', (List.replicate k a).flatten[i]? = some t' → ∃ q r, q < k ∧ i = q * a.length + r ∧ a[r]? = some t' := by
  induction k with
  | zero => intro i t' h; simp at h
  | succ k ih =>
    intro i t' h
    rw [List.replicate_succ, List.flatten_cons] at h
    by_cases hi : i < a.length
    · rw [List.getElem?_append_left hi] at h
      exact ⟨0, i, by omega, by omega, h⟩
    · rw [List.getElem?_append_right (by omega)] at h
      obtain ⟨q, r, hq, hr, hg⟩ := ih _ _ h
      exact ⟨q + 1, r, by omega, by rw [Nat.succ_mul]; omega, hg⟩

/-- WHAT A READING SAYS OF THE CELLS: each one-cell part is read by itself. -/
theorem flat_trod (n : Nat) : ∀ (t : TypeId) (ts : List TypeId) (fuel : Nat) (cs : List Value) (x : DataW H × List MemPlace), flat P n t = some ts →
    DataW.trod enc P w base spare held fuel t cs = some x →
      ∀ (i : Nat) (t' : TypeId), ts[i]? = some t' → ∃ (v : Value) (m : Nat) (y : DataW H × List MemPlace), cs[i]? = some v ∧ DataW.trod enc P w base spare held m t' [v] = some y := by
  induction n with
  | zero => intro t ts fuel cs x h; simp [flat] at h
  | succ n ih =>
    intro t ts fuel cs x hf h
    unfold flat at hf
    cases hu : P.underlying t with
    | none => rw [hu] at hf; simp at hf
    | some d =>
      rw [hu] at hf
      have leaf : (∀ fs, d ≠ .struct fs) → (∀ k e, d ≠ .array k e) → ts = [t] →
          ∀ (i : Nat) (t' : TypeId), ts[i]? = some t' → ∃ (v : Value) (m : Nat) (y : DataW H × List MemPlace), cs[i]? = some v ∧ DataW.trod enc P w base spare held m t' [v] = some y := by
        intro hs ha hts
        obtain ⟨v, rfl⟩ := trod_one hu hs ha h
        subst hts
        intro i t' hi
        cases i with
        | zero =>
          simp at hi
          subst hi
          exact ⟨v, fuel, x, rfl, h⟩
        | succ i => simp at hi
      cases d with
      | struct fs =>
        simp only at hf
        obtain ⟨xs, m, _, _, hlen, _, hat⟩ := DataW.trod_struct hu h
        have key : ∀ (l : List Field) (k o : Nat) (ts' : List TypeId), (∀ j f, l[j]? = some f → fs[k + j]? = some f) → flatFields P (flat P n) l o = some ts' → k + l.length = fs.size →
            (∀ (i : Nat) (t' : TypeId), ts'[i]? = some t' → ∃ (v : Value) (m : Nat) (y : DataW H × List MemPlace), cs[o + i]? = some v ∧ DataW.trod enc P w base spare held m t' [v] = some y) := by
          intro l
          induction l with
          | nil => intro k o ts' _ hl _ i t' hi; simp [flatFields] at hl; subst hl; simp at hi
          | cons f r ihl =>
            intro k o ts' hg hl hk i t' hi
            simp only [flatFields, Option.bind_eq_some_iff] at hl
            obtain ⟨a, ha, hl⟩ := hl
            split at hl
            · rename_i hc
              obtain ⟨ho, hsz⟩ := hc
              simp only [Option.map_eq_some_iff] at hl
              obtain ⟨b, hb, rfl⟩ := hl
              have hfk : fs[k]? = some f := by have := hg 0 f rfl; simpa using this
              have hk' : k < xs.length := by
                have := hat k f hfk
                obtain ⟨hlt, _⟩ := Array.getElem?_eq_some_iff.1 hfk
                omega
              have hx := hat k f hfk
              rw [List.getElem?_eq_getElem hk', hsz, ho] at hx
              have hcg := ih _ _ _ _ _ ha hx
              by_cases hia : i < a.length
              · rw [List.getElem?_append_left hia] at hi
                obtain ⟨v, m', y, hv, hy⟩ := hcg i t' hi
                refine ⟨v, m', y, ?_, hy⟩
                rw [List.getElem?_take_of_lt hia, List.getElem?_drop] at hv
                exact hv
              · rw [List.getElem?_append_right (by omega)] at hi
                obtain ⟨v, m', y, hv, hy⟩ := ihl (k + 1) (o + a.length) b (fun j f' hj => by have := hg (j + 1) f' (by simpa using hj); rw [← this]; congr 1; omega) hb (by simp at hk; omega) _ _ hi
                exact ⟨v, m', y, by rw [← hv]; congr 1; omega, hy⟩
            · cases hl
        intro i t' hi
        have := key fs.toList 0 0 ts (fun j f hj => by simpa using hj) hf (by simp) i t' hi
        simpa using this
      | array k e =>
        simp only [Option.bind_eq_some_iff] at hf
        obtain ⟨a, ha, hf⟩ := hf
        split at hf
        · rename_i hsz
          simp only [Option.some.injEq] at hf
          subst hf
          obtain ⟨xs, m, _, _, hlen, hxl, hat⟩ := DataW.trod_array hu h
          intro i t' hi
          obtain ⟨q, r, hq, rfl, hr⟩ := flat_get a k i t' hi
          have hx := hat q hq
          rw [List.getElem?_eq_getElem (by omega), hsz] at hx
          have hcg := ih _ _ _ _ _ ha hx
          obtain ⟨v, m', y, hv, hy⟩ := hcg r t' hr
          refine ⟨v, m', y, ?_, hy⟩
          have hrl : r < a.length := (List.getElem?_eq_some_iff.1 hr).1
          rw [List.getElem?_take_of_lt hrl, List.getElem?_drop] at hv
          exact hv
        · cases hf
      | _ => exact leaf (by intro fs h; cases h) (by intro k e h; cases h) (by simpa using hf.symm)

theorem leaf_int {t : TypeId} {k : IntKind} {m : Nat} {c : Value} {y : DataW H × List MemPlace} (ht : P.underlying t = some (.int k)) (h : DataW.trod enc P w base spare held m t [c] = some y) : ∃ n, c = .int k n ∧ (Lit.int k n).wf = true := by
  obtain ⟨n, hn, _, hw⟩ := DataW.trod_int ht h
  exact ⟨n, by simpa using hn, hw⟩
theorem leaf_bool {t : TypeId} {m : Nat} {c : Value} {y : DataW H × List MemPlace} (ht : P.underlying t = some .bool) (h : DataW.trod enc P w base spare held m t [c] = some y) : ∃ b, c = .bool b := by
  obtain ⟨n, hn, _⟩ := DataW.trod_bool ht h
  exact ⟨n, by simpa using hn⟩

/-- A struct, or an array, by value. -/
theorem open_flat {r : Reach} {b0 : Nat} {t : TypeId} {d0 : TypeDesc} {n : Nat} {ts : List TypeId} {v : Value} {d : DataW H} {p : List MemPlace} (hu : P.underlying t = some d0) (hd : (match d0 with | .struct _ | .array _ _ => true | _ => false) = true)
    (hf : flat P n t = some ts) (hC : P.cellsOf t = ts.length) (hv : Value.okWide P w r b0 t v) (h : DataW.Trod enc P w base spare held t v d p) :
    ∃ cs : Array Value, v = .agg cs ∧ cs.size = ts.length ∧ ∀ (i : Nat) (t' : TypeId), ts[i]? = some t' → ∃ (c : Value) (m : Nat) (y : DataW H × List MemPlace), cs[i]? = some c ∧ DataW.trod enc P w base spare held m t' [c] = some y := by
  obtain ⟨fuel, hx⟩ := h
  have key : ∃ cs, v = .agg cs ∧ cs.size = P.cellsOf t := by
    cases d0 with
    | struct fs => exact okWide_struct hu hv
    | array k e =>
      simp only [Value.okWide, hu] at hv
      cases v <;> simp_all
    | _ => simp at hd
  obtain ⟨cs, rfl, hs⟩ := key
  refine ⟨cs, rfl, hs.trans hC, fun i t' hi => ?_⟩
  obtain ⟨c, m, y, hc, hy⟩ := flat_trod n t ts fuel _ _ hf hx i t' hi
  exact ⟨c, m, y, by simpa [Value.cells] using hc, hy⟩

/-- A slice: nil, or each element's one-cell parts lie where they must. -/
theorem open_rows {t e : TypeId} {n : Nat} {ts : List TypeId} {a : Option Addr} {len cap : Nat} {d : DataW H} {p : List MemPlace} (ht : P.underlying t = some (.slice e)) (hf : flat P n e = some ts) (hC : P.cellsOf e = ts.length)
    (h : DataW.Trod enc P w base spare held t (.slice a len cap) d p) :
    (a = none ∧ len = 0 ∧ cap = 0) ∨ ∃ x, a = some x ∧ len ≤ cap ∧ cap ≤ maxLen ∧ ∀ i, i < len → ∀ (j : Nat) (t' : TypeId), ts[j]? = some t' →
      ∃ (c : Value) (m : Nat) (y : DataW H × List MemPlace), w.cell? (x.add (i * ts.length + j)) = some c ∧ DataW.trod enc P w base spare held m t' [c] = some y := by
  obtain ⟨fuel, hx⟩ := h
  rcases open_slice ht hx with ⟨hcs, _⟩ | ⟨x, l, c, m, k, D, Pl, hcs, _, hl, hm, hmm, _, hi⟩
  · simp [Value.cells] at hcs
    obtain ⟨rfl, rfl, rfl⟩ := hcs
    exact .inl ⟨rfl, rfl, rfl⟩
  · simp [Value.cells] at hcs
    obtain ⟨rfl, rfl, rfl⟩ := hcs
    refine .inr ⟨x, rfl, hl, hm, fun i hil j t' hj => ?_⟩
    obtain ⟨cs', hc, htr⟩ := hi i (by split at hmm <;> omega)
    obtain ⟨v, m', y, hv, hy⟩ := flat_trod n e ts k _ _ hf htr j t' hj
    rw [hC] at hc
    obtain ⟨_, hlen, hat⟩ := World.cells?_some hc
    have hjl : j < ts.length := (List.getElem?_eq_some_iff.1 hj).1
    have := hat j hjl
    rw [← Go.Deep.add_add, this]
    exact ⟨v, m', y, hv, hy⟩
end
end Go.Proofs.YtggnkkmlabhofaaDoor
