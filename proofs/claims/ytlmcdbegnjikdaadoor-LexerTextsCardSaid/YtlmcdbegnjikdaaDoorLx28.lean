/- The lexer: the text of tokens: Join. (printed by gen/lx28.py) -/
import Derived.Test.YtlmcdbegnjikdaaDoorLx27
import Derived.Test.YtlmcdbegnjikdaaDoorLxB
namespace Go.Proofs.YtlmcdbegnjikdaaDoor
set_option linter.unusedVariables false
set_option linter.unusedSimpArgs false
open Go.RowKit
attribute [local go_sem ↓] Go.wp_at_zero Go.wp_at_succ

/-- What stands between two tokens. -/
def sep (pre : Option Int) (k : Int) : By := match pre with | none => [] | some p => if k ≠ 4 ∧ p ≠ 4 then [32] else []
/-- The text of tokens, from a text on; or what is wrong. -/
def jn : Option Int → By → List Tok → By × Int
  | _, acc, [] => (acc, 0)
  | pre, acc, t :: r => if (txt t).2 ≠ 0 then ([], (txt t).2) else jn (some t.kind) (acc ++ (sep pre t.kind ++ (txt t).1)) r
def preOf (l : List Tok) : Nat → Option Int
  | 0 => none
  | i + 1 => l[i]?.map (·.kind)
abbrev IsB (B b : Nat) (l : By) (w : World) : Prop := Lib.IsBuilderF 64 5 B b (Lib.byteCells l) w
theorem builder_call {B b : Nat} {l : By} {w w' : World} (h : IsB B b l w) (hb : Below w.heap.size w w') : IsB B b l w' := by
  have key : ∀ p, Lib.BuilderAtF 64 5 B b p (Lib.byteCells l) w → Lib.BuilderAtF 64 5 B b p (Lib.byteCells l) w' := by
    rintro p ⟨hB, v, hbk, hown, hne⟩
    have lt : ∀ {g : Nat} {o : Obj}, w.heap[g]? = some o → g < w.heap.size := fun h => (Array.getElem?_eq_some_iff.1 h).1
    refine ⟨hB, v, (hb.block b (lt hbk)).trans hbk, ⟨hown.1, ?_⟩, hne⟩
    rcases hown.2 with hn | ⟨g, cap, cur, fz, hv, hbg, hg, rest⟩
    · exact .inl hn
    · exact .inr ⟨g, cap, cur, fz, hv, hbg, (hb.block g (lt hg)).trans hg, rest⟩
  exact h.elim (fun x => .inl (key _ x)) (fun x => .inr (key _ x))
theorem builder_lt {B b : Nat} {l : By} {w : World} (h : IsB B b l w) : b < w.heap.size := by
  rcases h with ⟨_, v, hbk, _⟩ | ⟨_, v, hbk, _⟩ <;> exact (Array.getElem?_eq_some_iff.1 hbk).1
theorem wbyte_eq (B b : Nat) (l : By) (c : UInt8) (cv : Int) (hc : cv = c.toNat) (w : World) (h : IsB B b l w) (hl : l.length ≤ 1000000) (hB : B ≤ w.heap.size) :
    Calls Tryd.prog 24 #[.pointer (some ⟨b, 0, none⟩), .int .u8 cv] w fun e w' => e = .returned .nilIface ∧ IsB B b (l ++ [c]) w' ∧ Below B w w' ∧ w.heap.size ≤ w'.heap.size := by
  subst hc
  have hx := Any.Builder_WriteByte_k blays167 bextra B b (Lib.byteCells l) c.toNat w h (by rw [Lib.byteCells_length]; omega) hB
  refine Calls.mono hx ?_
  rintro e w' ⟨rfl, h1, h2, h3⟩
  exact ⟨rfl, .inr (by rw [Lib.byteCells_append]; exact h1), h2, h2.size⟩
theorem wstring_eq (B b : Nat) (l s : By) (w : World) (h : IsB B b l w) (hl : l.length ≤ 1000000) (hs : s.length ≤ 1000000) (hB : B ≤ w.heap.size) :
    Calls Tryd.prog 25 #[.pointer (some ⟨b, 0, none⟩), .string (str s)] w fun e w' => e = .returned (.tuple #[.int .i64 ((str s).size : Int), .nilIface]) ∧ IsB B b (l ++ s) w' ∧ Below B w w' ∧ w.heap.size ≤ w'.heap.size := by
  have hx := Any.Builder_WriteString_k blays166 bextra B b (Lib.byteCells l) (str s) w h (by rw [Lib.byteCells_length, str_size]; omega) hB
  refine Calls.mono hx ?_
  rintro e w' ⟨rfl, h1, h2, h3⟩
  exact ⟨rfl, .inr (by rw [Lib.byteCells_append]; exact h1), h2, h2.size⟩
theorem bstring_eq (B b : Nat) (l : By) (w : World) (h : IsB B b l w) (hB : B ≤ w.heap.size) :
    Calls Tryd.prog 26 #[.pointer (some ⟨b, 0, none⟩)] w fun e w' => e = .returned (.string (str l)) ∧ Below B w w' := by
  have hx := Any.Builder_String_any_k blays169 bextra B b l w h hB
  refine Calls.mono hx ?_
  rintro e w' ⟨rfl, h1, h2, h3⟩
  exact ⟨rfl, h2⟩
/-- A read row's token. -/
theorem rd_tok {w : World} {v : Value} {l : List Tok} (h : Rd ET w (fun _ => True) v l) (hn : 0 < l.length) :
    ∃ b off cap, v = .slice (some ⟨b, off, none⟩) l.length cap ∧ l.length ≤ cap ∧ b < w.heap.size ∧ ∀ k t, l[k]? = some t →
      w.cell? ⟨b, off + k * 5, none⟩ = some (.int .i64 t.kind) ∧ w.cell? ⟨b, off + k * 5 + 1, none⟩ = some (.string (str t.text)) ∧ w.cell? ⟨b, off + k * 5 + 2, none⟩ = some (.int .i64 t.n) ∧ w.cell? ⟨b, off + k * 5 + 3, none⟩ = some (.int .i64 t.line) ∧ w.cell? ⟨b, off + k * 5 + 4, none⟩ = some (.int .i64 t.col) := by
  obtain ⟨a, cap, rfl, hc, hnn, hr⟩ := h
  obtain ⟨b, off, rfl, hb, -, hcell⟩ := hr hn
  refine ⟨b, off, cap, rfl, hc, hb, fun k t ht => ⟨?_, ?_, ?_, ?_, ?_⟩⟩
  · exact hcell k t ht 0 _ rfl
  · exact hcell k t ht 1 _ rfl
  · exact hcell k t ht 2 _ rfl
  · exact hcell k t ht 3 _ rfl
  · exact hcell k t ht 4 _ rfl
end Go.Proofs.YtlmcdbegnjikdaaDoor
