/- The document's answer: bits of an address, what meets, where a span lies, one more. (printed by gen/rf3.py) -/
import Derived.Test.YtggnkkmlabhofaaDoorRf1
import Derived.BigQuiet
namespace Go.Proofs.YtggnkkmlabhofaaDoor
set_option linter.unusedVariables false
set_option linter.unusedSimpArgs false
open Go.RowKit Go.Sort Go.Shelf Go.Lib
attribute [local go_sem ↓] Go.wp_at_zero Go.wp_at_succ

theorem RdN.cells {w : World} {R : Nat → Prop} {a : Option Addr} {m cap : Nat} {l : List Sp} (h : Rd EN w R (.slice a m cap) l) {i : Nat} (hi : i < l.length) : ∃ b off, a = some ⟨b, off, none⟩ ∧ b < w.heap.size ∧ R b ∧ ∀ k x, l[k]? = some x → ∀ j u, (EN.enc x)[j]? = some u → w.cell? ⟨b, off + k * 3 + j, none⟩ = some u := by
  obtain ⟨a', cap', e, _, _, hr⟩ := h
  cases e
  exact hr (by omega)
/-- Which bits spans tell, the first one that has the address. -/
def bitsL : List Sp → Int → Int
  | [], _ => 0
  | y :: r, x => if y.f ≤ x ∧ x ≤ y.t then y.b else bitsL r x
end Go.Proofs.YtggnkkmlabhofaaDoor
