/- The document's order is the sorted one (no function of the program). -/
import Derived.Test.YtggnkkmlabhofaaRf5
import Derived.Test.YtggnkkmlabhofaaLt1
namespace Go.Proofs.Ytggnkkmlabhofaa
set_option linter.unusedVariables false
set_option linter.unusedSimpArgs false
open Go.RowKit Go.Sort

theorem sins_cut (y : Sp) : ∀ (o : List Sp) (n : Nat), n ≤ o.length → (∀ k z, k < n → o[k]? = some z → z.f ≤ y.f) → (∀ z, o[n]? = some z → y.f < z.f) → sins y o = o.take n ++ y :: o.drop n
  | [], n, hn, _, _ => by
    have : n = 0 := by simpa using hn
    subst this; rfl
  | a :: r, 0, _, _, h => by
    have := h a rfl
    unfold sins
    rw [if_neg (by omega)]; rfl
  | a :: r, n + 1, hn, h1, h2 => by
    have ha := h1 0 a (by omega) rfl
    unfold sins
    rw [if_pos ha, sins_cut y r n (by simpa using hn) (fun k z hk hz => h1 (k + 1) z (by omega) hz) (fun z hz => h2 z hz)]; rfl
theorem srt_take {l : List Sp} {i : Nat} {y : Sp} (h : l[i]? = some y) : srt (l.take (i + 1)) = sins y (srt (l.take i)) := by
  rw [take_snoc h]
  unfold srt
  rw [List.foldl_append]; rfl
theorem RdN.drop {w : World} {R : Nat → Prop} {b off m cap : Nat} {l : List Sp} (h : Rd EN w R (.slice (some ⟨b, off, none⟩) m cap) l) {n : Nat} (hn : n ≤ l.length) (c' : Nat) (hc' : l.length - n ≤ c') : Rd EN w R (.slice (some ⟨b, off + n * 3, none⟩) (l.length - n) c') (l.drop n) := by
  obtain ⟨a', cap', e, hc, hnn, hr⟩ := h
  cases e
  refine ⟨_, c', by rw [List.length_drop], by rw [List.length_drop]; exact hc', (fun e => by cases e), fun hl => ?_⟩
  rw [List.length_drop] at hl
  obtain ⟨b', off', ha, hb, hR, hcell⟩ := hr (by omega)
  cases ha
  refine ⟨b, off + n * 3, rfl, hb, hR, fun k x hx j u hu => ?_⟩
  rw [List.getElem?_drop] at hx
  have := hcell (n + k) x hx j u hu
  rw [show off + n * 3 + k * 3 + j = off + (n + k) * 3 + j by omega]
  exact this
end Go.Proofs.Ytggnkkmlabhofaa
