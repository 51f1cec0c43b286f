/- The document's answer: what is wrong with a policy. (printed by gen/rf5.py) -/
import Derived.Test.YtggnkkmlabhofaaRf4
namespace Go.Proofs.Ytggnkkmlabhofaa
set_option linter.unusedVariables false
set_option linter.unusedSimpArgs false
open Go.RowKit Go.Sort Go.Shelf Go.Lib
attribute [local go_sem ↓] Go.wp_at_zero Go.wp_at_succ

theorem RdN.take {w : World} {R : Nat → Prop} {a : Option Addr} {m cap : Nat} {l : List Sp} (h : Rd EN w R (.slice a m cap) l) {i : Nat} (hi : i ≤ l.length) : Rd EN w R (.slice a i cap) (l.take i) := by
  obtain ⟨a', cap', e, hc, hn, hr⟩ := h
  cases e
  refine ⟨a, cap, by rw [List.length_take, Nat.min_eq_left hi], by rw [List.length_take]; omega, fun e => by have := hn e; omega, fun hl => ?_⟩
  rw [List.length_take] at hl
  obtain ⟨b, off, ha, hb, hR, hcell⟩ := hr (by omega)
  exact ⟨b, off, ha, hb, hR, fun k x hx j u hu => hcell k x (by
    have hk : k < (l.take i).length := (List.getElem?_eq_some_iff.1 hx).1
    rw [List.length_take] at hk
    rwa [List.getElem?_take_of_lt (by omega)] at hx) j u hu⟩
/-- What stays while the document's answer looks. -/
structure RK (w : World) (hp : Nat) (sv mv : Value) (dc tr : Int) (V : World) : Prop where
  bel : Below w.heap.size w V
  pb : Blk V hp 35 #[sv, mv, .int .i64 dc, .int .i64 tr]
theorem RK.call {w V V' : World} {hp : Nat} {sv mv : Value} {dc tr : Int} (h : RK w hp sv mv dc tr V) (hb : Below V.heap.size V V') : RK w hp sv mv dc tr V' := ⟨Q.call h.bel hb, h.pb.call hb⟩
/-- How far it has come. -/
def At (s m : List Sp) (i : Nat) : Prop := (i < s.length ∧ chkL [] true [] s = chkL [] true (s.take i) (s.drop i) ∧ i ≤ 64) ∨ (s.length ≤ i ∧ chkL [] true [] s = 0 ∧ chkL s false [] m = chkL s false (m.take (i - s.length)) (m.drop (i - s.length)) ∧ i ≤ 64)
theorem At.zero (s m : List Sp) : At s m 0 := by
  by_cases h : 0 < s.length
  · exact .inl ⟨h, by rw [List.take_zero, List.drop_zero], by omega⟩
  · have : s = [] := by cases s with
      | nil => rfl
      | cons a l => simp at h
    subst this
    exact .inr ⟨Nat.zero_le _, rfl, by simp, by omega⟩
theorem chkL_cons (other own r : List Sp) (rom : Bool) (y : Sp) : chkL other rom own (y :: r) = if liesB y rom = false ∨ y.b = 0 then 10 else if addE own other y = 0 then chkL other rom (own ++ [y]) r else addE own other y := rfl
theorem take_snoc {l : List Sp} {i : Nat} {y : Sp} (h : l[i]? = some y) : l.take (i + 1) = l.take i ++ [y] := by rw [List.take_add_one, h]; rfl
theorem drop_cons {l : List Sp} {i : Nat} {y : Sp} (h : l[i]? = some y) : l.drop i = y :: l.drop (i + 1) := by
  have hlt := (List.getElem?_eq_some_iff.1 h).1
  rw [List.drop_eq_getElem_cons hlt]
  rw [List.getElem?_eq_getElem hlt] at h
  rw [Option.some.inj h]
theorem addE_len {l1 l2 : List Sp} {x : Sp} (h : l1.length + l2.length ≤ 64) (h0 : addE l1 l2 x = 0) : l1.length + l2.length + 1 ≤ 64 := by
  have : l1.length + l2.length ≠ 64 := by
    intro e
    unfold addE at h0
    rw [if_pos e] at h0
    cases h0
  omega
/-- One span of the first row is well. -/
theorem At.next1 {s m : List Sp} {i : Nat} {y : Sp} (h : At s m i) (hi : s[i]? = some y) (hl : liesB y true = true) (hb : y.b ≠ 0) (ha : addE (s.take i) [] y = 0) : At s m (i + 1) := by
  have hlt := (List.getElem?_eq_some_iff.1 hi).1
  rcases h with ⟨h1, h2, h3⟩ | ⟨h1, _⟩
  · have hlen : (s.take i).length = i := by rw [List.length_take]; omega
    have h4 := addE_len (l2 := []) (by rw [hlen]; simpa using h3) ha
    rw [hlen] at h4
    simp only [List.length_nil] at h4
    have h5 : chkL [] true [] s = chkL [] true (s.take (i + 1)) (s.drop (i + 1)) := by
      rw [h2, drop_cons hi, chkL_cons, if_neg (by rw [hl]; simp [hb]), if_pos ha, take_snoc hi]
    by_cases he : i + 1 < s.length
    · exact .inl ⟨he, h5, by omega⟩
    · have he' : i + 1 = s.length := by omega
      refine .inr ⟨by omega, ?_, by rw [he', Nat.sub_self, List.take_zero, List.drop_zero], by omega⟩
      rw [h5, List.drop_eq_nil_of_le (by omega)]; rfl
  · omega
theorem At.bad1 {s m : List Sp} {i : Nat} {y : Sp} {d t : Int} (h : At s m i) (hi : s[i]? = some y) (c : Int) (hc : c ≠ 0) (he : (if liesB y true = false ∨ y.b = 0 then 10 else addE (s.take i) [] y) = c) : chk s m d t = c := by
  have hlt := (List.getElem?_eq_some_iff.1 hi).1
  rcases h with ⟨h1, h2, h3⟩ | ⟨h1, _⟩
  · have h5 : chkL [] true [] s = c := by
      rw [h2, drop_cons hi, chkL_cons]
      split at he
      · rename_i h; rw [if_pos h]; exact he
      · rename_i h; rw [if_neg h, if_neg (by rw [he]; exact hc)]; exact he
    unfold chk
    rw [if_neg (by rw [h5]; exact hc), h5]
  · omega
theorem At.next2 {s m : List Sp} {j : Nat} {y : Sp} (h : At s m (s.length + j)) (hi : m[j]? = some y) (hl : liesB y false = true) (hb : y.b ≠ 0) (ha : addE (m.take j) s y = 0) : At s m (s.length + j + 1) := by
  have hlt := (List.getElem?_eq_some_iff.1 hi).1
  rcases h with ⟨h1, _⟩ | ⟨h1, h2, h3, h4⟩
  · omega
  · rw [Nat.add_sub_cancel_left] at h3
    have hlen : (m.take j).length = j := by rw [List.length_take]; omega
    have h6 := addE_len (by rw [hlen]; omega) ha
    rw [hlen] at h6
    refine .inr ⟨by omega, h2, ?_, by omega⟩
    rw [show s.length + j + 1 - s.length = j + 1 by omega, h3, drop_cons hi, chkL_cons, if_neg (by rw [hl]; simp [hb]), if_pos ha, take_snoc hi]
theorem At.bad2 {s m : List Sp} {j : Nat} {y : Sp} {d t : Int} (h : At s m (s.length + j)) (hi : m[j]? = some y) (c : Int) (hc : c ≠ 0) (he : (if liesB y false = false ∨ y.b = 0 then 10 else addE (m.take j) s y) = c) : chk s m d t = c := by
  rcases h with ⟨h1, _⟩ | ⟨h1, h2, h3, h4⟩
  · omega
  · rw [Nat.add_sub_cancel_left] at h3
    have h5 : chkL s false [] m = c := by
      rw [h3, drop_cons hi, chkL_cons]
      split at he
      · rename_i h; rw [if_pos h]; exact he
      · rename_i h; rw [if_neg h, if_neg (by rw [he]; exact hc)]; exact he
    unfold chk
    rw [if_pos h2, if_neg (by rw [h5]; exact hc), h5]
theorem At.done {s m : List Sp} {d t : Int} (h : At s m (s.length + m.length)) : chk s m d t = chkN d t := by
  have h2 : chkL [] true [] s = 0 ∧ chkL s false [] m = 0 := by
    rcases h with ⟨h1, _⟩ | ⟨h1, h2, h3, h4⟩
    · omega
    · rw [Nat.add_sub_cancel_left, List.drop_length] at h3
      exact ⟨h2, by rw [h3]; rfl⟩
  unfold chk
  rw [if_pos h2.1, if_pos h2.2]
theorem At.len {s m : List Sp} {i : Nat} (h : At s m i) : i ≤ 64 := by
  rcases h with ⟨_, _, h⟩ | ⟨_, _, _, h⟩ <;> exact h
end Go.Proofs.Ytggnkkmlabhofaa
