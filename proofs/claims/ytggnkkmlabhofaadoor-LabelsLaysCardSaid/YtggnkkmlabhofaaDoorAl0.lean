/- The law LabelsAll: its plain part. (printed by gen/al0.py) -/
import Derived.Test.YtggnkkmlabhofaaDoorLt1
import Derived.Test.YtggnkkmlabhofaaDoorTb1
namespace Go.Proofs.YtggnkkmlabhofaaDoor
set_option linter.unusedVariables false
set_option linter.unusedSimpArgs false
open Go.RowKit Go.Sort

def spG (L : List Sp) (i : Nat) : Sp := (L[i]?).getD ⟨0, 0, 0⟩
theorem spG_of {L : List Sp} {i : Nat} {x : Sp} (h : L[i]? = some x) : spG L i = x := by unfold spG; rw [h]; rfl
/-- One address further: which span, which address comes next. -/
def stp (L : List Sp) (q : Nat × Int) : Nat × Int :=
  if (spG L q.1).t < q.2 + 1 then (q.1 + 1, if q.1 + 1 < L.length then (spG L (q.1 + 1)).f else q.2 + 1) else (q.1, q.2 + 1)
def stt (L : List Sp) : Nat → Nat × Int
  | 0 => (0, if 0 < L.length then (spG L 0).f else 0)
  | n + 1 => stp L (stt L n)
def GoodL (L : List Sp) (pre : List (Nat × Int)) (x : Nat × Int) : Prop :=
  (stt L pre.length).1 < L.length ∧ (x.1 : Int) = (stt L pre.length).2 ∧ x.2 = (spG L (stt L pre.length).1).b
/-- Spans that rise and lie apart, and a row of bits that they tell. -/
structure Told (L : List Sp) (a : Nat → Int) : Prop where
  apart : ∀ (i j : Nat) (x y : Sp), i < j → L[i]? = some x → L[j]? = some y → x.t < y.f
  bnd : ∀ x ∈ L, 0 ≤ x.f ∧ x.f ≤ x.t ∧ x.t < 65536
  tell : ∀ (k : Nat) (x : Sp), x ∈ L → x.f ≤ (k : Int) → (k : Int) ≤ x.t → a k = x.b ∧ a k ≠ 0
  only : ∀ k : Nat, k < 65536 → a k ≠ 0 → ∃ x ∈ L, x.f ≤ (k : Int) ∧ (k : Int) ≤ x.t
structure Inv (L : List Sp) (a : Nat → Int) (k : Nat) : Prop where
  le : (stt L (tabs a k).length).1 ≤ L.length
  past : ∀ (j : Nat) (x : Sp), j < (stt L (tabs a k).length).1 → L[j]? = some x → x.t < (k : Int)
  now : ∀ x, L[(stt L (tabs a k).length).1]? = some x → (k : Int) ≤ x.t ∧ (stt L (tabs a k).length).2 = max x.f (k : Int)
theorem inv_zero {L : List Sp} {a : Nat → Int} (h : Told L a) : Inv L a 0 := by
  refine ⟨Nat.zero_le _, fun j x hj _ => absurd hj (Nat.not_lt_zero j), fun x hx => ?_⟩
  have hx : L[0]? = some x := hx
  have hl := (List.getElem?_eq_some_iff.1 hx).1
  have hb := h.bnd x (List.mem_of_getElem? hx)
  have e : (stt L (tabs a 0).length).2 = x.f := by
    show (if 0 < L.length then (spG L 0).f else 0) = x.f
    rw [if_pos hl, spG_of hx]
  rw [e]
  omega
theorem inv_good {L : List Sp} {a : Nat → Int} (h : Told L a) {k : Nat} (hk : k < 65536) (hi : Inv L a k) (ha : a k ≠ 0) : ∃ x, L[(stt L (tabs a k).length).1]? = some x ∧ x.f ≤ (k : Int) ∧ (k : Int) ≤ x.t ∧ a k = x.b := by
  obtain ⟨x, hx, h1, h2⟩ := h.only k hk ha
  obtain ⟨j, hj⟩ := List.getElem?_of_mem hx
  have hjl := (List.getElem?_eq_some_iff.1 hj).1
  have hij : (stt L (tabs a k).length).1 = j := by
    rcases Nat.lt_trichotomy (stt L (tabs a k).length).1 j with c | c | c
    · obtain ⟨y, hy⟩ : ∃ y, L[(stt L (tabs a k).length).1]? = some y := ⟨_, List.getElem?_eq_getElem (by omega)⟩
      have h3 := h.apart _ _ y x c hy hj
      have h4 := (hi.now y hy).1
      omega
    · exact c
    · have := hi.past j x c hj
      omega
  exact ⟨x, by rw [hij]; exact hj, h1, h2, (h.tell k x hx h1 h2).1⟩
theorem inv_step {L : List Sp} {a : Nat → Int} (h : Told L a) {k : Nat} (hk : k < 65536) (hi : Inv L a k) : Inv L a (k + 1) := by
  by_cases ha : a k = 0
  · have e : tabs a (k + 1) = tabs a k := by rw [tabs, if_pos ha, List.append_nil]
    refine ⟨by rw [e]; exact hi.le, fun j x hj hx => ?_, fun x hx => ?_⟩
    · rw [e] at hj
      have := hi.past j x hj hx
      omega
    · rw [e] at hx ⊢
      obtain ⟨h1, h2⟩ := hi.now x hx
      have hm := List.mem_of_getElem? hx
      have hlt : (k : Int) < x.f := by
        rcases Int.lt_or_le (k : Int) x.f with c | c
        · exact c
        · exact absurd ha (h.tell k x hm c h1).2
      have hb := h.bnd x hm
      rw [h2]
      omega
  · obtain ⟨x, hx, h1, h2, _⟩ := inv_good h hk hi ha
    have e : (tabs a (k + 1)).length = (tabs a k).length + 1 := by rw [tabs, if_neg ha, List.length_append]; rfl
    have h3 := (hi.now x hx).2
    have hnx : (stt L (tabs a k).length).2 = (k : Int) := by rw [h3]; omega
    have hl := (List.getElem?_eq_some_iff.1 hx).1
    have hs : stt L (tabs a (k + 1)).length = stp L (stt L (tabs a k).length) := by rw [e]; rfl
    have hg := spG_of hx
    by_cases hend : x.t < (k : Int) + 1
    · have hq : stp L (stt L (tabs a k).length) = ((stt L (tabs a k).length).1 + 1, if (stt L (tabs a k).length).1 + 1 < L.length then (spG L ((stt L (tabs a k).length).1 + 1)).f else (stt L (tabs a k).length).2 + 1) := by
        unfold stp
        rw [hg, hnx, if_pos hend]
      refine ⟨by rw [hs, hq]; exact hl, fun j y hj hy => ?_, fun y hy => ?_⟩
      · rw [hs, hq] at hj
        have hj : j < (stt L (tabs a k).length).1 + 1 := hj
        by_cases hjq : j = (stt L (tabs a k).length).1
        · subst hjq
          rw [hx] at hy
          injection hy with hy
          subst hy
          omega
        · have := hi.past j y (by omega) hy
          omega
      · rw [hs, hq] at hy ⊢
        have hy : L[(stt L (tabs a k).length).1 + 1]? = some y := hy
        have hl2 := (List.getElem?_eq_some_iff.1 hy).1
        have hap := h.apart _ _ x y (Nat.lt_succ_self _) hx hy
        have hb := h.bnd y (List.mem_of_getElem? hy)
        simp only
        rw [if_pos hl2, spG_of hy]
        omega
    · have hq : stp L (stt L (tabs a k).length) = ((stt L (tabs a k).length).1, (stt L (tabs a k).length).2 + 1) := by
        unfold stp
        rw [hg, hnx, if_neg hend]
      refine ⟨by rw [hs, hq]; exact hi.le, fun j y hj hy => ?_, fun y hy => ?_⟩
      · rw [hs, hq] at hj
        have := hi.past j y hj hy
        omega
      · rw [hs, hq] at hy ⊢
        have hy : L[(stt L (tabs a k).length).1]? = some y := hy
        rw [hx] at hy
        injection hy with hy
        subst hy
        simp only
        rw [hnx]
        omega
theorem inv_all {L : List Sp} {a : Nat → Int} (h : Told L a) : ∀ k, k ≤ 65536 → Inv L a k
  | 0, _ => inv_zero h
  | k + 1, hk => inv_step h (by omega) (inv_all h k (by omega))
theorem all_good {L : List Sp} {a : Nat → Int} (h : Told L a) {k : Nat} (hk : k < 65536) (ha : a k ≠ 0) : GoodL L (tabs a k) (k, a k) := by
  have hi := inv_all h k (by omega)
  obtain ⟨x, hx, h1, h2, hb⟩ := inv_good h hk hi ha
  refine ⟨(List.getElem?_eq_some_iff.1 hx).1, ?_, ?_⟩
  · show (k : Int) = _
    rw [(hi.now x hx).2]
    omega
  · show a k = _
    rw [spG_of hx]
    exact hb
theorem all_end {L : List Sp} {a : Nat → Int} (h : Told L a) (N : Nat) (hN : N = 65536) : (stt L (tabs a N).length).1 = L.length := by
  subst hN
  have hi := inv_all h 65536 (Nat.le_refl _)
  rcases Nat.lt_or_ge (stt L (tabs a 65536).length).1 L.length with c | c
  · obtain ⟨x, hx⟩ : ∃ x, L[(stt L (tabs a 65536).length).1]? = some x := ⟨_, List.getElem?_eq_getElem c⟩
    have h1 := (hi.now x hx).1
    have h2 := (h.bnd x (List.mem_of_getElem? hx)).2.2
    omega
  · have := hi.le
    omega
theorem told_of {s m : List Sp} {d t : Int} (h : chk s m d t = 0) : Told (srt s) (fillT (srt s) (fun _ => 0)) := by
  obtain ⟨cs, cm, _⟩ := chk_lies h
  have hap : s.Pairwise Ap := chkL_apart _ _ s [] (by simp) cs
  have hpw : (srt s).Pairwise Ap := ((srt_perm s).pairwise_iff (fun h => Ap.symm h)).2 hap
  have hbn : ∀ y ∈ srt s, 0 ≤ y.f ∧ y.f ≤ y.t ∧ y.t < 65536 := fun y hy => lies_bnd (chkL_lies _ _ _ _ cs y ((srt_perm s).mem_iff.1 hy)).1
  have hnz : ∀ y ∈ srt s, y.b ≠ 0 := fun y hy => (chkL_lies _ _ _ _ cs y ((srt_perm s).mem_iff.1 hy)).2
  refine ⟨fun i j x y hij hx hy => ?_, hbn, fun k x hx h1 h2 => ?_, fun k hk ha => ?_⟩
  · obtain ⟨hi, rfl⟩ := List.getElem?_eq_some_iff.1 hx
    obtain ⟨hj, rfl⟩ := List.getElem?_eq_some_iff.1 hy
    have h1 := List.pairwise_iff_getElem.1 hpw i j hi hj hij
    have h2 := List.pairwise_iff_getElem.1 (srt_pw s) i j hi hj hij
    have b1 := hbn _ (List.getElem_mem hi)
    have b2 := hbn _ (List.getElem_mem hj)
    have h3 := of_decide_eq_false h1
    omega
  · have e := fill_in (srt s) (fun _ => 0) k x hpw hx ⟨h1, h2⟩
    exact ⟨e, by rw [e]; exact hnz x hx⟩
  · refine Classical.byContradiction fun hn => ha ?_
    exact fill_out (srt s) (fun _ => 0) k (fun z hz hh => hn ⟨z, hz, hh.1, hh.2⟩)
end Go.Proofs.YtggnkkmlabhofaaDoor
