/- Which bits an address has: the table's are the document's (no function of the program). -/
import Derived.Test.YtggnkkmlabhofaaDoorLa7
import Derived.Test.YtggnkkmlabhofaaDoorRf3
namespace Go.Proofs.YtggnkkmlabhofaaDoor
set_option linter.unusedVariables false
set_option linter.unusedSimpArgs false
open Go.RowKit Go.Sort

def Ap (x y : Sp) : Prop := meetB x y = false
abbrev Has (x : Sp) (a : Int) : Prop := x.f ≤ a ∧ a ≤ x.t
theorem Ap.symm {x y : Sp} (h : Ap x y) : Ap y x := by
  have h := of_decide_eq_false h
  exact decide_eq_false (fun k => h ⟨k.2, k.1⟩)
theorem Ap.not {x y : Sp} {a : Int} (h : Ap x y) (hx : Has x a) (hy : Has y a) : False := by
  have h := of_decide_eq_false h
  obtain ⟨h1, h2⟩ := hx
  obtain ⟨h3, h4⟩ := hy
  exact h ⟨by omega, by omega⟩
theorem chkL_apart (other : List Sp) (rom : Bool) : ∀ (r own : List Sp), own.Pairwise Ap → chkL other rom own r = 0 → (own ++ r).Pairwise Ap
  | [], own, h, _ => by simpa using h
  | x :: r, own, h, hc => by
    unfold chkL at hc
    split at hc
    · cases hc
    · split at hc
      · rename_i ha
        have hno : own.any (meetB x) = false := by
          unfold addE at ha
          split at ha
          · cases ha
          · split at ha
            · cases ha
            · rename_i h; simpa using h
        have hall : ∀ z ∈ own, Ap z x := fun z hz => Ap.symm (by
          have := List.any_eq_false.1 hno z hz
          simpa [Ap] using this)
        have h2 : (own ++ [x]).Pairwise Ap := by
          rw [List.pairwise_append]
          exact ⟨h, by simp, fun z hz b hb => by simp at hb; rw [hb]; exact hall z hz⟩
        have := chkL_apart other rom r (own ++ [x]) h2 hc
        simpa using this
      · rename_i ha
        exact absurd hc ha
theorem bits_out : ∀ (l : List Sp) (a : Int), (∀ z ∈ l, ¬ Has z a) → bitsL l a = 0
  | [], _, _ => rfl
  | y :: r, a, h => by
    unfold bitsL
    rw [if_neg (show ¬ (y.f ≤ a ∧ a ≤ y.t) from h y (by simp)), bits_out r a (fun z hz => h z (by simp [hz]))]
theorem bits_in : ∀ (l : List Sp) (a : Int) (z : Sp), l.Pairwise Ap → z ∈ l → Has z a → bitsL l a = z.b
  | [], _, _, _, h, _ => by simp at h
  | y :: r, a, z, hp, hz, ha => by
    rw [List.pairwise_cons] at hp
    unfold bitsL
    rcases List.mem_cons.1 hz with rfl | hz
    · rw [if_pos (show z.f ≤ a ∧ a ≤ z.t from ha)]
    · rw [if_neg (show ¬ (y.f ≤ a ∧ a ≤ y.t) from fun hy => Ap.not (hp.1 z hz) hy ha), bits_in r a z hp.2 hz ha]
theorem fill_out : ∀ (l : List Sp) (f : Nat → Int) (k : Nat), (∀ z ∈ l, ¬ Has z k) → fillT l f k = f k
  | [], _, _, _ => rfl
  | y :: r, f, k, h => by
    show fillT r (pt y f) k = f k
    rw [fill_out r (pt y f) k (fun z hz => h z (by simp [hz]))]
    exact if_neg (h y (by simp))
theorem fill_in : ∀ (l : List Sp) (f : Nat → Int) (k : Nat) (z : Sp), l.Pairwise Ap → z ∈ l → Has z k → fillT l f k = z.b
  | [], _, _, _, _, h, _ => by simp at h
  | y :: r, f, k, z, hp, hz, ha => by
    rw [List.pairwise_cons] at hp
    show fillT r (pt y f) k = z.b
    rcases List.mem_cons.1 hz with rfl | hz
    · rw [fill_out r (pt z f) k (fun x hx hk => Ap.not (hp.1 x hx) ha hk)]
      exact if_pos ha
    · exact fill_in r _ k z hp.2 hz ha
theorem tell_eq (s : List Sp) (x : Int) (hp : s.Pairwise Ap) (hb : ∀ y ∈ s, 0 ≤ y.f ∧ y.f ≤ y.t ∧ y.t < 65536) : bitsAt (fillT (srt s) (fun _ => 0)) x = bitsL s x := by
  have hq : (srt s).Pairwise Ap := ((srt_perm s).pairwise_iff (fun h => Ap.symm h)).2 hp
  unfold bitsAt
  by_cases hx : 0 ≤ x ∧ x < 65536
  · rw [if_pos hx]
    have hxn : ((x.toNat : Nat) : Int) = x := by omega
    by_cases he : ∃ z, z ∈ s ∧ Has z x
    · obtain ⟨z, hz, ha⟩ := he
      rw [bits_in s x z hp hz ha]
      exact fill_in _ _ _ z hq ((srt_perm s).mem_iff.2 hz) (by rw [hxn]; exact ha)
    · rw [bits_out s x (fun z hz ha => he ⟨z, hz, ha⟩), fill_out _ _ _ (fun z hz ha => he ⟨z, (srt_perm s).mem_iff.1 hz, by rw [hxn] at ha; exact ha⟩)]
  · rw [if_neg hx, bits_out s x (fun z hz ha => hx (by obtain ⟨h1, h2, h3⟩ := hb z hz; obtain ⟨h4, h5⟩ := ha; omega))]
theorem chk_tell {s m : List Sp} {d t : Int} (h : chk s m d t = 0) (x : Int) : bitsAt (fillT (srt s) (fun _ => 0)) x = bitsL s x ∧ bitsAt (fillT (srt m) (fun _ => 0)) x = bitsL m x := by
  obtain ⟨cs, cm, _⟩ := chk_lies h
  exact ⟨tell_eq s x (chkL_apart _ _ s [] (by simp) cs) (fun y hy => lies_bnd (chkL_lies _ _ _ _ cs y hy).1), tell_eq m x (chkL_apart _ _ m [] (by simp) cm) (fun y hy => lies_bnd (chkL_lies _ _ _ _ cm y hy).1)⟩
/-- What is in order stays so. -/
theorem sins_last (x : Sp) : ∀ l : List Sp, (∀ y ∈ l, y.f ≤ x.f) → sins x l = l ++ [x]
  | [], _ => rfl
  | y :: r, h => by
    unfold sins
    rw [if_pos (h y (by simp)), sins_last x r (fun z hz => h z (by simp [hz]))]; rfl
theorem sins_pw (x : Sp) : ∀ l : List Sp, l.Pairwise (fun a b => a.f ≤ b.f) → (sins x l).Pairwise (fun a b => a.f ≤ b.f)
  | [], _ => by simp [sins]
  | y :: r, h => by
    have hc := List.pairwise_cons.1 h
    unfold sins
    split
    · rename_i hy
      rw [List.pairwise_cons]
      refine ⟨fun z hz => ?_, sins_pw x r hc.2⟩
      rcases List.mem_cons.1 ((sins_perm x r).mem_iff.1 hz) with rfl | hz
      · exact hy
      · exact hc.1 z hz
    · rename_i hy
      rw [List.pairwise_cons]
      refine ⟨fun z hz => ?_, h⟩
      rcases List.mem_cons.1 hz with rfl | hz
      · omega
      · have := hc.1 z hz; omega
theorem srt_pw_go : ∀ (l o : List Sp), o.Pairwise (fun a b => a.f ≤ b.f) → (l.foldl (fun o x => sins x o) o).Pairwise (fun a b => a.f ≤ b.f)
  | [], _, h => h
  | x :: l, o, h => srt_pw_go l (sins x o) (sins_pw x o h)
theorem srt_pw (l : List Sp) : (srt l).Pairwise (fun a b => a.f ≤ b.f) := srt_pw_go l [] (by simp)
theorem srt_fix_go : ∀ (l o : List Sp), (o ++ l).Pairwise (fun a b => a.f ≤ b.f) → l.foldl (fun o x => sins x o) o = o ++ l
  | [], o, _ => by simp
  | x :: l, o, h => by
    have h1 : ∀ y ∈ o, y.f ≤ x.f := fun y hy => (List.pairwise_append.1 h).2.2 y hy x (by simp)
    show l.foldl (fun o x => sins x o) (sins x o) = o ++ x :: l
    rw [sins_last x o h1, srt_fix_go l (o ++ [x]) (by simpa using h)]
    simp
theorem srt_srt (l : List Sp) : srt (srt l) = srt l := by
  have := srt_fix_go (srt l) [] (by simpa using srt_pw l)
  simpa [srt] using this
end Go.Proofs.YtggnkkmlabhofaaDoor
