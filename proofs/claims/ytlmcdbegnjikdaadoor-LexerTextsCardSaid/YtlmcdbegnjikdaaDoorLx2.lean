/- The lexer, plain: what stands behind blanks, and ahead of blanks and remarks, does not count. No function of the program. -/
import Derived.Test.YtlmcdbegnjikdaaDoorLx1
namespace Go.Proofs.YtlmcdbegnjikdaaDoor
set_option linter.unusedVariables false
set_option linter.unusedSimpArgs false

/-- What stops a word, and a number, and is none itself. -/
def Stop (z : By) : Prop := ∃ b r, z = b :: r ∧ isLet b = false ∧ dig b = 99 ∧ b.toNat ≠ 36 ∧ b.toNat ≠ 46
theorem glued_stop {z : By} (h : Stop z) (r : By) : glued (r ++ z) = glued r := by
  obtain ⟨b, x, rfl, h1, h2, h3, h4⟩ := h
  cases r with
  | nil => simp [glued, h1, h2, h3]
  | cons c r => rfl
theorem wordL_stop {z : By} (h : Stop z) : ∀ l : By, wordL (l ++ z) = wordL l ++ z
  | [] => by
    obtain ⟨b, x, rfl, h1, _⟩ := h
    simp [wordL, h1]
  | c :: l => by
    rw [List.cons_append]; unfold wordL
    split
    · exact wordL_stop h l
    · rfl
theorem numL_stop {z : By} (h : Stop z) {base : Nat} (hb : base ≤ 99) : ∀ (l : By) (n : Nat), numL base n (l ++ z) = ((numL base n l).1, (numL base n l).2 ++ z)
  | [], n => by
    obtain ⟨b, x, rfl, _, h2, _⟩ := h
    simp [numL, h2]; omega
  | c :: l, n => by
    rw [List.cons_append]; unfold numL
    split
    · exact numL_stop h hb l _
    · rfl
theorem numTok_stop {z : By} (h : Stop z) {base : Nat} (hb : base ≤ 99) (l : By) : numTok base (l ++ z) = match numTok base l with | .bad e => .bad e | .ok k t v r => .ok k t v (r ++ z) := by
  unfold numTok
  simp only [numL_stop h hb, glued_stop h, List.length_append, Nat.add_right_cancel_iff]
  split
  · rfl
  · split <;> rfl
theorem one_stop {z : By} (h : Stop z) (b : UInt8) (l : By) : one (b :: l ++ z) = match one (b :: l) with | .bad e => .bad e | .ok k t v r => .ok k t v (r ++ z) := by
  rw [List.cons_append, one_cons, one_cons]
  have hw := wordL_stop h (b :: l)
  rw [List.cons_append] at hw
  have hle := wordL_len (b :: l)
  rw [hw, glued_stop h]
  split
  · split
    · rfl
    · simp only
      congr 1
      rw [← List.cons_append, List.length_append, List.length_append, show (b :: l).length + z.length - ((wordL (b :: l)).length + z.length) = (b :: l).length - (wordL (b :: l)).length by omega, List.take_append_of_le_length (by omega)]
  · split
    · cases l with
      | nil =>
        obtain ⟨c, x, rfl, _, _, _, h4⟩ := h
        simp [dots, h4]
      | cons c l =>
        simp only [List.cons_append, dots]
        split <;> rfl
    · split
      · exact numTok_stop h (by omega) l
      · split
        · have := numTok_stop h (base := 10) (by omega) (b :: l)
          exact this
        · rfl
def bare (t : Tok) : Int × By × Int := (t.kind, t.text, t.n)
theorem fin_bare {n n' : Int} {last last' : Nat} {out out' : List Tok} (h : out.map bare = out'.map bare) : (fin n last out).map bare = (fin n' last' out').map bare := by
  unfold fin
  cases out with
  | nil => cases out' with
    | nil => rfl
    | cons => simp at h
  | cons x xs => cases out' with
    | nil => simp at h
    | cons y ys =>
      rw [if_neg (by simp), if_neg (by simp), List.map_append, List.map_append, h]
      rfl
/-- Two lines tell the same, but for places. -/
def LikeL : RL → RL → Prop
  | .bad _ e, .bad _ f => e = f
  | .ok l, .ok m => l.map bare = m.map bare
  | _, _ => False
theorem sc_blanks (n : Int) (last : Nat) (out : List Tok) (l : By) : ∀ (k a : Nat), sc n (List.replicate k 32 ++ l) a last out = sc n l (a + k) last out
  | 0, a => rfl
  | k + 1, a => by
    rw [List.replicate_succ, List.cons_append, sc_blank (.inl rfl), sc_blanks n last out l k (a + 1), Nat.add_assoc, Nat.add_comm 1 k]
/-- What stands behind a line and does not count. -/
def Idle (z : By) : Prop := Stop z ∧ ∀ (n : Int) (a last : Nat) (out : List Tok), sc n z a last out = .ok (fin n last out)
theorem idle_hash (r : By) : Idle (35 :: r) := ⟨⟨35, r, rfl, by decide, by decide, by decide, by decide⟩, fun n a last out => sc_hash rfl⟩
theorem idle_tab (r : By) : Idle (9 :: 35 :: r) := ⟨⟨9, _, rfl, by decide, by decide, by decide, by decide⟩, fun n a last out => by rw [sc_blank (.inr rfl)]; exact sc_hash rfl⟩
theorem idle_blanks {z : By} (h : Idle z) (k : Nat) : Idle (List.replicate k 32 ++ z) := by
  refine ⟨?_, fun n a last out => by rw [sc_blanks]; exact h.2 _ _ _ _⟩
  cases k with
  | zero => exact h.1
  | succ k => exact ⟨32, _, rfl, by decide, by decide, by decide, by decide⟩
theorem sc_like {z : By} (hz : Idle z) (n n' : Int) : ∀ (m : Nat) (l : By) (a last a' last' : Nat) (out out' : List Tok), l.length ≤ m → out.map bare = out'.map bare → LikeL (sc n (l ++ z) a last out) (sc n' l a' last' out') := by
  intro m
  induction m with
  | zero =>
    intro l a last a' last' out out' hl ho
    have : l = [] := List.eq_nil_of_length_eq_zero (by omega)
    subst this
    rw [List.nil_append, hz.2, sc_nil]
    exact fin_bare ho
  | succ m ih =>
    intro l a last a' last' out out' hl ho
    cases l with
    | nil =>
      rw [List.nil_append, hz.2, sc_nil]
      exact fin_bare ho
    | cons b l =>
      simp only [List.length_cons] at hl
      by_cases h35 : b.toNat = 35
      · rw [List.cons_append, sc_hash h35, sc_hash h35]
        exact fin_bare ho
      · by_cases hb : b.toNat = 32 ∨ b.toNat = 9
        · rw [List.cons_append, sc_blank hb, sc_blank hb]
          exact ih l _ _ _ _ _ _ (by omega) ho
        · have hs := one_stop hz.1 b l
          cases h1 : one (b :: l) with
          | bad e =>
            rw [h1, List.cons_append] at hs
            rw [sc_bad h35 hb h1, List.cons_append, sc_bad h35 hb hs]
            rfl
          | ok k t v r =>
            rw [h1, List.cons_append] at hs
            have hr := one_len h1
            simp only [List.length_cons] at hr
            rw [sc_ok h35 hb h1, List.cons_append, sc_ok h35 hb hs]
            exact ih r _ _ _ _ _ _ (by omega) (by simp [ho, bare])
theorem lineT_like {z : By} (hz : Idle z) (n n' : Int) (k : Nat) (l : By) (h : k + l.length + z.length ≤ 1000) : LikeL (lineT n (List.replicate k 32 ++ (l ++ z))) (lineT n' l) := by
  unfold lineT
  rw [if_neg (by simp; omega), if_neg (by omega)]
  have := sc_blanks n 0 [] (l ++ z) k 0
  unfold sc at this
  rw [this]
  exact sc_like hz n n' _ l _ _ _ _ [] [] (Nat.le_refl _) rfl
theorem lineT_nil (n : Int) : lineT n [] = .ok [] := rfl
/-- Two texts tell the same, but for places. -/
def LikeT : RT → RT → Prop
  | .bad _ _ e, .bad _ _ f => e = f
  | .ok l, .ok m => l.map bare = m.map bare
  | _, _ => False
/-- The lines with blanks ahead, remarks behind, and lines between. -/
def mk (k : Nat) (q z : By) : List By → List By
  | [] => []
  | [t] => [List.replicate k 32 ++ (t ++ z)]
  | t :: u :: ts => (List.replicate k 32 ++ (t ++ q)) :: [] :: mk k q z (u :: ts)
theorem scan_mk {k : Nat} {q z : By} (hq : Idle q) (hz : Idle z) (hkq : k + 900 + q.length ≤ 1000) (hkz : k + 900 + z.length ≤ 1000) : ∀ (ls : List By) (n n' : Int) (out out' : List Tok), (∀ t ∈ ls, t.length ≤ 900) → out.map bare = out'.map bare →
    LikeT (scan n (mk k q z ls) out) (scan n' ls out')
  | [], n, n', out, out', _, ho => ho
  | [t], n, n', out, out', hl, ho => by
    have ht := hl t (by simp)
    have h := lineT_like hz n n' k t (by omega)
    unfold mk scan
    revert h
    cases lineT n (List.replicate k 32 ++ (t ++ z)) <;> cases lineT n' t <;> intro h
    · exact h
    · exact h.elim
    · exact h.elim
    · simp only [scan]
      show List.map bare _ = List.map bare _
      rw [List.map_append, List.map_append, ho, h]
  | t :: u :: ts, n, n', out, out', hl, ho => by
    have ht := hl t (by simp)
    have h := lineT_like hq n n' k t (by omega)
    unfold mk scan
    revert h
    cases lineT n (List.replicate k 32 ++ (t ++ q)) <;> cases lineT n' t <;> intro h
    · exact h
    · exact h.elim
    · exact h.elim
    · simp only
      rw [scan, lineT_nil]
      simp only [List.append_nil]
      exact scan_mk hq hz hkq hkz (u :: ts) _ _ _ _ (fun x hx => hl x (by simp [hx])) (by rw [List.map_append, List.map_append, ho, h])
theorem lines_ne (s : By) : lines s ≠ [] := by
  cases s with
  | nil => simp [lines]
  | cons b s =>
    unfold lines; split
    · simp
    · split <;> simp
theorem lines_pre {x : By} (hx : (10 : UInt8) ∉ x) (y h : By) (t : List By) (hy : lines y = h :: t) : lines (x ++ y) = (x ++ h) :: t := by
  induction x with
  | nil => exact hy
  | cons b x ih =>
    have hb : b ≠ 10 := fun e => hx (by simp [e])
    rw [List.cons_append, lines, if_neg hb, ih (fun h => hx (by simp [h]))]
    rfl
theorem lines_nl (y : By) : lines (10 :: y) = [] :: lines y := by rw [lines, if_pos rfl]
/-- What the statement makes of a text. -/
def more (k : Nat) (rem : By) : By → By
  | [] => []
  | b :: s => if b = 10 then List.replicate k 32 ++ ([9, 35] ++ rem ++ [10, 10] ++ (List.replicate k 32)) ++ more k rem s else b :: more k rem s
theorem lines_more {k : Nat} {rem : By} (hr : (10 : UInt8) ∉ rem) : ∀ s : By, lines (List.replicate k 32 ++ (more k rem s ++ (35 :: rem))) = mk k (List.replicate k 32 ++ (9 :: 35 :: rem)) (35 :: rem) (lines s) := by
  have hk : (10 : UInt8) ∉ List.replicate k (32 : UInt8) := by simp
  have key : ∀ (s x : By), (10 : UInt8) ∉ x → ∃ h t, lines s = h :: t ∧ lines (List.replicate k 32 ++ x ++ (more k rem s ++ (35 :: rem))) = mk k (List.replicate k 32 ++ (9 :: 35 :: rem)) (35 :: rem) ((x ++ h) :: t) := by
    intro s
    induction s with
    | nil =>
      intro x hx
      refine ⟨[], [], rfl, ?_⟩
      have h := lines_pre (x := List.replicate k 32 ++ x ++ (35 :: rem)) (by simp [hx, hr]) [] [] [] rfl
      simp only [more, mk, List.nil_append, List.append_nil] at h ⊢
      rw [h, List.append_assoc]
    | cons b s ih =>
      intro x hx
      by_cases hb : b = 10
      · subst hb
        obtain ⟨h, t, e, hl⟩ := ih [] (by simp)
        refine ⟨[], lines s, lines_nl s, ?_⟩
        rw [more, if_pos rfl]
        have e1 : List.replicate k 32 ++ x ++ (List.replicate k 32 ++ ([9, 35] ++ rem ++ [10, 10] ++ List.replicate k 32) ++ more k rem s ++ 35 :: rem) =
            (List.replicate k 32 ++ (x ++ (List.replicate k 32 ++ (9 :: 35 :: rem)))) ++ (10 :: 10 :: (List.replicate k 32 ++ [] ++ (more k rem s ++ 35 :: rem))) := by simp [List.append_assoc]
        rw [e1]
        have e2 := lines_nl (10 :: (List.replicate k 32 ++ [] ++ (more k rem s ++ 35 :: rem)))
        rw [lines_nl (List.replicate k 32 ++ [] ++ (more k rem s ++ 35 :: rem)), hl] at e2
        rw [lines_pre (by simp [hx, hr]) _ _ _ e2, List.nil_append, e, List.append_nil, List.append_nil]
        rfl
      · obtain ⟨h, t, e, hl⟩ := ih (x ++ [b]) (by simp [hx]; exact fun e => hb e.symm)
        refine ⟨b :: h, t, by rw [lines, if_neg hb, e], ?_⟩
        rw [more, if_neg hb]
        have e1 : List.replicate k 32 ++ x ++ (b :: more k rem s ++ 35 :: rem) = List.replicate k 32 ++ (x ++ [b]) ++ (more k rem s ++ 35 :: rem) := by simp [List.append_assoc]
        rw [e1, hl, List.append_assoc]
        rfl
  intro s
  obtain ⟨h, t, e, hl⟩ := key s [] (by simp)
  rw [e]
  rw [List.append_nil, List.nil_append] at hl
  exact hl
theorem text_more {k : Nat} {rem : By} (hr : (10 : UInt8) ∉ rem) (hk : k ≤ 20) (hrl : rem.length ≤ 50) {s : By} (hs : ∀ t ∈ lines s, t.length ≤ 900) : LikeT (text (List.replicate k 32 ++ (more k rem s ++ (35 :: rem)))) (text s) := by
  unfold text
  rw [lines_more hr]
  exact scan_mk (idle_blanks (idle_tab rem) k) (idle_hash rem) (by simp; omega) (by simp; omega) _ _ _ _ _ hs rfl
end Go.Proofs.YtlmcdbegnjikdaaDoor
