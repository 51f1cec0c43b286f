/- The stable sort: plain arrays (no function of the program). -/
import Derived.Sort.LotA
namespace Go.Proofs.YtggnkkmlabhofaaDoor
set_option linter.unusedVariables false
set_option linter.unusedSimpArgs false
open Go.Sort
variable {α : Type} [Inhabited α]

/-- n exchanges of two parts of a row, place by place. -/
def swr (a b : Nat) : Nat → Array α → Array α
  | 0, d => d
  | n + 1, d => swp (swr a b n d) (a + n) (b + n)
def sgm (a b n t : Nat) : Nat := if a ≤ t ∧ t < a + n then t - a + b else if b ≤ t ∧ t < b + n then t - b + a else t
theorem swr_size (a b : Nat) : ∀ (n : Nat) (d : Array α), (swr a b n d).size = d.size
  | 0, _ => rfl
  | n + 1, d => by rw [swr, swp_size, swr_size a b n d]
theorem swr_get (a b : Nat) : ∀ (n : Nat) (d : Array α), a + n ≤ b → b + n ≤ d.size → ∀ t, (swr a b n d)[t]! = d[sgm a b n t]!
  | 0, d, _, _, t => by
    rw [swr, show sgm a b 0 t = t by (unfold sgm; (repeat' split) <;> omega)]
  | n + 1, d, h1, h2, t => by
    have ih := swr_get a b n d (by omega) (by omega)
    rw [swr, swp_get _ (by rw [swr_size]; omega) (by rw [swr_size]; omega), ih, ih, ih]
    by_cases c1 : t = b + n
    · subst c1
      rw [if_pos rfl]
      congr 1
      unfold sgm
      (repeat' split) <;> omega
    rw [if_neg c1]
    by_cases c2 : t = a + n
    · subst c2
      rw [if_pos rfl]
      congr 1
      unfold sgm
      (repeat' split) <;> omega
    rw [if_neg c2]
    congr 1
    unfold sgm
    (repeat' split) <;> omega
theorem swr_perm (A B a b : Nat) : ∀ (n : Nat) (d : Array α), A ≤ a → a + n ≤ b → b + n ≤ B → B ≤ d.size → PermIn A B d (swr a b n d)
  | 0, d, _, _, _, _ => permIn_refl _ _ _
  | n + 1, d, h0, h1, h2, h3 => permIn_trans _ _ _ _ _ (swr_perm A B a b n d h0 (by omega) (by omega) h3) (swp_permIn _ _ _ _ _ (by omega) (by omega) (by omega) (by omega) (by rw [swr_size]; exact h3))
/-- Where a place's element stood, ahead of the exchange of two parts that lie side by side. -/
def rho (a m b t : Nat) : Nat := if t < a then t else if t < a + (b - m) then t + (m - a) else if t < b then t - (b - m) else t
def Rot (d e : Array α) (a m b : Nat) : Prop := ∀ t, e[t]! = d[rho a m b t]!
theorem rot_gt {d e : Array α} {i j m : Nat} (hi : i ≤ m) (hj : 0 < j) (hij : j < i) (hs : m + j ≤ d.size) (h : Rot (swr (m - i) m j d) e (m - (i - j)) m (m + j)) : Rot d e (m - i) m (m + j) := by
  intro t
  rw [h t, swr_get _ _ _ _ (by omega) (by omega)]
  congr 1
  unfold sgm rho
  (repeat' split) <;> omega
theorem rot_lt {d e : Array α} {i j m : Nat} (hi : i ≤ m) (hi0 : 0 < i) (hij : i < j) (hs : m + j ≤ d.size) (h : Rot (swr (m - i) (m + j - i) i d) e (m - i) m (m + (j - i))) : Rot d e (m - i) m (m + j) := by
  intro t
  rw [h t, swr_get _ _ _ _ (by omega) (by omega)]
  congr 1
  unfold sgm rho
  (repeat' split) <;> omega
theorem rot_eq {d : Array α} {i m : Nat} (hi : i ≤ m) (hs : m + i ≤ d.size) : Rot d (swr (m - i) m i d) (m - i) m (m + i) := by
  intro t
  rw [swr_get _ _ _ _ (by omega) (by omega)]
  congr 1
  unfold sgm rho
  (repeat' split) <;> omega
theorem rot_id (d : Array α) {a m b : Nat} (h : a = m ∨ m = b) (h1 : a ≤ m) (h2 : m ≤ b) : Rot d d a m b := by
  intro t
  congr 1
  unfold rho
  (repeat' split) <;> omega

/-- Rising by rank. -/
def Str (rk : α → Int) (a b : Nat) (d : Array α) : Prop := ∀ i j, a ≤ i → i < j → j < b → rk d[i]! < rk d[j]!
/-- What is compared tells the ranks: one of the second part against one of the first. -/
def Tells (cf : α → α → Int) (rk : α → Int) (a m b : Nat) (d : Array α) : Prop :=
  ∀ i j, a ≤ i → i < m → m ≤ j → j < b → (cf d[j]! d[i]! < 0 ↔ rk d[j]! < rk d[i]!) ∧ rk d[j]! ≠ rk d[i]!
theorem Str.congr {rk : α → Int} {a b : Nat} {d e : Array α} (h : Str rk a b d) (he : ∀ t, a ≤ t → t < b → e[t]! = d[t]!) : Str rk a b e := by
  intro i j h1 h2 h3
  rw [he i h1 (by omega), he j (by omega) h3]
  exact h i j h1 h2 h3
theorem Str.mono {rk : α → Int} {a b a' b' : Nat} {d : Array α} (h : Str rk a b d) (h1 : a ≤ a') (h2 : b' ≤ b) : Str rk a' b' d :=
  fun i j x y z => h i j (by omega) y (by omega)
/-- The first element moved up to a place k. -/
def up (a k t : Nat) : Nat := if a ≤ t ∧ t < k then t + 1 else if t = k then a else t
/-- The last element moved down to a place k. -/
def dn (k m t : Nat) : Nat := if t = k then m else if k < t ∧ t ≤ m then t - 1 else t
theorem up_step {d e : Array α} {a k : Nat} (hak : a ≤ k) (hk : k + 1 < e.size) (h : ∀ t, e[t]! = d[up a k t]!) : ∀ t, (swp e k (k + 1))[t]! = d[up a (k + 1) t]! := by
  intro t
  rw [swp_get _ (by omega) (by omega)]
  by_cases c1 : t = k + 1
  · subst c1
    rw [if_pos rfl, h]
    congr 1
    unfold up
    (repeat' split) <;> omega
  rw [if_neg c1]
  by_cases c2 : t = k
  · subst c2
    rw [if_pos rfl, h]
    congr 1
    unfold up
    (repeat' split) <;> omega
  rw [if_neg c2, h]
  congr 1
  unfold up
  (repeat' split) <;> omega
theorem dn_step {d e : Array α} {k m : Nat} (hk0 : 0 < k) (hkm : k ≤ m) (hk : k < e.size) (h : ∀ t, e[t]! = d[dn k m t]!) : ∀ t, (swp e k (k - 1))[t]! = d[dn (k - 1) m t]! := by
  intro t
  rw [swp_get _ (by omega) (by omega)]
  by_cases c1 : t = k - 1
  · subst c1
    rw [if_pos rfl, h]
    congr 1
    unfold dn
    (repeat' split) <;> omega
  rw [if_neg c1]
  by_cases c2 : t = k
  · subst c2
    rw [if_pos rfl, h]
    congr 1
    unfold dn
    (repeat' split) <;> omega
  rw [if_neg c2, h]
  congr 1
  unfold dn
  (repeat' split) <;> omega
theorem up_str {rk : α → Int} {d e : Array α} {a i b : Nat} (hS : Str rk (a + 1) b d) (hi : a < i) (hib : i ≤ b) (h1 : ∀ t, a < t → t < i → rk d[t]! < rk d[a]!) (h2 : ∀ t, i ≤ t → t < b → rk d[a]! < rk d[t]!)
    (he : ∀ t, e[t]! = d[up a (i - 1) t]!) : Str rk a b e := by
  intro s t hs hst ht
  rw [he, he]
  by_cases c1 : s < i - 1
  · rw [show up a (i - 1) s = s + 1 by unfold up; rw [if_pos ⟨hs, c1⟩]]
    by_cases c2 : t < i - 1
    · rw [show up a (i - 1) t = t + 1 by unfold up; rw [if_pos ⟨by omega, c2⟩]]
      exact hS _ _ (by omega) (by omega) (by omega)
    · by_cases c3 : t = i - 1
      · rw [show up a (i - 1) t = a by unfold up; rw [if_neg (by omega), if_pos c3]]
        exact h1 _ (by omega) (by omega)
      · rw [show up a (i - 1) t = t by unfold up; rw [if_neg (by omega), if_neg c3]]
        exact hS _ _ (by omega) (by omega) ht
  · by_cases c3 : s = i - 1
    · rw [show up a (i - 1) s = a by unfold up; rw [if_neg (by omega), if_pos c3], show up a (i - 1) t = t by unfold up; rw [if_neg (by omega), if_neg (by omega)]]
      exact h2 _ (by omega) ht
    · rw [show up a (i - 1) s = s by unfold up; rw [if_neg (by omega), if_neg c3], show up a (i - 1) t = t by unfold up; rw [if_neg (by omega), if_neg (by omega)]]
      exact hS _ _ (by omega) hst ht
theorem dn_str {rk : α → Int} {d e : Array α} {a i m : Nat} (hS : Str rk a m d) (hi : a ≤ i) (him : i ≤ m) (h1 : ∀ t, a ≤ t → t < i → rk d[t]! < rk d[m]!) (h2 : ∀ t, i ≤ t → t < m → rk d[m]! < rk d[t]!)
    (he : ∀ t, e[t]! = d[dn i m t]!) : Str rk a (m + 1) e := by
  intro s t hs hst ht
  rw [he, he]
  by_cases c1 : s < i
  · rw [show dn i m s = s by unfold dn; rw [if_neg (by omega), if_neg (by omega)]]
    by_cases c2 : t < i
    · rw [show dn i m t = t by unfold dn; rw [if_neg (by omega), if_neg (by omega)]]
      exact hS _ _ hs hst (by omega)
    · by_cases c3 : t = i
      · rw [show dn i m t = m by unfold dn; rw [if_pos c3]]
        exact h1 _ hs c1
      · rw [show dn i m t = t - 1 by unfold dn; rw [if_neg c3, if_pos (by omega)]]
        exact hS _ _ hs (by omega) (by omega)
  · by_cases c3 : s = i
    · rw [show dn i m s = m by unfold dn; rw [if_pos c3], show dn i m t = t - 1 by unfold dn; rw [if_neg (by omega), if_pos (by omega)]]
      exact h2 _ (by omega) (by omega)
    · rw [show dn i m s = s - 1 by unfold dn; rw [if_neg c3, if_pos (by omega)], show dn i m t = t - 1 by unfold dn; rw [if_neg (by omega), if_pos (by omega)]]
      exact hS _ _ (by omega) (by omega) (by omega)
/-- The two parts behind the exchange: the first one's elements are below the second one's. -/
structure Cut (cf : α → α → Int) (rk : α → Int) (a s mid e b : Nat) (d : Array α) : Prop where
  s1 : Str rk a s d
  s2 : Str rk s mid d
  s3 : Str rk mid e d
  s4 : Str rk e b d
  t1 : Tells cf rk a s mid d
  t2 : Tells cf rk mid e b d
  low : ∀ i j, a ≤ i → i < mid → mid ≤ j → j < b → rk d[i]! < rk d[j]!
theorem cut_of {cf : α → α → Int} {rk : α → Int} {a s m mid e b : Nat} {d d1 : Array α} (h1 : Str rk a m d) (h2 : Str rk m b d) (hT : Tells cf rk a m b d)
    (ha : a ≤ s) (hsm : s ≤ m) (hme : m ≤ e) (heb : e ≤ b) (hmid : mid + m = s + e) (hf : s < m → m < e → rk d[e - 1]! < rk d[s]!) (hg : a < s → e < b → rk d[s - 1]! < rk d[e]!) (hR : Rot d d1 s m e) : Cut cf rk a s mid e b d1 := by
  have p1 : ∀ t, t < s → d1[t]! = d[t]! := fun t h => by rw [hR]; congr 1; unfold rho; rw [if_pos h]
  have p2 : ∀ t, s ≤ t → t < mid → d1[t]! = d[t + (m - s)]! := fun t h h' => by rw [hR]; congr 1; unfold rho; rw [if_neg (by omega), if_pos (by omega)]
  have p3 : ∀ t, mid ≤ t → t < e → d1[t]! = d[t - (e - m)]! := fun t h h' => by rw [hR]; congr 1; unfold rho; rw [if_neg (by omega), if_neg (by omega), if_pos h']
  have p4 : ∀ t, e ≤ t → d1[t]! = d[t]! := fun t h => by rw [hR]; congr 1; unfold rho; rw [if_neg (by omega), if_neg (by omega), if_neg (by omega)]
  constructor
  · intro i j x y z; rw [p1 i (by omega), p1 j z]; exact h1 _ _ x y (by omega)
  · intro i j x y z; rw [p2 i x (by omega), p2 j (by omega) z]; exact h2 _ _ (by omega) (by omega) (by omega)
  · intro i j x y z; rw [p3 i x (by omega), p3 j (by omega) z]; exact h1 _ _ (by omega) (by omega) (by omega)
  · intro i j x y z; rw [p4 i x, p4 j (by omega)]; exact h2 _ _ (by omega) y z
  · intro i j x y z u; rw [p1 i y, p2 j z u]; exact hT _ _ x (by omega) (by omega) (by omega)
  · intro i j x y z u; rw [p3 i x y, p4 j z]; exact hT _ _ (by omega) (by omega) (by omega) u
  · have le2 : ∀ x y, a ≤ x → x ≤ y → y < m → rk d[x]! ≤ rk d[y]! := fun x y u v w => by
      by_cases c : x = y
      · subst c; exact Int.le_refl _
      · exact Int.le_of_lt (h1 _ _ u (by omega) w)
    have le3 : ∀ x y, m ≤ x → x ≤ y → y < b → rk d[x]! ≤ rk d[y]! := fun x y u v w => by
      by_cases c : x = y
      · subst c; exact Int.le_refl _
      · exact Int.le_of_lt (h2 _ _ u (by omega) w)
    intro i j x y z u
    by_cases c1 : i < s
    · rw [p1 i c1]
      by_cases c2 : j < e
      · rw [p3 j z c2]; exact h1 _ _ x (by omega) (by omega)
      · rw [p4 j (by omega)]
        have := hg (by omega) (by omega)
        have := le2 i (s - 1) x (by omega) (by omega)
        have := le3 e j (by omega) (by omega) u
        omega
    · rw [p2 i (by omega) y]
      by_cases c2 : j < e
      · rw [p3 j z c2]
        have := hf (by omega) (by omega)
        have := le3 (i + (m - s)) (e - 1) (by omega) (by omega) (by omega)
        have := le2 s (j - (e - m)) (by omega) (by omega) (by omega)
        omega
      · rw [p4 j (by omega)]; exact h2 _ _ (by omega) (by omega) u
theorem Tells.congr {cf : α → α → Int} {rk : α → Int} {a m b : Nat} {d e : Array α} (h : Tells cf rk a m b d) (he : ∀ t, a ≤ t → t < b → e[t]! = d[t]!) : Tells cf rk a m b e := by
  intro i j x y z u
  rw [he i x (by omega), he j (by omega) u]
  exact h i j x y z u
/-- Both halves merged: the whole is rising. -/
theorem cut_glue {cf : α → α → Int} {rk : α → Int} {a s mid e b : Nat} {d1 d2 d3 : Array α} (hC : Cut cf rk a s mid e b d1) (hb : b ≤ d1.size) (hmb : mid ≤ b) (ham : a ≤ mid) (hP2 : PermIn a mid d1 d2) (hS2 : Str rk a mid d2) (hP3 : PermIn mid b d2 d3) (hS3 : Str rk mid b d3) : Str rk a b d3 := by
  have l2 : ∀ i j, a ≤ i → i < mid → mid ≤ j → j < b → rk d2[i]! < rk d1[j]! := fun i j x y z u =>
    permIn_all d1 d2 a mid (fun v => rk v < rk d1[j]!) (by omega) hP2 (fun i' x' y' => hC.low i' j x' y' z u) i x y
  have e2 : ∀ j, mid ≤ j → d2[j]! = d1[j]! := fun j h => hP2.2.1 j (.inr h)
  have l3 : ∀ i j, a ≤ i → i < mid → mid ≤ j → j < b → rk d2[i]! < rk d3[j]! := fun i j x y z u =>
    permIn_all d2 d3 mid b (fun v => rk d2[i]! < rk v) (by rw [hP2.1]; exact hb) hP3 (fun j' z' u' => by rw [e2 j' z']; exact l2 i j' x y z' u') j z u
  have e3 : ∀ i, i < mid → d3[i]! = d2[i]! := fun i h => hP3.2.1 i (.inl h)
  intro i j x y z
  by_cases c1 : j < mid
  · rw [e3 i (by omega), e3 j c1]; exact hS2 _ _ x y c1
  · by_cases c2 : i < mid
    · rw [e3 i c2]; exact l3 _ _ x c2 (by omega) z
    · exact hS3 _ _ (by omega) y z
/-- The insertion sort, where what is compared tells the ranks. -/
theorem insInner_rk {cf : α → α → Int} {rk : α → Int} (a b : Nat) : ∀ (j : Nat) (d : Array α), j < d.size → (∀ t, a ≤ t → t < j → (cf d[j]! d[t]! < 0 ↔ rk d[j]! < rk d[t]!)) →
    insInner (fun x y => decide (cf x y < 0)) a j d = insInner (fun x y => decide (rk x < rk y)) a j d
  | 0, _, _, _ => rfl
  | j + 1, d, hs, h => by
    unfold insInner
    by_cases c : j + 1 > a
    · have e : (decide (cf d[j + 1]! d[j]! < 0)) = decide (rk d[j + 1]! < rk d[j]!) := decide_eq_decide.2 (h j (by omega) (by omega))
      rw [e]
      split
      · refine insInner_rk a b j _ (by rw [swp_size]; omega) ?_
        intro t h1 h2
        rw [swp_get _ hs (by omega), swp_get _ hs (by omega), if_pos rfl, if_neg (by omega), if_neg (by omega)]
        exact h t h1 (by omega)
      · rfl
    · rw [decide_eq_false c]; rfl
omit [Inhabited α] in
theorem rk_swo (rk : α → Int) : SWO (fun x y => decide (rk x < rk y)) := ⟨fun x => by simp, fun x y z h1 h2 => by simp at *; omega, fun x y z h1 h2 => by simp at *; omega⟩
theorem insOuter_rk {cf : α → α → Int} {rk : α → Int} (a b : Nat) : ∀ (n i : Nat) (d0 d : Array α), b - i = n → a < i → b ≤ d.size → PermIn a i d0 d → (∀ s t, a ≤ s → s < t → t < b → (cf d0[t]! d0[s]! < 0 ↔ rk d0[t]! < rk d0[s]!)) →
    insOuter (fun x y => decide (cf x y < 0)) a b i d = insOuter (fun x y => decide (rk x < rk y)) a b i d
  | 0, i, d0, d, hn, _, _, _, _ => by rw [insOuter, if_neg (by omega), insOuter, if_neg (by omega)]
  | n + 1, i, d0, d, hn, hai, hb, hP, hO => by
    have hlt : i < b := by omega
    rw [insOuter, if_pos hlt]
    conv => rhs; rw [insOuter, if_pos hlt]
    have hd : d[i]! = d0[i]! := hP.2.1 i (.inr (Nat.le_refl _))
    have hin := permIn_all d0 d a i (fun v => (cf d0[i]! v < 0 ↔ rk d0[i]! < rk v)) (by rw [← hP.1]; omega) hP (fun s h1 h2 => hO s i h1 h2 hlt)
    rw [insInner_rk (cf := cf) (rk := rk) a b i d (by omega) (fun t h1 h2 => by rw [hd]; exact hin t h1 h2)]
    have hp1 : PermIn a (i + 1) d (insInner (fun x y => decide (rk x < rk y)) a i d) := insInner_perm a i d hai (by omega) _
    exact insOuter_rk a b n (i + 1) d0 _ (by omega) (by omega) (by rw [hp1.1]; exact hb) (permIn_trans _ _ _ _ _ (permIn_mono _ _ _ _ _ _ (Nat.le_refl _) (by omega) (by rw [← hP.1]; omega) hP) hp1) hO
where
  insInner_perm (a : Nat) : ∀ (i : Nat) (d : Array α), a < i → i < d.size → ∀ lt : α → α → Bool, PermIn a (i + 1) d (insInner lt a i d) := fun i d hai hid lt => by
    have key : ∀ (j : Nat) (d : Array α), j ≤ i → i < d.size → PermIn a (i + 1) d (insInner lt a j d) := by
      intro j
      induction j with
      | zero => intro d _ _; exact permIn_refl _ _ _
      | succ j ih =>
        intro d h1 h2
        unfold insInner
        split
        · rename_i hc
          simp only [Bool.and_eq_true, decide_eq_true_eq] at hc
          exact permIn_trans _ _ _ _ _ (swp_permIn _ _ _ _ _ (by omega) (by omega) (by omega) (by omega) (by omega)) (ih _ (by omega) (by rw [swp_size]; exact h2))
        · exact permIn_refl _ _ _
    exact key i d (Nat.le_refl _) hid
/-- A block sorted by insertion: a permutation of it, rising by rank. -/
theorem ins_str {cf : α → α → Int} {rk : α → Int} {a b : Nat} {d : Array α} (hab : a ≤ b) (hb : b ≤ d.size) (hO : ∀ s t, a ≤ s → s < t → t < b → (cf d[t]! d[s]! < 0 ↔ rk d[t]! < rk d[s]!) ∧ rk d[t]! ≠ rk d[s]!) :
    PermIn a b d (insertionSort (fun x y => decide (cf x y < 0)) d a b) ∧ Str rk a b (insertionSort (fun x y => decide (cf x y < 0)) d a b) := by
  have e : insertionSort (fun x y => decide (cf x y < 0)) d a b = insertionSort (fun x y => decide (rk x < rk y)) d a b := by
    unfold insertionSort
    by_cases c : a + 1 ≤ b
    · exact insOuter_rk a b (b - (a + 1)) (a + 1) d d rfl (by omega) hb (permIn_refl _ _ _) (fun s t h1 h2 h3 => (hO s t h1 h2 h3).1)
    · rw [insOuter, if_neg (by omega), insOuter, if_neg (by omega)]
  rw [e]
  obtain ⟨hP, hS⟩ := insertionSort_holds (rk_swo rk) d a b hab hb
  refine ⟨hP, ?_⟩
  intro i j h1 h2 h3
  have h := hS i j h1 h2 h3
  simp only [decide_eq_false_iff_not] at h
  have hne : rk (insertionSort (fun x y => decide (rk x < rk y)) d a b)[i]! ≠ rk (insertionSort (fun x y => decide (rk x < rk y)) d a b)[j]! := perm_rk_ne hb hP (fun s t x y z => Ne.symm (hO s t x y z).2) i j h1 h2 h3
  omega
where
  perm_rk_ne {rk : α → Int} {a b : Nat} {d e : Array α} (hb : b ≤ d.size) (hP : PermIn a b d e) (h : ∀ s t, a ≤ s → s < t → t < b → rk d[s]! ≠ rk d[t]!) : ∀ s t, a ≤ s → s < t → t < b → rk e[s]! ≠ rk e[t]! := by
    have hbe : b ≤ e.size := by rw [hP.1]; exact hb
    have hp := hP.2.2.map rk
    rw [extract_toList d a b hb, extract_toList e a b hbe, List.map_map, List.map_map] at hp
    have nd : ((List.range' a (b - a)).map (rk ∘ fun i => d[i]!)).Nodup := by
      rw [List.Nodup, List.pairwise_map]
      refine List.Pairwise.imp_of_mem ?_ (List.pairwise_lt_range' (s := a) (n := b - a) (step := 1) (by omega))
      intro x y hx hy hxy
      simp only [List.mem_range'_1] at hx hy
      exact h x y hx.1 hxy (by omega)
    have nd2 := hp.nodup_iff.2 nd
    intro s t h1 h2 h3 heq
    rw [List.Nodup, List.pairwise_map] at nd2
    have := List.pairwise_iff_getElem.1 nd2 (s - a) (t - a) (by simp; omega) (by simp; omega) (by omega)
    simp only [List.getElem_range', Function.comp] at this
    rw [show a + 1 * (s - a) = s by omega, show a + 1 * (t - a) = t by omega] at this
    exact this heq
end Go.Proofs.YtggnkkmlabhofaaDoor
