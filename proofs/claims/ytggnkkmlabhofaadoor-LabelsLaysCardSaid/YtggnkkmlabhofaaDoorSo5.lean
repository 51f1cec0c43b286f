/- The stable sort: blocks, plain arrays (no function of the program). -/
import Derived.Test.YtggnkkmlabhofaaDoorSo4
namespace Go.Proofs.YtggnkkmlabhofaaDoor
set_option linter.unusedVariables false
set_option linter.unusedSimpArgs false
open Go.Sort
variable {α : Type} [Inhabited α]

theorem blk_in {bs a s t : Nat} (h0 : 0 < bs) (hd : bs ∣ a) (h1 : a ≤ t) (h2 : t < a + bs) : s / bs = t / bs ↔ a ≤ s ∧ s < a + bs := by
  obtain ⟨q, rfl⟩ := hd
  have ht : t / bs = q := by
    rw [Nat.mul_comm] at h1 h2
    exact Nat.div_eq_of_lt_le h1 (by rw [Nat.succ_mul]; exact h2)
  rw [ht]
  constructor
  · intro h
    subst h
    have e1 := Nat.div_add_mod s bs
    have e2 := Nat.mod_lt s h0
    omega
  · rintro ⟨h3, h4⟩
    rw [Nat.mul_comm] at h3 h4
    exact Nat.div_eq_of_lt_le h3 (by rw [Nat.succ_mul]; exact h4)
/-- What is compared tells the ranks, in a row as it was. -/
def Ord (cf : α → α → Int) (rk : α → Int) (len : Nat) (d : Array α) : Prop := ∀ s t, s < t → t < len → (cf d[t]! d[s]! < 0 ↔ rk d[t]! < rk d[s]!) ∧ rk d[t]! ≠ rk d[s]!
/-- Sorted in blocks of G, up to A; as it was, from A on. -/
structure St1 (rk : α → Int) (d : Array α) (len G A : Nat) (dk : Array α) : Prop where
  size : dk.size = len
  perm : PermIn 0 len d dk
  lo : ∀ t, t < A → t < len → ∃ s, s < len ∧ s / G = t / G ∧ dk[t]! = d[s]!
  hi : ∀ t, A ≤ t → dk[t]! = d[t]!
  slo : ∀ i j, i < j → j < len → j < A → i / G = j / G → rk dk[i]! < rk dk[j]!
theorem St1.start (rk : α → Int) (d : Array α) (len G : Nat) (hs : d.size = len) : St1 rk d len G 0 d :=
  ⟨hs, permIn_refl _ _ _, fun t h => by omega, fun _ _ => rfl, fun i j _ _ h => by omega⟩
theorem St1.step {cf : α → α → Int} {rk : α → Int} {d dk : Array α} {len G A b : Nat} (h : St1 rk d len G A dk) (hO : Ord cf rk len d) (h0 : 0 < G) (hd : G ∣ A) (hAb : A ≤ b) (hbG : b ≤ A + G) (hb : b ≤ len) (B : Nat) (hB : B = b ∨ (b = len ∧ len ≤ B)) :
    St1 rk d len G B (insertionSort (fun x y => decide (cf x y < 0)) dk A b) := by
  obtain ⟨hP, hS⟩ := ins_str (cf := cf) (rk := rk) hAb (by rw [h.size]; exact hb) (fun s t q1 q2 q3 => by
    rw [h.hi s q1, h.hi t (by omega)]
    exact hO s t q2 (by omega))
  generalize insertionSort (fun x y => decide (cf x y < 0)) dk A b = e at hP hS
  have out : ∀ t, t < A ∨ b ≤ t → e[t]! = dk[t]! := hP.2.1
  have src := permIn_all dk e A b (fun v => ∃ s, s < len ∧ A ≤ s ∧ s < A + G ∧ v = d[s]!) (by rw [h.size]; exact hb) hP (fun t q1 q2 => ⟨t, by omega, q1, by omega, h.hi t q1⟩)
  refine ⟨by rw [hP.1]; exact h.size, permIn_trans _ _ _ _ _ h.perm (permIn_mono _ _ _ _ _ _ (Nat.zero_le _) hb (by rw [h.size]; exact Nat.le_refl _) hP), ?_, ?_, ?_⟩
  · intro t q1 q2
    by_cases c : t < A
    · obtain ⟨s, x, y, z⟩ := h.lo t c q2
      exact ⟨s, x, y, by rw [out t (.inl c), z]⟩
    · obtain ⟨s, x1, x2, x3, x4⟩ := src t (by omega) (by omega)
      exact ⟨s, x1, (blk_in h0 hd (by omega) (by omega)).2 ⟨x2, x3⟩, x4⟩
  · intro t q1
    rcases hB with rfl | ⟨rfl, hB⟩
    · rw [out t (.inr q1), h.hi t (by omega)]
    · rw [out t (.inr (by omega)), h.hi t (by omega)]
  · intro i j q1 q2 q3 q4
    by_cases c : j < A
    · rw [out i (.inl (by omega)), out j (.inl c)]
      exact h.slo i j q1 q2 c q4
    · have := (blk_in h0 hd (t := j) (s := i) (by omega) (by omega)).1 q4
      exact hS i j this.1 q1 (by omega)
/-- Sorted in blocks of 2G up to A, of G from there on. -/
structure St2 (rk : α → Int) (d : Array α) (len G A : Nat) (dk : Array α) : Prop where
  size : dk.size = len
  perm : PermIn 0 len d dk
  lo : ∀ t, t < A → t < len → ∃ s, s < len ∧ s / (2 * G) = t / (2 * G) ∧ dk[t]! = d[s]!
  hi : ∀ t, A ≤ t → t < len → ∃ s, s < len ∧ s / G = t / G ∧ dk[t]! = d[s]!
  slo : ∀ i j, i < j → j < len → j < A → i / (2 * G) = j / (2 * G) → rk dk[i]! < rk dk[j]!
  shi : ∀ i j, i < j → j < len → A ≤ i → i / G = j / G → rk dk[i]! < rk dk[j]!
theorem St2.first {rk : α → Int} {d dk : Array α} {len G A : Nat} (h : St1 rk d len G A dk) (hA : len ≤ A) : St2 rk d len G 0 dk :=
  ⟨h.size, h.perm, fun t x => by omega, fun t _ x => h.lo t (by omega) x, fun i j _ _ x => by omega, fun i j x y _ z => h.slo i j x y (by omega) z⟩
theorem St2.next {rk : α → Int} {d dk : Array α} {len G A : Nat} (h : St2 rk d len G A dk) (hA : len ≤ A) : St2 rk d len (2 * G) 0 dk :=
  ⟨h.size, h.perm, fun t x => by omega, fun t _ x => h.lo t (by omega) x, fun i j _ _ x => by omega, fun i j x y _ z => h.slo i j x y (by omega) z⟩
/-- What a merge of two blocks asks. -/
theorem St2.ask {cf : α → α → Int} {rk : α → Int} {d dk : Array α} {len G A b : Nat} (h : St2 rk d len G A dk) (hO : Ord cf rk len d) (h0 : 0 < G) (hd : 2 * G ∣ A) (hb1 : b ≤ A + 2 * G) (hb : b ≤ len) (hAb : A + G ≤ b) :
    Str rk A (A + G) dk ∧ Str rk (A + G) b dk ∧ Tells cf rk A (A + G) b dk := by
  have hdG : G ∣ A := Nat.dvd_trans ⟨2, by omega⟩ hd
  have hdG2 : G ∣ A + G := Nat.dvd_add hdG (Nat.dvd_refl _)
  refine ⟨fun i j x y z => h.shi i j y (by omega) x ((blk_in h0 hdG (by omega) z).2 ⟨x, by omega⟩), fun i j x y z => h.shi i j y (by omega) (by omega) ((blk_in h0 hdG2 (by omega) (by omega)).2 ⟨x, by omega⟩), ?_⟩
  intro i j x y z u
  obtain ⟨s, a1, a2, a3⟩ := h.hi i x (by omega)
  obtain ⟨t, b1, b2, b3⟩ := h.hi j (by omega) (by omega)
  have c1 := (blk_in h0 hdG x y).1 a2
  have c2 := (blk_in h0 hdG2 z (by omega)).1 b2
  rw [a3, b3]
  exact hO s t (by omega) b1
theorem St2.step {rk : α → Int} {d dk e : Array α} {len G A b : Nat} (h : St2 rk d len G A dk) (h0 : 0 < G) (hd : 2 * G ∣ A) (hb1 : b ≤ A + 2 * G) (hb : b ≤ len) (hAb : A ≤ b) (hP : PermIn A b dk e) (hS : Str rk A b e) (B : Nat) (hB : (B = b ∧ b = A + 2 * G) ∨ (b = len ∧ len ≤ B)) :
    St2 rk d len G B e := by
  have out : ∀ t, t < A ∨ b ≤ t → e[t]! = dk[t]! := hP.2.1
  have h02 : 0 < 2 * G := by omega
  have hdG : G ∣ A := Nat.dvd_trans ⟨2, by omega⟩ hd
  have src := permIn_all dk e A b (fun v => ∃ s, s < len ∧ A ≤ s ∧ s < A + 2 * G ∧ v = d[s]!) (by rw [h.size]; exact hb) hP (fun t q1 q2 => by
    obtain ⟨s, a1, a2, a3⟩ := h.hi t q1 (by omega)
    by_cases c : t < A + G
    · have := (blk_in h0 hdG q1 c).1 a2
      exact ⟨s, a1, this.1, by omega, a3⟩
    · have := (blk_in h0 (Nat.dvd_add hdG (Nat.dvd_refl _)) (t := t) (by omega) (by omega)).1 a2
      exact ⟨s, a1, by omega, by omega, a3⟩)
  refine ⟨by rw [hP.1]; exact h.size, permIn_trans _ _ _ _ _ h.perm (permIn_mono _ _ _ _ _ _ (Nat.zero_le _) hb (by rw [h.size]; exact Nat.le_refl _) hP), ?_, ?_, ?_, ?_⟩
  · intro t q1 q2
    by_cases c : t < A
    · obtain ⟨s, x, y, z⟩ := h.lo t c q2
      exact ⟨s, x, y, by rw [out t (.inl c), z]⟩
    · obtain ⟨s, x1, x2, x3, x4⟩ := src t (by omega) (by omega)
      exact ⟨s, x1, (blk_in h02 hd (by omega) (by omega)).2 ⟨x2, x3⟩, x4⟩
  · intro t q1 q2
    obtain ⟨s, x, y, z⟩ := h.hi t (by omega) q2
    exact ⟨s, x, y, by rw [out t (.inr (by omega)), z]⟩
  · intro i j q1 q2 q3 q4
    by_cases c : j < A
    · rw [out i (.inl (by omega)), out j (.inl c)]
      exact h.slo i j q1 q2 c q4
    · have := (blk_in h02 hd (t := j) (s := i) (by omega) (by omega)).1 q4
      exact hS i j this.1 q1 (by omega)
  · intro i j q1 q2 q3 q4
    rw [out i (.inr (by omega)), out j (.inr (by omega))]
    exact h.shi i j q1 q2 (by omega) q4
/-- Where one block is left it is sorted already. -/
theorem St2.last {rk : α → Int} {d dk : Array α} {len G A : Nat} (h : St2 rk d len G A dk) (h0 : 0 < G) (hd : 2 * G ∣ A) (hA : A ≤ len) (hb : len ≤ A + G) : St2 rk d len G (len + 1) dk :=
  h.step h0 hd (b := len) (by omega) (Nat.le_refl _) hA (permIn_refl _ _ _) (fun i j x y z => h.shi i j y z x ((blk_in h0 (Nat.dvd_trans ⟨2, by omega⟩ hd) (by omega) (by omega)).2 ⟨x, by omega⟩)) _ (.inr ⟨rfl, by omega⟩)
theorem St2.done {rk : α → Int} {d dk : Array α} {len G : Nat} (h : St2 rk d len G 0 dk) (hG : len ≤ G) : PermIn 0 len d dk ∧ Str rk 0 len dk :=
  ⟨h.perm, fun i j _ y z => h.shi i j y z (Nat.zero_le _) (by rw [Nat.div_eq_of_lt (by omega), Nat.div_eq_of_lt (by omega)])⟩
end Go.Proofs.YtggnkkmlabhofaaDoor
