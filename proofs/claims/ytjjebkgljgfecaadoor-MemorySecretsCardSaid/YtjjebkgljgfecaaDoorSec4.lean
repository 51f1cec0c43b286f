/- Counting the addresses with secret bits: plain facts. -/
import Derived.Test.YtjjebkgljgfecaaDoorSec3
namespace Go.Proofs.YtjjebkgljgfecaaDoor
set_option linter.unusedVariables false
set_option linter.unusedSimpArgs false
open Go.RowKit

/-- Outside RAM and ROM a memory holds nothing. -/
def Zero (f : Nat → Int × Int) : Prop := ∀ k : Nat, isRAM (k : Int) = false → isROM (k : Int) = false → f k = (0, 0)
theorem zero_step {f : Nat → Int × Int} (h : Zero f) (o : OpD) (hs : o.small) : Zero (memStep f o) := by
  intro k h1 h2
  have hr : ¬ isRAM (k : Int) = true := by rw [h1]; simp
  have ho : ¬ isROM (k : Int) = true := by rw [h2]; simp
  rw [isRAM_iff] at hr
  rw [isROM_iff] at ho
  unfold memStep
  split
  · split
    · rename_i he
      have hn := hs.1
      have hl : loadsOf o.at_ = true ∧ spanOf o.at_ (o.at_ + max 0 ((o.n : Int) - 1)) = 0 := by
        unfold loadErr at he
        split at he
        · rename_i hc; exact ⟨hc.1, hc.2.2⟩
        · exact absurd he (by decide)
      have hl2 := (span_ok hl.2).2
      rw [loaded_at, if_neg (by omega)]
      exact h k h1 h2
    · exact h k h1 h2
  · split
    · split
      · rename_i he
        have hl2 := (span_ok he)
        rw [labelled_at, if_neg (by omega)]
        exact h k h1 h2
      · exact h k h1 h2
    · split
      · unfold wrote
        split
        · rename_i hc
          have hkd := kind_dec o.at_
          unfold upd
          rw [if_neg (by omega)]
          exact h k h1 h2
        · exact h k h1 h2
      · exact h k h1 h2

/-- The addresses of the puts, each once, in order of first appearance (reversed lists of what was seen do not matter). -/
def firsts : List Int → List Int → List Int
  | _, [] => []
  | seen, a :: r => if a ∈ seen then firsts (a :: seen) r else a :: firsts (a :: seen) r
theorem firsts_mem (l : List Int) : ∀ seen x, x ∈ firsts seen l ↔ x ∈ l ∧ x ∉ seen := by
  induction l with
  | nil => intro seen x; simp [firsts]
  | cons a r ih =>
    intro seen x
    unfold firsts
    split
    · rename_i h
      rw [ih, List.mem_cons, List.mem_cons]
      constructor
      · rintro ⟨h1, h2⟩
        exact ⟨.inr h1, fun h3 => h2 (.inr h3)⟩
      · rintro ⟨h1 | h1, h2⟩
        · exact absurd (h1 ▸ h) h2
        · refine ⟨h1, ?_⟩
          rintro (h3 | h3)
          · exact h2 (h3 ▸ h)
          · exact h2 h3
    · rename_i h
      rw [List.mem_cons, ih, List.mem_cons, List.mem_cons]
      constructor
      · rintro (h1 | ⟨h1, h2⟩)
        · exact ⟨.inl h1, h1 ▸ h⟩
        · exact ⟨.inr h1, fun h3 => h2 (.inr h3)⟩
      · rintro ⟨h1 | h1, h2⟩
        · exact .inl h1
        · by_cases hx : x = a
          · exact .inl hx
          · exact .inr ⟨h1, fun h3 => by rcases h3 with h3 | h3; exact hx h3; exact h2 h3⟩
theorem firsts_nodup (l : List Int) : ∀ seen, (firsts seen l).Nodup := by
  induction l with
  | nil => intro seen; simp [firsts]
  | cons a r ih =>
    intro seen
    unfold firsts
    split
    · exact ih _
    · rw [List.nodup_cons]
      exact ⟨fun h => by have := ((firsts_mem r _ _).1 h).2; simp at this, ih _⟩

theorem firsts_snoc (l : List Int) (a : Int) : ∀ seen, firsts seen (l ++ [a]) = firsts seen l ++ (if a ∈ seen ∨ a ∈ l then [] else [a]) := by
  induction l with
  | nil =>
    intro seen
    simp only [List.nil_append, firsts, List.not_mem_nil, or_false]
  | cons b r ih =>
    intro seen
    rw [List.cons_append, firsts, firsts, ih]
    have hc : (a ∈ b :: seen ∨ a ∈ r) ↔ (a ∈ seen ∨ a ∈ b :: r) := by
      rw [List.mem_cons, List.mem_cons]
      constructor
      · rintro ((h | h) | h)
        · exact .inr (.inl h)
        · exact .inl h
        · exact .inr (.inr h)
      · rintro (h | h | h)
        · exact .inl (.inr h)
        · exact .inl (.inl h)
        · exact .inr h
    simp only [hc]
    split
    · rfl
    · rw [List.cons_append]

def ats (l : List PD) : List Int := l.map PD.at_
/-- How many addresses of the first k puts have a secret bit. -/
def cntK (l : List PD) (P : Int → Bool) (k : Nat) : Nat := ((firsts [] (ats (l.take k))).filter P).length
theorem cntK_zero (l : List PD) (P : Int → Bool) : cntK l P 0 = 0 := rfl
theorem cntK_succ (l : List PD) (P : Int → Bool) (k : Nat) (p : PD) (hp : l[k]? = some p) : cntK l P (k + 1) = cntK l P k + (if p.at_ ∉ ats (l.take k) ∧ P p.at_ = true then 1 else 0) := by
  unfold cntK
  rw [take_snoc l k p hp, ats, List.map_append, List.map_cons, List.map_nil, firsts_snoc, List.filter_append, List.length_append]
  congr 1
  by_cases h : p.at_ ∈ ats (l.take k)
  · rw [if_pos (.inr h), if_neg (fun hc => hc.1 h)]
    rfl
  · rw [if_neg (by simp only [List.not_mem_nil, false_or]; exact h)]
    by_cases hP : P p.at_ = true
    · rw [if_pos ⟨h, hP⟩, List.filter_cons_of_pos hP]
      rfl
    · rw [if_neg (fun hc => hP hc.2), List.filter_cons_of_neg hP]
      rfl

theorem secs_mem (f : Nat → Int × Int) (x : Nat) : ∀ n, x ∈ (secs f n).map (·.1) ↔ x < n ∧ (f x).2 ≠ 0
  | 0 => by simp [secs]
  | n + 1 => by
    rw [secs, List.map_append, List.mem_append, secs_mem f x n]
    by_cases h : (f n).2 = 0
    · rw [if_pos h]
      simp only [List.map_nil, List.not_mem_nil, or_false]
      constructor
      · rintro ⟨h1, h2⟩; exact ⟨by omega, h2⟩
      · rintro ⟨h1, h2⟩
        refine ⟨?_, h2⟩
        by_cases hx : x = n
        · rw [hx] at h2; exact absurd h h2
        · omega
    · rw [if_neg h]
      simp only [List.map_cons, List.map_nil, List.mem_singleton]
      constructor
      · rintro (⟨h1, h2⟩ | h1)
        · exact ⟨by omega, h2⟩
        · rw [h1]; exact ⟨by omega, h⟩
      · rintro ⟨h1, h2⟩
        by_cases hx : x = n
        · exact .inr hx
        · exact .inl ⟨by omega, h2⟩
theorem secs_nodup (f : Nat → Int × Int) : ∀ n, ((secs f n).map (·.1)).Nodup
  | 0 => by simp [secs]
  | n + 1 => by
    rw [secs, List.map_append]
    by_cases h : (f n).2 = 0
    · rw [if_pos h]
      simpa using secs_nodup f n
    · rw [if_neg h, List.nodup_append]
      refine ⟨secs_nodup f n, by simp, ?_⟩
      intro a ha b hb
      simp only [List.map_cons, List.map_nil, List.mem_singleton] at hb
      have := ((secs_mem f a n).1 ha).1
      omega

theorem lastAt_absent (l : List PD) (x : Int) (h : x ∉ ats l) : lastAt l x = (0, 0) := by
  unfold lastAt
  suffices ∀ acc, l.foldl (fun acc p => if p.at_ = x then (p.v, p.t) else acc) acc = acc from this _
  induction l with
  | nil => intro acc; rfl
  | cons p r ih =>
    intro acc
    rw [ats, List.map_cons, List.mem_cons] at h
    rw [List.foldl_cons, if_neg (fun e => h (.inl e.symm))]
    exact ih (fun hc => h (.inr hc)) acc

theorem nodup_cast (l : List Nat) (h : l.Nodup) : (l.map (fun (n : Nat) => (n : Int))).Nodup := by
  induction l with
  | nil => simp
  | cons a r ih =>
    rw [List.nodup_cons] at h
    rw [List.map_cons, List.nodup_cons]
    refine ⟨fun hm => ?_, ih h.2⟩
    obtain ⟨b, hb, he⟩ := List.mem_map.1 hm
    have : b = a := by omega
    exact h.1 (this ▸ hb)

/-- As many addresses have a secret bit as the iterator gives. -/
theorem cnt_total {f : Nat → Int × Int} {l : List PD} (hR : Rel f l) (hZ : Zero f) (hI : InR l) : cntK l (fun a => decide ((refAt l a).2 ≠ 0)) l.length = (secs f 65536).length := by
  unfold cntK
  rw [List.take_length, show (secs f 65536).length = (((secs f 65536).map (·.1)).map (fun (n : Nat) => (n : Int))).length by rw [List.length_map, List.length_map]]
  refine List.Perm.length_eq ((List.perm_ext_iff_of_nodup ((firsts_nodup _ _).filter _) ?_).2 ?_)
  · exact nodup_cast _ (secs_nodup f 65536)
  · intro x
    rw [List.mem_filter, firsts_mem, List.mem_map]
    constructor
    · rintro ⟨⟨h1, _⟩, h2⟩
      have h2 : (refAt l x).2 ≠ 0 := by simpa using h2
      obtain ⟨p, hp, rfl⟩ := List.mem_map.1 h1
      have hb := hI p hp
      have hrr : isRAM p.at_ = true ∨ isROM p.at_ = true := by
        cases hr : isRAM p.at_
        · cases ho : isROM p.at_
          · unfold refAt at h2
            rw [if_pos ⟨hr, ho⟩] at h2
            exact absurd rfl h2
          · exact .inr rfl
        · exact .inl rfl
      refine ⟨p.at_.toNat, (secs_mem f _ _).2 ⟨by omega, ?_⟩, by omega⟩
      rw [rel_at hR hrr]
      exact h2
    · rintro ⟨n, hn, rfl⟩
      have hm := (secs_mem f n 65536).1 hn
      have hrr : isRAM (n : Int) = true ∨ isROM (n : Int) = true := by
        cases hr : isRAM (n : Int)
        · cases ho : isROM (n : Int)
          · rw [hZ n hr ho] at hm
            exact absurd rfl hm.2
          · exact .inr rfl
        · exact .inl rfl
      have hat := rel_at hR hrr
      rw [Int.toNat_natCast] at hat
      refine ⟨⟨?_, by simp⟩, ?_⟩
      · by_cases hx : (n : Int) ∈ ats l
        · exact hx
        · have h0 := hR n hrr
          rw [Int.toNat_natCast, lastAt_absent l n hx] at h0
          rw [h0] at hm
          exact absurd rfl hm.2
      · rw [← hat]
        simpa using hm.2
end Go.Proofs.YtjjebkgljgfecaaDoor
