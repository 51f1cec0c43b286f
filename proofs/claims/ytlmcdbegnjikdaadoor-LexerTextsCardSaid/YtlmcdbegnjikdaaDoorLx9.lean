/- The lexer: next, all ways in one. (printed by gen/lx9.py) -/
import Derived.Test.YtlmcdbegnjikdaaDoorLx8
import Derived.ScopeJumps
import Derived.WalkMore
namespace Go.Proofs.YtlmcdbegnjikdaaDoor
set_option linter.unusedVariables false
set_option linter.unusedSimpArgs false
open Go.RowKit
attribute [local go_sem ↓] Go.wp_at_zero Go.wp_at_succ

theorem next_eq (w : World) (B g : Nat) (s : ByteArray) (n : Int) (k : Nat) (sv : Value) (l : List Tok) (h : IsLn w B g s n k sv l) (hk : k < s.size) (hs : s.size ≤ 1000) (hl : l.length ≤ 1000) :
    Calls Tryd.prog 30 #[.pointer (some ⟨g, 0, none⟩)] w (NextPost w B g s n k l) := by
  cases hb : isLet s[k] with
  | true =>
    cases hg : glued (wordL (from_ s k)) with
    | true => exact next_word_bad w B g s n k sv l h hk hs hl hb hg
    | false => exact next_word_ok w B g s n k sv l h hk hs hl hb hg
  | false =>
    by_cases h46 : s[k].toNat = 46
    · by_cases hr : ∃ r, from_ s (k + 1) = 46 :: r
      · obtain ⟨r, hr⟩ := hr
        exact next_dots_ok w B g s n k sv l h hk hs hl r h46 hr
      · exact next_dot_bad w B g s n k sv l h hk hs hl h46 (fun r e => hr ⟨r, e⟩)
    · by_cases h36 : s[k].toNat = 36
      · obtain ⟨m, r, hN⟩ : ∃ m r, numL 16 0 (from_ s (k + 1)) = (m, r) := ⟨_, _, rfl⟩
        by_cases hr : r.length = (from_ s (k + 1)).length
        · exact next_hex_a w B g s n k sv l h hk hs hl m r hN h36 hr
        · cases hg : glued r with
          | true => exact next_hex_b w B g s n k sv l h hk hs hl m r hN h36 hr hg
          | false =>
            by_cases hm : 65535 < m
            · exact next_hex_c w B g s n k sv l h hk hs hl m r hN h36 hr hg hm
            · exact next_hex_d w B g s n k sv l h hk hs hl m r hN h36 hr hg hm
      · by_cases hd : dig s[k] < 10
        · obtain ⟨m, r, hN⟩ : ∃ m r, numL 10 0 (from_ s k) = (m, r) := ⟨_, _, rfl⟩
          have hr : r.length ≠ (from_ s k).length := by
            have h2 := hN
            rw [from_lt hk, numL_yes hd] at h2
            have h3 := numL_len 10 (from_ s (k + 1)) (min 65536 (0 * 10 + dig s[k]))
            rw [h2] at h3
            rw [from_lt hk, List.length_cons]
            simp only at h3
            omega
          cases hg : glued r with
          | true => exact next_dec_b w B g s n k sv l h hk hs hl m r hN hd hb (by omega) hr hg
          | false =>
            by_cases hm : 65535 < m
            · exact next_dec_c w B g s n k sv l h hk hs hl m r hN hd hb (by omega) hr hg hm
            · exact next_dec_d w B g s n k sv l h hk hs hl m r hN hd hb (by omega) hr hg hm
        · exact next_mark_bad w B g s n k sv l h hk hs hl hb hd (by omega)
theorem next_bad (w : World) (B g : Nat) (s : ByteArray) (n : Int) (k : Nat) (sv : Value) (l : List Tok) (h : IsLn w B g s n k sv l) (hk : k < s.size) (hs : s.size ≤ 1000) (hl : l.length ≤ 1000) (c : Int) (hb : one (from_ s k) = .bad c) :
    Calls Tryd.prog 30 #[.pointer (some ⟨g, 0, none⟩)] w fun e w' => e = .returned (.int .i64 c) ∧ Below w.heap.size w w' :=
  (next_eq w B g s n k sv l h hk hs hl).mono fun e w' hp => by unfold NextPost at hp; rw [hb] at hp; exact hp
theorem next_ok (w : World) (B g : Nat) (s : ByteArray) (n : Int) (k : Nat) (sv : Value) (l : List Tok) (h : IsLn w B g s n k sv l) (hk : k < s.size) (hs : s.size ≤ 1000) (hl : l.length ≤ 1000) (kk v : Int) (t r : By) (hb : one (from_ s k) = .ok kk t v r) :
    Calls Tryd.prog 30 #[.pointer (some ⟨g, 0, none⟩)] w fun e w' => e = .returned (.int .i64 0) ∧ ∃ sv', IsLn w' B g s n ((s.size - r.length : Nat) : Int) sv' (l ++ [⟨kk, t, v, n, k + 1⟩]) ∧ Chg (LnF g B) w w' :=
  (next_eq w B g s n k sv l h hk hs hl).mono fun e w' hp => by unfold NextPost at hp; rw [hb] at hp; exact hp
theorem bad_pos {b : UInt8} {l : By} {c : Int} (h : one (b :: l) = .bad c) : c ≠ 0 := by
  rw [one_cons] at h
  have hn : ∀ base l, numTok base l = .bad c → c ≠ 0 := by
    intro base l h
    unfold numTok at h
    simp only at h
    split at h
    · injection h with h; omega
    · split at h
      · injection h with h; omega
      · cases h
  split at h
  · split at h
    · injection h with h; omega
    · cases h
  · split at h
    · unfold dots at h
      split at h
      · injection h with h; omega
      · split at h
        · cases h
        · injection h with h; omega
    · split at h
      · exact hn _ _ h
      · split at h
        · exact hn _ _ h
        · injection h with h; omega
theorem wp_scope_label {P : Program} {a : Act} {w : World} {Q : Exit → Act → World → Prop} {c body : Code} (l : Nat) (J : Act → World → Prop) (μ : Act → World → Nat) (hf : findLabel c l = some (.seq .skip body))
    (pass : ∀ a w, J a w → body.wp P (Exit.jump l (fun a' w' => J a' w' ∧ μ a' w' < μ a w) Q) a w)
    (first : (∀ a w, J a w → body.wp P (Exit.jump l J Q) a w) → c.wp P (Exit.jump l J Q) a w) : (Code.scope c).wp P Q a w :=
  wp_scope_jumps l J μ hf (first (fun a w h => Code.wp_mono (fun e a' w' hq => by
    cases e with
    | goto l' => exact ⟨hq.1, hq.2.1⟩
    | normal => exact hq
    | exit id => exact hq
    | ret => exact hq
    | panic ch => exact hq
    | outgrown => exact hq) (pass a w h))) (fun a w h => wp_seq (wp_skip (pass a w h)))
end Go.Proofs.YtlmcdbegnjikdaaDoor
