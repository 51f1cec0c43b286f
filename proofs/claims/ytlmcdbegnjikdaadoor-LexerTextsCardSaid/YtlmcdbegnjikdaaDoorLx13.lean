/- The lexer: the chapter's example; two rows of tokens that are the same but for places. -/
import Derived.Test.YtlmcdbegnjikdaaDoorLx12
namespace Go.Proofs.YtlmcdbegnjikdaaDoor
set_option linter.unusedVariables false
set_option linter.unusedSimpArgs false
open Go.RowKit
attribute [local go_sem ↓] Go.wp_at_zero Go.wp_at_succ

/-- A row of one's own that is not empty. -/
theorem own_form {w : World} {B e size n : Nat} {v : Value} {xs : List Value} (h : w.ownsRow B e size v n xs) (hn : 0 < n) :
    ∃ g cap, v = .slice (some ⟨g, 0, none⟩) n cap ∧ n ≤ cap ∧ g < w.heap.size ∧ B ≤ g ∧ ∀ j u, xs[j]? = some u → w.cell? ⟨g, j, none⟩ = some u := by
  rcases h.2 with ⟨rfl, hx⟩ | ⟨g, cap, cur, rfl, hB, hg, hc, hrest⟩
  · omega
  · refine ⟨g, cap, rfl, hc, (Array.getElem?_eq_some_iff.1 hg).1, hB, fun j u hu => ?_⟩
    have := h.cells (g := g) rfl j u hu
    rw [add_of, Nat.zero_add] at this
    exact this
theorem own_zero {w : World} {B e size : Nat} {v : Value} {xs : List Value} (h : w.ownsRow B e size v 0 xs) : ∃ a cap, v = .slice a 0 cap := by
  obtain ⟨a, cap, rfl, _⟩ := own_slice h
  exact ⟨a, cap, rfl⟩
/-- The cells of token k. -/
theorem tok_cells {w : World} {g : Nat} {l : List Tok} (h : ∀ j u, (ET.row l)[j]? = some u → w.cell? ⟨g, j, none⟩ = some u) {k : Nat} {t : Tok} (ht : l[k]? = some t) :
    w.cell? ⟨g, k * 5, none⟩ = some (.int .i64 t.kind) ∧ w.cell? ⟨g, k * 5 + 1, none⟩ = some (.string (str t.text)) ∧ w.cell? ⟨g, k * 5 + 2, none⟩ = some (.int .i64 t.n) ∧ w.cell? ⟨g, k * 5 + 3, none⟩ = some (.int .i64 t.line) ∧ w.cell? ⟨g, k * 5 + 4, none⟩ = some (.int .i64 t.col) := by
  refine ⟨?_, ?_, ?_, ?_, ?_⟩
  · exact h (k * 5 + 0) _ ((ET.row_get l k t ht 0 (by decide)).trans rfl)
  · exact h (k * 5 + 1) _ ((ET.row_get l k t ht 1 (by decide)).trans rfl)
  · exact h (k * 5 + 2) _ ((ET.row_get l k t ht 2 (by decide)).trans rfl)
  · exact h (k * 5 + 3) _ ((ET.row_get l k t ht 3 (by decide)).trans rfl)
  · exact h (k * 5 + 4) _ ((ET.row_get l k t ht 4 (by decide)).trans rfl)
theorem text_ok (w : World) (s : ByteArray) (m : Int) (hm : w.cell? ⟨0, 0, none⟩ = some (.int .i64 m)) (hs : s.size ≤ 65536) (l : List Tok) (h : text s.data.toList = .ok l) :
    Calls Tryd.prog 8 #[.string s] w fun e w' => ∃ sv, e = .returned (.tuple #[sv, .agg #[.int .i64 0, .int .i64 0], .int .i64 0]) ∧ w'.ownsRow w.heap.size 37 5 sv l.length (ET.row l) ∧ Below w.heap.size w w' :=
  (text_eq w s m hm hs).mono fun e w' hp => by unfold TextPost at hp; rw [h] at hp; exact hp
theorem text_bad (w : World) (s : ByteArray) (m : Int) (hm : w.cell? ⟨0, 0, none⟩ = some (.int .i64 m)) (hs : s.size ≤ 65536) (l c er : Int) (h : text s.data.toList = .bad l c er) :
    Calls Tryd.prog 8 #[.string s] w fun e w' => e = .returned (.tuple #[.slice none 0 0, .agg #[.int .i64 l, .int .i64 c], .int .i64 er]) ∧ Below w.heap.size w w' :=
  (text_eq w s m hm hs).mono fun e w' hp => by unfold TextPost at hp; rw [h] at hp; exact hp
abbrev awk : ByteArray := ⟨#[115, 101, 99, 114, 101, 116, 32, 36, 48, 50, 48, 48, 46, 46, 36, 48, 50, 102, 102, 32, 35, 32, 120]⟩
def awkT : List Tok := [⟨1, [115, 101, 99, 114, 101, 116], 0, 1, 1⟩, ⟨2, [], 512, 1, 8⟩, ⟨3, [], 0, 1, 13⟩, ⟨2, [], 767, 1, 15⟩, ⟨4, [], 0, 1, 20⟩]
theorem awk_text : text awk.data.toList = .ok awkT := by decide +kernel
set_option maxRecDepth 100000 in
set_option maxHeartbeats 3200000 in
theorem awake_eq (w : World) (m : Int) (hm : w.cell? ⟨0, 0, none⟩ = some (.int .i64 m)) : Calls Tryd.prog 7 #[] w fun e w' => e = .returned (.bool true) ∧ Below w.heap.size w w' := by
  have SC := text_ok w awk m hm (by decide) awkT awk_text
  clear hm
  go_enter Tryd.func7, Tryd.ntmps7
  go_wp2_with (go_at_call 8; (with_reducible refine SC.mono ?_); rintro e w1 ⟨sv, rfl, hown, hb⟩; refine Hid.out ?_)
  refine Lib.hid ?_
  obtain ⟨g, cap, rfl, hcap, hg, _, hcell⟩ := own_form hown (by decide)
  have hcap' : 5 ≤ cap := hcap
  obtain ⟨a0, a1, a2, a3, a4⟩ := tok_cells hcell (k := 0) (t := ⟨1, [115, 101, 99, 114, 101, 116], 0, 1, 1⟩) rfl
  have b2 := (tok_cells hcell (k := 1) (t := ⟨2, [], 512, 1, 8⟩) rfl).2.2.1
  have d2 := (tok_cells hcell (k := 3) (t := ⟨2, [], 767, 1, 15⟩) rfl).2.2.1
  obtain ⟨e0, e1, e2, e3, e4⟩ := tok_cells hcell (k := 4) (t := ⟨4, [], 0, 1, 20⟩) rfl
  have a1' : w1.cell? ⟨g, 1, none⟩ = some (.string ⟨#[115, 101, 99, 114, 101, 116]⟩) := a1
  have e1' : w1.cell? ⟨g, 21, none⟩ = some (.string ⟨#[]⟩) := e1
  have HB := Lib.hid hb
  rw [show awkT.length = 5 from rfl]
  clear hown hb hcell SC hcap a1 e1
  go_wp2_with fail
  go_ret
  exact ⟨rfl, Q.alloc HB.out _⟩
set_option maxHeartbeats 1600000 in
theorem bare_eq (w : World) (k n ln c : Int) (x : ByteArray) : Calls Tryd.prog 18 #[.agg #[.int .i64 k, .string x, .int .i64 n, .int .i64 ln, .int .i64 c]] w fun e w' => e = .returned (.agg #[.int .i64 k, .string x, .int .i64 n, .int .i64 0, .int .i64 0]) ∧ Below w.heap.size w w' := by
  go_enter Tryd.func18, Tryd.ntmps18
  go_wp2
  go_returns
  exact ⟨rfl, Q.alloc (Q.alloc (Below.refl _ _) _) _⟩
end Go.Proofs.YtlmcdbegnjikdaaDoor
