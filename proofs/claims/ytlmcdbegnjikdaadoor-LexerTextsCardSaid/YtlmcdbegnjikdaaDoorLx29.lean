/- The lexer: the text of tokens: Join. (printed by gen/lx29.py) -/
import Derived.Test.YtlmcdbegnjikdaaDoorLx28
namespace Go.Proofs.YtlmcdbegnjikdaaDoor
set_option linter.unusedVariables false
set_option linter.unusedSimpArgs false
open Go.RowKit
attribute [local go_sem ↓] Go.wp_at_zero Go.wp_at_succ

structure JnW (w : World) (l : List Tok) (R : By × Int) (k : Nat) (acc : By) (wr : World) : Prop where
  isb : IsB w.heap.size w.heap.size acc wr
  blo : Below w.heap.size w wr
  len : acc.length ≤ 102 * k
  fut : jn (preOf l k) acc (l.drop k) = R
set_option maxRecDepth 100000 in
set_option maxHeartbeats 6400000 in
theorem join_eq (w : World) (sv : Value) (l : List Tok) (hrd : Rd ET w (fun _ => True) sv l) (hlen : l.length ≤ 30) (htx : ∀ t ∈ l, t.text.length ≤ 100) (R : By × Int) (hR : jn none [] l = R) :
    Calls Tryd.prog 14 #[sv] w fun e w' => e = .returned (.tuple #[.string (str R.1), .int .i64 R.2]) ∧ Below w.heap.size w w' := by
  obtain ⟨a, cap, e0, -⟩ := id hrd
  subst e0
  have HRD := Lib.hid hrd
  have HR := Lib.hid hR
  have HTX := Lib.hid htx
  clear hrd hR htx
  obtain ⟨N, hN⟩ : ∃ N, N = l.length := ⟨_, rfl⟩
  have HN := Lib.hid hN
  rw [← hN] at hlen ⊢
  clear hN
  go_enter Tryd.func14, Tryd.ntmps14
  go_wp2_with fail
  go_loopw [11] (fun iv wr => ∃ (k : Nat) (acc : By), iv = .int .i64 (k : Int) ∧ k ≤ N ∧ Hid (JnW w l R k acc wr)) (fun iv _ => N - (intOf iv).toNat)
  case atStart => exact ⟨0, [], rfl, Nat.zero_le _, Lib.hid ⟨.of (Lib.fresh_isBuilder _ _ _), Q.alloc (Below.refl _ _) _, by simp, HR.out⟩⟩
  case round =>
    obtain ⟨k, acc, rfl, hk, HJ⟩ := hrel
    have hws : w.heap.size ≤ wr.heap.size := HJ.out.blo.size
    by_cases hlt : k < N
    · have hki : (k : Int) < (N : Int) := by omega
      obtain ⟨b, off, cap', e1, hcap, hb, hcells⟩ := rd_tok HRD.out (by have := HN.out; omega)
      injection e1 with e1 _ e3
      subst e1 e3
      obtain ⟨t, ht⟩ : ∃ t, l[k]? = some t := ⟨_, List.getElem?_eq_getElem (by have := HN.out; omega)⟩
      obtain ⟨c0, c1, c2, c3, c4⟩ := hcells k t ht
      obtain ⟨kk, x, n, ln, c⟩ := t
      simp only at c0 c1 c2 c3 c4
      have cr : ∀ o v, w.cell? ⟨b, o, none⟩ = some v → wr.cell? ⟨b, o, none⟩ = some v := fun o v h => (HJ.out.blo.cell (p := ⟨b, o, none⟩) hb).trans h
      replace c0 := cr _ _ c0
      replace c1 := cr _ _ c1
      replace c2 := cr _ _ c2
      replace c3 := cr _ _ c3
      replace c4 := cr _ _ c4
      have hNc : N ≤ cap := by have := HN.out; omega
      have hbr : b < wr.heap.size := by omega
      have TX := fun V => lexText_eq V kk n ln c x (HTX.out _ (List.mem_of_getElem? ht))
      have HTL := Lib.hid (txt_len (t := ⟨kk, x, n, ln, c⟩) (HTX.out _ (List.mem_of_getElem? ht)))
      obtain ⟨tx, er, hte⟩ : ∃ tx er, txt ⟨kk, x, n, ln, c⟩ = (tx, er) := ⟨_, _, rfl⟩
      rw [hte] at TX HTL
      simp only at TX HTL
      have hdr : l.drop k = ⟨kk, x, n, ln, c⟩ :: l.drop (k + 1) := by
        obtain ⟨h1, h2⟩ := List.getElem?_eq_some_iff.1 ht
        rw [List.drop_eq_getElem_cons h1, h2]
      have hal := HJ.out.len
      by_cases he : er = 0
      · subst he
        have hfut : jn (some kk) (acc ++ (sep (preOf l k) kk ++ tx)) (l.drop (k + 1)) = R := by
          have h := HJ.out.fut
          rw [hdr, jn, hte, if_neg (by simp)] at h
          exact h
        have hpre : preOf l (k + 1) = some kk := by simp [preOf, ht]
        rw [← hpre] at hfut
        have HF := Lib.hid hfut
        clear hfut hpre hdr hte
        have NEXT : ∀ (V : World) (sp : By), sp = sep (preOf l k) kk → IsB w.heap.size w.heap.size (acc ++ (sp ++ tx)) V → Below w.heap.size w V → sp.length ≤ 1 → Hid (JnW w l R (k + 1) (acc ++ (sp ++ tx)) V) := fun V sp h1 h2 h3 h4 =>
          Lib.hid ⟨h2, h3, by have := HTL.out; simp only [List.length_append]; omega, by rw [h1]; exact HF.out⟩
        have NX := Lib.hid NEXT
        have hmes : N - (k + 1) < N - k := by omega
        clear NEXT
        have STEP : (sep (preOf l k) kk = [] ∧ (k = 0 ∨ kk = 4 ∨ ∃ (j : Nat) (pk : Int), (k : Int) - 1 = (j : Int) ∧ 0 < k ∧ wr.cell? ⟨b, off + j * 5, none⟩ = some (.int .i64 pk) ∧ pk = 4 ∧ kk ≠ 4 ∧ j < N)) ∨ (sep (preOf l k) kk = [32] ∧ ∃ (j : Nat) (pk : Int), (k : Int) - 1 = (j : Int) ∧ 0 < k ∧ wr.cell? ⟨b, off + j * 5, none⟩ = some (.int .i64 pk) ∧ pk ≠ 4 ∧ kk ≠ 4 ∧ j < N) := by
          by_cases k0 : k = 0
          · subst k0; exact .inl ⟨rfl, .inl rfl⟩
          · obtain ⟨j, rfl⟩ : ∃ j, k = j + 1 := ⟨k - 1, by omega⟩
            obtain ⟨t', ht'⟩ : ∃ t', l[j]? = some t' := ⟨_, List.getElem?_eq_getElem (by have := HN.out; omega)⟩
            have hp : preOf l (j + 1) = some t'.kind := by simp [preOf, ht']
            have hc := cr _ _ (hcells j t' ht').1
            rw [hp]
            by_cases k4 : kk = 4
            · exact .inl ⟨by simp [sep, k4], .inr (.inl k4)⟩
            · by_cases p4 : t'.kind = 4
              · exact .inl ⟨by simp [sep, p4], .inr (.inr ⟨j, t'.kind, by omega, by omega, hc, p4, k4, by omega⟩)⟩
              · exact .inr ⟨by simp [sep, p4, k4], j, t'.kind, by omega, by omega, hc, p4, k4, by omega⟩
        clear hcells cr ht
        have HBB := Lib.hid (fun V hV => builder_call HJ.out.isb (Q.call (Q.alloc (Below.refl _ wr) (.cells #[.int .i64 kk, .string (str x), .int .i64 n, .int .i64 ln, .int .i64 c] 37)) (w1 := V) hV))
        have HBL := Lib.hid (fun V hV => Q.call (Q.alloc HJ.out.blo (.cells #[.int .i64 kk, .string (str x), .int .i64 n, .int .i64 ln, .int .i64 c] 37)) (w1 := V) hV)
        rcases STEP with ⟨hsp, hw⟩ | ⟨hsp, j, pk, hj, hk0, hpc, hp4, hk4, hjN⟩
        · have HSP := Lib.hid hsp
          rcases hw with h0 | h4 | ⟨j, pk, hj, hk0, hpc, hp4, hk4, hjN⟩
          · have h0i : ¬ (0 : Int) < (k : Int) := by omega
            clear h0
            go_wp2_with (first
              | (go_at_call 12; (with_reducible refine (TX _).mono ?_); rintro e w1 ⟨rfl, hb1⟩; obtain ⟨hc1, hf1, hz1⟩ := bcell hb1; have hbz := hb1.size)
              | (go_at_call 25; (with_reducible refine (wstring_eq w.heap.size w.heap.size acc tx _ (HBB.out _ (by assumption)) (by omega) (by have := HTL.out; omega) (by simp at hbz; omega)).mono ?_); rintro e w2 ⟨rfl, hi2, hb2, hz2⟩))
            refine ⟨⟨k + 1, acc ++ ([] ++ tx), by go_num, by omega, NX.out _ [] HSP.out.symm hi2 (Below.trans (HBL.out _ (by assumption)) hb2) (by simp)⟩, by simp [intOf]; omega⟩
          · subst h4
            by_cases k0 : k = 0
            · have h0i : ¬ (0 : Int) < (k : Int) := by omega
              clear k0
              go_wp2_with (first
                | (go_at_call 12; (with_reducible refine (TX _).mono ?_); rintro e w1 ⟨rfl, hb1⟩; obtain ⟨hc1, hf1, hz1⟩ := bcell hb1; have hbz := hb1.size)
                | (go_at_call 25; (with_reducible refine (wstring_eq w.heap.size w.heap.size acc tx _ (HBB.out _ (by assumption)) (by omega) (by have := HTL.out; omega) (by simp at hbz; omega)).mono ?_); rintro e w2 ⟨rfl, hi2, hb2, hz2⟩))
              refine ⟨⟨k + 1, acc ++ ([] ++ tx), by go_num, by omega, NX.out _ [] HSP.out.symm hi2 (Below.trans (HBL.out _ (by assumption)) hb2) (by simp)⟩, by simp [intOf]; omega⟩
            · have hk0 : (0 : Int) < (k : Int) := by omega
              go_wp2_with (first
                | (go_at_call 12; (with_reducible refine (TX _).mono ?_); rintro e w1 ⟨rfl, hb1⟩; obtain ⟨hc1, hf1, hz1⟩ := bcell hb1; have hbz := hb1.size)
                | (go_at_call 25; (with_reducible refine (wstring_eq w.heap.size w.heap.size acc tx _ (HBB.out _ (by assumption)) (by omega) (by have := HTL.out; omega) (by simp at hbz; omega)).mono ?_); rintro e w2 ⟨rfl, hi2, hb2, hz2⟩))
              refine ⟨⟨k + 1, acc ++ ([] ++ tx), by go_num, by omega, NX.out _ [] HSP.out.symm hi2 (Below.trans (HBL.out _ (by assumption)) hb2) (by simp)⟩, by simp [intOf]; omega⟩
          · subst hp4
            have hk0i : (0 : Int) < (k : Int) := by omega
            have hb4 : (kk != 4) = true := by simp [hk4]
            go_wp2_with (first
              | (go_at_call 12; (with_reducible refine (TX _).mono ?_); rintro e w1 ⟨rfl, hb1⟩; obtain ⟨hc1, hf1, hz1⟩ := bcell hb1; have hbz := hb1.size)
              | (go_at_call 25; (with_reducible refine (wstring_eq w.heap.size w.heap.size acc tx _ (HBB.out _ (by assumption)) (by omega) (by have := HTL.out; omega) (by simp at hbz; omega)).mono ?_); rintro e w2 ⟨rfl, hi2, hb2, hz2⟩))
            refine ⟨⟨k + 1, acc ++ ([] ++ tx), by go_num, by omega, NX.out _ [] HSP.out.symm hi2 (Below.trans (HBL.out _ (by assumption)) hb2) (by simp)⟩, by simp [intOf]; omega⟩
        · have HSP := Lib.hid hsp
          have hk0i : (0 : Int) < (k : Int) := by omega
          have hb4 : (kk != 4) = true := by simp [hk4]
          have hp4b : (pk != 4) = true := by simp [hp4]
          go_wp2_with (first
            | (go_at_call 12; (with_reducible refine (TX _).mono ?_); rintro e w1 ⟨rfl, hb1⟩; obtain ⟨hc1, hf1, hz1⟩ := bcell hb1; have hbz := hb1.size)
            | (go_at_call 24; (with_reducible refine (wbyte_eq w.heap.size w.heap.size acc 32 32 rfl _ (HBB.out _ (by assumption)) (by omega) (by simp at hbz; omega)).mono ?_); rintro e w3 ⟨rfl, hi3, hb3, hz3⟩)
            | (go_at_call 25; (with_reducible refine (wstring_eq w.heap.size w.heap.size (acc ++ [32]) tx _ hi3 (by simp; omega) (by have := HTL.out; omega) (by simp at hbz; omega)).mono ?_); rintro e w2 ⟨rfl, hi2, hb2, hz2⟩))
          refine ⟨⟨k + 1, acc ++ ([32] ++ tx), by go_num, by omega, NX.out _ [32] HSP.out.symm (by rw [← List.append_assoc]; exact hi2) (Below.trans (Below.trans (HBL.out _ (by assumption)) hb3) hb2) (by simp)⟩, by simp [intOf]; omega⟩
      · have HR2 := Lib.hid (show R = ([], er) from by
          have h := HJ.out.fut
          rw [hdr, jn, hte, if_pos (by simpa using he)] at h
          exact h.symm)
        have heb : (er != 0) = true := by simp [he]
        clear hcells cr hdr ht he hte
        go_wp2_with (go_at_call 12; (with_reducible refine (TX _).mono ?_); rintro e w1 ⟨rfl, hb1⟩)
        go_ret2
        exact ⟨by rw [HR2.out]; rfl, Q.call (Q.alloc HJ.out.blo _) hb1⟩
    · have hki : ¬ (k : Int) < (N : Int) := by omega
      have hdr : l.drop k = [] := List.drop_eq_nil_of_le (by have := HN.out; omega)
      have HR2 := Lib.hid (show R = (acc, 0) from by
        have h := HJ.out.fut
        rw [hdr, jn] at h
        exact h.symm)
      clear hdr
      go_wp2_with (go_at_call 26; (with_reducible refine (bstring_eq w.heap.size w.heap.size acc _ HJ.out.isb hws).mono ?_); rintro e w1 ⟨rfl, hb1⟩)
      go_ret2
      exact ⟨by rw [HR2.out]; rfl, Below.trans HJ.out.blo hb1⟩
end Go.Proofs.YtlmcdbegnjikdaaDoor
