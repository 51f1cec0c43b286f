/- The law LexerTexts: the walk. (printed by gen/lx30.py) -/
import Derived.Test.YtlmcdbegnjikdaaDoorLx29
import Derived.Test.YtlmcdbegnjikdaaDoorLx23
namespace Go.Proofs.YtlmcdbegnjikdaaDoor
set_option linter.unusedVariables false
set_option linter.unusedSimpArgs false
open Go.RowKit
attribute [local go_sem ↓] Go.wp_at_zero Go.wp_at_succ
attribute [local go_sem high] cat_ok

theorem app3 (a t : By) : str a ++ ByteArray.mk #[32] ++ str t = str (a ++ ([32] ++ t)) := by
  rw [← List.append_assoc]
  exact (congrArg (· ++ str t) (str_app a [32])).trans (str_app _ _)
structure TvW (w : World) (l : List Tok) (R : By × Int) (k : Nat) (wb : ByteArray) (bad : Int) (wr : World) : Prop where
  blo : Below w.heap.size w wr
  sz : wb.size ≤ 101 * k
  tx : ∀ (j : Nat) (t : Tok), j < k → l[j]? = some t → t.text.length ≤ 100
  st : (bad = 0 ∧ ∃ acc, wb = str acc ∧ jn (preOf l k) acc (l.drop k) = R) ∨ (bad ≠ 0 ∧ R = ([], bad))
set_option maxRecDepth 100000 in
set_option maxHeartbeats 6400000 in
theorem texts_walk (w : World) (a : Option Addr) (len cap : Nat) (l : List Tok) (hrd0 : len = l.length ∧ Rd ET w (fun _ => True) (.slice a len cap) l) (hmax : len ≤ maxLen) (m : Int) (hm : w.cell? ⟨0, 0, none⟩ = some (.int .i64 m)) :
    Calls Tryd.prog 6 #[.slice a len cap] w fun e w' => e = .returned (.bool true) ∧ Below w.heap.size w w' := by
  obtain ⟨hN, hrd⟩ := hrd0
  have hml := World.block_lt_of_cell? w _ hm
  have MC := fun (V : World) (hV : Below w.heap.size w V) => (hV.cell (p := ⟨0, 0, none⟩) hml).trans hm
  have AW := fun (V : World) (hV : Below w.heap.size w V) => awake_eq V m (MC V hV)
  by_cases h30 : 30 < len
  · have h30i : (30 : Int) < (len : Int) := by omega
    clear hm hml MC hrd
    go_enter Tryd.func6, Tryd.ntmps6
    go_wp2_with (go_at_call 7; (with_reducible refine (AW _ (by repeat' (first | with_reducible exact Below.refl _ _ | with_reducible assumption | with_reducible refine Q.alloc ?_ _ | with_reducible refine Q.drew ?_ | with_reducible refine Q.drewN ?_ _ | with_reducible refine Q.call ?_ (by assumption)))).mono ?_); rintro e w9 ⟨rfl, hb9⟩)
    go_ret
    exact ⟨rfl, hb9⟩
  have h30i : ¬ (30 : Int) < (len : Int) := by omega
  obtain ⟨R, hR⟩ : ∃ R, jn none [] l = R := ⟨_, rfl⟩
  have JN := fun (V : World) (hV : Below w.heap.size w V) (ht : ∀ t ∈ l, t.text.length ≤ 100) => join_eq V (.slice a len cap) l (hrd.below hV) (by omega) ht R hR
  have HR := Lib.hid hR
  have HRD := Lib.hid hrd
  have HN := Lib.hid hN
  clear hm hml MC hrd hR hN
  go_enter Tryd.func6, Tryd.ntmps6
  go_wp2_with fail
  go_loopw [3, 4, 5] (fun wv bv iv wr => ∃ (k : Nat) (wb : ByteArray) (bad : Int), iv = .int .i64 (k : Int) ∧ wv = .string wb ∧ bv = .int .i64 bad ∧ k ≤ len ∧ Hid (TvW w l R k wb bad wr)) (fun _ _ iv _ => len - (intOf iv).toNat)
  case atStart => exact ⟨0, _, 0, rfl, rfl, rfl, Nat.zero_le _, Lib.hid ⟨Below.refl _ _, by decide, fun j t h => absurd h (by omega), .inl ⟨rfl, [], rfl, HR.out⟩⟩⟩
  case round =>
    obtain ⟨k, wb, bad, rfl, rfl, rfl, hk, HJ⟩ := hrel
    have HBW := Lib.hid HJ.out.blo
    have hws : w.heap.size ≤ wr.heap.size := HJ.out.blo.size
    by_cases hlt : k < len
    · have hki : (k : Int) < (len : Int) := by omega
      obtain ⟨b, off, cap', e1, hcap, hb, hcells⟩ := rd_tok HRD.out (by have := HN.out; omega)
      injection e1 with e1 e2 e3
      clear e2
      subst e1 e3
      obtain ⟨t, ht⟩ : ∃ t, l[k]? = some t := ⟨_, List.getElem?_eq_getElem (by have := HN.out; omega)⟩
      obtain ⟨c0, c1, c2, c3, c4⟩ := hcells k t ht
      obtain ⟨kk, x, n, ln, c⟩ := t
      simp only at c0 c1 c2 c3 c4
      have cr : ∀ o v, w.cell? ⟨b, o, none⟩ = some v → wr.cell? ⟨b, o, none⟩ = some v := fun o v h => (HJ.out.blo.cell (p := ⟨b, o, none⟩) hb).trans h
      replace c0 := cr _ _ c0
      replace c1 := cr _ _ c1
      replace c2 := cr _ _ c2
      replace c3 := cr _ _ c3
      replace c4 := cr _ _ c4
      have hNc : len ≤ cap := by have := HN.out; omega
      have hbr : b < wr.heap.size := by omega
      by_cases hlong : 100 < x.length
      · have hli : (100 : Int) < ((str x).size : Int) := by rw [str_size]; omega
        have hbl := HJ.out.blo
        clear hcells cr ht
        go_wp2_with (go_at_call 7; (with_reducible refine (AW _ (by repeat' (first | with_reducible exact Below.refl _ _ | with_reducible assumption | with_reducible refine Q.alloc ?_ _ | with_reducible refine Q.drew ?_ | with_reducible refine Q.drewN ?_ _ | with_reducible refine Q.call ?_ (by assumption)))).mono ?_); rintro e w9 ⟨rfl, hb9⟩)
        go_ret
        exact ⟨rfl, (by repeat' (first | with_reducible exact Below.refl _ _ | with_reducible assumption | with_reducible refine Q.alloc ?_ _ | with_reducible refine Q.drew ?_ | with_reducible refine Q.drewN ?_ _ | with_reducible refine Q.call ?_ (by assumption)))⟩
      have hli : ¬ (100 : Int) < ((str x).size : Int) := by rw [str_size]; omega
      have TX := fun V => lexText_eq V kk n ln c x (by omega)
      have TY := fun V => refText_eq V kk n ln c x (by omega)
      have HTL := Lib.hid (txt_len (t := ⟨kk, x, n, ln, c⟩) (by simp only; omega))
      obtain ⟨tx, er, hte⟩ : ∃ tx er, txt ⟨kk, x, n, ln, c⟩ = (tx, er) := ⟨_, _, rfl⟩
      rw [hte] at TX TY HTL
      simp only at TX TY HTL
      have hmes : len - (k + 1) < len - k := by omega
      have HTT := Lib.hid (show ∀ (j : Nat) (t : Tok), j < k + 1 → l[j]? = some t → t.text.length ≤ 100 from fun j t hj hjt => by
        by_cases h : j = k
        · subst h; rw [ht] at hjt; injection hjt with hjt; subst hjt; simp only; omega
        · exact HJ.out.tx j t (by omega) hjt)
      have hsz := HJ.out.sz
      by_cases hbad : bad = 0
      · subst hbad
        obtain ⟨acc, hwb, hfut0⟩ := (HJ.out.st.resolve_right (fun h => h.1 rfl)).2
        have hdr : l.drop k = ⟨kk, x, n, ln, c⟩ :: l.drop (k + 1) := by
          obtain ⟨h1, h2⟩ := List.getElem?_eq_some_iff.1 ht
          rw [List.drop_eq_getElem_cons h1, h2]
        have hfut : (er = 0 ∧ jn (some kk) (acc ++ (sep (preOf l k) kk ++ tx)) (l.drop (k + 1)) = R) ∨ (er ≠ 0 ∧ R = ([], er)) := by
          have h := hfut0
          rw [hdr, jn, hte] at h
          by_cases he : er = 0
          · rw [if_neg (by simpa using he)] at h
            exact .inl ⟨he, h⟩
          · rw [if_pos (by simpa using he)] at h
            exact .inr ⟨he, h.symm⟩
        have hpre : preOf l (k + 1) = some kk := by simp [preOf, ht]
        rw [← hpre] at hfut
        have HF := Lib.hid hfut
        have HWB := Lib.hid hwb
        clear hfut hpre hdr hte hfut0
        have NEXT : ∀ (V : World) (B : ByteArray) (sp : By), sp = sep (preOf l k) kk → B = str (acc ++ (sp ++ tx)) → Below w.heap.size w V → Hid (TvW w l R (k + 1) B er V) := fun V B sp h1 h2 h3 =>
          Lib.hid ⟨h3, by
            have := HTL.out
            have h4 : sp.length ≤ 1 := by rw [h1]; unfold sep; split <;> (try split) <;> simp
            have h5 : acc.length ≤ 101 * k := by have := hsz; rw [HWB.out, str_size] at this; exact this
            rw [h2, str_size]; simp only [List.length_append]; omega, HTT.out, by
            rcases HF.out with ⟨h5, h6⟩ | h5
            · exact .inl ⟨h5, _, h2, by rw [h1]; exact h6⟩
            · exact .inr h5⟩
        have NX := Lib.hid NEXT
        clear NEXT
        have hs1 : wb.size ≤ 1000000 := by omega
        have hs2 : (str tx).size ≤ 1000000 := by rw [str_size]; have := HTL.out; omega
        have hs3 : (wb ++ ByteArray.mk #[32]).size ≤ 1000000 := by rw [hwb, show ByteArray.mk #[32] = str [32] from rfl, str_app, str_size]; rw [hwb, str_size] at hsz; simp only [List.length_append, List.length_cons, List.length_nil]; omega
        clear hwb
        have STEP : (sep (preOf l k) kk = [] ∧ (k = 0 ∨ kk = 4 ∨ ∃ (j : Nat) (pk : Int), (k : Int) - 1 = (j : Int) ∧ 0 < k ∧ wr.cell? ⟨b, off + j * 5, none⟩ = some (.int .i64 pk) ∧ pk = 4 ∧ kk ≠ 4 ∧ j < len)) ∨ (sep (preOf l k) kk = [32] ∧ ∃ (j : Nat) (pk : Int), (k : Int) - 1 = (j : Int) ∧ 0 < k ∧ wr.cell? ⟨b, off + j * 5, none⟩ = some (.int .i64 pk) ∧ pk ≠ 4 ∧ kk ≠ 4 ∧ j < len) := by
          by_cases k0 : k = 0
          · subst k0; exact .inl ⟨rfl, .inl rfl⟩
          · obtain ⟨j, rfl⟩ : ∃ j, k = j + 1 := ⟨k - 1, by omega⟩
            obtain ⟨t', ht'⟩ : ∃ t', l[j]? = some t' := ⟨_, List.getElem?_eq_getElem (by have := HN.out; omega)⟩
            have hp : preOf l (j + 1) = some t'.kind := by simp [preOf, ht']
            have hc := cr _ _ (hcells j t' ht').1
            rw [hp]
            by_cases k4 : kk = 4
            · exact .inl ⟨by simp [sep, k4], .inr (.inl k4)⟩
            · by_cases p4 : t'.kind = 4
              · exact .inl ⟨by simp [sep, p4], .inr (.inr ⟨j, t'.kind, by omega, by omega, hc, p4, k4, by omega⟩)⟩
              · exact .inr ⟨by simp [sep, p4, k4], j, t'.kind, by omega, by omega, hc, p4, k4, by omega⟩
        clear hcells cr ht hsz
        rcases STEP with ⟨hsp, hw⟩ | ⟨hsp, j, pk, hj, hk0, hpc, hp4, hk4, hjN⟩
        · have HSP := Lib.hid hsp
          clear hsp
          rcases hw with h0 | h4 | ⟨j, pk, hj, hk0, hpc, hp4, hk4, hjN⟩
          · have h0i : ¬ (0 : Int) < (k : Int) := by omega
            clear h0
            go_wp2_with (first
              | (go_at_call 12; (with_reducible refine (TX _).mono ?_); rintro e w1 ⟨rfl, hb1⟩; obtain ⟨hc1, hf1, hz1⟩ := bcell hb1)
              | (go_at_call 10; (with_reducible refine (plain_eq _ _ _ _ _ _).mono ?_); rintro e w2 ⟨rfl, hb2⟩; obtain ⟨hc2, hf2, hz2⟩ := bcell hb2)
              | (go_at_call 13; (with_reducible refine (TY _).mono ?_); rintro e w3 ⟨rfl, hb3⟩; obtain ⟨hc3, hf3, hz3⟩ := bcell hb3; have d0 := (hc3 b _ (by omega)).trans ((hc2 b _ (by omega)).trans ((hc1 b _ hbr).trans c0)); try (have dj := (hc3 b _ (by omega)).trans ((hc2 b _ (by omega)).trans ((hc1 b _ hbr).trans hpc))))) 
            refine ⟨?_, by simp [intOf]; omega⟩
            refine ⟨k + 1, _, er, by go_num, rfl, rfl, by omega, NX.out _ _ [] HSP.out.symm (by rw [HWB.out, str_app]; rfl) (Q.call (Q.call (Q.call HBW.out hb1) hb2) hb3)⟩
          · subst h4
            by_cases k0 : k = 0
            · have h0i : ¬ (0 : Int) < (k : Int) := by omega
              clear k0
              go_wp2_with (first
                | (go_at_call 12; (with_reducible refine (TX _).mono ?_); rintro e w1 ⟨rfl, hb1⟩; obtain ⟨hc1, hf1, hz1⟩ := bcell hb1)
                | (go_at_call 10; (with_reducible refine (plain_eq _ _ _ _ _ _).mono ?_); rintro e w2 ⟨rfl, hb2⟩; obtain ⟨hc2, hf2, hz2⟩ := bcell hb2)
                | (go_at_call 13; (with_reducible refine (TY _).mono ?_); rintro e w3 ⟨rfl, hb3⟩; obtain ⟨hc3, hf3, hz3⟩ := bcell hb3; have d0 := (hc3 b _ (by omega)).trans ((hc2 b _ (by omega)).trans ((hc1 b _ hbr).trans c0)); try (have dj := (hc3 b _ (by omega)).trans ((hc2 b _ (by omega)).trans ((hc1 b _ hbr).trans hpc))))) 
              refine ⟨?_, by simp [intOf]; omega⟩
              refine ⟨k + 1, _, er, by go_num, rfl, rfl, by omega, NX.out _ _ [] HSP.out.symm (by rw [HWB.out, str_app]; rfl) (Q.call (Q.call (Q.call HBW.out hb1) hb2) hb3)⟩
            · have hk0 : (0 : Int) < (k : Int) := by omega
              go_wp2_with (first
                | (go_at_call 12; (with_reducible refine (TX _).mono ?_); rintro e w1 ⟨rfl, hb1⟩; obtain ⟨hc1, hf1, hz1⟩ := bcell hb1)
                | (go_at_call 10; (with_reducible refine (plain_eq _ _ _ _ _ _).mono ?_); rintro e w2 ⟨rfl, hb2⟩; obtain ⟨hc2, hf2, hz2⟩ := bcell hb2)
                | (go_at_call 13; (with_reducible refine (TY _).mono ?_); rintro e w3 ⟨rfl, hb3⟩; obtain ⟨hc3, hf3, hz3⟩ := bcell hb3; have d0 := (hc3 b _ (by omega)).trans ((hc2 b _ (by omega)).trans ((hc1 b _ hbr).trans c0)); try (have dj := (hc3 b _ (by omega)).trans ((hc2 b _ (by omega)).trans ((hc1 b _ hbr).trans hpc))))) 
              refine ⟨?_, by simp [intOf]; omega⟩
              refine ⟨k + 1, _, er, by go_num, rfl, rfl, by omega, NX.out _ _ [] HSP.out.symm (by rw [HWB.out, str_app]; rfl) (Q.call (Q.call (Q.call HBW.out hb1) hb2) hb3)⟩
          · subst hp4
            have hk0i : (0 : Int) < (k : Int) := by omega
            have hb4 : (kk != 4) = true := by simp [hk4]
            go_wp2_with (first
              | (go_at_call 12; (with_reducible refine (TX _).mono ?_); rintro e w1 ⟨rfl, hb1⟩; obtain ⟨hc1, hf1, hz1⟩ := bcell hb1)
              | (go_at_call 10; (with_reducible refine (plain_eq _ _ _ _ _ _).mono ?_); rintro e w2 ⟨rfl, hb2⟩; obtain ⟨hc2, hf2, hz2⟩ := bcell hb2)
              | (go_at_call 13; (with_reducible refine (TY _).mono ?_); rintro e w3 ⟨rfl, hb3⟩; obtain ⟨hc3, hf3, hz3⟩ := bcell hb3; have d0 := (hc3 b _ (by omega)).trans ((hc2 b _ (by omega)).trans ((hc1 b _ hbr).trans c0)); try (have dj := (hc3 b _ (by omega)).trans ((hc2 b _ (by omega)).trans ((hc1 b _ hbr).trans hpc))))) 
            refine ⟨?_, by simp [intOf]; omega⟩
            refine ⟨k + 1, _, er, by go_num, rfl, rfl, by omega, NX.out _ _ [] HSP.out.symm (by rw [HWB.out, str_app]; rfl) (Q.call (Q.call (Q.call HBW.out hb1) hb2) hb3)⟩
        · have HSP := Lib.hid hsp
          clear hsp
          have hk0i : (0 : Int) < (k : Int) := by omega
          have hb4 : (kk != 4) = true := by simp [hk4]
          have hp4b : (pk != 4) = true := by simp [hp4]
          go_wp2_with (first
            | (go_at_call 12; (with_reducible refine (TX _).mono ?_); rintro e w1 ⟨rfl, hb1⟩; obtain ⟨hc1, hf1, hz1⟩ := bcell hb1)
            | (go_at_call 10; (with_reducible refine (plain_eq _ _ _ _ _ _).mono ?_); rintro e w2 ⟨rfl, hb2⟩; obtain ⟨hc2, hf2, hz2⟩ := bcell hb2)
            | (go_at_call 13; (with_reducible refine (TY _).mono ?_); rintro e w3 ⟨rfl, hb3⟩; obtain ⟨hc3, hf3, hz3⟩ := bcell hb3; have d0 := (hc3 b _ (by omega)).trans ((hc2 b _ (by omega)).trans ((hc1 b _ hbr).trans c0)); try (have dj := (hc3 b _ (by omega)).trans ((hc2 b _ (by omega)).trans ((hc1 b _ hbr).trans hpc))))) 
          refine ⟨?_, by simp [intOf]; omega⟩
          refine ⟨k + 1, _, er, by go_num, rfl, rfl, by omega, NX.out _ _ [32] HSP.out.symm (by rw [HWB.out]; exact app3 acc tx) (Q.call (Q.call (Q.call HBW.out hb1) hb2) hb3)⟩
      · have hb0 : (bad != 0) = true := by simp [hbad]
        have NX := Lib.hid (fun V hV => (⟨hV, by have := HJ.out.sz; omega, HTT.out, HJ.out.st.elim (fun h => absurd h.1 hbad) .inr⟩ : TvW w l R (k + 1) wb bad V))
        clear hcells cr ht hte hbad
        go_wp2_with (first
          | (go_at_call 12; (with_reducible refine (TX _).mono ?_); rintro e w1 ⟨rfl, hb1⟩; obtain ⟨hc1, hf1, hz1⟩ := bcell hb1)
          | (go_at_call 10; (with_reducible refine (plain_eq _ _ _ _ _ _).mono ?_); rintro e w2 ⟨rfl, hb2⟩; obtain ⟨hc2, hf2, hz2⟩ := bcell hb2)
          | (go_at_call 13; (with_reducible refine (TY _).mono ?_); rintro e w3 ⟨rfl, hb3⟩; obtain ⟨hc3, hf3, hz3⟩ := bcell hb3; have d0 := (hc3 b _ (by omega)).trans ((hc2 b _ (by omega)).trans ((hc1 b _ hbr).trans c0)); try (have dj := (hc3 b _ (by omega)).trans ((hc2 b _ (by omega)).trans ((hc1 b _ hbr).trans hpc))))) 
        refine ⟨?_, by simp [intOf]; omega⟩
        first | (refine ⟨k + 1, wb, bad, by go_num, rfl, rfl, by omega, Lib.hid (NX.out _ (Q.call (Q.call (Q.call HBW.out hb1) hb2) hb3))⟩) | ((repeat apply Exists.intro); refine ⟨?_, rfl⟩; refine ⟨k + 1, wb, bad, by go_num, rfl, rfl, by omega, Lib.hid (NX.out _ (Q.call (Q.call (Q.call HBW.out hb1) hb2) hb3))⟩)
    · have hki : ¬ (k : Int) < (len : Int) := by omega
      have hdr : l.drop k = [] := List.drop_eq_nil_of_le (by have := HN.out; omega)
      have hall : ∀ t ∈ l, t.text.length ≤ 100 := fun t ht => by
        obtain ⟨j, hj, hjt⟩ := List.getElem_of_mem ht
        exact HJ.out.tx j t (by have := HN.out; omega) (by rw [List.getElem?_eq_getElem hj, hjt])
      have JC := JN wr HJ.out.blo hall
      have hbl := HJ.out.blo
      by_cases hbad : bad = 0
      · subst hbad
        obtain ⟨acc, hwb, hfut0⟩ := (HJ.out.st.resolve_right (fun h => h.1 rfl)).2
        rw [hdr, jn] at hfut0
        subst hwb
        subst hfut0
        simp only at JC
        clear hdr hall JN
        go_wp2_with (first
          | (go_at_call 14; (with_reducible refine JC.mono ?_); rintro e w1 ⟨rfl, hb1⟩)
          | (go_at_call 7; (with_reducible refine (AW _ (by repeat' (first | with_reducible exact Below.refl _ _ | with_reducible assumption | with_reducible refine Q.alloc ?_ _ | with_reducible refine Q.drew ?_ | with_reducible refine Q.drewN ?_ _ | with_reducible refine Q.call ?_ (by assumption)))).mono ?_); rintro e w9 ⟨rfl, hb9⟩))
        go_ret
        exact ⟨rfl, (by repeat' (first | with_reducible exact Below.refl _ _ | with_reducible assumption | with_reducible refine Q.alloc ?_ _ | with_reducible refine Q.drew ?_ | with_reducible refine Q.drewN ?_ _ | with_reducible refine Q.call ?_ (by assumption)))⟩
      · have hb0 : (bad != 0) = true := by simp [hbad]
        have hR2 := (HJ.out.st.resolve_left (fun h => hbad h.1)).2
        subst hR2
        simp only at JC
        have he : (str ([] : By)).toList.isEmpty = true := by decide +kernel
        clear hdr hall JN hbad
        go_wp2_with (first
          | (go_at_call 14; (with_reducible refine JC.mono ?_); rintro e w1 ⟨rfl, hb1⟩)
          | (go_at_call 7; (with_reducible refine (AW _ (by repeat' (first | with_reducible exact Below.refl _ _ | with_reducible assumption | with_reducible refine Q.alloc ?_ _ | with_reducible refine Q.drew ?_ | with_reducible refine Q.drewN ?_ _ | with_reducible refine Q.call ?_ (by assumption)))).mono ?_); rintro e w9 ⟨rfl, hb9⟩))
        go_ret
        exact ⟨rfl, (by repeat' (first | with_reducible exact Below.refl _ _ | with_reducible assumption | with_reducible refine Q.alloc ?_ _ | with_reducible refine Q.drew ?_ | with_reducible refine Q.drewN ?_ _ | with_reducible refine Q.call ?_ (by assumption)))⟩
end Go.Proofs.YtlmcdbegnjikdaaDoor
