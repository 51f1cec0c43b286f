/- The law LexerBlanks: the walk. (printed by gen/lx16.py) -/
import Derived.Test.YtlmcdbegnjikdaaDoorLx14
import Derived.Test.YtlmcdbegnjikdaaDoorLx15
namespace Go.Proofs.YtlmcdbegnjikdaaDoor
set_option linter.unusedVariables false
set_option linter.unusedSimpArgs false
open Go.RowKit
attribute [local go_sem ↓] Go.wp_at_zero Go.wp_at_succ

theorem str_app (a b : By) : str a ++ str b = str (a ++ b) := by
  unfold str
  apply ByteArray.ext
  simp
theorem str_size (l : By) : (str l).size = l.length := by simp [str, ByteArray.size]
theorem str_data (l : By) : (str l).data.toList = l := rfl
theorem str_of (s : ByteArray) : str s.data.toList = s := by cases s; simp [str]
theorem size_len (s : ByteArray) : s.size = s.data.toList.length := by simp
theorem scan_len : ∀ (ls : List By) (n : Int) (out res : List Tok), scan n ls out = .ok res → res.length ≤ out.length + 1001 * ls.length
  | [], n, out, res, h => by injection h with h; subst h; simp
  | l :: ls, n, out, res, h => by
    unfold scan at h
    cases hL : lineT n l with
    | bad c e => rw [hL] at h; cases h
    | ok x =>
      rw [hL] at h
      have h1 := lineT_len hL
      have h2 := scan_len ls _ _ _ h
      simp only [List.length_append, List.length_cons] at h2 ⊢
      omega
theorem text_len (x : ByteArray) (hx : x.size ≤ 65536) {l : List Tok} (h : text x.data.toList = .ok l) : l.length ≤ 1000000000 := by
  have h1 := scan_len _ _ _ _ h
  have h2 := lines_count x.data.toList
  have h3 : x.data.toList.length = x.size := by simp
  simp only [List.length_nil] at h1
  omega
theorem cat_ok {P : Program} (w : World) (a b : ByteArray) (ha : a.size ≤ 1000000) (hb : b.size ≤ 1000000) : (Op.stringOp .add a b).run P w = .ok (.string (a ++ b)) w := by
  rw [run_string_add_if, if_neg (by omega)]
attribute [local go_sem high] cat_ok
set_option maxRecDepth 100000 in
set_option maxHeartbeats 6400000 in
theorem blanks_walk (w : World) (s r : ByteArray) (n m : Int) (hm : w.cell? ⟨0, 0, none⟩ = some (.int .i64 m)) :
    Calls Tryd.prog 4 #[.string s, .string r, .int .i64 n] w fun e w' => e = .returned (.bool true) ∧ Below w.heap.size w w' := by
  have hml := World.block_lt_of_cell? w _ hm
  have MC := fun (V : World) (hV : Below w.heap.size w V) => (hV.cell (p := ⟨0, 0, none⟩) hml).trans hm
  have AW := fun (V : World) (hV : Below w.heap.size w V) => awake_eq V m (MC V hV)
  clear hm hml
  by_cases h1 : 2000 < (s.size : Int)
  · go_enter Tryd.func4, Tryd.ntmps4
    go_wp2_with (go_at_call 7; (with_reducible refine (AW _ (by repeat' (first | with_reducible exact Below.refl _ _ | with_reducible assumption | with_reducible refine Q.alloc ?_ _ | with_reducible refine Q.drew ?_ | with_reducible refine Q.drewN ?_ _ | with_reducible refine Q.call ?_ (by assumption)))).mono ?_); rintro e w9 ⟨rfl, hb9⟩)
    go_ret
    exact ⟨rfl, hb9⟩
  by_cases h2 : 50 < (r.size : Int)
  · go_enter Tryd.func4, Tryd.ntmps4
    go_wp2_with (go_at_call 7; (with_reducible refine (AW _ (by repeat' (first | with_reducible exact Below.refl _ _ | with_reducible assumption | with_reducible refine Q.alloc ?_ _ | with_reducible refine Q.drew ?_ | with_reducible refine Q.drewN ?_ _ | with_reducible refine Q.call ?_ (by assumption)))).mono ?_); rintro e w9 ⟨rfl, hb9⟩)
    go_ret
    exact ⟨rfl, hb9⟩
  by_cases h3 : n < 0
  · go_enter Tryd.func4, Tryd.ntmps4
    go_wp2_with (go_at_call 7; (with_reducible refine (AW _ (by repeat' (first | with_reducible exact Below.refl _ _ | with_reducible assumption | with_reducible refine Q.alloc ?_ _ | with_reducible refine Q.drew ?_ | with_reducible refine Q.drewN ?_ _ | with_reducible refine Q.call ?_ (by assumption)))).mono ?_); rintro e w9 ⟨rfl, hb9⟩)
    go_ret
    exact ⟨rfl, hb9⟩
  by_cases h4 : 20 < n
  · go_enter Tryd.func4, Tryd.ntmps4
    go_wp2_with (go_at_call 7; (with_reducible refine (AW _ (by repeat' (first | with_reducible exact Below.refl _ _ | with_reducible assumption | with_reducible refine Q.alloc ?_ _ | with_reducible refine Q.drew ?_ | with_reducible refine Q.drewN ?_ _ | with_reducible refine Q.call ?_ (by assumption)))).mono ?_); rintro e w9 ⟨rfl, hb9⟩)
    go_ret
    exact ⟨rfl, hb9⟩
  obtain ⟨nn, rfl⟩ : ∃ nn : Nat, n = nn := ⟨n.toNat, by omega⟩
  have h1' : s.size ≤ 2000 := by omega
  have h2' : r.size ≤ 50 := by omega
  have h4' : nn ≤ 20 := by omega
  go_enter Tryd.func4, Tryd.ntmps4
  go_wp2_with fail
  go_loop [7, 8] (fun b i => ∃ k : Nat, k ≤ nn ∧ i = .int .i64 (k : Int) ∧ ∃ bl : ByteArray, b = .string bl ∧ bl.size ≤ 1000000 ∧ Hid (bl = str (List.replicate k 32))) (fun _ i => nn - (intOf i).toNat)
  case atStart => exact ⟨0, Nat.zero_le _, rfl, _, rfl, by decide, Lib.hid rfl⟩
  case round =>
    obtain ⟨k, hk, rfl, bl, rfl, hbz, HBL⟩ := hrel
    by_cases hlt : k < nn
    · have hlti : (k : Int) < (nn : Int) := by omega
      go_wp2_with fail
      go_round
      case rel =>
        have e : bl ++ ⟨#[32]⟩ = str (List.replicate (k + 1) 32) := by rw [HBL.out, show (⟨#[32]⟩ : ByteArray) = str [32] from rfl, str_app, List.replicate_succ']
        exact ⟨k + 1, by omega, by go_num, _, rfl, by rw [e, str_size]; simp; omega, Lib.hid e⟩
      case measure => simp [intOf]; omega
    · have hlti : ¬ (k : Int) < (nn : Int) := by omega
      obtain rfl : k = nn := by omega
      go_wp2_with fail
      go_loop [9] (fun i => ∃ j : Nat, j ≤ r.size ∧ i = .int .i64 (j : Int) ∧ Hid (∀ c ∈ r.data.toList.take j, c ≠ 10)) (fun i => r.size - (intOf i).toNat)
      case atStart => exact ⟨0, Nat.zero_le _, rfl, Lib.hid (by simp)⟩
      case round =>
        obtain ⟨j, hj, rfl, HR⟩ := hrel
        by_cases hlt : j < r.size
        · by_cases hc : r[j].toNat = 10
          · have hce : ((r[j].toNat : Int) == 10) = true := by rw [beq_iff_eq]; omega
            clear hc
            go_wp2_with (go_at_call 7; (with_reducible refine (AW _ (by repeat' (first | with_reducible exact Below.refl _ _ | with_reducible assumption | with_reducible refine Q.alloc ?_ _ | with_reducible refine Q.drew ?_ | with_reducible refine Q.drewN ?_ _ | with_reducible refine Q.call ?_ (by assumption)))).mono ?_); rintro e w9 ⟨rfl, hb9⟩)
            go_ret
            exact ⟨rfl, hb9⟩
          · have hce : ((r[j].toNat : Int) == 10) = false := by rw [beq_eq_false_iff_ne]; omega
            have HC := Lib.hid hc
            clear hc
            go_wp2_with fail
            go_round
            case rel =>
              refine ⟨j + 1, by omega, by go_num, Lib.hid (fun c hcm => ?_)⟩
              have hjl : j < r.data.toList.length := by simpa using hlt
              rw [List.take_succ_eq_append_getElem hjl] at hcm
              rcases List.mem_append.1 hcm with hcm | hcm
              · exact HR.out c hcm
              · simp at hcm
                intro e
                apply HC.out
                rw [show r[j] = c from hcm.symm, e]; rfl
            case measure => simp [intOf]; omega
        · have hrn : (10 : UInt8) ∉ r.data.toList := by
            intro hm
            have h := HR.out 10
            rw [List.take_of_length_le (by simp; omega)] at h
            exact h hm rfl
          have HRN := Lib.hid hrn
          clear hrn HR
          have hje : ¬ (j : Int) < (r.size : Int) := by omega
          have HRS := Lib.hid (str_of r)
          obtain ⟨rl, hrl⟩ : ∃ rl, rl = r.data.toList := ⟨_, rfl⟩
          go_wp2_with fail
          go_loop [10, 11, 12] (fun lg mo i => ∃ (j lo : Nat), j ≤ s.size ∧ i = .int .i64 (j : Int) ∧ lg = .int .i64 (lo : Int) ∧ lo ≤ 900 ∧ ∃ mm : ByteArray, mo = .string mm ∧ mm.size ≤ 999000 ∧ Hid (mm = str (List.replicate k 32 ++ more k r.data.toList (s.data.toList.take j))) ∧ Hid (Short (s.data.toList.take j) lo)) (fun _ _ i => s.size - (intOf i).toNat)
          case atStart => exact ⟨0, 0, Nat.zero_le _, rfl, rfl, by omega, bl, rfl, by rw [HBL.out, str_size]; simp; omega, Lib.hid (by rw [HBL.out]; simp [more]), Lib.hid (by simpa using Short.nil)⟩
          case round =>
            obtain ⟨i, lo, hi, rfl, rfl, hlo, mm, rfl, hmz, HM, HS⟩ := hrel
            have hbs : bl.size ≤ 20 := by rw [HBL.out, str_size]; simp; omega
            by_cases hlt : i < s.size
            · have hil : i < s.data.toList.length := by simpa using hlt
              have HTK := Lib.hid (List.take_succ_eq_append_getElem hil)
              have HGE := Lib.hid (show s.data.toList[i] = s[i] from rfl)
              have z1 : mm.size ≤ 1000000 := by omega
              have hnext : (more k r.data.toList (s.data.toList.take (i + 1))).length ≤ 188000 := by
                have := more_len k r.data.toList h4' (by simpa using h2') (s.data.toList.take (i + 1))
                have : (s.data.toList.take (i + 1)).length ≤ 2000 := by simp; omega
                omega
              by_cases hc : s[i].toNat = 10
              · have hce : ((s[i].toNat : Int) == 10) = true := by rw [beq_iff_eq]; omega
                have HC := Lib.hid (show s[i] = 10 from UInt8.toNat_inj.1 hc)
                clear hc
                have z2 : mm.size + bl.size ≤ 1000000 := by omega
                have z3 : mm.size + bl.size + 2 ≤ 1000000 := by omega
                have z4 : mm.size + bl.size + 2 + r.size ≤ 1000000 := by omega
                have z5 : mm.size + bl.size + 2 + r.size + 2 ≤ 1000000 := by omega
                have z6 : r.size ≤ 1000000 := by omega
                go_wp2_with fail
                go_round
                case rel =>
                  have e : mm ++ bl ++ ⟨#[9, 35]⟩ ++ r ++ ⟨#[10, 10]⟩ ++ bl = str (List.replicate k 32 ++ more k r.data.toList (s.data.toList.take (i + 1))) := by
                    rw [HTK.out, HGE.out, HC.out, more_snoc, if_pos rfl, HM.out, HBL.out, show (⟨#[9, 35]⟩ : ByteArray) = str [9, 35] from rfl, show (⟨#[10, 10]⟩ : ByteArray) = str [10, 10] from rfl]
                    conv => lhs; rw [← HRS.out]
                    simp only [str_app, str_data, List.append_assoc]
                  exact ⟨i + 1, 0, by omega, by go_num, rfl, by omega, _, rfl, by rw [e, str_size]; simp; omega, Lib.hid e, Lib.hid (by rw [HTK.out, HGE.out, HC.out]; exact HS.out.nl)⟩
                case measure => simp [intOf]; omega
              · have hce : ((s[i].toNat : Int) == 10) = false := by rw [beq_eq_false_iff_ne]; omega
                have HC := Lib.hid (show s[i] ≠ 10 from fun e => hc (by rw [e]; rfl))
                clear hc
                have q1 : (i : Int) + 1 ≤ (s.size : Int) := by omega
                have q2 : i + 1 ≤ s.size := by omega
                have HX := Lib.hid (extract_str s i (i + 1) (by omega))
                by_cases hlo2 : 900 < lo + 1
                · have hl9 : (900 : Int) < (lo : Int) + 1 := by omega
                  go_wp2_with (go_at_call 7; (with_reducible refine (AW _ (by repeat' (first | with_reducible exact Below.refl _ _ | with_reducible assumption | with_reducible refine Q.alloc ?_ _ | with_reducible refine Q.drew ?_ | with_reducible refine Q.drewN ?_ _ | with_reducible refine Q.call ?_ (by assumption)))).mono ?_); rintro e w9 ⟨rfl, hb9⟩)
                  go_ret
                  exact ⟨rfl, hb9⟩
                · have hl9 : ¬ (900 : Int) < (lo : Int) + 1 := by omega
                  have e : mm ++ s.extract i (i + 1) = str (List.replicate k 32 ++ more k r.data.toList (s.data.toList.take (i + 1))) := by
                    rw [HTK.out, HGE.out, more_snoc, if_neg HC.out, HM.out, HX.out, from_lt hlt, Nat.add_sub_cancel_left]
                    simp only [List.take_succ_cons, List.take_zero, str_app, List.append_assoc]
                  have HE := Lib.hid e
                  clear e
                  have z2 : (s.extract i (i + 1)).size ≤ 1000000 := by rw [HX.out, str_size]; simp; omega
                  go_wp2_with fail
                  refine ⟨⟨i + 1, lo + 1, by omega, by go_num, by go_num, by omega, _, rfl, by rw [HE.out, str_size]; simp; omega, HE, Lib.hid (by rw [HTK.out, HGE.out]; exact HS.out.snoc HC.out (by omega))⟩, by simp [intOf]; omega⟩
            · have hie : ¬ (i : Int) < (s.size : Int) := by omega
              have hTF : s.data.toList.take i = s.data.toList := List.take_of_length_le (by simp; omega)
              have e : mm ++ ⟨#[35]⟩ ++ r = str (List.replicate k 32 ++ (more k r.data.toList s.data.toList ++ (35 :: r.data.toList))) := by
                rw [HM.out, hTF, show (⟨#[35]⟩ : ByteArray) = str [35] from rfl]
                conv => lhs; rw [← HRS.out]
                simp only [str_app, str_data, List.append_assoc, List.singleton_append, List.cons_append, List.nil_append]
              have hLK := text_more HRN.out h4' (by simpa using h2') (s := s.data.toList) (by have h := HS.out.all; rw [hTF] at h; exact h)
              have z1 : mm.size ≤ 1000000 := by omega
              have z2 : mm.size + 1 ≤ 1000000 := by omega
              have z6 : r.size ≤ 1000000 := by omega
              have HE := Lib.hid e
              have HLK := Lib.hid hLK
              clear e hLK hTF HM HS
              by_cases hbig : 65536 < mm.size + 1 + r.size
              · go_wp2_with (go_at_call 7; (with_reducible refine (AW _ (by repeat' (first | with_reducible exact Below.refl _ _ | with_reducible assumption | with_reducible refine Q.alloc ?_ _ | with_reducible refine Q.drew ?_ | with_reducible refine Q.drewN ?_ _ | with_reducible refine Q.call ?_ (by assumption)))).mono ?_); rintro e w9 ⟨rfl, hb9⟩)
                go_ret
                exact ⟨rfl, hb9⟩
              · have hfs : (mm ++ ⟨#[35]⟩ ++ r).size ≤ 65536 := by rw [ByteArray.size_append, ByteArray.size_append]; show mm.size + 1 + r.size ≤ 65536; omega
                have hT2 : (mm ++ ⟨#[35]⟩ ++ r).data.toList = List.replicate k 32 ++ (more k r.data.toList s.data.toList ++ (35 :: r.data.toList)) := by rw [HE.out]; rfl
                have hlk := HLK.out
                rw [← hT2] at hlk
                have LN := Lib.hid (fun (x : ByteArray) (hx : x.size ≤ 65536) (l : List Tok) (h : text x.data.toList = .ok l) => text_len x hx h)
                cases hA : text s.data.toList with
                | bad l1 c1 e1 =>
                  cases hB : text (mm ++ ⟨#[35]⟩ ++ r).data.toList with
                  | ok l2 => rw [hA, hB] at hlk; exact hlk.elim
                  | bad l2 c2 e2 =>
                    rw [hA, hB] at hlk
                    have he : e2 = e1 := hlk
                    subst he
                    have S1 := fun (V : World) (hV : Below w.heap.size w V) => text_bad V s m (MC V hV) (by omega) _ _ _ hA
                    have S2 := fun (V : World) (hV : Below w.heap.size w V) => text_bad V (mm ++ ⟨#[35]⟩ ++ r) m (MC V hV) hfs _ _ _ hB
                    have SM := fun (V : World) => same_yes V (.slice none 0 0) (.slice none 0 0) [] [] 0 0 (World.ownsRow_nil _ _ _ _) (World.ownsRow_nil _ _ _ _) (by decide) rfl
                    clear hA hB hlk hfs hT2 LN HLK HE MC
                    go_wp2_with (first
                      | (go_at_call 8; first | ((with_reducible refine (S1 _ (by repeat' (first | with_reducible exact Below.refl _ _ | with_reducible assumption | with_reducible refine Q.alloc ?_ _ | with_reducible refine Q.drew ?_ | with_reducible refine Q.drewN ?_ _ | with_reducible refine Q.call ?_ (by assumption)))).mono ?_); rintro e w1 ⟨rfl, hb1⟩) | ((with_reducible refine (S2 _ (by repeat' (first | with_reducible exact Below.refl _ _ | with_reducible assumption | with_reducible refine Q.alloc ?_ _ | with_reducible refine Q.drew ?_ | with_reducible refine Q.drewN ?_ _ | with_reducible refine Q.call ?_ (by assumption)))).mono ?_); rintro e w2 ⟨rfl, hb2⟩))
                      | (go_at_call 11; (with_reducible refine (SM _).mono ?_); rintro e w3 ⟨rfl, hb3⟩)
                      | (go_at_call 7; (with_reducible refine (AW _ (by repeat' (first | with_reducible exact Below.refl _ _ | with_reducible assumption | with_reducible refine Q.alloc ?_ _ | with_reducible refine Q.drew ?_ | with_reducible refine Q.drewN ?_ _ | with_reducible refine Q.call ?_ (by assumption)))).mono ?_); rintro e w9 ⟨rfl, hb9⟩))
                    go_ret
                    exact ⟨rfl, (by repeat' (first | with_reducible exact Below.refl _ _ | with_reducible assumption | with_reducible refine Q.alloc ?_ _ | with_reducible refine Q.drew ?_ | with_reducible refine Q.drewN ?_ _ | with_reducible refine Q.call ?_ (by assumption)))⟩
                | ok l1 =>
                  cases hB : text (mm ++ ⟨#[35]⟩ ++ r).data.toList with
                  | bad l2 c2 e2 => rw [hA, hB] at hlk; exact hlk.elim
                  | ok l2 =>
                    rw [hA, hB] at hlk
                    have he : l1.map bare = l2.map bare := hlk.symm
                    have hn1 := LN.out s (by omega) _ hA
                    have S1 := fun (V : World) (hV : Below w.heap.size w V) => text_ok V s m (MC V hV) (by omega) _ hA
                    have S2 := fun (V : World) (hV : Below w.heap.size w V) => text_ok V (mm ++ ⟨#[35]⟩ ++ r) m (MC V hV) hfs _ hB
                    have SM := fun (V : World) (v u : Value) (B B' : Nat) (ho : V.ownsRow B 37 5 v l1.length (ET.row l1)) (ho' : V.ownsRow B' 37 5 u l2.length (ET.row l2)) => same_yes V v u l1 l2 B B' ho ho' hn1 he
                    clear hA hB hlk hfs hT2 LN HLK HE MC he hn1
                    go_wp2_with (first
                      | (go_at_call 8; first | ((with_reducible refine (S1 _ (by repeat' (first | with_reducible exact Below.refl _ _ | with_reducible assumption | with_reducible refine Q.alloc ?_ _ | with_reducible refine Q.drew ?_ | with_reducible refine Q.drewN ?_ _ | with_reducible refine Q.call ?_ (by assumption)))).mono ?_); rintro e w1 ⟨sv1, rfl, hown1, hb1⟩) | ((with_reducible refine (S2 _ (by repeat' (first | with_reducible exact Below.refl _ _ | with_reducible assumption | with_reducible refine Q.alloc ?_ _ | with_reducible refine Q.drew ?_ | with_reducible refine Q.drewN ?_ _ | with_reducible refine Q.call ?_ (by assumption)))).mono ?_); rintro e w2 ⟨sv2, rfl, hown2, hb2⟩))
                      | (go_at_call 11; (with_reducible refine (SM _ _ _ _ _ (own_call hown1 (by repeat' (first | with_reducible exact Below.refl _ _ | with_reducible assumption | with_reducible refine Q.alloc ?_ _ | with_reducible refine Q.drew ?_ | with_reducible refine Q.drewN ?_ _ | with_reducible refine Q.call ?_ (by assumption)))) (own_call hown2 (by repeat' (first | with_reducible exact Below.refl _ _ | with_reducible assumption | with_reducible refine Q.alloc ?_ _ | with_reducible refine Q.drew ?_ | with_reducible refine Q.drewN ?_ _ | with_reducible refine Q.call ?_ (by assumption))))).mono ?_); rintro e w3 ⟨rfl, hb3⟩)
                      | (go_at_call 7; (with_reducible refine (AW _ (by repeat' (first | with_reducible exact Below.refl _ _ | with_reducible assumption | with_reducible refine Q.alloc ?_ _ | with_reducible refine Q.drew ?_ | with_reducible refine Q.drewN ?_ _ | with_reducible refine Q.call ?_ (by assumption)))).mono ?_); rintro e w9 ⟨rfl, hb9⟩))
                    go_ret
                    exact ⟨rfl, (by repeat' (first | with_reducible exact Below.refl _ _ | with_reducible assumption | with_reducible refine Q.alloc ?_ _ | with_reducible refine Q.drew ?_ | with_reducible refine Q.drewN ?_ _ | with_reducible refine Q.call ?_ (by assumption)))⟩
end Go.Proofs.YtlmcdbegnjikdaaDoor
