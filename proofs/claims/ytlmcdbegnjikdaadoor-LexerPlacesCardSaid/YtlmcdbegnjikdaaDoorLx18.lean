/- The law LexerPlaces: the walk. (printed by gen/lx18.py) -/
import Derived.Test.YtlmcdbegnjikdaaDoorLx16
import Derived.Test.YtlmcdbegnjikdaaDoorLx17
import Derived.IntWalk
namespace Go.Proofs.YtlmcdbegnjikdaaDoor
set_option linter.unusedVariables false
set_option linter.unusedSimpArgs false
open Go.RowKit
attribute [local go_sem ↓] Go.wp_at_zero Go.wp_at_succ

theorem int_info : (Tryd.prog.info? 3).map (fun i => (i.zero, i.size, i.bytes)) = some (some (.int .i64 0), 1, 8) := by kernel_rfl
/-- Whole numbers as they lie. -/
def nums (l : List Nat) : List Value := l.map (fun (n : Nat) => Value.int .i64 (n : Int))
theorem nums_app (a b : List Nat) : nums (a ++ b) = nums a ++ nums b := by simp [nums]
theorem text_bad_pos {l : By} {a b c : Int} (h : text l = .bad a b c) : c ≠ 0 := by
  have key : ∀ (ls : List By) (n : Int) (out : List Tok), scan n ls out = .bad a b c → c ≠ 0 := by
    intro ls
    induction ls with
    | nil => intro n out h; cases h
    | cons x ls ih =>
      intro n out h
      unfold scan at h
      cases hL : lineT n x with
      | bad c' e' => rw [hL] at h; injection h with _ _ h; subst h; exact lineT_bad hL
      | ok y => rw [hL] at h; exact ih _ _ h
  exact key _ _ _ h
theorem own_one {w : World} {g B : Nat} {e : TypeId} {v : Value} (hB : B ≤ g) (h : Blk w g e #[v]) : w.ownsRow B e 1 (.slice (some ⟨g, 0, none⟩) 1 1) 1 [v] :=
  ⟨rfl, .inr ⟨g, 1, #[v], rfl, hB, h, Nat.le_refl _, by decide, rfl, rfl⟩⟩
set_option maxRecDepth 100000 in
set_option maxHeartbeats 6400000 in
theorem places_walk (w : World) (s : ByteArray) (m : Int) (hm : w.cell? ⟨0, 0, none⟩ = some (.int .i64 m)) :
    Calls Tryd.prog 5 #[.string s] w fun e w' => e = .returned (.bool true) ∧ Below w.heap.size w w' := by
  have hml := World.block_lt_of_cell? w _ hm
  have MC := fun (V : World) (hV : Below w.heap.size w V) => (hV.cell (p := ⟨0, 0, none⟩) hml).trans hm
  have AW := fun (V : World) (hV : Below w.heap.size w V) => awake_eq V m (MC V hV)
  by_cases h1 : 1500 < (s.size : Int)
  · go_enter Tryd.func5, Tryd.ntmps5
    go_wp2_with (go_at_call 7; (with_reducible refine (AW _ (by repeat' (first | with_reducible exact Below.refl _ _ | with_reducible assumption | with_reducible refine Q.alloc ?_ _ | with_reducible refine Q.drew ?_ | with_reducible refine Q.drewN ?_ _ | with_reducible refine Q.call ?_ (by assumption)))).mono ?_); rintro e w9 ⟨rfl, hb9⟩)
    go_ret
    exact ⟨rfl, hb9⟩
  have h1' : s.size ≤ 1500 := by omega
  cases hA : text s.data.toList with
  | bad l1 c1 e1 =>
    have S1 := text_bad w s m hm (by omega) _ _ _ hA
    have he : ((e1 : Int) == 0) = false := by rw [beq_eq_false_iff_ne]; exact text_bad_pos hA
    have he2 : ((e1 : Int) != 0) = true := by simpa using text_bad_pos hA
    clear hm hml MC hA
    go_enter Tryd.func5, Tryd.ntmps5
    go_wp2_with (first
      | (go_at_call 8; (with_reducible refine S1.mono ?_); rintro e w1 ⟨rfl, hb1⟩)
      | (go_at_call 7; (with_reducible refine (AW _ (by repeat' (first | with_reducible exact Below.refl _ _ | with_reducible assumption | with_reducible refine Q.alloc ?_ _ | with_reducible refine Q.drew ?_ | with_reducible refine Q.drewN ?_ _ | with_reducible refine Q.call ?_ (by assumption)))).mono ?_); rintro e w9 ⟨rfl, hb9⟩))
    go_ret
    exact ⟨rfl, (by repeat' (first | with_reducible exact Below.refl _ _ | with_reducible assumption | with_reducible refine Q.alloc ?_ _ | with_reducible refine Q.drew ?_ | with_reducible refine Q.drewN ?_ _ | with_reducible refine Q.call ?_ (by assumption)))⟩
  | ok l =>
    have S1 := text_ok w s m hm (by omega) _ hA
    obtain ⟨hF, hP⟩ := text_fine hA
    have hlen : l.length ≤ 1000000000 := text_len s (by omega) hA
    have HF := Lib.hid hF
    have HP := Lib.hid hP
    obtain ⟨i1, hi0, hz0, hz1', hz2⟩ := info_parts int_info
    clear hm hml MC hA hF hP
    go_enter Tryd.func5, Tryd.ntmps5
    go_wp2_with (go_at_call 8; (with_reducible refine S1.mono ?_); rintro e w1 ⟨sv, rfl, hown, hb1⟩; refine Hid.out ?_)
    refine Lib.hid ?_
    have HOWN := Lib.hid hown
    have HB1 := Lib.hid hb1
    clear hown hb1 S1
    go_wp2_with fail
    go_loopw [6, 7] (fun bv i wr => ∃ j : Nat, j ≤ s.size ∧ i = .int .i64 (j : Int) ∧ Hid (wr.ownsRow w1.heap.size 3 1 bv (0 :: begs 0 (s.data.toList.take j)).length (nums (0 :: begs 0 (s.data.toList.take j)))) ∧ Below w1.heap.size w1 wr) (fun _ i _ => s.size - (intOf i).toNat)
    case atStart =>
      refine ⟨0, Nat.zero_le _, rfl, Lib.hid ?_, (by repeat' (first | with_reducible exact Below.refl _ _ | with_reducible assumption | with_reducible refine Q.alloc ?_ _ | with_reducible refine Q.drew ?_ | with_reducible refine Q.drewN ?_ _ | with_reducible refine Q.call ?_ (by assumption)))⟩
      exact own_one (by omega) (Blk.new' (by simp))
    case round =>
      obtain ⟨j, hj, rfl, HBV, hbw⟩ := hrel
      by_cases hlt : j < s.size
      · have hil : j < s.data.toList.length := by simpa using hlt
        have HTK := Lib.hid (List.take_succ_eq_append_getElem hil)
        have HGE := Lib.hid (show s.data.toList[j] = s[j] from rfl)
        by_cases hc : s[j].toNat = 10
        · have hce : ((s[j].toNat : Int) == 10) = true := by rw [beq_iff_eq]; omega
          have HC := Lib.hid (show s[j] = 10 from UInt8.toNat_inj.1 hc)
          have hbl : (0 :: begs 0 (s.data.toList.take j)).length ≤ 1501 := by
            have := begs_le (s.data.toList.take j) 0
            have h2 : (s.data.toList.take j).length ≤ 1500 := by simp; omega
            simp; omega
          have HO := Lib.hid (HBV.out.alloc (.cells #[.int .i64 ((j : Int) + 1)] 3))
          have HW := Lib.hid hbw
          clear hc
          generalize hN : (0 :: begs 0 (s.data.toList.take j)).length = N at *
          have HN := Lib.hid hN
          have HXX := Lib.hid (fun b (e : u6.ownBlock = some b) => (own_lt HBV.out e).2)
          clear hN hbw
          go_wp2_with (at_builtin; refine wpList_append_own _ rfl _ _ 41 rfl w1.heap.size 3 i1 _ 1 8 Tryd.underlying41 hi0 hz0 hz1' hz2 rfl (by decide) u6 N (nums (0 :: begs 0 (s.data.toList.take j))) rfl HO.out ⟨wr.heap.size, 0, none⟩ 1 1 [.int .i64 ((j : Int) + 1)] rfl (by rfl) (World.news_of_block (cs := #[.int .i64 ((j : Int) + 1)]) (t := 3) (fr := (0, 0)) (Blk.new' (by rfl))) (by simp [Value.oneCell']) (by unfold maxLen; omega) (by omega) (by have := HW.out.size; simp; omega) ?_; intro bv2 w2 hown2 hgrow _)
          refine ⟨⟨j + 1, by omega, by go_num, Lib.hid ?_, ?_⟩, by simp [intOf]; omega⟩
          · have e : 0 :: begs 0 (s.data.toList.take (j + 1)) = (0 :: begs 0 (s.data.toList.take j)) ++ [j + 1] := by
              rw [HTK.out, HGE.out, HC.out, begs_snoc, if_pos rfl]
              have : (s.data.toList.take j).length = j := by simp; omega
              simp [this]
            rw [e, nums_app, List.length_append, HN.out]
            have e4 : nums [j + 1] = [.int .i64 ((j : Int) + 1)] := by simp [nums]
            rw [e4]
            exact hown2
          · exact (Q.alloc HW.out _).grown hgrow (by have := HW.out.size; simp; omega) (fun g hg => HXX.out g hg)
        · have hce : ((s[j].toNat : Int) == 10) = false := by rw [beq_eq_false_iff_ne]; omega
          have HC := Lib.hid (show s[j] ≠ 10 from fun e => hc (by rw [e]; rfl))
          have HW := Lib.hid hbw
          clear hc hbw
          go_wp2_with fail
          refine ⟨⟨j + 1, by omega, by go_num, Lib.hid ?_, HW.out⟩, by simp [intOf]; omega⟩
          have e : 0 :: begs 0 (s.data.toList.take (j + 1)) = 0 :: begs 0 (s.data.toList.take j) := by
            rw [HTK.out, HGE.out, begs_snoc, if_neg HC.out, List.append_nil]
          rw [e]
          exact HBV.out
      · have hje : ¬ (j : Int) < (s.size : Int) := by omega
        have hTF : s.data.toList.take j = s.data.toList := List.take_of_length_le (by simp; omega)
        rw [hTF] at HBV
        have HBB := Lib.hid (Q.call HB1.out hbw)
        have HTO := Lib.hid (own_call HOWN.out hbw)
        clear hTF hbw HOWN HB1
        obtain ⟨W3, hW3⟩ : ∃ W3 : World, W3 = wr := ⟨wr, rfl⟩
        rw [← hW3] at HBV HBB HTO ⊢
        clear hW3
        go_wp2_with fail
        go_loopw [9] (fun i wv => ∃ (k : Nat) (ln cl : Int), i = .int .i64 (k : Int) ∧ k ≤ l.length ∧ Below W3.heap.size W3 wv ∧ Blk wv W3.heap.size 25 #[.int .i64 ln, .int .i64 cl] ∧ Hid ((k = 0 ∧ ln = 0 ∧ cl = 0) ∨ ∃ t, 0 < k ∧ l[k - 1]? = some t ∧ ln = t.line ∧ cl = t.col)) (fun i _ => l.length - (intOf i).toNat)
        case atStart => exact ⟨0, 0, 0, rfl, Nat.zero_le _, (by repeat' (first | with_reducible exact Below.refl _ _ | with_reducible assumption | with_reducible refine Q.alloc ?_ _ | with_reducible refine Q.drew ?_ | with_reducible refine Q.drewN ?_ _ | with_reducible refine Q.call ?_ (by assumption))), Blk.new _ _ _, Lib.hid (.inl ⟨rfl, rfl, rfl⟩)⟩
        case round =>
          obtain ⟨k, ln, cl, rfl, hk, hwv, hlb, HPR⟩ := hrel
          by_cases hlt : k < l.length
          · have hki : (k : Int) < (l.length : Int) := by omega
            obtain ⟨t, ht⟩ : ∃ t, l[k]? = some t := ⟨_, List.getElem?_eq_getElem hlt⟩
            obtain ⟨gt, capt, e1, hc1, hgt, -, hcell⟩ := own_form HTO.out (by omega)
            obtain ⟨gb, capb, e2, hc2, hgb, -, hcellb⟩ := own_form HBV.out (by simp)
            subst e1 e2
            have hF := HF.out t (List.mem_iff_getElem?.2 ⟨k, ht⟩)
            have hA : ln < t.line ∨ ln = t.line ∧ cl < t.col := by
              rcases HPR.out with ⟨_, rfl, rfl⟩ | ⟨t0, hk0, ht0, rfl, rfl⟩
              · exact .inl (by have := hF.line; omega)
              · have hp := List.pairwise_iff_getElem.1 HP.out (k - 1) k (by have := (List.getElem?_eq_some_iff.1 ht0).1; omega) hlt (by omega)
                rw [(List.getElem?_eq_some_iff.1 ht0).2, (List.getElem?_eq_some_iff.1 ht).2] at hp
                exact hp
            obtain ⟨x0, x1, x2, x3, x4⟩ := tok_cells hcell ht
            obtain ⟨o, c, ho, hcc, hoc, hkw, hkd⟩ := hF.at_
            have hl1 := hF.line
            have hl2 := hF.most
            obtain ⟨kk, x, n, line, col⟩ := t
            simp only at x0 x1 x2 x3 x4 ho hcc hkw hkd hl1 hl2 hA
            obtain ⟨jl, hjl0⟩ : ∃ jl : Nat, line = (jl : Int) + 1 := ⟨(line - 1).toNat, by omega⟩
            rw [show (line - 1).toNat = jl by omega] at ho
            have y0 : W3.cell? ⟨gb, jl, none⟩ = some (.int .i64 (o : Int)) := hcellb jl _ (by rw [nums, List.getElem?_map, ho]; rfl)
            have hss : s.data.toList.length = s.size := by simp
            have hNBl : (0 :: begs 0 s.data.toList).length ≤ 1501 := by have := begs_le s.data.toList 0; simp at this ⊢; omega
            generalize hNB : (0 :: begs 0 s.data.toList).length = NB at *
            have hjl : jl < NB := by omega
            have hjli : (jl : Int) < (NB : Int) := by omega
            have L := fun b o v (hb : b < W3.heap.size) (hv : W3.cell? ⟨b, o, none⟩ = some v) => (hwv.cell (p := ⟨b, o, none⟩) hb).trans hv
            have z0 := L _ _ _ hgt x0
            have z1 := L _ _ _ hgt x1
            have z3 := L _ _ _ hgt x3
            have z4 := L _ _ _ hgt x4
            have u0 := L _ _ _ hgb y0
            have v0 := hlb.cell 0
            have v1 := hlb.cell 1
            have vf0 := hlb.frozen 0
            have vf1 := hlb.frozen 1
            have s1 := hwv.size
            have hg1 : gt < wr.heap.size := by omega
            have hg2 : gb < wr.heap.size := by omega
            have hg3 := hlb.lt
            have LB := Lib.hid hlb
            have WV := Lib.hid hwv
            have HK := Lib.hid ht
            have HKW := Lib.hid hkw
            have HKD := Lib.hid hkd
            have n1 : ¬ line < 1 := by omega
            have n2 : ¬ (NB : Int) < line := by omega
            have n3 : ¬ col < 1 := by omega
            obtain ⟨A, hA0⟩ : ∃ A, A = o + c := ⟨_, rfl⟩
            obtain ⟨S1, hS1⟩ : ∃ S1, S1 = (o : Int) + col := ⟨_, rfl⟩
            have hAs : A ≤ s.size := by omega
            have hAi : ¬ (s.size : Int) < (A : Int) := by omega
            clear hcell hcellb x0 x1 x2 x3 x4 y0 hF ho L hkw hkd ht hNB HPR hwv hlb
            have hAL : (¬ line < ln ∧ (line == ln) = false) ∨ (¬ line < ln ∧ (line == ln) = true ∧ ¬ col ≤ cl) := by
              rcases hA with h | ⟨h, h'⟩
              · exact .inl ⟨by omega, by rw [beq_eq_false_iff_ne]; omega⟩
              · exact .inr ⟨by omega, by rw [beq_iff_eq]; omega, by omega⟩
            have Q1 := Lib.hid (show IntKind.i64.wrap (line - 1) = (jl : Int) from by rw [IntWalk.i64_in _ (by omega)]; omega)
            have Q2 := Lib.hid (show IntKind.i64.wrap ((o : Int) + col) = S1 from by rw [IntWalk.i64_in _ (by omega)]; omega)
            have Q3 := Lib.hid (show IntKind.i64.wrap (S1 - 1) = (A : Int) from by rw [IntWalk.i64_in _ (by omega)]; omega)
            have HLN := Lib.hid hjl0
            have HCL := Lib.hid hcc
            have HA0 := Lib.hid hA0
            clear hjl0 hcc hA0 hS1
            clear hA
            rcases hAL with ⟨a1, a2⟩ | ⟨a1, a2, a3⟩
            all_goals
              go_wp2_with fail
              have BN := Blk.new wr 25 #[.int .i64 line, .int .i64 col]
              have BA : Below wr.heap.size wr (wr.alloc (.cells #[.int .i64 line, .int .i64 col] 25)) := Q.alloc (Below.refl _ _) _
              have K0 : ∀ y : BW (wr.alloc (.cells #[.int .i64 line, .int .i64 col] 25)), y.val.cell? ⟨wr.heap.size, 0, none⟩ = some (.int .i64 line) := fun y => (BN.call y.has).cell 0
              have K1 : ∀ y : BW (wr.alloc (.cells #[.int .i64 line, .int .i64 col] 25)), y.val.cell? ⟨wr.heap.size, 1, none⟩ = some (.int .i64 col) := fun y => (BN.call y.has).cell 1
              have K2 : ∀ y : BW (wr.alloc (.cells #[.int .i64 line, .int .i64 col] 25)), y.val.cell? ⟨gb, jl, none⟩ = some (.int .i64 (o : Int)) := fun y => ((Q.call BA y.has).cell (p := ⟨gb, jl, none⟩) hg2).trans u0
              have HBA := Lib.hid BA
              clear BN BA
              have q1 := Q1.out
              have q2 := Q2.out
              have q3 := Q3.out
              refine wp_region_below (by kernel_rfl) (by kernel_rfl) ?_
              repeat (go_big_quiet_step (fail))
              refine wpQuiet_nil ?_
              intro w9 hw9
              obtain ⟨y9, rfl⟩ := hw9
              clear q1 q2 q3 K0 K1 K2
              have BY : Below wr.heap.size wr y9.val := Q.call HBA.out y9.has
              have BP : Blk y9.val wr.heap.size 25 #[.int .i64 line, .int .i64 col] := (Blk.new wr 25 #[.int .i64 line, .int .i64 col]).call y9.has
              have BL := LB.out.call BY
              clear z3 z4 u0 v0 v1 vf0 vf1
              generalize y9.val = W9 at BY BP BL ⊢
              have t0 : W9.cell? ⟨gt, k * 5, none⟩ = some (.int .i64 kk) := (BY.cell (p := ⟨gt, k * 5, none⟩) hg1).trans z0
              have t1 : W9.cell? ⟨gt, k * 5 + 1, none⟩ = some (.string (str x)) := (BY.cell (p := ⟨gt, k * 5 + 1, none⟩) hg1).trans z1
              have p0 := BP.cell 0
              have p1 := BP.cell 1
              have b0 := BL.cell 0
              have b1 := BL.cell 1
              have b2 := BL.frozen 0
              have b3 := BL.frozen 1
              have BY' := Lib.hid BY
              have BL' := Lib.hid BL
              clear z0 z1 BY BP BL
              have hxs : (str x).size = x.length := str_size x
              have hKW : kk = 1 → A + x.length ≤ s.size ∧ s.extract A (A + x.length) = str x := by
                intro e
                obtain ⟨e1, e2⟩ := HKW.out e
                rw [← HA0.out] at e1 e2
                refine ⟨by omega, ?_⟩
                rw [extract_str s _ _ (by omega), Nat.add_sub_cancel_left]
                unfold from_
                rw [e2]
              have hKD : kk = 3 → A + 2 ≤ s.size ∧ s.extract A (A + 2) = ⟨#[46, 46]⟩ := by
                intro e
                obtain ⟨e1, e2⟩ := HKD.out e
                rw [← HA0.out] at e1 e2
                refine ⟨by omega, ?_⟩
                rw [extract_str s _ _ (by omega), Nat.add_sub_cancel_left]
                unfold from_
                rw [e2]; rfl
              generalize str x = tx at t1 hxs hKW
              have hki2 : kk = 1 ∨ kk = 3 ∨ (kk ≠ 1 ∧ kk ≠ 3) := by omega
              rcases hki2 with e | e | ⟨e, e'⟩
              · obtain ⟨f1, f2⟩ := hKW e
                subst e
                rw [← hxs] at f1 f2
                have f3 : (A : Int) + (tx.size : Int) ≤ (s.size : Int) := by omega
                have f4 : ¬ (s.size : Int) < (A : Int) + (tx.size : Int) := by omega
                have f5 : A ≤ A + tx.size := by omega
                have f6 : (A : Int) ≤ (A : Int) + (tx.size : Int) := by omega
                clear hKW hKD hxs
                go_wp2_with fail
                (have e9 : (W9.setCell ⟨W3.heap.size, 0, none⟩ (.int .i64 line)).setCell ⟨W3.heap.size, 1, none⟩ (.int .i64 col) = W9.setRow W3.heap.size #[.int .i64 line, .int .i64 col] := (by rw [BL'.out.setCell, BL'.out.setCell_setRow]; rfl); rw [e9]; exact ⟨⟨k + 1, line, col, by go_num, by omega, below_setRow (Q.call WV.out BY'.out) (Nat.le_refl _) _, BL'.out.setRow _, Lib.hid (.inr ⟨_, by omega, by rw [Nat.add_sub_cancel]; exact HK.out, rfl, rfl⟩)⟩, by simp [intOf]; omega⟩)
              · obtain ⟨f1, f2⟩ := hKD e
                subst e
                have f3 : (A : Int) + 2 ≤ (s.size : Int) := by omega
                have f4 : ¬ (s.size : Int) < (A : Int) + 2 := by omega
                have f5 : A ≤ A + 2 := by omega
                have f6 : (A : Int) ≤ (A : Int) + 2 := by omega
                clear hKW hKD hxs
                go_wp2_with fail
                (have e9 : (W9.setCell ⟨W3.heap.size, 0, none⟩ (.int .i64 line)).setCell ⟨W3.heap.size, 1, none⟩ (.int .i64 col) = W9.setRow W3.heap.size #[.int .i64 line, .int .i64 col] := (by rw [BL'.out.setCell, BL'.out.setCell_setRow]; rfl); rw [e9]; exact ⟨⟨k + 1, line, col, by go_num, by omega, below_setRow (Q.call WV.out BY'.out) (Nat.le_refl _) _, BL'.out.setRow _, Lib.hid (.inr ⟨_, by omega, by rw [Nat.add_sub_cancel]; exact HK.out, rfl, rfl⟩)⟩, by simp [intOf]; omega⟩)
              · have f1 : (kk == 1) = false := by rw [beq_eq_false_iff_ne]; exact e
                have f2 : (kk == 3) = false := by rw [beq_eq_false_iff_ne]; exact e'
                clear hKW hKD hxs
                go_wp2_with fail
                (have e9 : (W9.setCell ⟨W3.heap.size, 0, none⟩ (.int .i64 line)).setCell ⟨W3.heap.size, 1, none⟩ (.int .i64 col) = W9.setRow W3.heap.size #[.int .i64 line, .int .i64 col] := (by rw [BL'.out.setCell, BL'.out.setCell_setRow]; rfl); rw [e9]; exact ⟨⟨k + 1, line, col, by go_num, by omega, below_setRow (Q.call WV.out BY'.out) (Nat.le_refl _) _, BL'.out.setRow _, Lib.hid (.inr ⟨_, by omega, by rw [Nat.add_sub_cancel]; exact HK.out, rfl, rfl⟩)⟩, by simp [intOf]; omega⟩)
          · have hki : ¬ (k : Int) < (l.length : Int) := by omega
            have hq : Below w.heap.size w wr := Q.call HBB.out hwv
            obtain ⟨a5, cap5, rfl, -⟩ := own_slice HTO.out
            go_wp2_with (go_at_call 7; (with_reducible refine (AW _ (by repeat' (first | with_reducible exact Below.refl _ _ | with_reducible assumption | with_reducible refine Q.alloc ?_ _ | with_reducible refine Q.drew ?_ | with_reducible refine Q.drewN ?_ _ | with_reducible refine Q.call ?_ (by assumption)))).mono ?_); rintro e w9 ⟨rfl, hb9⟩)
            go_ret
            exact ⟨rfl, (by repeat' (first | with_reducible exact Below.refl _ _ | with_reducible assumption | with_reducible refine Q.alloc ?_ _ | with_reducible refine Q.drew ?_ | with_reducible refine Q.drewN ?_ _ | with_reducible refine Q.call ?_ (by assumption)))⟩
end Go.Proofs.YtlmcdbegnjikdaaDoor
