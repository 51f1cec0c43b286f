/- Ports: the walk of PortsOwn. -/
import Derived.Test.YteciicojnodibaaPo16
namespace Go.Proofs.Yteciicojnodibaa
set_option linter.unusedVariables false
set_option linter.unusedSimpArgs false
open Go.RowKit
attribute [local go_sem ↓] Go.wp_at_zero Go.wp_at_succ

set_option maxRecDepth 100000 in
set_option maxHeartbeats 6400000 in
theorem portsOwn_ok (x1 x2 : Value) (xs ys : List Int) (a : Option Addr) (len cap : Nat) (ops : List POp) (w : World) (hx1 : Rd EU w (fun _ => True) x1 xs) (hx2 : Rd EU w (fun _ => True) x2 ys)
    (hr : ReadsP w w.heap.size a len ops) (h1 : xs.length ≤ 300) (h2 : ys.length ≤ 300) (h5 : len ≤ 200) :
    Calls Try.prog 6 #[.agg #[x1, x2], .slice a len cap] w fun e w' => e = .returned (.bool true) ∧ Below w.heap.size w w' := by
  obtain ⟨i0, hi0, hz0, hz1, hz2⟩ := info_parts info_U
  obtain ⟨a1, c1, hv1⟩ := hx1.len
  obtain ⟨a2, c2, hv2⟩ := hx2.len
  subst hv1 hv2
  have HR := Lib.hid hr
  have X1 := Lib.hid hx1
  have X2 := Lib.hid hx2
  clear hr hx1 hx2
  have F1 := fun V => few_yes a1 a2 xs.length ys.length c1 c2 a len cap V h1 h2 h5
  go_enter Try.func6, Try.ntmps6
  go_wp2_with fail
  have kA := Blk.new w 41 #[.slice a1 xs.length c1, .slice a2 ys.length c2]
  have bA : Below w.heap.size w (w.alloc (.cells #[.slice a1 xs.length c1, .slice a2 ys.length c2] 41)) := Q.alloc (Below.refl _ _) _
  generalize hWA : w.alloc (.cells #[.slice a1 xs.length c1, .slice a2 ys.length c2] 41) = WA at *
  (with_reducible refine (F1 _).mono ?_)
  rintro e w0 ⟨rfl, b1⟩
  have kA0 := kA.call b1
  have bA0 := Q.call bA b1
  have d0 := kA0.cell 0
  have d1 := kA0.cell 1
  have KA0 := Lib.hid kA0
  have BA0 := Lib.hid bA0
  have X1' := Lib.hid (X1.out.keep (R' := fun _ => True) (fun b hb hR => ⟨bA0.block b hb, hR⟩) bA0.size)
  have X2' := Lib.hid (X2.out.keep (R' := fun _ => True) (fun b hb hR => ⟨bA0.block b hb, hR⟩) bA0.size)
  have hsrc := X1'.out.src
  have HWA := Lib.hid hWA
  clear kA bA b1 kA0 bA0 F1 hWA
  go_wp2_with (at_builtin; refine wpList_append_src rfl _ _ 29 rfl w0.heap.size 5 i0 _ 1 1 Try.underlying29 hi0 hz0 hz1 hz2 rfl (by decide) (.slice none 0 0) 0 [] rfl (World.ownsRow_nil _ _ _ _) _ xs.length (EU.row xs) rfl hsrc (EU.row_length _) (EU.row_one _) (by unfold maxLen; omega) (by omega) (Nat.le_refl _) ?_; intro va wa hown hgrow; simp only [Nat.zero_add, List.nil_append] at hown; have hA := (Below.refl w0.heap.size w0).grown hgrow (Nat.le_refl _) (by simp [Value.ownBlock]); have kA1 := KA0.out.call hA; have d2 := kA1.cell 0; have d3 := kA1.cell 1; obtain ⟨a3, c3, rfl, hc3⟩ := own_slice hown)
  have N1 := two_new_own hA _ _ _ xs ys (fun _ => True) hown X1'.out X2'.out (by omega) (by omega)
  have HOWN := Lib.hid hown
  have HA := Lib.hid hA
  have KA1 := Lib.hid kA1
  clear d0 d1 hown hgrow hsrc hA kA1
  (with_reducible refine N1.mono ?_)
  rintro e w1 ⟨g, rfl, hb1, N2⟩
  have kA2 := KA1.out.call hb1
  have d4 := kA2.cell 0
  have d5 := kA2.cell 1
  clear N1 kA2 d2 d3
  go_wp2_with fail
  (with_reducible refine N2.mono ?_)
  rintro e w2 ⟨h, rfl, hb2, hch⟩
  have HCH := Lib.hid hch
  have kA3 := Lib.hid (KA1.out.call hb2)
  have own2 := own_keep HOWN.out (fun b hv hlt => hb2.block b hlt) hb2.size
  have HOWN2 := Lib.hid own2
  clear N2 d4 d5 hch own2 hb1 hb2
  go_wp2_with fail
  go_loopw [10] (fun v wr => ∃ (k : Nat) (l : List Int), v = .int .i64 (k : Int) ∧ k ≤ xs.length ∧ l.length = xs.length ∧ wr.ownsRow w0.heap.size 5 1 (.slice a3 xs.length c3) xs.length (EU.row l) ∧ Chg (fun b => (Value.slice a3 xs.length c3).ownBlock = some b) w2 wr) (fun v _ => xs.length - (intOf v).toNat)
  case atStart => exact ⟨0, xs, rfl, Nat.zero_le _, rfl, HOWN2.out, Chg.refl _ _⟩
  case round =>
    obtain ⟨k, l, rfl, hk, hl, ho, hc⟩ := hrel
    by_cases hkn : k < xs.length
    · obtain ⟨ga, hga⟩ := own_some ho hkn
      have hki : (k : Int) < (xs.length : Int) := by omega
      have hk0 : (0 : Int) ≤ (k : Int) := by omega
      obtain ⟨z, hz⟩ : ∃ z, l[k]? = some z := ⟨_, List.getElem?_eq_getElem (by omega)⟩
      subst hga
      have e0 : wr.cell? ⟨ga, k, none⟩ = some (.int .u8 z) := by
        rw [ho.cellAt k (by omega), rowU, List.getElem?_map, hz]
        rfl
      have f0 := ho.frozenAt k
      clear hz
      go_wp2_with fail
      obtain ⟨st1, st2⟩ := ho.stored k (.int .u8 ((z + 1) % 256))
      rw [rowU_set] at st1
      refine ⟨⟨k + 1, _, by simp, by omega, by simpa using hl, st1, hc.trans ((chg_grown st2).mono (fun b hb => by subst hb; rfl))⟩, by simp [intOf]; omega⟩
    · obtain rfl : xs.length = k := by omega
      have htwo := HCH.out _ hc
      have HTWO := Lib.hid htwo
      clear hc ho htwo
      go_wp2_with fail
      go_loopw [11] (fun v wr => ∃ (k : Nat) (s : PS), v = .int .i64 (k : Int) ∧ k ≤ len ∧ Two w0 wr g h s s (fun b => b < w0.heap.size)) (fun v _ => len - (intOf v).toNat)
      case atStart => exact ⟨0, _, rfl, Nat.zero_le _, HTWO.out⟩
      case round =>
        clear HTWO
        obtain ⟨k, s, rfl, hk, hm⟩ := hrel
        have hBr := hm.B
        by_cases hkn : k < len
        · obtain ⟨b, off, o, rfl, hbl, hget, c0, c1, c2, c3, c4, cv1, cv2, ct1, ct2⟩ := (HR.out.below (Q.call BA0.out hBr)).at_ hkn
          obtain ⟨ask, r, v, tt, cyc⟩ := o
          simp only at c0 c1 c2 c3 c4 cv1 cv2 ct1 ct2
          have hki : (k : Int) < (len : Int) := by omega
          have hk0 : (0 : Int) ≤ (k : Int) := by omega
          have hbw : b < wr.heap.size := Nat.lt_of_lt_of_le hbl (Nat.le_trans BA0.out.size hBr.size)
          have hszr := hBr.size
          have HM := Lib.hid hm
          clear hget hm
          by_cases hask : ask = 0
          · subst hask
            have A0 := HM.out.new (Q.alloc (Below.refl _ _) (.cells #[.int .i64 0, .int .i64 r, .int .u8 v, .int .u8 tt, .int .i64 cyc] 37))
            have ko := Blk.new wr 37 #[.int .i64 0, .int .i64 r, .int .u8 v, .int .u8 tt, .int .i64 cyc]
            have R1 := A0.rd1 r
            clear A0
            go_wp2_with fail
            generalize hWo : wr.alloc (.cells #[.int .i64 0, .int .i64 r, .int .u8 v, .int .u8 tt, .int .i64 cyc] 37) = Wo at *
            (with_reducible refine R1.mono ?_)
            rintro e u1 ⟨rfl, A1, hk1, hz1⟩
            have ko1 := ko.hold hk1 (.inr (Nat.le_refl _))
            have kol := ko.lt
            have R2 := A1.rd2 r
            have o1 := ko1.cell 1
            have HWo := Lib.hid hWo
            clear R1 A1 hk1 ko ko1 hWo c0 c1 c2 c3 c4
            go_wp2_with fail
            (with_reducible refine R2.mono ?_)
            rintro e u2 ⟨rfl, A2, hk2, hz2⟩
            have HN : Two w0 u2 g h (s.took r) (s.took r) (fun b => b < w0.heap.size) := A2.mono (fun b hb => ⟨⟨.inl hb, by omega⟩, by omega⟩)
            clear R2 A2 hk2 o1 
            generalize (s.took r) = s1 at HN
            have HN2 := Lib.hid HN
            have O1 := HN.out1
            obtain ⟨N, hN⟩ : ∃ N, s1.out.length = N := ⟨_, rfl⟩
            obtain ⟨M, hM⟩ : ∃ N, s1.kept.length = N := ⟨_, rfl⟩
            obtain ⟨G, hG⟩ : ∃ N, s1.log.length = N := ⟨_, rfl⟩
            rw [hN] at O1
            have HNo := Lib.hid hN
            have hNb : N ≤ 4096 := by rw [← hN]; exact HN2.out.1.1.out
            have hMb : M ≤ 4096 := by rw [← hM]; exact HN2.out.1.1.kept
            have hGb : G ≤ 4096 := by rw [← hG]; exact HN2.out.1.1.log
            clear HN hN
            go_wp2_with fail
            (with_reducible refine O1.mono ?_)
            rintro e u3 ⟨sv1, rfl, ho1, b3⟩
            obtain ⟨ao, co, rfl, -⟩ := own_slice ho1
            have K1 := (HN2.out.new b3).kept1
            rw [hM] at K1
            have HO1 := Lib.hid ho1
            have B3 := Lib.hid b3
            clear O1 ho1 b3 hM
            go_wp2_with fail
            (with_reducible refine K1.mono ?_)
            rintro e u4 ⟨sv2, rfl, ho2, b4⟩
            obtain ⟨ak, ck, rfl, -⟩ := own_slice ho2
            have L1 := ((HN2.out.new B3.out).new b4).log1
            rw [hG] at L1
            have HO2 := Lib.hid ho2
            have B4 := Lib.hid b4
            clear K1 ho2 b4 hG
            go_wp2_with fail
            (with_reducible refine L1.mono ?_)
            rintro e u5 ⟨sv3, rfl, ho3, b5⟩
            obtain ⟨al, cl, rfl, -⟩ := own_slice ho3
            have HO3 := Lib.hid ho3
            have B5 := Lib.hid b5
            clear L1 ho3 b5
            go_wp2_with fail
            go_loopw [16] (fun v V => ∃ (j : Nat) (l : List Int), v = .int .i64 (j : Int) ∧ j ≤ N ∧ l.length = N ∧ V.ownsRow u2.heap.size 5 1 (.slice ao N co) N (EU.row l) ∧ Chg (fun b => u2.heap.size ≤ b ∧ b < u3.heap.size) u5 V) (fun v _ => N - (intOf v).toNat)
            case atStart => exact ⟨0, s1.out, rfl, Nat.zero_le _, HNo.out, own_keep (own_keep HO1.out (fun b _ hlt => B4.out.block b hlt) B4.out.size) (fun b _ hlt => B5.out.block b hlt) B5.out.size, Chg.refl _ _⟩
            case round =>
              obtain ⟨j, l, rfl, hj, hl, ho, hc⟩ := hrel
              by_cases hjn : j < N
              · obtain ⟨gb, hgb⟩ := own_some ho hjn
                have hji : (j : Int) < (N : Int) := by omega
                have hj0 : (0 : Int) ≤ (j : Int) := by omega
                obtain ⟨z, hz⟩ : ∃ z, l[j]? = some z := ⟨_, List.getElem?_eq_getElem (by omega)⟩
                subst hgb
                have e0 : wr.cell? ⟨gb, j, none⟩ = some (.int .u8 z) := by
                  rw [ho.cellAt j (by omega), rowU, List.getElem?_map, hz]
                  rfl
                have f0 := ho.frozenAt j
                have HB := Lib.hid (own_lt HO1.out (b := gb) rfl)
                clear hz
                go_wp2_with fail
                obtain ⟨st1, st2⟩ := ho.stored j (.int .u8 ((z + 1) % 256))
                rw [rowU_set] at st1
                refine ⟨⟨j + 1, _, by simp, by omega, by simpa using hl, st1, hc.trans ((chg_grown st2).mono (fun b hb => by subst hb; exact ⟨HB.out.2, HB.out.1⟩))⟩, by simp [intOf]; omega⟩
              · obtain rfl : N = j := by omega
                have HC := Lib.hid hc
                clear hc ho
                go_wp2_with fail
                go_loopw [17] (fun v V => ∃ (j : Nat) (l : List Value), v = .int .i64 (j : Int) ∧ j ≤ M ∧ V.ownsRow u3.heap.size 23 2 (.slice ak M ck) M l ∧ Chg (fun b => u2.heap.size ≤ b ∧ b < u4.heap.size) u5 V) (fun v _ => M - (intOf v).toNat)
                case atStart => exact ⟨0, _, rfl, Nat.zero_le _, own_keep (own_keep HO2.out (fun b _ hlt => B5.out.block b hlt) B5.out.size) (fun b hv hlt => HC.out.block b hlt (fun hs => by have := own_lt HO2.out hv; omega)) HC.out.size, HC.out.mono (fun b hb => ⟨hb.1, Nat.lt_of_lt_of_le hb.2 B4.out.size⟩)⟩
                case round =>
                  obtain ⟨j, l, rfl, hj, ho, hc⟩ := hrel
                  by_cases hjn : j < M
                  · obtain ⟨gb, hgb⟩ := own_some ho hjn
                    have hji : (j : Int) < (M : Int) := by omega
                    have hj0 : (0 : Int) ≤ (j : Int) := by omega
                    subst hgb
                    have f0 := ho.frozenAt (j * 2)
                    have hl0 := ho.1
                    obtain ⟨z0, hz0'⟩ : ∃ z, l[j * 2]? = some z := ⟨_, List.getElem?_eq_getElem (by omega)⟩
                    have e0 := (ho.cellAt (j * 2) (by omega)).trans hz0'
                    obtain ⟨st1, st2⟩ := ho.stored (j * 2) (.int .u8 0)
                    obtain ⟨z1, hz1'⟩ : ∃ z, (l.set (j * 2) (.int .u8 0))[j * 2 + 1]? = some z := ⟨_, List.getElem?_eq_getElem (by simp; omega)⟩
                    have e1 := (st1.cellAt (j * 2 + 1) (by omega)).trans hz1'
                    have f1 := st1.frozenAt (j * 2 + 1)
                    clear hz0' hz1' hl0
                    have HB := Lib.hid (own_lt HO2.out (b := gb) rfl)
                    have s3 := B3.out.size
                    go_wp2_with fail
                    obtain ⟨st3, st4⟩ := st1.stored (j * 2 + 1) (.int .u8 0)
                    refine ⟨⟨j + 1, _, by simp, by omega, st3, (hc.trans ((chg_grown st2).mono (fun b hb => by subst hb; have := HB.out; exact ⟨by omega, this.1⟩))).trans ((chg_grown st4).mono (fun b hb => by subst hb; have := HB.out; exact ⟨by omega, this.1⟩))⟩, by simp [intOf]; omega⟩
                  · obtain rfl : M = j := by omega
                    have HC2 := Lib.hid hc
                    clear hc ho
                    go_wp2_with fail
                    go_loopw [18] (fun v V => ∃ (j : Nat) (l : List Value), v = .int .i64 (j : Int) ∧ j ≤ G ∧ V.ownsRow u4.heap.size 58 2 (.slice al G cl) G l ∧ Chg (fun b => u2.heap.size ≤ b) u5 V) (fun v _ => G - (intOf v).toNat)
                    case atStart => exact ⟨0, _, rfl, Nat.zero_le _, own_keep HO3.out (fun b hv hlt => HC2.out.block b hlt (fun hs => by have := own_lt HO3.out hv; omega)) HC2.out.size, HC2.out.mono (fun b hb => hb.1)⟩
                    case round =>
                      obtain ⟨j, l, rfl, hj, ho, hc⟩ := hrel
                      by_cases hjn : j < G
                      · obtain ⟨gb, hgb⟩ := own_some ho hjn
                        have hji : (j : Int) < (G : Int) := by omega
                        have hj0 : (0 : Int) ≤ (j : Int) := by omega
                        subst hgb
                        have f0 := ho.frozenAt (j * 2)
                        have hl0 := ho.1
                        obtain ⟨z0, hz0'⟩ : ∃ z, l[j * 2]? = some z := ⟨_, List.getElem?_eq_getElem (by omega)⟩
                        have e0 := (ho.cellAt (j * 2) (by omega)).trans hz0'
                        obtain ⟨st1, st2⟩ := ho.stored (j * 2) (.int .i64 0)
                        obtain ⟨z1, hz1'⟩ : ∃ z, (l.set (j * 2) (.int .i64 0))[j * 2 + 1]? = some z := ⟨_, List.getElem?_eq_getElem (by simp; omega)⟩
                        have e1 := (st1.cellAt (j * 2 + 1) (by omega)).trans hz1'
                        have f1 := st1.frozenAt (j * 2 + 1)
                        clear hz0' hz1' hl0
                        have HB := Lib.hid (own_lt HO3.out (b := gb) rfl)
                        have s3 := B3.out.size
                        have s4 := B4.out.size
                        go_wp2_with fail
                        obtain ⟨st3, st4⟩ := st1.stored (j * 2 + 1) (.int .u8 0)
                        refine ⟨⟨j + 1, _, by simp, by omega, st3, (hc.trans ((chg_grown st2).mono (fun b hb => by subst hb; have := HB.out; omega))).trans ((chg_grown st4).mono (fun b hb => by subst hb; have := HB.out; omega))⟩, by simp [intOf]; omega⟩
                      · obtain rfl : G = j := by omega
                        have b25 := Q.call (Q.call B3.out B4.out) B5.out
                        have HF := Lib.hid ((HN2.out.new (hc.below b25 b25.size (fun b hb => hb))).mono (T' := fun b => b < w0.heap.size) (fun b hb => .inl hb))
                        clear hc ho b25
                        go_wp2_with fail
                        refine ⟨⟨k + 1, _, by simp, by omega, HF.out⟩, by simp [intOf]; omega⟩
          · have e0 : (ask == 0) = false := beq_eq_false_iff_ne.2 hask
            clear hask
            have A0 := HM.out.new (Q.alloc (Below.refl _ _) (.cells #[.int .i64 ask, .int .i64 r, .int .u8 v, .int .u8 tt, .int .i64 cyc] 37))
            have ko := Blk.new wr 37 #[.int .i64 ask, .int .i64 r, .int .u8 v, .int .u8 tt, .int .i64 cyc]
            have R1 := A0.wr1 r v tt cyc
            clear A0
            go_wp2_with fail
            generalize hWo : wr.alloc (.cells #[.int .i64 ask, .int .i64 r, .int .u8 v, .int .u8 tt, .int .i64 cyc] 37) = Wo at *
            (with_reducible refine R1.mono ?_)
            rintro e u1 ⟨rfl, A1, hk1, hz1⟩
            have ko1 := ko.hold hk1 (.inr (Nat.le_refl _))
            have kol := ko.lt
            have R2 := A1.wr2 r v tt cyc
            have o1 := ko1.cell 1
            have o2 := ko1.cell 2
            have o3 := ko1.cell 3
            have o4 := ko1.cell 4
            have HWo := Lib.hid hWo
            clear R1 A1 hk1 ko ko1 hWo c0 c1 c2 c3 c4
            go_wp2_with fail
            (with_reducible refine R2.mono ?_)
            rintro e u2 ⟨rfl, A2, hk2, hz2⟩
            have HN : Two w0 u2 g h (s.wrote r v tt cyc) (s.wrote r v tt cyc) (fun b => b < w0.heap.size) := A2.mono (fun b hb => ⟨⟨.inl hb, by omega⟩, by omega⟩)
            clear R2 A2 hk2 o1 o2 o3 o4
            generalize (s.wrote r v tt cyc) = s1 at HN
            have HN2 := Lib.hid HN
            have O1 := HN.out1
            obtain ⟨N, hN⟩ : ∃ N, s1.out.length = N := ⟨_, rfl⟩
            obtain ⟨M, hM⟩ : ∃ N, s1.kept.length = N := ⟨_, rfl⟩
            obtain ⟨G, hG⟩ : ∃ N, s1.log.length = N := ⟨_, rfl⟩
            rw [hN] at O1
            have HNo := Lib.hid hN
            have hNb : N ≤ 4096 := by rw [← hN]; exact HN2.out.1.1.out
            have hMb : M ≤ 4096 := by rw [← hM]; exact HN2.out.1.1.kept
            have hGb : G ≤ 4096 := by rw [← hG]; exact HN2.out.1.1.log
            clear HN hN
            go_wp2_with fail
            (with_reducible refine O1.mono ?_)
            rintro e u3 ⟨sv1, rfl, ho1, b3⟩
            obtain ⟨ao, co, rfl, -⟩ := own_slice ho1
            have K1 := (HN2.out.new b3).kept1
            rw [hM] at K1
            have HO1 := Lib.hid ho1
            have B3 := Lib.hid b3
            clear O1 ho1 b3 hM
            go_wp2_with fail
            (with_reducible refine K1.mono ?_)
            rintro e u4 ⟨sv2, rfl, ho2, b4⟩
            obtain ⟨ak, ck, rfl, -⟩ := own_slice ho2
            have L1 := ((HN2.out.new B3.out).new b4).log1
            rw [hG] at L1
            have HO2 := Lib.hid ho2
            have B4 := Lib.hid b4
            clear K1 ho2 b4 hG
            go_wp2_with fail
            (with_reducible refine L1.mono ?_)
            rintro e u5 ⟨sv3, rfl, ho3, b5⟩
            obtain ⟨al, cl, rfl, -⟩ := own_slice ho3
            have HO3 := Lib.hid ho3
            have B5 := Lib.hid b5
            clear L1 ho3 b5
            go_wp2_with fail
            go_loopw [16] (fun v V => ∃ (j : Nat) (l : List Int), v = .int .i64 (j : Int) ∧ j ≤ N ∧ l.length = N ∧ V.ownsRow u2.heap.size 5 1 (.slice ao N co) N (EU.row l) ∧ Chg (fun b => u2.heap.size ≤ b ∧ b < u3.heap.size) u5 V) (fun v _ => N - (intOf v).toNat)
            case atStart => exact ⟨0, s1.out, rfl, Nat.zero_le _, HNo.out, own_keep (own_keep HO1.out (fun b _ hlt => B4.out.block b hlt) B4.out.size) (fun b _ hlt => B5.out.block b hlt) B5.out.size, Chg.refl _ _⟩
            case round =>
              obtain ⟨j, l, rfl, hj, hl, ho, hc⟩ := hrel
              by_cases hjn : j < N
              · obtain ⟨gb, hgb⟩ := own_some ho hjn
                have hji : (j : Int) < (N : Int) := by omega
                have hj0 : (0 : Int) ≤ (j : Int) := by omega
                obtain ⟨z, hz⟩ : ∃ z, l[j]? = some z := ⟨_, List.getElem?_eq_getElem (by omega)⟩
                subst hgb
                have e0 : wr.cell? ⟨gb, j, none⟩ = some (.int .u8 z) := by
                  rw [ho.cellAt j (by omega), rowU, List.getElem?_map, hz]
                  rfl
                have f0 := ho.frozenAt j
                have HB := Lib.hid (own_lt HO1.out (b := gb) rfl)
                clear hz
                go_wp2_with fail
                obtain ⟨st1, st2⟩ := ho.stored j (.int .u8 ((z + 1) % 256))
                rw [rowU_set] at st1
                refine ⟨⟨j + 1, _, by simp, by omega, by simpa using hl, st1, hc.trans ((chg_grown st2).mono (fun b hb => by subst hb; exact ⟨HB.out.2, HB.out.1⟩))⟩, by simp [intOf]; omega⟩
              · obtain rfl : N = j := by omega
                have HC := Lib.hid hc
                clear hc ho
                go_wp2_with fail
                go_loopw [17] (fun v V => ∃ (j : Nat) (l : List Value), v = .int .i64 (j : Int) ∧ j ≤ M ∧ V.ownsRow u3.heap.size 23 2 (.slice ak M ck) M l ∧ Chg (fun b => u2.heap.size ≤ b ∧ b < u4.heap.size) u5 V) (fun v _ => M - (intOf v).toNat)
                case atStart => exact ⟨0, _, rfl, Nat.zero_le _, own_keep (own_keep HO2.out (fun b _ hlt => B5.out.block b hlt) B5.out.size) (fun b hv hlt => HC.out.block b hlt (fun hs => by have := own_lt HO2.out hv; omega)) HC.out.size, HC.out.mono (fun b hb => ⟨hb.1, Nat.lt_of_lt_of_le hb.2 B4.out.size⟩)⟩
                case round =>
                  obtain ⟨j, l, rfl, hj, ho, hc⟩ := hrel
                  by_cases hjn : j < M
                  · obtain ⟨gb, hgb⟩ := own_some ho hjn
                    have hji : (j : Int) < (M : Int) := by omega
                    have hj0 : (0 : Int) ≤ (j : Int) := by omega
                    subst hgb
                    have f0 := ho.frozenAt (j * 2)
                    have hl0 := ho.1
                    obtain ⟨z0, hz0'⟩ : ∃ z, l[j * 2]? = some z := ⟨_, List.getElem?_eq_getElem (by omega)⟩
                    have e0 := (ho.cellAt (j * 2) (by omega)).trans hz0'
                    obtain ⟨st1, st2⟩ := ho.stored (j * 2) (.int .u8 0)
                    obtain ⟨z1, hz1'⟩ : ∃ z, (l.set (j * 2) (.int .u8 0))[j * 2 + 1]? = some z := ⟨_, List.getElem?_eq_getElem (by simp; omega)⟩
                    have e1 := (st1.cellAt (j * 2 + 1) (by omega)).trans hz1'
                    have f1 := st1.frozenAt (j * 2 + 1)
                    clear hz0' hz1' hl0
                    have HB := Lib.hid (own_lt HO2.out (b := gb) rfl)
                    have s3 := B3.out.size
                    go_wp2_with fail
                    obtain ⟨st3, st4⟩ := st1.stored (j * 2 + 1) (.int .u8 0)
                    refine ⟨⟨j + 1, _, by simp, by omega, st3, (hc.trans ((chg_grown st2).mono (fun b hb => by subst hb; have := HB.out; exact ⟨by omega, this.1⟩))).trans ((chg_grown st4).mono (fun b hb => by subst hb; have := HB.out; exact ⟨by omega, this.1⟩))⟩, by simp [intOf]; omega⟩
                  · obtain rfl : M = j := by omega
                    have HC2 := Lib.hid hc
                    clear hc ho
                    go_wp2_with fail
                    go_loopw [18] (fun v V => ∃ (j : Nat) (l : List Value), v = .int .i64 (j : Int) ∧ j ≤ G ∧ V.ownsRow u4.heap.size 58 2 (.slice al G cl) G l ∧ Chg (fun b => u2.heap.size ≤ b) u5 V) (fun v _ => G - (intOf v).toNat)
                    case atStart => exact ⟨0, _, rfl, Nat.zero_le _, own_keep HO3.out (fun b hv hlt => HC2.out.block b hlt (fun hs => by have := own_lt HO3.out hv; omega)) HC2.out.size, HC2.out.mono (fun b hb => hb.1)⟩
                    case round =>
                      obtain ⟨j, l, rfl, hj, ho, hc⟩ := hrel
                      by_cases hjn : j < G
                      · obtain ⟨gb, hgb⟩ := own_some ho hjn
                        have hji : (j : Int) < (G : Int) := by omega
                        have hj0 : (0 : Int) ≤ (j : Int) := by omega
                        subst hgb
                        have f0 := ho.frozenAt (j * 2)
                        have hl0 := ho.1
                        obtain ⟨z0, hz0'⟩ : ∃ z, l[j * 2]? = some z := ⟨_, List.getElem?_eq_getElem (by omega)⟩
                        have e0 := (ho.cellAt (j * 2) (by omega)).trans hz0'
                        obtain ⟨st1, st2⟩ := ho.stored (j * 2) (.int .i64 0)
                        obtain ⟨z1, hz1'⟩ : ∃ z, (l.set (j * 2) (.int .i64 0))[j * 2 + 1]? = some z := ⟨_, List.getElem?_eq_getElem (by simp; omega)⟩
                        have e1 := (st1.cellAt (j * 2 + 1) (by omega)).trans hz1'
                        have f1 := st1.frozenAt (j * 2 + 1)
                        clear hz0' hz1' hl0
                        have HB := Lib.hid (own_lt HO3.out (b := gb) rfl)
                        have s3 := B3.out.size
                        have s4 := B4.out.size
                        go_wp2_with fail
                        obtain ⟨st3, st4⟩ := st1.stored (j * 2 + 1) (.int .u8 0)
                        refine ⟨⟨j + 1, _, by simp, by omega, st3, (hc.trans ((chg_grown st2).mono (fun b hb => by subst hb; have := HB.out; omega))).trans ((chg_grown st4).mono (fun b hb => by subst hb; have := HB.out; omega))⟩, by simp [intOf]; omega⟩
                      · obtain rfl : G = j := by omega
                        have b25 := Q.call (Q.call B3.out B4.out) B5.out
                        have HF := Lib.hid ((HN2.out.new (hc.below b25 b25.size (fun b hb => hb))).mono (T' := fun b => b < w0.heap.size) (fun b hb => .inl hb))
                        clear hc ho b25
                        go_wp2_with fail
                        refine ⟨⟨k + 1, _, by simp, by omega, HF.out⟩, by simp [intOf]; omega⟩
        · obtain rfl : len = k := by omega
          have L := fun V (hV : Below wr.heap.size wr V) => (hm.new hV).low (LowP.refl s)
          have BF := Lib.hid (Q.call BA0.out hBr)
          clear hm hBr
          go_wp2_with fail
          (with_reducible refine (nil_read _).mono ?_)
          rintro e v1 ⟨rfl, n1⟩
          go_wp2_with fail
          (with_reducible refine (nil_write _).mono ?_)
          rintro e v2 ⟨rfl, n2⟩
          go_wp2_with fail
          have hV : Below wr.heap.size wr v2 := Q.call (Q.alloc n1 _) n2
          have L' := L v2 hV
          have BV := Lib.hid (Q.call BF.out hV)
          clear L n1 n2 hV BF
          (with_reducible refine L'.mono ?_)
          rintro e v3 ⟨rfl, n3⟩
          clear L'
          go_wp2_with fail
          (with_reducible refine (nil_out _).mono ?_)
          rintro e v4 ⟨rfl, n4⟩
          go_wp2_with fail
          (with_reducible refine (nil_kept _).mono ?_)
          rintro e v5 ⟨rfl, n5⟩
          go_wp2_with fail
          (with_reducible refine (nil_log _).mono ?_)
          rintro e v6 ⟨rfl, n6⟩
          go_wp2_with fail
          (with_reducible refine (nil_left _).mono ?_)
          rintro e v7 ⟨rfl, n7⟩
          go_wp2_with fail
          (with_reducible refine (nil_clone _).mono ?_)
          rintro e v8 ⟨rfl, n8⟩
          go_wp2_with fail
          (with_reducible refine (nil_low _).mono ?_)
          rintro e v9 ⟨rfl, n9⟩
          go_wp2_with fail
          (with_reducible refine (nil_low1 _ _).mono ?_)
          rintro e v10 ⟨rfl, n10⟩
          go_wp2_with fail
          (with_reducible refine (nil_low2 _ _).mono ?_)
          rintro e v11 ⟨rfl, n11⟩
          go_wp2_with fail
          (with_reducible refine (awake11_calls _).mono ?_)
          rintro e v12 ⟨rfl, n12⟩
          go_wp2
          go_returns
          exact ⟨rfl, Q.call (Q.call (Q.call (Q.call (Q.call (Q.call (Q.call (Q.call (Q.call (Q.call BV.out n3) n4) n5) n6) n7) n8) n9) n10) n11) n12⟩
set_option maxRecDepth 100000 in
set_option maxHeartbeats 3200000 in
theorem portsOwn_walk (x1 x2 : Value) (xs ys : List Int) (a : Option Addr) (len cap : Nat) (ops : List POp) (w : World) (hx1 : Rd EU w (fun _ => True) x1 xs) (hx2 : Rd EU w (fun _ => True) x2 ys)
    (hr : ReadsP w w.heap.size a len ops) :
    Calls Try.prog 6 #[.agg #[x1, x2], .slice a len cap] w fun e w' => e = .returned (.bool true) ∧ Below w.heap.size w w' := by
  by_cases hA : xs.length ≤ 300 ∧ ys.length ≤ 300 ∧ len ≤ 200
  · exact portsOwn_ok x1 x2 xs ys a len cap ops w hx1 hx2 hr hA.1 hA.2.1 hA.2.2
  · obtain ⟨a1, c1, hv1⟩ := hx1.len
    obtain ⟨a2, c2, hv2⟩ := hx2.len
    subst hv1 hv2
    have F1 := fun V => few_no a1 a2 xs.length ys.length c1 c2 a len cap V hA
    clear hx1 hx2 hr hA
    go_enter Try.func6, Try.ntmps6
    go_wp2_with fail
    have bA : Below w.heap.size w (w.alloc (.cells #[.slice a1 xs.length c1, .slice a2 ys.length c2] 41)) := Q.alloc (Below.refl _ _) _
    generalize w.alloc (.cells #[.slice a1 xs.length c1, .slice a2 ys.length c2] 41) = WA at *
    (with_reducible refine (F1 _).mono ?_)
    rintro e w1 ⟨rfl, b1⟩
    have bA1 := Q.call bA b1
    clear F1 b1
    go_wp2_with (go_at_call 7; (with_reducible refine (awake11_calls _).mono ?_); rintro e w9 ⟨rfl, b9⟩)
    go_returns
    exact ⟨rfl, Q.call bA1 b9⟩
end Go.Proofs.Yteciicojnodibaa
