/- The document's Sorted is the sorted list. (printed by gen/rf8.py) -/
import Derived.Test.YtggnkkmlabhofaaRf7
import Derived.Test.YtggnkkmlabhofaaRf3
namespace Go.Proofs.Ytggnkkmlabhofaa
set_option linter.unusedVariables false
set_option linter.unusedSimpArgs false
open Go.RowKit Go.Sort Go.Shelf Go.Lib
attribute [local go_sem ↓] Go.wp_at_zero Go.wp_at_succ

theorem info_rs8 : (Try.prog.info? 41).map (fun i => (i.zero, i.size, i.bytes)) = some (some (.agg #[.int .i64 0, .int .i64 0, .int .i64 0]), 3, 24) := by kernel_rfl
theorem RdN.cellAt {w : World} {R : Nat → Prop} {v : Value} {l : List Sp} (h : Rd EN w R v l) {k : Nat} {x : Sp} (hk : l[k]? = some x) : ∃ b off cap, v = .slice (some ⟨b, off, none⟩) l.length cap ∧ b < w.heap.size ∧ R b ∧ w.cell? ⟨b, off + k * 3, none⟩ = some (.int .i64 x.f) ∧ w.cell? ⟨b, off + k * 3 + 1, none⟩ = some (.int .i64 x.t) ∧ w.cell? ⟨b, off + k * 3 + 2, none⟩ = some (.int .i64 x.b) := by
  obtain ⟨a, cap, rfl, hc, hn, hr⟩ := h
  have hkl := (List.getElem?_eq_some_iff.1 hk).1
  obtain ⟨b, off, rfl, hb, hR, hcell⟩ := hr (by omega)
  exact ⟨b, off, cap, rfl, hb, hR, hcell k x hk 0 _ rfl, hcell k x hk 1 _ rfl, hcell k x hk 2 _ rfl⟩
set_option maxHeartbeats 8000000 in
set_option maxRecDepth 100000 in
theorem rsorted_eq (w : World) (R : Nat → Prop) (v : Value) (l : List Sp) (hr : Rd EN w R v l) (hl : l.length ≤ 100) :
    Calls Try.prog 9 #[v] w fun e w' => ∃ a c, e = .returned (.slice a l.length c) ∧ Rd EN w' (fun b => w.heap.size ≤ b) (.slice a l.length c) (srt l) ∧ Below w.heap.size w w' := by
  have HR := Lib.hid hr
  obtain ⟨i0, hi0, hz0, hz1, hz2⟩ := info_parts info_rs8
  obtain ⟨sa, sc, rfl, _, _, _⟩ := hr
  go_enter Try.func9, Try.ntmps9
  go_wp2_with fail
  go_loopw [3, 4] (fun sv iv wr => ∃ (i : Nat) (a : Option Addr) (c : Nat), sv = .slice a i c ∧ iv = .int .i64 (i : Int) ∧ i ≤ l.length ∧ Hid (wr.ownsRow w.heap.size 41 3 (.slice a i c) i (EN.row (srt (l.take i)))) ∧ Hid (Below w.heap.size w wr)) (fun _ iv _ => l.length - (intOf iv).toNat)
  case atStart => exact ⟨0, none, 0, rfl, rfl, Nat.zero_le _, Lib.hid (World.ownsRow_nil _ _ _ _), Lib.hid (Below.refl _ _)⟩
  case round =>
    obtain ⟨i, a, c, rfl, rfl, hil, HO, HB⟩ := hrel
    by_cases hlt : i < l.length
    · have hlti : (i : Int) < (l.length : Int) := by omega
      obtain ⟨y, hy⟩ : ∃ y, l[i]? = some y := ⟨_, List.getElem?_eq_getElem hlt⟩
      obtain ⟨lb, loff, lcap, hlv, hlb, _, ly0, ly1, ly2⟩ := RdN.cellAt (HR.out.below HB.out) hy
      injection hlv with hla hli0 hlc
      clear hli0
      subst hla hlc
      obtain ⟨o, ho⟩ : ∃ o, o = srt (l.take i) := ⟨_, rfl⟩
      have HOL := Lib.hid (show o.length = i by rw [ho, srt_length, List.length_take]; omega)
      have HST := Lib.hid (show srt (l.take (i + 1)) = sins y o by rw [srt_take hy, ho])
      rw [← ho] at HO
      have HOR := Lib.hid (show Rd EN wr (fun _ => True) (.slice a i c) o from Ow.rd (T := 41) (S := fun _ => True) ⟨by rw [HOL.out]; exact own_lower HO.out (Nat.zero_le _), fun _ _ => trivial⟩)
      have hci : i ≤ c := by
        obtain ⟨a', c', e, h1⟩ := own_slice HO.out
        injection e with _ _ e
        omega
      clear ho hy
      generalize wr = W0 at *
      have HL3 := Lib.hid (And.intro ly0 (And.intro ly1 (And.intro ly2 hlb)))
      go_wp2_with fail
      go_loopw [5] (fun nv wq => ∃ n : Nat, nv = .int .i64 (n : Int) ∧ n ≤ i ∧ Hid (∀ k z, k < n → o[k]? = some z → z.f ≤ y.f) ∧ Hid (Below W0.heap.size W0 wq)) (fun nv _ => i - (intOf nv).toNat)
      case atStart => exact ⟨0, rfl, Nat.zero_le _, Lib.hid (fun k z hk _ => absurd hk (by omega)), Lib.hid (Below.refl _ _)⟩
      case round =>
        obtain ⟨n, rfl, hni, HN, HQ⟩ := hrel
        have HLY0 := Lib.hid ((HQ.out.cell (p := ⟨lb, _, none⟩) hlb).trans ly0)
        have lyl : lb < wr.heap.size := Nat.lt_of_lt_of_le hlb HQ.out.size
        have L1 : ∀ q : BW wr, q.val.cell? ⟨lb, loff + i * 3, none⟩ = some (.int .i64 y.f) := fun q => (q.has.cell (p := ⟨lb, _, none⟩) lyl).trans HLY0.out
        by_cases hni2 : n < i
        · obtain ⟨z, hz⟩ : ∃ z, o[n]? = some z := ⟨_, List.getElem?_eq_getElem (by rw [HOL.out]; exact hni2)⟩
          obtain ⟨b2, off2, cap2, hov, hb2, _, q0, _, _⟩ := RdN.cellAt (HOR.out.below HQ.out) hz
          injection hov with hoa hoi hoc
          clear hoi
          subst hoa hoc
          have L2 : ∀ q : BW wr, q.val.cell? ⟨b2, off2 + n * 3, none⟩ = some (.int .i64 z.f) := fun q => (q.has.cell (p := ⟨b2, _, none⟩) hb2).trans q0
          have hnz : (n : Int) < (i : Int) := by omega
          have HZ := Lib.hid hz
          clear hz q0 ly0 ly1 ly2
          by_cases hz1 : z.f ≤ y.f
          · have d1 : decide (z.f ≤ y.f) = true := decide_eq_true hz1
            have HN2 := Lib.hid (show ∀ k z', k < n + 1 → o[k]? = some z' → z'.f ≤ y.f from fun k z' hk hz' => by
              by_cases hkn : k = n
              · rw [hkn, HZ.out] at hz'
                injection hz' with hz'
                rw [← hz']
                exact hz1
              · exact HN.out k z' (by omega) hz')
            clear hz1
            go_wp2_with fail
            refine wp_region_below (by kernel_rfl) (by kernel_rfl) ?_
            repeat (go_big_quiet_step (fail))
            refine wpQuiet_nil ?_
            first | (intro w9 hw9; obtain ⟨y9, rfl⟩ := hw9) | intro y9
            go_wp2_with fail
            refine ⟨⟨n + 1, by simp, by omega, HN2, Lib.hid (Q.call HQ.out y9.has)⟩, by simp [intOf]; omega⟩
          · have d1 : decide (z.f ≤ y.f) = false := decide_eq_false hz1
            have HSC := Lib.hid (show srt (l.take (i + 1)) = o.take n ++ y :: o.drop n by
              rw [HST.out]
              exact sins_cut y o n (by rw [HOL.out]; omega) HN.out (fun z' hz' => by rw [HZ.out] at hz'; injection hz' with hz'; rw [← hz']; omega))
            clear hz1
            go_wp2_with fail
            refine wp_region_below (by kernel_rfl) (by kernel_rfl) ?_
            repeat (go_big_quiet_step (fail))
            refine wpQuiet_nil ?_
            first | (intro w9 hw9; obtain ⟨y9, rfl⟩ := hw9) | intro y9
            obtain ⟨V, hV⟩ : ∃ V, V = y9.val := ⟨_, rfl⟩
            have HBV := Lib.hid (show Below W0.heap.size W0 V by rw [hV]; exact Q.call HQ.out y9.has)
            rw [← hV]
            clear hV L1 L2 hnz
            have HWV := Lib.hid (Q.call HB.out HBV.out)
            have RDV := HOR.out.below HBV.out
            have hoo : o.length = i := HOL.out
            have htl : (o.take n).length = n := by rw [List.length_take]; omega
            have hdl : (o.drop n).length = i - n := by rw [List.length_drop]; omega
            have HTL := Lib.hid htl
            have HDL := Lib.hid hdl
            have SRC1 := Lib.hid (show Src V (.slice (some ⟨b2, off2, none⟩) n c) n (EN.row (o.take n)) by have h := (RdN.take RDV (i := n) (by omega)).src; rw [htl] at h; exact h)
            have hn100 : n ≤ 100 := by omega
            have hcn0 : n ≤ c := by omega
            have hnci : (n : Int) ≤ (c : Int) := by omega
            have hn00 : (0 : Int) ≤ (n : Int) := by omega
            have hbas : w.heap.size ≤ V.heap.size := HWV.out.size
            clear htl hdl hoo RDV
            go_wp2_with (at_builtin; refine wpList_append_src rfl _ _ 32 rfl V.heap.size 41 i0 _ 3 24 Try.underlying32 hi0 hz0 hz1 hz2 rfl (by decide) (.slice none 0 0) 0 [] rfl (World.ownsRow_nil _ _ _ _) (.slice (some ⟨b2, off2, none⟩) n c) n (EN.row (o.take n)) rfl SRC1.out (by rw [EN.row_length, HTL.out]) (EN.row_one _) (by unfold maxLen; omega) (by omega) (Nat.le_refl V.heap.size) ?_; intro v1 w1 hown1 hgrow1; simp only [Nat.zero_add, List.nil_append] at hown1; have HO1 := Lib.hid hown1; have HG1 := Lib.hid hgrow1; clear hown1 hgrow1; refine Hid.out ?_)
            refine Lib.hid ?_
            have B1 : Below V.heap.size V w1 := ⟨HG1.out.os, HG1.out.tape, HG1.out.output, HG1.out.size, fun k hk => HG1.out.block k hk (by simp [Value.ownBlock])⟩
            obtain ⟨l0, l1, l2, hlb'⟩ := HL3.out
            have B01 : Below W0.heap.size W0 w1 := Q.call HBV.out B1
            have e0 : w1.cell? ⟨lb, loff + i * 3, none⟩ = some (.int .i64 y.f) := (B01.cell (p := ⟨lb, _, none⟩) hlb').trans l0
            have e1 : w1.cell? ⟨lb, loff + i * 3 + 1, none⟩ = some (.int .i64 y.t) := (B01.cell (p := ⟨lb, _, none⟩) hlb').trans l1
            have e2 : w1.cell? ⟨lb, loff + i * 3 + 2, none⟩ = some (.int .i64 y.b) := (B01.cell (p := ⟨lb, _, none⟩) hlb').trans l2
            have el : lb < w1.heap.size := Nat.lt_of_lt_of_le hlb' B01.size
            have hs1 : V.heap.size ≤ w1.heap.size := B1.size
            have HB1 := Lib.hid B1
            clear B1 B01 l0 l1 l2 hlb' SRC1
            go_wp2_with (at_builtin; refine wpList_append_src rfl _ _ 32 rfl V.heap.size 41 i0 _ 3 24 Try.underlying32 hi0 hz0 hz1 hz2 rfl (by decide) v1 n (EN.row (o.take n)) rfl (own_keep HO1.out (fun b _ hlt => Below.heap_alloc w1 _ b hlt) (by simp)) (.slice (some ⟨w1.heap.size, 0, none⟩) 1 1) 1 [.int .i64 y.f, .int .i64 y.t, .int .i64 y.b] rfl (Or.inr ⟨_, 1, rfl, World.news_of_block (cs := #[.int .i64 y.f, .int .i64 y.t, .int .i64 y.b]) (t := 41) (fr := (0, 0)) (Blk.new' rfl)⟩) rfl (by simp [Value.oneCell']) (by unfold maxLen; omega) (by omega) (by simp; omega) ?_; intro v2 w2 hown2 hgrow2; have HO2 := Lib.hid hown2; have HG2 := Lib.hid hgrow2; clear hown2 hgrow2; refine Hid.out ?_)
            refine Lib.hid ?_
            have HV2 : ∀ k, k < V.heap.size → w2.heap[k]? = V.heap[k]? := fun k hk =>
              (HG2.out.block k (by simp; omega) (fun e => by have := (own_lt HO1.out e.symm).2; omega)).trans ((Below.heap_alloc w1 _ k (by omega)).trans (HB1.out.block k hk))
            have hs2 : V.heap.size ≤ w2.heap.size := by have := HG2.out.size; simp at this; omega
            have RD2 := (HOR.out.below HBV.out).keep (w' := w2) (R' := fun _ => True) (fun b hb _ => ⟨HV2 b hb, trivial⟩) hs2
            have HRD2 := Lib.hid RD2
            have HHV2 := Lib.hid HV2
            clear e0 e1 e2 el RD2 HV2
            have hcn : ¬ c = n := by omega
            have hnil : (n : Int) ≤ (i : Int) := by omega
            have hicl : (i : Int) ≤ (c : Int) := by omega
            have hnin : n ≤ i := by omega
            have SRC3 := Lib.hid (show Src w2 (.slice (some ⟨b2, off2 + n * 3, none⟩) (i - n) (c - n)) (i - n) (EN.row (o.drop n)) by
              have h := (RdN.drop (by rw [← HOL.out] at HRD2; exact HRD2.out) (n := n) (by rw [HOL.out]; omega) (c - n) (by rw [HOL.out]; omega)).src
              rw [HDL.out, HOL.out] at h
              exact h)
            go_wp2_with (at_builtin; refine wpList_append_src rfl _ _ 32 rfl V.heap.size 41 i0 _ 3 24 Try.underlying32 hi0 hz0 hz1 hz2 rfl (by decide) v2 (n + 1) (EN.row (o.take n) ++ [.int .i64 y.f, .int .i64 y.t, .int .i64 y.b]) rfl HO2.out (.slice (some ⟨b2, off2 + n * 3, none⟩) (i - n) (c - n)) (i - n) (EN.row (o.drop n)) rfl SRC3.out (by rw [EN.row_length, HDL.out]) (EN.row_one _) (by unfold maxLen; omega) (by omega) hs2 ?_; intro v3 w3 hown3 hgrow3; obtain ⟨a3, c3, hv3, hc3⟩ := own_slice hown3; subst hv3; have HO3 := Lib.hid hown3; have HG3 := Lib.hid hgrow3; clear hown3 hgrow3 hc3; refine Hid.out ?_)
            refine Lib.hid ?_
            have hi1 : n + 1 + (i - n) = i + 1 := by omega
            have HI1 := Lib.hid hi1
            have OWNF := Lib.hid (show w3.ownsRow w.heap.size 41 3 (.slice a3 (i + 1) c3) (i + 1) (EN.row (srt (l.take (i + 1)))) by
              have h := own_lower HO3.out hbas
              rw [hi1] at h
              rw [HSC.out, EN.row_append, show EN.row (y :: o.drop n) = [.int .i64 y.f, .int .i64 y.t, .int .i64 y.b] ++ EN.row (o.drop n) from rfl, ← List.append_assoc]
              exact h)
            have BELF := Lib.hid (show Below w.heap.size w w3 from ((Q.alloc (Q.call HWV.out HB1.out) _).grown HG2.out (by simp; omega) (fun g e => by have := (own_lt HO1.out e).2; omega)).grown HG3.out (by omega) (fun g e => by have := (own_lt HO2.out e).2; omega))
            clear HO1 HG1 HO2 HG2 HO3 HG3 HRD2 HHV2 hi1 SRC3
            go_wp2_with fail
            refine ⟨⟨i + 1, a3, c3, by rw [HI1.out], by simp, by omega, OWNF, BELF⟩, by simp [intOf]; omega⟩
        · have hne : n = i := by omega
          have hnz : ¬ (n : Int) < (i : Int) := by omega
          have HSC := Lib.hid (show srt (l.take (i + 1)) = o.take n ++ y :: o.drop n by
            rw [HST.out]
            exact sins_cut y o n (by rw [HOL.out]; omega) HN.out (fun z' hz' => by have := (List.getElem?_eq_some_iff.1 hz').1; rw [HOL.out] at this; omega))
          have HNE := Lib.hid hne
          clear ly0 hne
          go_wp2_with fail
          refine wp_region_below (by kernel_rfl) (by kernel_rfl) ?_
          repeat (go_big_quiet_step (fail))
          refine wpQuiet_nil ?_
          first | (intro w9 hw9; obtain ⟨y9, rfl⟩ := hw9) | intro y9
          obtain ⟨V, hV⟩ : ∃ V, V = y9.val := ⟨_, rfl⟩
          have HBV := Lib.hid (show Below W0.heap.size W0 V by rw [hV]; exact Q.call HQ.out y9.has)
          rw [← hV]
          clear hV L1 hnz
          have HWV := Lib.hid (Q.call HB.out HBV.out)
          have RDV := HOR.out.below HBV.out
          have hoo : o.length = i := HOL.out
          have htl : (o.take n).length = n := by rw [List.length_take]; omega
          have hdl : (o.drop n).length = i - n := by rw [List.length_drop]; omega
          have HTL := Lib.hid htl
          have HDL := Lib.hid hdl
          have SRC1 := Lib.hid (show Src V (.slice a n c) n (EN.row (o.take n)) by have h := (RdN.take RDV (i := n) (by omega)).src; rw [htl] at h; exact h)
          have hn100 : n ≤ 100 := by omega
          have hcn0 : n ≤ c := by omega
          have hnci : (n : Int) ≤ (c : Int) := by omega
          have hn00 : (0 : Int) ≤ (n : Int) := by omega
          have hbas : w.heap.size ≤ V.heap.size := HWV.out.size
          clear htl hdl hoo RDV
          go_wp2_with (at_builtin; refine wpList_append_src rfl _ _ 32 rfl V.heap.size 41 i0 _ 3 24 Try.underlying32 hi0 hz0 hz1 hz2 rfl (by decide) (.slice none 0 0) 0 [] rfl (World.ownsRow_nil _ _ _ _) (.slice a n c) n (EN.row (o.take n)) rfl SRC1.out (by rw [EN.row_length, HTL.out]) (EN.row_one _) (by unfold maxLen; omega) (by omega) (Nat.le_refl V.heap.size) ?_; intro v1 w1 hown1 hgrow1; simp only [Nat.zero_add, List.nil_append] at hown1; have HO1 := Lib.hid hown1; have HG1 := Lib.hid hgrow1; clear hown1 hgrow1; refine Hid.out ?_)
          refine Lib.hid ?_
          have B1 : Below V.heap.size V w1 := ⟨HG1.out.os, HG1.out.tape, HG1.out.output, HG1.out.size, fun k hk => HG1.out.block k hk (by simp [Value.ownBlock])⟩
          obtain ⟨l0, l1, l2, hlb'⟩ := HL3.out
          have B01 : Below W0.heap.size W0 w1 := Q.call HBV.out B1
          have e0 : w1.cell? ⟨lb, loff + i * 3, none⟩ = some (.int .i64 y.f) := (B01.cell (p := ⟨lb, _, none⟩) hlb').trans l0
          have e1 : w1.cell? ⟨lb, loff + i * 3 + 1, none⟩ = some (.int .i64 y.t) := (B01.cell (p := ⟨lb, _, none⟩) hlb').trans l1
          have e2 : w1.cell? ⟨lb, loff + i * 3 + 2, none⟩ = some (.int .i64 y.b) := (B01.cell (p := ⟨lb, _, none⟩) hlb').trans l2
          have el : lb < w1.heap.size := Nat.lt_of_lt_of_le hlb' B01.size
          have hs1 : V.heap.size ≤ w1.heap.size := B1.size
          have HB1 := Lib.hid B1
          clear B1 B01 l0 l1 l2 hlb' SRC1
          go_wp2_with (at_builtin; refine wpList_append_src rfl _ _ 32 rfl V.heap.size 41 i0 _ 3 24 Try.underlying32 hi0 hz0 hz1 hz2 rfl (by decide) v1 n (EN.row (o.take n)) rfl (own_keep HO1.out (fun b _ hlt => Below.heap_alloc w1 _ b hlt) (by simp)) (.slice (some ⟨w1.heap.size, 0, none⟩) 1 1) 1 [.int .i64 y.f, .int .i64 y.t, .int .i64 y.b] rfl (Or.inr ⟨_, 1, rfl, World.news_of_block (cs := #[.int .i64 y.f, .int .i64 y.t, .int .i64 y.b]) (t := 41) (fr := (0, 0)) (Blk.new' rfl)⟩) rfl (by simp [Value.oneCell']) (by unfold maxLen; omega) (by omega) (by simp; omega) ?_; intro v2 w2 hown2 hgrow2; have HO2 := Lib.hid hown2; have HG2 := Lib.hid hgrow2; clear hown2 hgrow2; refine Hid.out ?_)
          refine Lib.hid ?_
          have HV2 : ∀ k, k < V.heap.size → w2.heap[k]? = V.heap[k]? := fun k hk =>
            (HG2.out.block k (by simp; omega) (fun e => by have := (own_lt HO1.out e.symm).2; omega)).trans ((Below.heap_alloc w1 _ k (by omega)).trans (HB1.out.block k hk))
          have hs2 : V.heap.size ≤ w2.heap.size := by have := HG2.out.size; simp at this; omega
          have RD2 := (HOR.out.below HBV.out).keep (w' := w2) (R' := fun _ => True) (fun b hb _ => ⟨HV2 b hb, trivial⟩) hs2
          have HRD2 := Lib.hid RD2
          have HHV2 := Lib.hid HV2
          clear e0 e1 e2 el RD2 HV2
          have hdn : o.drop n = [] := List.drop_eq_nil_of_le (by rw [HOL.out]; omega)
          have HDN := Lib.hid hdn
          have hnil : (n : Int) ≤ (i : Int) := by omega
          have hicl : (i : Int) ≤ (c : Int) := by omega
          have hnin : n ≤ i := by omega
          have hcase : (a = none ∧ i = 0 ∧ c = 0) ∨ ∃ b off, a = some ⟨b, off, none⟩ := by
            rcases HO.out.2 with ⟨e, hx⟩ | ⟨gb, cap, cur, e, _⟩
            · cases e
              exact .inl ⟨rfl, rfl, rfl⟩
            · injection e with e1 _ _
              exact .inr ⟨gb, 0, e1⟩
          clear hdn
          rcases hcase with ⟨hA, hi00, hc00⟩ | ⟨b2, off2, hA⟩
          · subst hA
            have hcn : c = n := by omega
            have hin0 : i - n = 0 := by omega
            have SRC3 := Lib.hid (show Src w2 (.slice none (i - n) 0) (i - n) (EN.row (o.drop n)) from Or.inl ⟨by rw [hin0], hin0, by rw [HDN.out]; rfl⟩)
            clear hi00 hc00 hin0
            go_wp2_with (at_builtin; refine wpList_append_src rfl _ _ 32 rfl V.heap.size 41 i0 _ 3 24 Try.underlying32 hi0 hz0 hz1 hz2 rfl (by decide) v2 (n + 1) (EN.row (o.take n) ++ [.int .i64 y.f, .int .i64 y.t, .int .i64 y.b]) rfl HO2.out (.slice none (i - n) 0) (i - n) (EN.row (o.drop n)) rfl SRC3.out (by rw [EN.row_length, HDL.out]) (EN.row_one _) (by unfold maxLen; omega) (by omega) hs2 ?_; intro v3 w3 hown3 hgrow3; obtain ⟨a3, c3, hv3, hc3⟩ := own_slice hown3; subst hv3; have HO3 := Lib.hid hown3; have HG3 := Lib.hid hgrow3; clear hown3 hgrow3 hc3; refine Hid.out ?_)
            refine Lib.hid ?_
            have hi1 : n + 1 + (i - n) = i + 1 := by omega
            have HI1 := Lib.hid hi1
            have OWNF := Lib.hid (show w3.ownsRow w.heap.size 41 3 (.slice a3 (i + 1) c3) (i + 1) (EN.row (srt (l.take (i + 1)))) by
              have h := own_lower HO3.out hbas
              rw [hi1] at h
              rw [HSC.out, EN.row_append, show EN.row (y :: o.drop n) = [.int .i64 y.f, .int .i64 y.t, .int .i64 y.b] ++ EN.row (o.drop n) from rfl, ← List.append_assoc]
              exact h)
            have BELF := Lib.hid (show Below w.heap.size w w3 from ((Q.alloc (Q.call HWV.out HB1.out) _).grown HG2.out (by simp; omega) (fun g e => by have := (own_lt HO1.out e).2; omega)).grown HG3.out (by omega) (fun g e => by have := (own_lt HO2.out e).2; omega))
            clear HO1 HG1 HO2 HG2 HO3 HG3 HRD2 HHV2 hi1 SRC3
            go_wp2_with fail
            refine ⟨⟨i + 1, a3, c3, by rw [HI1.out], by simp, by omega, OWNF, BELF⟩, by simp [intOf]; omega⟩
          · subst hA
            by_cases hcn : c = n
            · have SRC3 := Lib.hid (show Src w2 (.slice (some ⟨b2, off2, none⟩) (i - n) 0) (i - n) (EN.row (o.drop n)) from Or.inr ⟨_, _, rfl, fun j u h => by rw [HDN.out] at h; simp [Enc.row] at h⟩)
              go_wp2_with (at_builtin; refine wpList_append_src rfl _ _ 32 rfl V.heap.size 41 i0 _ 3 24 Try.underlying32 hi0 hz0 hz1 hz2 rfl (by decide) v2 (n + 1) (EN.row (o.take n) ++ [.int .i64 y.f, .int .i64 y.t, .int .i64 y.b]) rfl HO2.out (.slice (some ⟨b2, off2, none⟩) (i - n) 0) (i - n) (EN.row (o.drop n)) rfl SRC3.out (by rw [EN.row_length, HDL.out]) (EN.row_one _) (by unfold maxLen; omega) (by omega) hs2 ?_; intro v3 w3 hown3 hgrow3; obtain ⟨a3, c3, hv3, hc3⟩ := own_slice hown3; subst hv3; have HO3 := Lib.hid hown3; have HG3 := Lib.hid hgrow3; clear hown3 hgrow3 hc3; refine Hid.out ?_)
              refine Lib.hid ?_
              have hi1 : n + 1 + (i - n) = i + 1 := by omega
              have HI1 := Lib.hid hi1
              have OWNF := Lib.hid (show w3.ownsRow w.heap.size 41 3 (.slice a3 (i + 1) c3) (i + 1) (EN.row (srt (l.take (i + 1)))) by
                have h := own_lower HO3.out hbas
                rw [hi1] at h
                rw [HSC.out, EN.row_append, show EN.row (y :: o.drop n) = [.int .i64 y.f, .int .i64 y.t, .int .i64 y.b] ++ EN.row (o.drop n) from rfl, ← List.append_assoc]
                exact h)
              have BELF := Lib.hid (show Below w.heap.size w w3 from ((Q.alloc (Q.call HWV.out HB1.out) _).grown HG2.out (by simp; omega) (fun g e => by have := (own_lt HO1.out e).2; omega)).grown HG3.out (by omega) (fun g e => by have := (own_lt HO2.out e).2; omega))
              clear HO1 HG1 HO2 HG2 HO3 HG3 HRD2 HHV2 hi1 SRC3
              go_wp2_with fail
              refine ⟨⟨i + 1, a3, c3, by rw [HI1.out], by simp, by omega, OWNF, BELF⟩, by simp [intOf]; omega⟩
            · have SRC3 := Lib.hid (show Src w2 (.slice (some ⟨b2, off2 + n * 3, none⟩) (i - n) (c - n)) (i - n) (EN.row (o.drop n)) from Or.inr ⟨_, _, rfl, fun j u h => by rw [HDN.out] at h; simp [Enc.row] at h⟩)
              go_wp2_with (at_builtin; refine wpList_append_src rfl _ _ 32 rfl V.heap.size 41 i0 _ 3 24 Try.underlying32 hi0 hz0 hz1 hz2 rfl (by decide) v2 (n + 1) (EN.row (o.take n) ++ [.int .i64 y.f, .int .i64 y.t, .int .i64 y.b]) rfl HO2.out (.slice (some ⟨b2, off2 + n * 3, none⟩) (i - n) (c - n)) (i - n) (EN.row (o.drop n)) rfl SRC3.out (by rw [EN.row_length, HDL.out]) (EN.row_one _) (by unfold maxLen; omega) (by omega) hs2 ?_; intro v3 w3 hown3 hgrow3; obtain ⟨a3, c3, hv3, hc3⟩ := own_slice hown3; subst hv3; have HO3 := Lib.hid hown3; have HG3 := Lib.hid hgrow3; clear hown3 hgrow3 hc3; refine Hid.out ?_)
              refine Lib.hid ?_
              have hi1 : n + 1 + (i - n) = i + 1 := by omega
              have HI1 := Lib.hid hi1
              have OWNF := Lib.hid (show w3.ownsRow w.heap.size 41 3 (.slice a3 (i + 1) c3) (i + 1) (EN.row (srt (l.take (i + 1)))) by
                have h := own_lower HO3.out hbas
                rw [hi1] at h
                rw [HSC.out, EN.row_append, show EN.row (y :: o.drop n) = [.int .i64 y.f, .int .i64 y.t, .int .i64 y.b] ++ EN.row (o.drop n) from rfl, ← List.append_assoc]
                exact h)
              have BELF := Lib.hid (show Below w.heap.size w w3 from ((Q.alloc (Q.call HWV.out HB1.out) _).grown HG2.out (by simp; omega) (fun g e => by have := (own_lt HO1.out e).2; omega)).grown HG3.out (by omega) (fun g e => by have := (own_lt HO2.out e).2; omega))
              clear HO1 HG1 HO2 HG2 HO3 HG3 HRD2 HHV2 hi1 SRC3
              go_wp2_with fail
              refine ⟨⟨i + 1, a3, c3, by rw [HI1.out], by simp, by omega, OWNF, BELF⟩, by simp [intOf]; omega⟩
    · have hie : i = l.length := by omega
      have HE := Lib.hid hie
      have hlti : ¬ (i : Int) < (l.length : Int) := by omega
      clear hie
      go_wp2_with fail
      go_ret
      have h1 := HO.out
      rw [HE.out, List.take_of_length_le (Nat.le_refl _)] at h1
      refine ⟨a, c, by rw [HE.out]; rfl, ?_, HB.out⟩
      have h2 : Ow EN 41 _ (fun b => w.heap.size ≤ b) (.slice a l.length c) (srt l) := ⟨by rw [srt_length]; exact own_lower h1 (Nat.zero_le _), fun b hb => (own_lt h1 hb).2⟩
      exact h2.rd
end Go.Proofs.Ytggnkkmlabhofaa
