/- The walk of the law RecorderBlind. -/
import Derived.Test.YtijlmdpcbclmaaaRec6
import Derived.Deep.DeepCutAuto
import Derived.Deep.CutBlock
namespace Go.Proofs.Ytijlmdpcbclmaaa
set_option linter.unusedVariables false
set_option linter.unusedSimpArgs false
open Go.RowKit

/-- A slice of bytes with secrets, read. -/
def ReadsB (w : World) (B : Nat) (a : Option Addr) (len : Nat) (l : List (Int × Int)) : Prop :=
  l.length = len ∧ (0 < len → ∃ b off, a = some ⟨b, off, none⟩ ∧ b < B ∧ ∀ (k : Nat) (p : Int × Int), l[k]? = some p → w.cell? ⟨b, off + k * 2, none⟩ = some (.int .u8 p.1) ∧ w.cell? ⟨b, off + k * 2 + 1, none⟩ = some (.int .u8 p.2))
theorem ReadsB.below {w w' : World} {B : Nat} {a : Option Addr} {len : Nat} {l : List (Int × Int)} (h : ReadsB w B a len l) (hb : Below B w w') : ReadsB w' B a len l := by
  refine ⟨h.1, fun hl => ?_⟩
  obtain ⟨b, off, rfl, hlt, hc⟩ := h.2 hl
  refine ⟨b, off, rfl, hlt, fun k r hk => ?_⟩
  obtain ⟨c0, c1⟩ := hc k r hk
  exact ⟨(hb.cell (p := ⟨b, _, none⟩) hlt).trans c0, (hb.cell (p := ⟨b, _, none⟩) hlt).trans c1⟩
theorem ReadsB.at_ {w : World} {B : Nat} {a : Option Addr} {len : Nat} {l : List (Int × Int)} (h : ReadsB w B a len l) {k : Nat} (hk : k < len) :
    ∃ b off p q, a = some ⟨b, off, none⟩ ∧ b < B ∧ w.cell? ⟨b, off + k * 2, none⟩ = some (.int .u8 p) ∧ w.cell? ⟨b, off + k * 2 + 1, none⟩ = some (.int .u8 q) := by
  obtain ⟨b, off, rfl, hb, hc⟩ := h.2 (by omega)
  have hr : l[k]? = some (l[k]'(by rw [h.1]; exact hk)) := List.getElem?_eq_getElem _
  obtain ⟨c0, c1⟩ := hc k _ hr
  exact ⟨b, off, _, _, rfl, hb, c0, c1⟩

set_option maxHeartbeats 400000 in
theorem recorderBlind_long (a b : Option Addr) (na nb ca cb : Nat) (t0 t1 : Int) (h : 60 < na ∨ (na ≤ 60 ∧ 60 < nb)) (w : World) :
    Calls Try.prog 4 #[.slice a na ca, .slice b nb cb, .agg #[.int .i64 t0, .int .i64 t1]] w fun e w' => e = .returned (.bool true) ∧ Below w.heap.size w w' := by
  rcases h with h | ⟨h, h1⟩
  all_goals
    go_enter Try.func4, Try.ntmps4
    go_wp2_with (go_at_call 13; (with_reducible refine (awake17_calls _).mono ?_); rintro e w4 ⟨rfl, hb4⟩)
    go_returns
    exact ⟨rfl, (by repeat' (first | with_reducible exact Below.refl _ _ | with_reducible assumption | with_reducible refine Q.alloc ?_ _ | with_reducible refine Q.drew ?_ | with_reducible refine Q.drewN ?_ _ | with_reducible refine Q.call ?_ (by assumption)))⟩

set_option maxRecDepth 100000 in
set_option maxHeartbeats 3200000 in
theorem recorderBlind_ok (a b : Option Addr) (ca cb nb : Nat) (l : List RD) (lo : List (Int × Int)) (t0 t1 : Int) (hl : l.length ≤ 60) (hb60 : nb ≤ 60) (w : World) (hra : Reads w w.heap.size a l.length l) (hrb : ReadsB w w.heap.size b nb lo)
    (hc : a = none → ca = 0) (hn : a = none → l.length = 0) :
    Calls Try.prog 4 #[.slice a l.length ca, .slice b nb cb, .agg #[.int .i64 t0, .int .i64 t1]] w fun e w' => e = .returned (.bool true) ∧ Below w.heap.size w w' := by
  obtain ⟨i0, hi0, hz0, hz1, hz2⟩ := info_parts rec_info
  have ha' : decide (60 < l.length) = false := by simp; omega
  have hb' : decide (60 < nb) = false := by simp; omega
  have hra0 := hra.call ((Below.refl _ _).alloc (Nat.le_refl _) (.cells #[.int .i64 t0, .int .i64 t1] 31))
  have hsrc := hra0.src hc hn
  go_enter Try.func4, Try.ntmps4
  go_wp2_with (at_builtin; refine wpList_append_src rfl _ _ 22 rfl (w.heap.size + 1) 35 i0 _ 4 16 Try.underlying22 hi0 hz0 hz1 hz2 rfl (by decide) (.slice none 0 0) 0 [] rfl (World.ownsRow_nil _ _ _ _) _ l.length (rows l) rfl hsrc (rows_length _) (rows_one _) (by unfold maxLen; omega) (by omega) (by simp) ?_; intro v1 w1 hown1 hgrow1; simp only [Nat.zero_add, List.nil_append] at hown1; obtain ⟨a1, cap1, rfl, hcap1, hrd1⟩ := own_reads hown1)
  have hbx1 : Blk w1 w.heap.size 31 #[.int .i64 t0, .int .i64 t1] := (hgrow1.block w.heap.size (by simp) (by simp [Value.ownBlock])).trans (heap_alloc_new w _)
  have hbw1 : Below w.heap.size w w1 := ((Below.refl _ _).alloc (Nat.le_refl _) _).grown hgrow1 (by simp) (by simp [Value.ownBlock])
  have hrb1 := hrb.below hbw1
  have hra1 := hra.below hbw1
  go_loopw [8] (fun v wr => ∃ (k : Nat) (mm : List RD), v = .int .i64 (k : Int) ∧ k ≤ l.length ∧ mm.map RD.key = l.map RD.key ∧ mm.length = l.length ∧ wr.ownsRow (w.heap.size + 1) 35 4 (.slice a1 l.length cap1) l.length (rows mm) ∧ Below w.heap.size w wr ∧ Blk wr w.heap.size 31 #[.int .i64 t0, .int .i64 t1])
    (fun v _ => l.length - (intOf v).toNat)
  case atStart => exact ⟨0, l, rfl, Nat.zero_le _, rfl, rfl, hown1, hbw1, hbx1⟩
  case round =>
    obtain ⟨k, mm, rfl, hk, hkeys, hmm, hown, hbw, hbx⟩ := hrel
    have HK := Lib.hid hkeys
    have HM := Lib.hid hmm
    clear hkeys hmm hra0 hsrc
    by_cases hlt : k < l.length ∧ k < nb
    · obtain ⟨h1, h2⟩ := hlt
      obtain ⟨b1, o1, p, q, rfl, hbl, d0, d1⟩ := (hrb.below hbw).at_ h2
      obtain ⟨g, cap, he⟩ : ∃ g cap, Value.slice a1 l.length cap1 = .slice (some ⟨g, 0, none⟩) l.length cap := by
        rcases hown.2 with ⟨_, h0⟩ | ⟨g, cap, cur, he, _⟩
        · omega
        · exact ⟨g, cap, he⟩
      injection he with he1 he2 he3
      subst he1 he3
      have hmk : mm[k]? = some (mm[k]'(by rw [HM.out]; exact h1)) := List.getElem?_eq_getElem _
      obtain ⟨r, hr⟩ : ∃ r, mm[k]? = some r := ⟨_, hmk⟩
      have c2 : wr.cell? ⟨g, k * 4 + 2, none⟩ = some (.int .u8 r.v) := (hown.cellAt _ (by omega)).trans (rows_get mm k r hr 2 (by omega))
      have c3 : wr.cell? ⟨g, k * 4 + 3, none⟩ = some (.int .u8 r.t) := (hown.cellAt _ (by omega)).trans (rows_get mm k r hr 3 (by omega))
      have f2 := hown.frozenAt (k * 4 + 2)
      have f3 := hown.frozenAt (k * 4 + 3)
      have hg := own_lt hown (b := g) rfl
      have HR := Lib.hid hr
      clear hr hmk
      go_wp2
      have s1 := hown.stored (k * 4 + 2) (.int .u8 p)
      have s2 := s1.1.stored (k * 4 + 3) (.int .u8 q)
      have r1 := rows_set mm k 2 (by omega) r ⟨r.addr, r.wr, p, r.t⟩ HR.out (.int .u8 p) rfl
      have hk1 : (mm.set k ⟨r.addr, r.wr, p, r.t⟩)[k]? = some ⟨r.addr, r.wr, p, r.t⟩ := by
        rw [List.getElem?_set_self (by rw [HM.out]; exact h1)]
      have r2 := rows_set (mm.set k ⟨r.addr, r.wr, p, r.t⟩) k 3 (by omega) ⟨r.addr, r.wr, p, r.t⟩ ⟨r.addr, r.wr, p, q⟩ hk1 (.int .u8 q) rfl
      rw [r1, r2, List.set_set] at s2
      have hkey : (mm.set k ⟨r.addr, r.wr, p, q⟩).map RD.key = mm.map RD.key := by
        rw [List.map_set]
        apply List.ext_getElem?
        intro i
        by_cases hik : i = k
        · subst hik
          rw [List.getElem?_set_self (by simp; rw [HM.out]; exact h1), List.getElem?_map, HR.out]
          rfl
        · rw [List.getElem?_set_ne (Ne.symm hik)]
      refine ⟨⟨k + 1, mm.set k ⟨r.addr, r.wr, p, q⟩, by go_num, by omega, hkey.trans HK.out, by rw [List.length_set]; exact HM.out, s2.1, ?_, ?_⟩, by simp [intOf]; omega⟩
      · exact (hbw.setCell (p := ⟨g, _, none⟩) (by simp only; omega) _).setCell (p := ⟨g, _, none⟩) (by simp only; omega) _
      · exact (Below.heap_setCell _ _ _ _ (by simp only; omega)).trans ((Below.heap_setCell _ _ _ _ (by simp only; omega)).trans hbx)
    · have hcond : (decide (k < l.length) && decide (k < nb)) = false := by
        simp only [Bool.and_eq_false_iff, decide_eq_false_iff_not]
        by_cases h1 : k < l.length
        · exact .inr (fun h2 => hlt ⟨h1, h2⟩)
        · exact .inl h1
      have hsrc2 := own_src hown
      have hlenm := rows_length mm
      rw [HM.out] at hlenm
      have HL := Lib.hid hlenm
      clear hlenm
      have hcase : (l.length ≤ k) ∨ (k < l.length ∧ nb ≤ k) := by omega
      clear hcond hlt
      have FIN : Hid True := trivial
      rcases hcase with hlt | ⟨hlt, hlt2⟩
      all_goals
        go_upto_region 11 with (at_builtin; refine wpList_append_src rfl _ _ 22 rfl wr.heap.size 35 i0 _ 4 16 Try.underlying22 hi0 hz0 hz1 hz2 rfl (by decide) (.slice none 0 0) 0 [] rfl (World.ownsRow_nil _ _ _ _) _ l.length (rows mm) rfl hsrc2 HL.out (rows_one _) (by unfold maxLen; omega) (by omega) (Nat.le_refl _) ?_; intro v2 w2 hown2 hgrow2; simp only [Nat.zero_add, List.nil_append] at hown2; rw [← HM.out] at hown2; obtain ⟨a2, cap2, rfl, hcap2, hrd2⟩ := own_reads hown2)
        have hbx2 : Blk w2 w.heap.size 31 #[.int .i64 t0, .int .i64 t1] := (hgrow2.block _ hbx.lt (by simp [Value.ownBlock])).trans hbx
        have hbw2 : Below w.heap.size w w2 := hbw.grown hgrow2 hbw.size (by simp [Value.ownBlock])
        have hownm : w2.ownsRow (w.heap.size + 1) 35 4 (.slice a1 l.length cap1) l.length (rows mm) := hown.kept hgrow2 (by rcases hown.2 with ⟨e, _⟩ | ⟨g, cap, cur, e, _⟩ <;> (rw [e]; simp [Value.ownBlock]))
        have x0 := hbx2.cell 0
        have x1 := hbx2.cell 1
        obtain ⟨CB, hCB⟩ : ∃ CB : Bool, (CB = true ↔ ∃ (k2 : Nat) (r2 : RD), t0 = (k2 : Int) ∧ mm[k2]? = some r2 ∧ -65536 ≤ t1 ∧ t1 ≤ 65536 ∧ 0 ≤ r2.addr ∧ r2.addr ≤ 65535) := by
          classical exact ⟨decide _, decide_eq_true_iff⟩
        have hcs : (t0 < 0) ∨ (0 ≤ t0 ∧ (mm.length : Int) ≤ t0) ∨ (∃ (k2 : Nat) (r2 : RD), t0 = (k2 : Int) ∧ k2 < mm.length ∧ mm[k2]? = some r2) := by
          by_cases h0 : t0 < 0
          · exact .inl h0
          · by_cases h1 : (mm.length : Int) ≤ t0
            · exact .inr (.inl ⟨by omega, h1⟩)
            · exact .inr (.inr ⟨t0.toNat, mm[t0.toNat]'(by omega), by omega, by omega, List.getElem?_eq_getElem _⟩)
        have HCB := Lib.hid hCB
        have HCS := Lib.hid hcs
        clear hCB hcs
        have hlt0 : ∀ b, (Value.slice a1 l.length cap1).ownBlock = some b → b < wr.heap.size := fun b hb => (own_lt hown hb).1
        have HLT := Lib.hid hlt0
        have HRA := Lib.hid hra
        clear hlt0
        have HOWN2 := Lib.hid hown2
        have HOWNM := Lib.hid hownm
        clear hown2 hownm hown hsrc2 hgrow2 hgrow1 hown1 hbx hra hrb hra1 hrb1 hrd1 hrd2
        go_cut [85] (fun v w' => v = .bool CB ∧ w2 = w')
        case first =>
          rcases HCS.out with h0 | ⟨h0, h1⟩ | ⟨k2, r2, rfl, hk2, hr2⟩
          · obtain rfl : CB = false := by
              cases CB with
              | false => rfl
              | true => obtain ⟨k2, r2, e, _⟩ := HCB.out.1 rfl; omega
            go_wp2_with fail
            go_meet
            exact ⟨(by first | rfl | (simp; done) | (simp; omega)), rfl⟩
          · obtain rfl : CB = false := by
              cases CB with
              | false => rfl
              | true =>
                obtain ⟨k2, r2, e, hg, _⟩ := HCB.out.1 rfl
                have := (List.getElem?_eq_some_iff.1 hg).1
                omega
            go_wp2_with fail
            go_meet
            exact ⟨(by first | rfl | (simp; done) | (simp; omega)), rfl⟩
          · obtain ⟨g2, capx, he⟩ : ∃ g2 cap, Value.slice a2 mm.length cap2 = .slice (some ⟨g2, 0, none⟩) mm.length cap := by
              rcases HOWN2.out.2 with ⟨_, h0⟩ | ⟨g2, cap, cur, he, _⟩
              · omega
              · exact ⟨g2, cap, he⟩
            injection he with he1 he2 he3
            subst he1 he3
            have y0 : w2.cell? ⟨g2, k2 * 4, none⟩ = some (.int .i64 r2.addr) := (HOWN2.out.cellAt _ (by omega)).trans (rows_get mm k2 r2 hr2 0 (by omega))
            have HR2 := Lib.hid hr2
            clear hr2
            have hq : ∀ (k' : Nat) (r' : RD), (k2 : Int) = k' → mm[k']? = some r' → r' = r2 := by
              intro k' r' e hg
              obtain rfl : k' = k2 := by omega
              have := HR2.out
              rw [this] at hg
              exact (Option.some.inj hg).symm
            have HQ := Lib.hid hq
            clear hq
            have hcs2 : t1 < -65536 ∨ (-65536 ≤ t1 ∧ 65536 < t1) ∨ (-65536 ≤ t1 ∧ t1 ≤ 65536 ∧ r2.addr < 0) ∨ (-65536 ≤ t1 ∧ t1 ≤ 65536 ∧ 0 ≤ r2.addr ∧ 65535 < r2.addr) ∨ (-65536 ≤ t1 ∧ t1 ≤ 65536 ∧ 0 ≤ r2.addr ∧ r2.addr ≤ 65535) := by omega
            have hcb : CB = true → -65536 ≤ t1 ∧ t1 ≤ 65536 ∧ 0 ≤ r2.addr ∧ r2.addr ≤ 65535 := by
              intro h
              obtain ⟨k', r', e, hg, h1, h2, h3, h4⟩ := HCB.out.1 h
              rw [HQ.out k' r' e hg] at h3 h4
              exact ⟨h1, h2, h3, h4⟩
            rcases hcs2 with h1 | ⟨h1, h2⟩ | ⟨h1, h2, h3⟩ | ⟨h1, h2, h3, h4⟩ | ⟨h1, h2, h3, h4⟩
            rotate_right
            · obtain rfl : CB = true := HCB.out.2 ⟨k2, r2, rfl, HR2.out, h1, h2, h3, h4⟩
              clear hcb
              go_wp2_with fail
              go_meet
              exact ⟨(by first | rfl | (simp; done) | (simp; omega)), rfl⟩
            all_goals
              obtain rfl : CB = false := by
                cases CB with
                | false => rfl
                | true => have := hcb rfl; omega
              clear hcb
              go_wp2_with fail
              go_meet
              exact ⟨(by first | rfl | (simp; done) | (simp; omega)), rfl⟩
        case rest =>
          obtain ⟨rfl, rfl⟩ := hcut
          go_upto_if 85 with (fail)
          go_cut [9] (fun v9 w3 => v9 = .slice a2 mm.length cap2 ∧ ∃ nn : List RD, nn.length = mm.length ∧ w3.ownsRow wr.heap.size 35 4 (.slice a2 mm.length cap2) mm.length (rows nn) ∧ w3.ownsRow (w.heap.size + 1) 35 4 (.slice a1 l.length cap1) l.length (rows mm) ∧ Below w.heap.size w w3)
          case first =>
            cases CB
            · go_wp2_with fail
              go_meet
              exact ⟨rfl, mm, rfl, HOWN2.out, HOWNM.out, hbw2⟩
            · obtain ⟨k2, r2, rfl, hr2, h1, h2, h3, h4⟩ := HCB.out.1 rfl
              have hk2 := (List.getElem?_eq_some_iff.1 hr2).1
              obtain ⟨g2, capx, he⟩ : ∃ g2 cap, Value.slice a2 mm.length cap2 = .slice (some ⟨g2, 0, none⟩) mm.length cap := by
                rcases HOWN2.out.2 with ⟨_, h0⟩ | ⟨g2, cap, cur, he, _⟩
                · omega
                · exact ⟨g2, cap, he⟩
              injection he with he1 he2 he3
              subst he1 he3
              have y0 : w2.cell? ⟨g2, k2 * 4, none⟩ = some (.int .i64 r2.addr) := (HOWN2.out.cellAt _ (by omega)).trans (rows_get mm k2 r2 hr2 0 (by omega))
              have y1 := HOWN2.out.frozenAt (k2 * 4)
              have HR2 := Lib.hid hr2
              clear hr2
              go_wp2_with fail
              go_region
              all_goals
                go_wp2_with fail
                go_meet
                have s1 := HOWN2.out.stored (k2 * 4) (.int .i64 (r2.addr + t1))
                have r1 := rows_set mm k2 0 (by omega) r2 ⟨r2.addr + t1, r2.wr, r2.v, r2.t⟩ HR2.out (.int .i64 (r2.addr + t1)) rfl
                rw [Nat.add_zero] at r1
                rw [r1] at s1
                have hgm : (Value.slice a1 l.length cap1).ownBlock ≠ some g2 := fun e => by
                  have h1 := HLT.out g2 e
                  have h2 := (own_lt HOWN2.out (b := g2) rfl).2
                  omega
                refine ⟨rfl, _, List.length_set .., s1.1, ?_, ?_⟩
                · exact own_keep HOWNM.out (fun b hb _ => Below.heap_setCell _ _ _ b (fun e => hgm (by rw [hb, e]))) (by simp)
                · exact (hbw2.setCell (p := ⟨g2, _, none⟩) (by have := (own_lt HOWN2.out (b := g2) rfl).2; have := hbw.size; simp only; omega) _).drew
          case rest =>
            obtain ⟨rfl, nn, hnn, hon, hom, hbw3⟩ := hcut
            generalize hw3 : wc = w3 at hon hom hbw3 ⊢; clear hw3
            have hR1 : Reads w3 w.heap.size a l.length l := HRA.out.below hbw3
            have hR1' : Reads w3 w3.heap.size a l.length l := ⟨hR1.1, fun h => by
              obtain ⟨b', off', e, hlt', hc'⟩ := hR1.2 h
              exact ⟨b', off', e, Nat.lt_of_lt_of_le hlt' hbw3.size, hc'⟩⟩
            have hR2 : Reads w3 w3.heap.size a1 l.length mm := by
              obtain ⟨a', c', e, _, h⟩ := own_reads (sv := .slice a1 l.length cap1) (l := mm) (by rw [HM.out]; exact hom)
              injection e with e1 e2 e3
              subst e1
              rw [HM.out] at h
              exact h
            have hR3 : Reads w3 w3.heap.size a2 mm.length nn := by
              obtain ⟨a', c', e, _, h⟩ := own_reads (sv := .slice a2 mm.length cap2) (l := nn) (by rw [hnn]; exact hon)
              injection e with e1 e2 e3
              subst e1
              rw [hnn] at h
              exact h
            have hmm' := HM.out
            have HNN := Lib.hid hnn
            have f1 := fitl_len l
            have f2 := fitl_len mm
            have f3 := fitl_len nn
            rw [HM.out] at f2
            rw [hnn, HM.out] at f3
            clear hnn hon hom hR1 hmm'
            have hm60 : mm.length ≤ 4096 := by rw [HM.out]; omega
            go_wp2_with fail
            (with_reducible refine (made_calls a l.length ca l (by omega) _ hR1').mono ?_)
            rintro e w4 ⟨g4, sv4, rfl, hr4, hb4⟩
            go_wp2_with fail
            (with_reducible refine (made_calls a1 l.length cap1 mm (by omega) _ (hR2.call hb4)).mono ?_)
            rintro e w5 ⟨g5, sv5, rfl, hr5, hb5⟩
            go_wp2_with fail
            (with_reducible refine (made_calls a2 mm.length cap2 nn hm60 _ ((hR3.call hb4).call hb5)).mono ?_)
            rintro e w6 ⟨g6, sv6, rfl, hr6, hb6⟩
            have P1 : PRec w6 (.pointer (some ⟨g4, 0, none⟩)) (fitl l) := ((hr4.call hb5).call hb6).prec (by omega)
            have P2 : PRec w6 (.pointer (some ⟨g5, 0, none⟩)) (fitl mm) := (hr5.call hb6).prec (by omega)
            have P3 : PRec w6 (.pointer (some ⟨g6, 0, none⟩)) (fitl nn) := hr6.prec (by omega)
            have hbw6 : Below w.heap.size w w6 := (by repeat' (first | with_reducible exact Below.refl _ _ | with_reducible assumption | with_reducible refine Q.alloc ?_ _ | with_reducible refine Q.drew ?_ | with_reducible refine Q.drewN ?_ _ | with_reducible refine Q.call ?_ (by assumption)))
            clear hr4 hr5 hr6 hR1' hR2 hR3
            have hW : ∀ n, Below w6.heap.size w6 (w6.drewN n) := fun n => Q.drewN (Below.refl _ _) n
            have A0 := apart_calls _ _ _ _ _ P1 P2 (by omega) (by omega)
            have A2 := fun n => apart_calls _ _ _ _ _ (P1.call (hW n)) (P1.call (hW n)) (by omega) (by omega)
            have A3 := fun n => apart_calls _ _ _ _ _ (P1.call (hW n)) (P3.call (hW n)) (by omega) (by omega)
            have A4 := fun n => apart_calls _ _ _ _ _ (P2.call (hW n)) (P3.call (hW n)) (by omega) (by omega)
            rw [apart_keys (fitl l) (fitl mm) (fitl l) (fitl l) rfl (fitl_keys _ _ HK.out), apart_self] at A0
            simp only [apart_self, apart_keys (fitl mm) (fitl nn) (fitl l) (fitl nn) (fitl_keys _ _ HK.out) rfl] at A2 A4
            clear P1 P2 P3 hW
            go_wp2_with fail
            (with_reducible refine A0.mono ?_)
            rintro e w7 ⟨rfl, n7, rfl⟩
            go_wp2_with (first
              | (go_at_call 17; (with_reducible refine (A2 _).mono ?_); rintro e w8 ⟨rfl, n8, rfl⟩)
              | (go_at_call 17; (with_reducible refine (A3 _).mono ?_); rintro e w8 ⟨rfl, n8, rfl⟩)
              | (go_at_call 17; (with_reducible refine (A4 _).mono ?_); rintro e w8 ⟨rfl, n8, rfl⟩)
              | (go_at_call 13; (with_reducible refine (awake17_calls _).mono ?_); rintro e w9 ⟨rfl, hb9⟩))
            go_returns
            exact ⟨by first | rfl | (simp; done), (by repeat' (first | with_reducible exact Below.refl _ _ | with_reducible assumption | with_reducible refine Q.alloc ?_ _ | with_reducible refine Q.drew ?_ | with_reducible refine Q.drewN ?_ _ | with_reducible refine Q.call ?_ (by assumption)))⟩
end Go.Proofs.Ytijlmdpcbclmaaa
