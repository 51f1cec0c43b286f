/- The law LabelsAll: the walk, no span. (printed by gen/al1.py) -/
import Derived.Test.YtggnkkmlabhofaaAl0
import Derived.Test.YtggnkkmlabhofaaLa8
import Derived.Test.YtggnkkmlabhofaaRf2
import Derived.Test.YtggnkkmlabhofaaRf8
import Derived.Test.YtggnkkmlabhofaaAl1
namespace Go.Proofs.Ytggnkkmlabhofaa
set_option linter.unusedVariables false
set_option linter.unusedSimpArgs false
open Go.RowKit Go.Shelf
attribute [local go_sem ↓] Go.wp_at_zero Go.wp_at_succ
attribute [local go_sem] Oper.semAt_some eql_seq_nil

attribute [local go_sem] field_rp0
set_option maxRecDepth 1000000 in
set_option maxHeartbeats 12800000 in
theorem al_ok0 (w : World) (R : Nat → Prop) (sa ma : Option Addr) (sc mc : Nat) (s m : List Sp) (dc tr most : Int) (hs : Rd ES w R (.slice sa s.length sc) s) (hm : Rd ES w R (.slice ma m.length mc) m) (bs : ∀ y ∈ s, 0 ≤ y.b ∧ y.b ≤ 255) (bm : ∀ y ∈ m, 0 ≤ y.b ∧ y.b ≤ 255) (hse : s.length = 0) (hf : s.length ≤ 80 ∧ m.length ≤ 80) (hC : chk s m dc tr = 0) : Calls Try.prog 3 #[.agg #[.slice sa s.length sc, .slice ma m.length mc, .int .i64 dc, .int .i64 tr], .int .i64 most] w fun e w' => e = .returned (.bool true) ∧ Below w.heap.size w w' := by
  have HSE := Lib.hid hse
  clear hse
  have FW := fun V => few_eq V sa ma s.length m.length sc mc dc tr true (decide_eq_true hf).symm
  have NW := fun V (hV : Below w.heap.size w V) => new_ok V R _ _ s m dc tr (hs.below hV) (hm.below hV) (by omega) (by omega) hC
  have PLA := fun (V : World) (h : Below w.heap.size w V) => Plain_eq V R (.slice sa s.length sc) (.slice ma m.length mc) s m dc tr (hs.below h) (hm.below h) hf.1 hf.2 bs bm
  have SRT := fun (V : World) (v : Value) (h : Rd EN V (fun _ => True) v s) => rsorted_eq V (fun _ => True) v s h (by omega)
  have HTL := Lib.hid (told_of hC)
  have HBB := Lib.hid (show ∀ y ∈ srt s, 0 ≤ y.b ∧ y.b ≤ 255 from fun y hy => bs y ((srt_perm s).mem_iff.1 hy))
  have HSL := Lib.hid (srt_length s)
  have hls : s.length ≤ 80 := hf.1
  clear hs hm hf hC bs bm
  refine (callsIn_wide (n := 3)).1 ?_
  refine callsIn_of_wp_marks Try.func3 rfl trivial ?_
  simp only [Try.ntmps3, List.size_toArray, List.length_cons, List.length_nil, Nat.reduceAdd, Nat.reduceSub, Array.replicate_succ, Array.replicate_zero, List.push_toArray, List.append_toArray, List.nil_append, List.cons_append]
  refine wpIn_wide.2 ?_
  go_wp2_with (go_at_call 5; (with_reducible refine (FW _).mono ?_); rintro e w1 ⟨rfl, hb1⟩; refine Hid.out ?_)
  refine Lib.hid ?_
  have RB : Blk w1 (w.heap.size + 2) 4 #[.bool false] := (Blk.new' (by simp)).call hb1
  have PB : Blk w1 w.heap.size 24 #[.slice sa s.length sc, .slice ma m.length mc, .int .i64 dc, .int .i64 tr] := (Blk.alloc (Blk.alloc (Blk.new w _ _) _) _).call hb1
  have MB : Blk w1 (w.heap.size + 1) 3 #[.int .i64 most] := (Blk.alloc (Blk.new' (by simp)) _).call hb1
  have HB1 := Lib.hid (show Below w.heap.size w w1 from (by repeat' (first | with_reducible exact Below.refl _ _ | with_reducible assumption | with_reducible refine Q.alloc ?_ _ | with_reducible refine Q.drew ?_ | with_reducible refine Q.drewN ?_ _ | with_reducible refine Q.call ?_ (by assumption))))
  obtain ⟨hp, hhp⟩ : ∃ hp, hp = w.heap.size := ⟨_, rfl⟩
  obtain ⟨hx, hhx⟩ : ∃ hx, hx = w.heap.size + 1 := ⟨_, rfl⟩
  obtain ⟨hr, hhr⟩ : ∃ hr, hr = w.heap.size + 2 := ⟨_, rfl⟩
  have HHR := Lib.hid (show w.heap.size ≤ hr ∧ hr < w.heap.size + 3 by omega)
  rw [← hhp] at PB
  rw [← hhx] at MB
  rw [← hhr] at RB
  have hPE : (Value.pointer (some ⟨w.heap.size, 0, none⟩)) = Value.pointer (some ⟨hp, 0, none⟩) := by rw [hhp]
  rw [← hhr, ← hhx, hPE]
  have RB1 := Lib.hid RB
  have PB1 := Lib.hid PB
  have MB1 := Lib.hid MB
  clear hb1 RB PB MB hhp hhx hhr hPE
  have p0 := PB1.out.cell 0
  have p1 := PB1.out.cell 1
  have p2 := PB1.out.cell 2
  have p3 := PB1.out.cell 3
  have pl := PB1.out.lt
  have NW1 := NW w1 HB1.out
  go_wp2_with (go_at_call 7; (with_reducible refine NW1.mono ?_); rintro e w2 ⟨gt, v1, v2, rfl, hgt, hN, hT⟩; refine Hid.out ?_)
  refine Lib.hid ?_
  have HB2 := Lib.hid (Q.call HB1.out hN.bel)
  have PB2 := PB1.out.call hN.bel
  have RB2 := Lib.hid (RB1.out.call hN.bel)
  have MB2 := Lib.hid (MB1.out.call hN.bel)
  have HT2 := Lib.hid hT
  have PL2 := PLA w2 HB2.out
  clear p0 p1 p2 p3 pl NW1 NW PLA RB1 PB1 MB1 HB1 hgt hN hT FW
  have p0 := PB2.cell 0
  have p1 := PB2.cell 1
  have p2 := PB2.cell 2
  have p3 := PB2.cell 3
  have pl := PB2.lt
  go_wp2_with (go_at_call 10; (with_reducible refine PL2.mono ?_); rintro e w3 ⟨a1, n1, a2, n2, rfl, hr1, hr2, hb3⟩; refine Hid.out ?_)
  refine Lib.hid ?_
  have HB3 := Lib.hid (Q.call HB2.out hb3)
  have RB3 := Lib.hid (RB2.out.call hb3)
  have MB3 := Lib.hid (MB2.out.call hb3)
  have HT3 := Lib.hid (HT2.out.call hb3)
  have SR3 := SRT w3 _ hr1
  clear p0 p1 p2 p3 pl PL2 hr1 hr2 hb3 RB2 MB2 HT2 HB2 PB2 SRT
  go_wp2_with (go_at_call 9; (with_reducible refine SR3.mono ?_); rintro e w4 ⟨la, lc, rfl, hrL, hb4⟩; refine Hid.out ?_)
  refine Lib.hid ?_
  have HB4 := Lib.hid (Q.call HB3.out hb4)
  have RB4 := Lib.hid (RB3.out.call hb4)
  have MB4 := Lib.hid (MB3.out.call hb4)
  have HT4 := Lib.hid (HT3.out.call hb4)
  have HRL := Lib.hid hrL
  clear SR3 hrL hb4 RB3 MB3 HT3 HB3
  obtain ⟨bl, hbl⟩ : ∃ bl, bl = w4.heap.size := ⟨_, rfl⟩
  obtain ⟨gb, hgb⟩ : ∃ gb, gb = w4.heap.size + 1 := ⟨_, rfl⟩
  obtain ⟨w5, hw5⟩ : ∃ w5, w5 = (w4.alloc (.cells #[.slice la s.length lc] 32)).alloc (.cells #[.pointer (some ⟨gt, 0, none⟩)] 27) := ⟨_, rfl⟩
  have b45 : Below w4.heap.size w4 w5 := by rw [hw5]; exact (by repeat' (first | with_reducible exact Below.refl _ _ | with_reducible assumption | with_reducible refine Q.alloc ?_ _ | with_reducible refine Q.drew ?_ | with_reducible refine Q.drewN ?_ _ | with_reducible refine Q.call ?_ (by assumption)))
  have LB : Blk w5 bl 32 #[.slice la s.length lc] := by rw [hw5]; exact (Blk.new' hbl).alloc _
  have GB : Blk w5 gb 27 #[.pointer (some ⟨gt, 0, none⟩)] := by rw [hw5]; exact Blk.new' (by rw [hgb]; simp)
  have HLB := Lib.hid LB
  have HGB := Lib.hid GB
  have HB5 := Lib.hid (Q.call HB4.out b45)
  have RB5 := Lib.hid (RB4.out.call b45)
  have MB5 := Lib.hid (MB4.out.call b45)
  have HT5 := Lib.hid (HT4.out.call b45)
  have HRL5 := Lib.hid (HRL.out.below b45)
  have AC : Calls Try.prog 11 #[.pointer (some ⟨gt, 0, none⟩)] (w4.alloc (.cells #[.slice la s.length lc] 32)) fun e w' => e = .returned (.func (.func 24) #[] #[.pointer (some ⟨gb, 0, none⟩)]) ∧ w5 = w' := (all_calls _ gt).mono fun e w' h => ⟨by rw [hgb]; simpa using h.1, by rw [hw5]; exact h.2.symm⟩
  have HBLE := Lib.hid hbl
  clear hbl hgb hw5
  go_wp2_with (go_at_call 11; (with_reducible refine AC.mono ?_); rintro e w' ⟨rfl, rfl⟩; refine Hid.out ?_)
  refine Lib.hid ?_
  rw [← HBLE.out]
  have l0 : w5.cell? ⟨bl, 0, none⟩ = some (.slice la s.length lc) := LB.cell 0
  have ll := LB.lt
  clear AC b45 LB GB HBLE RB4 MB4 HT4 HB4 HRL
  obtain ⟨L, hL⟩ : ∃ L, L = srt s := ⟨_, rfl⟩
  rw [← hL] at HTL HSL HRL5 HBB
  obtain ⟨A, hA⟩ : ∃ A : Nat → Int, A = fillT (srt s) (fun _ => 0) := ⟨_, rfl⟩
  rw [← hL] at hA
  rw [← hA] at HTL
  have HT6 := HT5
  rw [← hL, ← hA] at HT6
  clear HT5
  clear hA
  have HLL := Lib.hid hL
  clear hL
  obtain ⟨bi, hbi⟩ : ∃ bi, bi = w5.heap.size := ⟨_, rfl⟩
  obtain ⟨bx, hbx⟩ : ∃ bx, bx = w5.heap.size + 1 := ⟨_, rfl⟩
  obtain ⟨bn, hbn⟩ : ∃ bn, bn = w5.heap.size + 2 := ⟨_, rfl⟩
  have hse := HSE.out
  have hsei : ¬ (0 : Int) < (s.length : Int) := by omega
  have hse0 : ¬ 0 < s.length := by omega
  have HNX := Lib.hid (show (stt L 0).2 = 0 by show (if 0 < L.length then (spG L 0).f else 0) = 0; rw [if_neg (by rw [HSL.out]; omega)])
  obtain ⟨w6, hw6⟩ : ∃ w6, w6 = ((w5.alloc (.cells #[.int .i64 0] 3)).alloc (.cells #[.int .i64 0] 3)).alloc (.cells #[.int .i64 0] 3) := ⟨_, rfl⟩
  have HB56 := Lib.hid (show Below w5.heap.size w5 w6 by rw [hw6]; exact (by repeat' (first | with_reducible exact Below.refl _ _ | with_reducible assumption | with_reducible refine Q.alloc ?_ _ | with_reducible refine Q.drew ?_ | with_reducible refine Q.drewN ?_ _ | with_reducible refine Q.call ?_ (by assumption))))
  have HIB := Lib.hid (show Blk w6 bi 3 #[.int .i64 ((stt L 0).1 : Int)] by rw [hw6]; exact ((Blk.new' hbi).alloc _).alloc _)
  have HXB := Lib.hid (show Blk w6 bx 3 #[.int .i64 (stt L 0).2] by rw [hw6, HNX.out]; exact (Blk.new' (by rw [hbx]; simp)).alloc _)
  have HNB := Lib.hid (show Blk w6 bn 3 #[.int .i64 0] by rw [hw6]; exact Blk.new' (by rw [hbn]; simp))
  have HEQ := Lib.hid (And.intro hbi (And.intro hbx (And.intro hbn hw6)))
  clear hbi hbx hbn hw6 hse
  go_wp2_with fail
  obtain ⟨hbi, hbx, hbn, hw6⟩ := HEQ.out
  rw [← hbn, ← hbx, ← hbi, ← hw6]
  clear hw6 HNX hsei hse0 HEQ
  obtain ⟨TT, hTT⟩ : ∃ TT, tabs A 65536 = TT := ⟨_, rfl⟩
  have HEND := Lib.hid (show (stt L TT.length).1 = L.length by rw [← hTT]; exact all_end HTL.out 65536 rfl)
  have HTT := Lib.hid hTT
  clear hTT
  have RB6 := Lib.hid (RB5.out.call HB56.out)
  have MB6 := Lib.hid (MB5.out.call HB56.out)
  have LB6 := Lib.hid (HLB.out.call HB56.out)
  have HT7 := Lib.hid (HT6.out.call HB56.out)
  have HRL6 := Lib.hid (show Rd EN w6 (fun b => b < bi) (.slice la s.length lc) L from HRL5.out.keep (fun b hb _ => ⟨HB56.out.block b hb, by omega⟩) HB56.out.size)
  have HB6 := Lib.hid (Q.call HB5.out HB56.out)
  have hcb : w6.cell? ⟨gb, 0, none⟩ = some (.pointer (some ⟨gt, 0, none⟩)) := (HGB.out.call HB56.out).cell 0
  have hgb6 : gb < w6.heap.size := (HGB.out.call HB56.out).lt
  have hbi6 : bi ≤ w6.heap.size := Nat.le_of_lt HIB.out.lt
  have HBI := Lib.hid (show bx = bi + 1 ∧ bn = bi + 2 ∧ bi = w5.heap.size by omega)
  have HHR2 := Lib.hid (show hr < bi by have := RB5.out.lt; omega)
  have HHX2 := Lib.hid (show hx < bi by have := MB5.out.lt; omega)
  have HBL2 := Lib.hid (show bl < bi by have := HLB.out.lt; omega)
  have hww : w.heap.size ≤ w6.heap.size := HB6.out.size
  clear l0 ll hbi hbx hbn HB56 RB5 MB5 HRL5 HB5 HGB HLB HT6
  refine (wpIn_wide (n := 3)).1 ?_
  refine wpIn_rangeFunc_ownF rfl (by decide) (gf := 24) (lb := #[.pointer (some ⟨gb, 0, none⟩)]) rfl trivial (enters_of Try.func24 (by kernel_rfl) rfl)
    (all_stops 2 (by decide) gb gt 65536 rfl v1 v2 dc tr A _ TT HTT.out w6 hgb6 hcb HT7.out) (fun _ _ => trivial) (fun _ _ _ _ _ _ _ _ => trivial) (Below.refl _ _) (fun _ => rfl)
    (JL L bi bx bn w6)
    (fun c pre W => c = .ret ∧ (StL L pre ∨ StR w hr W))
    (jl_own hbi6)
    (fun c => stop_own HB6.out.size)
    ⟨⟨HIB.out, HXB.out, HNB.out⟩, Below.refl _ _⟩ ?a1 ?assign ?body ?done ?stop
  case assign =>
    intro l x W K hK
    gi_wp2
    exact hK
  case body =>
    rintro l pre x W ⟨⟨h1, h2, h3⟩, hBW⟩ hl
    obtain ⟨xa, xb⟩ := x
    dsimp only
    obtain ⟨qi, hqi⟩ : ∃ qi, qi = (stt L pre.length).1 := ⟨_, rfl⟩
    obtain ⟨qn, hqn⟩ : ∃ qn, qn = (stt L pre.length).2 := ⟨_, rfl⟩
    rw [← hqi] at h1
    rw [← hqn] at h2
    have RW : Blk W hr 4 #[.bool false] := RB6.out.below hBW HHR2.out
    have MW : Blk W hx 3 #[.int .i64 most] := MB6.out.below hBW HHX2.out
    have LW : Blk W bl 32 #[.slice la s.length lc] := LB6.out.below hBW HBL2.out
    have RLW : Rd EN W (fun b => b < bi) (.slice la s.length lc) L := HRL6.out.keep (fun b _ hR => ⟨hBW.block b hR, hR⟩) (Nat.le_trans (Nat.le_refl _) hBW.size)
    have r0 := RW.cell 0
    have r1 := RW.frozen 0
    have rl := RW.lt
    have m0 := MW.cell 0
    have ml := MW.lt
    have lw0 := LW.cell 0
    have lwl := LW.lt
    have i0 := h1.cell 0
    have i1 := h1.frozen 0
    have il := h1.lt
    have x0 := h2.cell 0
    have x1 := h2.frozen 0
    have xl := h2.lt
    have n0 := h3.cell 0
    have n1 := h3.frozen 0
    have nl := h3.lt
    have HQI := Lib.hid hqi
    have HQN := Lib.hid hqn
    have H1 := Lib.hid h1
    have H2 := Lib.hid h2
    have H3 := Lib.hid h3
    have HBW := Lib.hid hBW
    have HLP := Lib.hid (show pre.length < 65536 from hl)
    have HMW := Lib.hid MW
    have HRW := Lib.hid RW
    have HLW := Lib.hid LW
    have HRLW := Lib.hid RLW
    clear hqi hqn h1 h2 h3 hBW RW MW LW hl
    by_cases g0 : qi < L.length
    · exact absurd g0 (by have := HSL.out; have := HSE.out; omega)
    · clear RLW
      have g0s : ¬ qi < s.length := by have := HSL.out; omega
      have g0i : (s.length : Int) ≤ (qi : Int) := by omega
      have HNG := Lib.hid (show StL L (pre ++ [(xa, xb)]) from ⟨pre, (xa, xb), rfl, fun h => g0 (by have := h.1; rw [← HQI.out] at this; exact this)⟩)
      gi_wp2
      refine ⟨KeepsOthers.setCell _ _ _, rfl, ?_⟩
      exact .inl HNG.out
  case stop =>
    rintro D c pre W hD ⟨k, hk, hak, rfl⟩ ⟨rfl, hx⟩ hKD
    rcases hx with ⟨q, y, hq, hy⟩ | ⟨hcell, hbel⟩
    · exfalso
      obtain ⟨h1, h2⟩ := List.append_inj' hq rfl
      cases h2
      rw [← h1] at hy
      exact hy (all_good HTL.out hk hak)
    · have hD' : w.heap.size ≤ D := by omega
      refine wpIn_wide.2 ?_
      clear HT7 HIB HXB HNB hcb hgb6
      go_wp2_with fail
      refine ⟨by simp, .inl ⟨_, _, rfl, run_takeDeferred hKD, ?_⟩⟩
      have hc5 := cell_kept hcell (grownBy_putObj' _ D (.deferred none)) (fun r e => by cases e; exact ⟨_, hKD, rfl⟩)
      refine ⟨.bool true, ?_, rfl, hbel.trans (belowK_b (w := w) (Nat.le_refl _) _ D _ _ hD' hKD rfl rfl)⟩
      simp [results, Try.f3, go_sem, hc5]
  case done =>
    rintro D ys W hD rfl ⟨⟨h1, h2, h3⟩, hBW⟩ hKD
    rw [HEND.out, HSL.out] at h1
    have RW : Blk W hr 4 #[.bool false] := RB6.out.below hBW HHR2.out
    have LW : Blk W bl 32 #[.slice la s.length lc] := LB6.out.below hBW HBL2.out
    have hBn : Below w.heap.size w W := HB6.out.trans (hBW.mono (by have := HHR2.out; have := HHR.out; omega))
    have rl := RW.lt
    have i0 := h1.cell 0
    have il := h1.lt
    have lw0 := LW.cell 0
    have lwl := LW.lt
    have hD' : w.heap.size ≤ D := by omega
    have RW1 := Lib.hid RW
    have HBN := Lib.hid hBn
    have HD1 := Lib.hid hD
    clear h1 h2 h3 hBW RW LW hBn hcb HT7 hgb6 hD HIB HXB HNB
    go_wp2_with (go_at_call 6; (with_reducible refine (lawake_eq _).mono ?_); rintro e w9 ⟨rfl, hb9⟩; refine Hid.out ?_)
    refine Lib.hid ?_
    have hb99 : Below W.heap.size W w9 := (by repeat' (first | with_reducible exact Below.refl _ _ | with_reducible assumption | with_reducible refine Q.alloc ?_ _ | with_reducible refine Q.drew ?_ | with_reducible refine Q.drewN ?_ _ | with_reducible refine Q.call ?_ (by assumption)))
    have r6 := RW1.out.call hb99
    have hK6 : w9.heap[D]? = some (.deferred (some [])) := heap_call9 hKD hb99
    have hB6 := Q.call HBN.out hb99
    have z0 := r6.cell 0
    have z1 := r6.frozen 0
    clear i0 il lw0 lwl rl
    go_wp2_with fail
    have hK' := (KeepsOthers.setCell w9 ⟨hr, 0, none⟩ (.bool true)).same D _ hK6 rfl
    refine ⟨by simp, .inl ⟨_, _, rfl, run_takeDeferred hK', ?_⟩⟩
    have hc5 := cell_kept (World.cell?_setCell_same' w9 ⟨hr, 0, none⟩ (.bool true) (by rw [z0]; rfl)) (grownBy_putObj' _ D (.deferred none)) (fun r e => by cases e; exact ⟨_, hK', rfl⟩)
    refine ⟨.bool true, ?_, rfl, (hB6.setCell (p := ⟨hr, 0, none⟩) (by have := HHR.out; simp only; omega) _).trans (belowK_b (w := w) (Nat.le_refl _) _ D _ _ hD' hK' rfl rfl)⟩
    simp [results, Try.f3, go_sem, hc5]
end Go.Proofs.Ytggnkkmlabhofaa
