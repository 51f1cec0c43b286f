/- The law LabelsAll: the walk, spans. (printed by gen/al1.py) -/
import Derived.Test.YtggnkkmlabhofaaAl0
import Derived.Test.YtggnkkmlabhofaaLa8
import Derived.Test.YtggnkkmlabhofaaRf2
import Derived.Test.YtggnkkmlabhofaaRf8
import Derived.Test.YtggnkkmlabhofaaAl1
namespace Go.Proofs.Ytggnkkmlabhofaa
set_option linter.unusedVariables false
set_option linter.unusedSimpArgs false
open Go.RowKit Go.Shelf
attribute [local go_sem ↓] Go.wp_at_zero Go.wp_at_succ
attribute [local go_sem] Oper.semAt_some eql_seq_nil

attribute [local go_sem] field_rp0
set_option maxRecDepth 1000000 in
set_option maxHeartbeats 12800000 in
theorem al_ok1 (w : World) (R : Nat → Prop) (sa ma : Option Addr) (sc mc : Nat) (s m : List Sp) (dc tr most : Int) (hs : Rd ES w R (.slice sa s.length sc) s) (hm : Rd ES w R (.slice ma m.length mc) m) (bs : ∀ y ∈ s, 0 ≤ y.b ∧ y.b ≤ 255) (bm : ∀ y ∈ m, 0 ≤ y.b ∧ y.b ≤ 255) (hse : ¬ s.length = 0) (hf : s.length ≤ 80 ∧ m.length ≤ 80) (hC : chk s m dc tr = 0) : Calls Try.prog 3 #[.agg #[.slice sa s.length sc, .slice ma m.length mc, .int .i64 dc, .int .i64 tr], .int .i64 most] w fun e w' => e = .returned (.bool true) ∧ Below w.heap.size w w' := by
  have HSE := Lib.hid hse
  clear hse
  have FW := fun V => few_eq V sa ma s.length m.length sc mc dc tr true (decide_eq_true hf).symm
  have NW := fun V (hV : Below w.heap.size w V) => new_ok V R _ _ s m dc tr (hs.below hV) (hm.below hV) (by omega) (by omega) hC
  have PLA := fun (V : World) (h : Below w.heap.size w V) => Plain_eq V R (.slice sa s.length sc) (.slice ma m.length mc) s m dc tr (hs.below h) (hm.below h) hf.1 hf.2 bs bm
  have SRT := fun (V : World) (v : Value) (h : Rd EN V (fun _ => True) v s) => rsorted_eq V (fun _ => True) v s h (by omega)
  have HTL := Lib.hid (told_of hC)
  have HBB := Lib.hid (show ∀ y ∈ srt s, 0 ≤ y.b ∧ y.b ≤ 255 from fun y hy => bs y ((srt_perm s).mem_iff.1 hy))
  have HSL := Lib.hid (srt_length s)
  have hls : s.length ≤ 80 := hf.1
  clear hs hm hf hC bs bm
  refine (callsIn_wide (n := 3)).1 ?_
  refine callsIn_of_wp_marks Try.func3 rfl trivial ?_
  simp only [Try.ntmps3, List.size_toArray, List.length_cons, List.length_nil, Nat.reduceAdd, Nat.reduceSub, Array.replicate_succ, Array.replicate_zero, List.push_toArray, List.append_toArray, List.nil_append, List.cons_append]
  refine wpIn_wide.2 ?_
  go_wp2_with (go_at_call 5; (with_reducible refine (FW _).mono ?_); rintro e w1 ⟨rfl, hb1⟩; refine Hid.out ?_)
  refine Lib.hid ?_
  have RB : Blk w1 (w.heap.size + 2) 4 #[.bool false] := (Blk.new' (by simp)).call hb1
  have PB : Blk w1 w.heap.size 24 #[.slice sa s.length sc, .slice ma m.length mc, .int .i64 dc, .int .i64 tr] := (Blk.alloc (Blk.alloc (Blk.new w _ _) _) _).call hb1
  have MB : Blk w1 (w.heap.size + 1) 3 #[.int .i64 most] := (Blk.alloc (Blk.new' (by simp)) _).call hb1
  have HB1 := Lib.hid (show Below w.heap.size w w1 from (by repeat' (first | with_reducible exact Below.refl _ _ | with_reducible assumption | with_reducible refine Q.alloc ?_ _ | with_reducible refine Q.drew ?_ | with_reducible refine Q.drewN ?_ _ | with_reducible refine Q.call ?_ (by assumption))))
  obtain ⟨hp, hhp⟩ : ∃ hp, hp = w.heap.size := ⟨_, rfl⟩
  obtain ⟨hx, hhx⟩ : ∃ hx, hx = w.heap.size + 1 := ⟨_, rfl⟩
  obtain ⟨hr, hhr⟩ : ∃ hr, hr = w.heap.size + 2 := ⟨_, rfl⟩
  have HHR := Lib.hid (show w.heap.size ≤ hr ∧ hr < w.heap.size + 3 by omega)
  rw [← hhp] at PB
  rw [← hhx] at MB
  rw [← hhr] at RB
  have hPE : (Value.pointer (some ⟨w.heap.size, 0, none⟩)) = Value.pointer (some ⟨hp, 0, none⟩) := by rw [hhp]
  rw [← hhr, ← hhx, hPE]
  have RB1 := Lib.hid RB
  have PB1 := Lib.hid PB
  have MB1 := Lib.hid MB
  clear hb1 RB PB MB hhp hhx hhr hPE
  have p0 := PB1.out.cell 0
  have p1 := PB1.out.cell 1
  have p2 := PB1.out.cell 2
  have p3 := PB1.out.cell 3
  have pl := PB1.out.lt
  have NW1 := NW w1 HB1.out
  go_wp2_with (go_at_call 7; (with_reducible refine NW1.mono ?_); rintro e w2 ⟨gt, v1, v2, rfl, hgt, hN, hT⟩; refine Hid.out ?_)
  refine Lib.hid ?_
  have HB2 := Lib.hid (Q.call HB1.out hN.bel)
  have PB2 := PB1.out.call hN.bel
  have RB2 := Lib.hid (RB1.out.call hN.bel)
  have MB2 := Lib.hid (MB1.out.call hN.bel)
  have HT2 := Lib.hid hT
  have PL2 := PLA w2 HB2.out
  clear p0 p1 p2 p3 pl NW1 NW PLA RB1 PB1 MB1 HB1 hgt hN hT FW
  have p0 := PB2.cell 0
  have p1 := PB2.cell 1
  have p2 := PB2.cell 2
  have p3 := PB2.cell 3
  have pl := PB2.lt
  go_wp2_with (go_at_call 10; (with_reducible refine PL2.mono ?_); rintro e w3 ⟨a1, n1, a2, n2, rfl, hr1, hr2, hb3⟩; refine Hid.out ?_)
  refine Lib.hid ?_
  have HB3 := Lib.hid (Q.call HB2.out hb3)
  have RB3 := Lib.hid (RB2.out.call hb3)
  have MB3 := Lib.hid (MB2.out.call hb3)
  have HT3 := Lib.hid (HT2.out.call hb3)
  have SR3 := SRT w3 _ hr1
  clear p0 p1 p2 p3 pl PL2 hr1 hr2 hb3 RB2 MB2 HT2 HB2 PB2 SRT
  go_wp2_with (go_at_call 9; (with_reducible refine SR3.mono ?_); rintro e w4 ⟨la, lc, rfl, hrL, hb4⟩; refine Hid.out ?_)
  refine Lib.hid ?_
  have HB4 := Lib.hid (Q.call HB3.out hb4)
  have RB4 := Lib.hid (RB3.out.call hb4)
  have MB4 := Lib.hid (MB3.out.call hb4)
  have HT4 := Lib.hid (HT3.out.call hb4)
  have HRL := Lib.hid hrL
  clear SR3 hrL hb4 RB3 MB3 HT3 HB3
  obtain ⟨bl, hbl⟩ : ∃ bl, bl = w4.heap.size := ⟨_, rfl⟩
  obtain ⟨gb, hgb⟩ : ∃ gb, gb = w4.heap.size + 1 := ⟨_, rfl⟩
  obtain ⟨w5, hw5⟩ : ∃ w5, w5 = (w4.alloc (.cells #[.slice la s.length lc] 32)).alloc (.cells #[.pointer (some ⟨gt, 0, none⟩)] 27) := ⟨_, rfl⟩
  have b45 : Below w4.heap.size w4 w5 := by rw [hw5]; exact (by repeat' (first | with_reducible exact Below.refl _ _ | with_reducible assumption | with_reducible refine Q.alloc ?_ _ | with_reducible refine Q.drew ?_ | with_reducible refine Q.drewN ?_ _ | with_reducible refine Q.call ?_ (by assumption)))
  have LB : Blk w5 bl 32 #[.slice la s.length lc] := by rw [hw5]; exact (Blk.new' hbl).alloc _
  have GB : Blk w5 gb 27 #[.pointer (some ⟨gt, 0, none⟩)] := by rw [hw5]; exact Blk.new' (by rw [hgb]; simp)
  have HLB := Lib.hid LB
  have HGB := Lib.hid GB
  have HB5 := Lib.hid (Q.call HB4.out b45)
  have RB5 := Lib.hid (RB4.out.call b45)
  have MB5 := Lib.hid (MB4.out.call b45)
  have HT5 := Lib.hid (HT4.out.call b45)
  have HRL5 := Lib.hid (HRL.out.below b45)
  have AC : Calls Try.prog 11 #[.pointer (some ⟨gt, 0, none⟩)] (w4.alloc (.cells #[.slice la s.length lc] 32)) fun e w' => e = .returned (.func (.func 24) #[] #[.pointer (some ⟨gb, 0, none⟩)]) ∧ w5 = w' := (all_calls _ gt).mono fun e w' h => ⟨by rw [hgb]; simpa using h.1, by rw [hw5]; exact h.2.symm⟩
  have HBLE := Lib.hid hbl
  clear hbl hgb hw5
  go_wp2_with (go_at_call 11; (with_reducible refine AC.mono ?_); rintro e w' ⟨rfl, rfl⟩; refine Hid.out ?_)
  refine Lib.hid ?_
  rw [← HBLE.out]
  have l0 : w5.cell? ⟨bl, 0, none⟩ = some (.slice la s.length lc) := LB.cell 0
  have ll := LB.lt
  clear AC b45 LB GB HBLE RB4 MB4 HT4 HB4 HRL
  obtain ⟨L, hL⟩ : ∃ L, L = srt s := ⟨_, rfl⟩
  rw [← hL] at HTL HSL HRL5 HBB
  obtain ⟨A, hA⟩ : ∃ A : Nat → Int, A = fillT (srt s) (fun _ => 0) := ⟨_, rfl⟩
  rw [← hL] at hA
  rw [← hA] at HTL
  have HT6 := HT5
  rw [← hL, ← hA] at HT6
  clear HT5
  clear hA
  have HLL := Lib.hid hL
  clear hL
  obtain ⟨bi, hbi⟩ : ∃ bi, bi = w5.heap.size := ⟨_, rfl⟩
  obtain ⟨bx, hbx⟩ : ∃ bx, bx = w5.heap.size + 1 := ⟨_, rfl⟩
  obtain ⟨bn, hbn⟩ : ∃ bn, bn = w5.heap.size + 2 := ⟨_, rfl⟩
  have hse := HSE.out
  have hsei : (0 : Int) < (s.length : Int) := by omega
  have hse0 : 0 < s.length := by omega
  obtain ⟨z, hz⟩ : ∃ z, L[0]? = some z := ⟨_, List.getElem?_eq_getElem (by rw [HSL.out]; omega)⟩
  have hsl := HSL.out
  have HR5' := HRL5.out
  obtain ⟨zb, zoff, zcap, hzv, hzb, _, z0, _, _⟩ := RdN.cellAt (show Rd EN w5 (fun _ => True) (.slice la s.length lc) L from HR5'.keep (fun b _ _ => ⟨rfl, trivial⟩) (Nat.le_refl _)) hz
  injection hzv with hza hzn hzc
  clear hzn hzc hsl HR5'
  subst hza
  have HNX := Lib.hid (show (stt L 0).2 = z.f by show (if 0 < L.length then (spG L 0).f else 0) = z.f; rw [if_pos (by rw [HSL.out]; omega), spG_of hz])
  clear hz
  have z0 : w5.cell? ⟨zb, zoff, none⟩ = some (.int .i64 z.f) := by simpa using z0
  obtain ⟨w6, hw6⟩ : ∃ w6, w6 = ((w5.alloc (.cells #[.int .i64 0] 3)).alloc (.cells #[.int .i64 z.f] 3)).alloc (.cells #[.int .i64 0] 3) := ⟨_, rfl⟩
  have HB56 := Lib.hid (show Below w5.heap.size w5 w6 by rw [hw6]; exact (by repeat' (first | with_reducible exact Below.refl _ _ | with_reducible assumption | with_reducible refine Q.alloc ?_ _ | with_reducible refine Q.drew ?_ | with_reducible refine Q.drewN ?_ _ | with_reducible refine Q.call ?_ (by assumption))))
  have HIB := Lib.hid (show Blk w6 bi 3 #[.int .i64 ((stt L 0).1 : Int)] by rw [hw6]; exact ((Blk.new' hbi).alloc _).alloc _)
  have HXB := Lib.hid (show Blk w6 bx 3 #[.int .i64 (stt L 0).2] by rw [hw6, HNX.out]; exact (Blk.new' (by rw [hbx]; simp)).alloc _)
  have HNB := Lib.hid (show Blk w6 bn 3 #[.int .i64 0] by rw [hw6]; exact Blk.new' (by rw [hbn]; simp))
  have HEQ := Lib.hid (And.intro hbi (And.intro hbx (And.intro hbn hw6)))
  clear hbi hbx hbn hw6 hse
  go_wp2_with fail
  obtain ⟨hbi, hbx, hbn, hw6⟩ := HEQ.out
  rw [← hbn, ← hbx, ← hbi, ← hw6]
  clear hw6 HNX hsei hse0 z0 hzb HEQ
  obtain ⟨TT, hTT⟩ : ∃ TT, tabs A 65536 = TT := ⟨_, rfl⟩
  have HEND := Lib.hid (show (stt L TT.length).1 = L.length by rw [← hTT]; exact all_end HTL.out 65536 rfl)
  have HTT := Lib.hid hTT
  clear hTT
  have RB6 := Lib.hid (RB5.out.call HB56.out)
  have MB6 := Lib.hid (MB5.out.call HB56.out)
  have LB6 := Lib.hid (HLB.out.call HB56.out)
  have HT7 := Lib.hid (HT6.out.call HB56.out)
  have HRL6 := Lib.hid (show Rd EN w6 (fun b => b < bi) (.slice (some ⟨zb, zoff, none⟩) s.length lc) L from HRL5.out.keep (fun b hb _ => ⟨HB56.out.block b hb, by omega⟩) HB56.out.size)
  have HB6 := Lib.hid (Q.call HB5.out HB56.out)
  have hcb : w6.cell? ⟨gb, 0, none⟩ = some (.pointer (some ⟨gt, 0, none⟩)) := (HGB.out.call HB56.out).cell 0
  have hgb6 : gb < w6.heap.size := (HGB.out.call HB56.out).lt
  have hbi6 : bi ≤ w6.heap.size := Nat.le_of_lt HIB.out.lt
  have HBI := Lib.hid (show bx = bi + 1 ∧ bn = bi + 2 ∧ bi = w5.heap.size by omega)
  have HHR2 := Lib.hid (show hr < bi by have := RB5.out.lt; omega)
  have HHX2 := Lib.hid (show hx < bi by have := MB5.out.lt; omega)
  have HBL2 := Lib.hid (show bl < bi by have := HLB.out.lt; omega)
  have hww : w.heap.size ≤ w6.heap.size := HB6.out.size
  clear l0 ll hbi hbx hbn HB56 RB5 MB5 HRL5 HB5 HGB HLB HT6
  refine (wpIn_wide (n := 3)).1 ?_
  refine wpIn_rangeFunc_ownF rfl (by decide) (gf := 24) (lb := #[.pointer (some ⟨gb, 0, none⟩)]) rfl trivial (enters_of Try.func24 (by kernel_rfl) rfl)
    (all_stops 2 (by decide) gb gt 65536 rfl v1 v2 dc tr A _ TT HTT.out w6 hgb6 hcb HT7.out) (fun _ _ => trivial) (fun _ _ _ _ _ _ _ _ => trivial) (Below.refl _ _) (fun _ => rfl)
    (JL L bi bx bn w6)
    (fun c pre W => c = .ret ∧ (StL L pre ∨ StR w hr W))
    (jl_own hbi6)
    (fun c => stop_own HB6.out.size)
    ⟨⟨HIB.out, HXB.out, HNB.out⟩, Below.refl _ _⟩ ?a2 ?assign2 ?body2 ?done2 ?stop2
  case assign2 =>
    intro l x W K hK
    gi_wp2
    exact hK
  case body2 =>
    rintro l pre x W ⟨⟨h1, h2, h3⟩, hBW⟩ hl
    obtain ⟨xa, xb⟩ := x
    dsimp only
    obtain ⟨qi, hqi⟩ : ∃ qi, qi = (stt L pre.length).1 := ⟨_, rfl⟩
    obtain ⟨qn, hqn⟩ : ∃ qn, qn = (stt L pre.length).2 := ⟨_, rfl⟩
    rw [← hqi] at h1
    rw [← hqn] at h2
    have RW : Blk W hr 4 #[.bool false] := RB6.out.below hBW HHR2.out
    have MW : Blk W hx 3 #[.int .i64 most] := MB6.out.below hBW HHX2.out
    have LW : Blk W bl 32 #[.slice (some ⟨zb, zoff, none⟩) s.length lc] := LB6.out.below hBW HBL2.out
    have RLW : Rd EN W (fun b => b < bi) (.slice (some ⟨zb, zoff, none⟩) s.length lc) L := HRL6.out.keep (fun b _ hR => ⟨hBW.block b hR, hR⟩) (Nat.le_trans (Nat.le_refl _) hBW.size)
    have r0 := RW.cell 0
    have r1 := RW.frozen 0
    have rl := RW.lt
    have m0 := MW.cell 0
    have ml := MW.lt
    have lw0 := LW.cell 0
    have lwl := LW.lt
    have i0 := h1.cell 0
    have i1 := h1.frozen 0
    have il := h1.lt
    have x0 := h2.cell 0
    have x1 := h2.frozen 0
    have xl := h2.lt
    have n0 := h3.cell 0
    have n1 := h3.frozen 0
    have nl := h3.lt
    have HQI := Lib.hid hqi
    have HQN := Lib.hid hqn
    have H1 := Lib.hid h1
    have H2 := Lib.hid h2
    have H3 := Lib.hid h3
    have HBW := Lib.hid hBW
    have HLP := Lib.hid (show pre.length < 65536 from hl)
    have HMW := Lib.hid MW
    have HRW := Lib.hid RW
    have HLW := Lib.hid LW
    have HRLW := Lib.hid RLW
    clear hqi hqn h1 h2 h3 hBW RW MW LW hl
    by_cases g0 : qi < L.length
    · obtain ⟨y, hy⟩ : ∃ y, L[qi]? = some y := ⟨_, List.getElem?_eq_getElem g0⟩
      obtain ⟨yb, yoff, ycap, hyv, hyb, hybi, yc0, yc1, yc2⟩ := RdN.cellAt RLW hy
      clear RLW
      injection hyv with hya hyn hyc
      clear hyn
      subst hyc
      (injection hya with hya; injection hya with hya1 hya2; obtain rfl := hya1.symm; obtain rfl := hya2.symm)
      have HY := Lib.hid hy
      have HYBI := Lib.hid (show yb < bi from hybi)
      clear hybi
      have g0s : qi < s.length := by have := HSL.out; omega
      have g0i : ¬ (s.length : Int) ≤ (qi : Int) := by omega
      have g0j : (qi : Int) < (s.length : Int) := by omega
      clear hy g0
      have HBQ := Lib.hid (show 0 ≤ qn ∧ qn ≤ y.t by have BQ := stt_le HTL.out pre.length (by rw [← HQI.out]; have := HSL.out; omega); rw [← HQI.out, ← HQN.out, spG_of HY.out] at BQ; exact BQ)
      have HYB := Lib.hid (HTL.out.bnd y (List.mem_of_getElem? HY.out))
      have HYC := Lib.hid (HBB.out y (List.mem_of_getElem? HY.out))
      have hw64 : IntKind.i64.wrap xb = wrap64 xb := by first | rfl | (rw [IntKind.wrap_i64]; rfl) | (rw [IntKind.wrap_i64, RowKit.wrap64]) | (simp [IntKind.wrap_i64, RowKit.wrap64])
      have HW64 := Lib.hid hw64
      clear hw64
      by_cases g1 : (xa : Int) = qn
      · by_cases g2 : IntKind.i64.wrap xb = y.b
        · have e1 : ((xa : Int) != qn) = false := by simp [g1]
          have e2 : (IntKind.i64.wrap xb != y.b) = false := by simp [g2]
          have e6 : wrap64 xb = y.b := by rw [← HW64.out]; exact g2
          have e4 : (wrap64 xb != y.b) = false := by have h := e2; rw [HW64.out] at h; exact h
          have wn : IntKind.i64.wrap (qn + 1) = qn + 1 := by rw [IntKind.wrap_i64]; have := HBQ.out; have := HYB.out; omega
          have wp : IntKind.i64.wrap ((pre.length : Int) + 1) = (pre.length : Int) + 1 := by rw [IntKind.wrap_i64]; have := HLP.out; omega
          have wi : IntKind.i64.wrap ((qi : Int) + 1) = (qi : Int) + 1 := by rw [IntKind.wrap_i64]; omega
          have HY1 := Lib.hid yc1
          have d1 : bx ≠ bn := by have := HBI.out; omega
          have d2 : bn ≠ bx := fun e => d1 e.symm
          have d3 : bi ≠ bn := by have := HBI.out; omega
          have d4 : bi ≠ bx := by have := HBI.out; omega
          gi_wp2_with (with_reducible refine wpIn_region_below (by kernel_rfl) (by kernel_rfl) (by kernel_rfl) ?_; refine Hid.out ?_)
          refine Lib.hid ?_
          clear r0 r1 rl m0 ml lw0 lwl i0 i1 il x0 x1 xl n0 n1 nl yc0 yc1 yc2 hyb
          obtain ⟨W2, hW2⟩ : ∃ W2, W2 = (W.setCell ⟨bn, 0, none⟩ (.int .i64 ((pre.length : Int) + 1))).setCell ⟨bx, 0, none⟩ (.int .i64 (qn + 1)) := ⟨_, rfl⟩
          have hbx := HBI.out.1
          have hbn := HBI.out.2.1
          have N1 := blk_put H3.out (.int .i64 ((pre.length : Int) + 1))
          have X1 := blk_oth H2.out H3.out (by omega) (.int .i64 ((pre.length : Int) + 1))
          have I1 := blk_oth H1.out H3.out (by omega) (.int .i64 ((pre.length : Int) + 1))
          have N2 := blk_oth N1 X1 (by omega) (.int .i64 (qn + 1))
          have I2 := blk_oth I1 X1 (by omega) (.int .i64 (qn + 1))
          have X2 := blk_put X1 (.int .i64 (qn + 1))
          have B2 : Below bi W ((W.setCell ⟨bn, 0, none⟩ (.int .i64 ((pre.length : Int) + 1))).setCell ⟨bx, 0, none⟩ (.int .i64 (qn + 1))) := ((Below.refl bi W).setCell (p := ⟨bn, 0, none⟩) (by simp only; omega) _).setCell (p := ⟨bx, 0, none⟩) (by simp only; omega) _
          have K2 : KeepsOthers W ((W.setCell ⟨bn, 0, none⟩ (.int .i64 ((pre.length : Int) + 1))).setCell ⟨bx, 0, none⟩ (.int .i64 (qn + 1))) := (KeepsOthers.setCell _ _ _).trans (KeepsOthers.setCell _ _ _)
          rw [← hW2] at N2 I2 X2 B2 K2
          rw [← hW2]
          clear hW2 N1 X1 I1 hbx hbn
          have R2 := HRW.out.below B2 HHR2.out
          have M2 := HMW.out.below B2 HHX2.out
          have LL2 := HLW.out.below B2 HBL2.out
          have YC2 : W2.cell? ⟨yb, yoff + qi * 3 + 1, none⟩ = some (.int .i64 y.t) := (B2.cell (p := ⟨yb, _, none⟩) HYBI.out).trans HY1.out
          have ybl : yb < W2.heap.size := by have := HYBI.out; have := I2.lt; omega
          have Lb : ∀ x : BW W2, x.val.cell? ⟨bl, 0, none⟩ = some (.slice (some ⟨yb, yoff, none⟩) s.length lc) := fun x => (x.has.cell (p := ⟨bl, 0, none⟩) LL2.lt).trans (LL2.cell 0)
          have Li : ∀ x : BW W2, x.val.cell? ⟨bi, 0, none⟩ = some (.int .i64 (qi : Int)) := fun x => (x.has.cell (p := ⟨bi, 0, none⟩) I2.lt).trans (I2.cell 0)
          have Lx : ∀ x : BW W2, x.val.cell? ⟨bx, 0, none⟩ = some (.int .i64 (qn + 1)) := fun x => (x.has.cell (p := ⟨bx, 0, none⟩) X2.lt).trans (X2.cell 0)
          have Ly : ∀ x : BW W2, x.val.cell? ⟨yb, yoff + qi * 3 + 1, none⟩ = some (.int .i64 y.t) := fun x => (x.has.cell (p := ⟨yb, _, none⟩) ybl).trans YC2
          repeat (go_big_quiet_step (fail))
          refine wpQuiet_nil ?_
          intro y9
          have b9 := y9.has
          generalize y9.val = W3 at b9 ⊢
          clear Lb Li Lx Ly
          have N3 := N2.call b9
          have I3 := I2.call b9
          have X3 := X2.call b9
          have R3 := R2.call b9
          have M3 := M2.call b9
          have LL3 := LL2.call b9
          have K3 : KeepsOthers W W3 := K2.trans ⟨b9.size, fun k o hk _ => (b9.block k (Array.getElem?_eq_some_iff.1 hk).1).trans hk⟩
          have B3 : Below bi W W3 := B2.trans (b9.mono (by have := I2.lt; omega))
          clear b9 N2 I2 X2 R2 M2 LL2 K2 B2 YC2 ybl
          have HI3 := Lib.hid I3
          have HX3 := Lib.hid X3
          have HN3 := Lib.hid N3
          have HR3 := Lib.hid R3
          have HM3 := Lib.hid M3
          have HL3 := Lib.hid LL3
          have HK3 := Lib.hid K3
          have HB3 := Lib.hid B3
          clear I3 X3 N3 R3 M3 LL3 K3 B3
          have n0 := HN3.out.cell 0
          have n1 := HN3.out.frozen 0
          have nl := HN3.out.lt
          have m0 := HM3.out.cell 0
          have ml := HM3.out.lt
          have i0 := HI3.out.cell 0
          have i1 := HI3.out.frozen 0
          have il := HI3.out.lt
          have x0 := HX3.out.cell 0
          have x1 := HX3.out.frozen 0
          have xl := HX3.out.lt
          have l0 := HL3.out.cell 0
          have ll := HL3.out.lt
          have hq0 : stt L pre.length = (qi, qn) := Prod.ext HQI.out.symm HQN.out.symm
          have d5 : yb ≠ bi := by have := HYBI.out; omega
          have d6 : hr ≠ bi := by have := HHR2.out; omega
          have d7 : hr ≠ bx := by have := HHR2.out; have := HBI.out; omega
          have d8 : hx ≠ bi := by have := HHX2.out; omega
          have d9 : hx ≠ bx := by have := HHX2.out; have := HBI.out; omega
          have d10 : bl ≠ bi := by have := HBL2.out; omega
          clear e1 e2 e4 e6 g1 g2 wn wp
          by_cases c1 : y.t < qn + 1
          · obtain ⟨q1, hq1⟩ : ∃ q1, q1 = qi + 1 := ⟨_, rfl⟩
            have wi1 : IntKind.i64.wrap ((qi : Int) + 1) = (q1 : Int) := by rw [wi]; omega
            have wi2 : wrap64 ((qi : Int) + 1) = (q1 : Int) := (w64_of _).trans wi1
            have HWI := Lib.hid (And.intro wi1 wi2)
            clear wi wi1 wi2
            by_cases c2 : q1 < L.length
            · obtain ⟨z, hz⟩ : ∃ z, L[q1]? = some z := ⟨_, List.getElem?_eq_getElem c2⟩
              have ZC : W3.cell? ⟨yb, yoff + q1 * 3, none⟩ = some (.int .i64 z.f) := (HB3.out.cell (p := ⟨yb, _, none⟩) HYBI.out).trans (RdN.at2 HRLW.out hz)
              have k1 : (q1 : Int) < (s.length : Int) := by have := HSL.out; omega
              have k2 : q1 < s.length := by have := HSL.out; omega
              clear c2
              have hstt : stt L (pre.length + 1) = (q1, z.f) := by show stp L (stt L pre.length) = _; rw [hq0, hq1]; exact stp_next HY.out (by rw [← hq1]; exact hz) c1
              have IE := Lib.hid (blk_oth (blk_put HI3.out (.int .i64 (q1 : Int))) (blk_oth HX3.out HI3.out d4.symm (.int .i64 (q1 : Int))) d4 (.int .i64 z.f))
              have XE := Lib.hid (blk_put (blk_oth HX3.out HI3.out d4.symm (.int .i64 (q1 : Int))) (.int .i64 z.f))
              have NE := Lib.hid (blk_oth (blk_oth HN3.out HI3.out d3.symm (.int .i64 (q1 : Int))) (blk_oth HX3.out HI3.out d4.symm (.int .i64 (q1 : Int))) d2 (.int .i64 z.f))
              have RE := Lib.hid (blk_oth (blk_oth HR3.out HI3.out d6 (.int .i64 (q1 : Int))) (blk_oth HX3.out HI3.out d4.symm (.int .i64 (q1 : Int))) d7 (.int .i64 z.f))
              have KE := Lib.hid ((HK3.out.trans (KeepsOthers.setCell W3 ⟨bi, 0, none⟩ (.int .i64 (q1 : Int)))).trans (KeepsOthers.setCell _ ⟨bx, 0, none⟩ (.int .i64 z.f)))
              have BE := Lib.hid ((HB3.out.setCell (p := ⟨bi, 0, none⟩) (Nat.le_refl _) (.int .i64 (q1 : Int))).setCell (p := ⟨bx, 0, none⟩) (by have := HBI.out; simp only; omega) (.int .i64 z.f))
              have HSTT := Lib.hid hstt
              clear hstt hq0 hz hq1
              have hd : decide (y.t < qn + 1) = true := decide_eq_true c1
              rw [hd]
              clear hd c1
              obtain ⟨wi1, wi2⟩ := HWI.out
              by_cases c3 : (pre.length : Int) + 1 = most
              · have c3b : ((pre.length : Int) + 1 == most) = true := by simp [c3]
                clear c3
                gi_wp2
                refine And.intro ?_ ?_
                · exact trivial
                (with_reducible refine (CallsIn.inRound _ (callsIn_wide.2 (lawake_eq _))).mono ?_)
                rintro e w9 ⟨rfl, hb9⟩
                have r9 := RE.out.call hb9
                have z0 := r9.cell 0
                have z1 := r9.frozen 0
                have HK9 := Lib.hid (keeps_call KE.out hb9)
                have HB9 := Lib.hid (Q.call (HB6.out.trans ((HBW.out.trans BE.out).mono (by have := HHR2.out; have := HHR.out; omega))) hb9)
                clear hb9 wi1 wi2 n0 n1 nl m0 ml i0 i1 il x0 x1 xl l0 ll r9
                gi_wp2
                refine ⟨HK9.out.trans (KeepsOthers.setCell _ _ _), rfl, .inr ⟨World.cell?_setCell_same' w9 ⟨hr, 0, none⟩ (.bool true) (by rw [z0]; rfl), HB9.out.setCell (p := ⟨hr, 0, none⟩) (by have := HHR.out; simp only; omega) _⟩⟩
              · have c3b : ((pre.length : Int) + 1 == most) = false := by simp [c3]
                clear c3
                gi_wp2
                exact ⟨KE.out, trivial, jl_end HSTT.out IE.out XE.out NE.out (HBW.out.trans BE.out)⟩
            · have k1 : ¬ (q1 : Int) < (s.length : Int) := by have := HSL.out; omega
              have k2 : ¬ q1 < s.length := by have := HSL.out; omega
              have hz := c2
              clear c2
              have hstt : stt L (pre.length + 1) = (q1, qn + 1) := by show stp L (stt L pre.length) = _; rw [hq0, hq1]; exact stp_last HY.out (by rw [← hq1]; exact hz) c1
              have IE := Lib.hid (blk_put HI3.out (.int .i64 (q1 : Int)))
              have XE := Lib.hid (blk_oth HX3.out HI3.out d4.symm (.int .i64 (q1 : Int)))
              have NE := Lib.hid (blk_oth HN3.out HI3.out d3.symm (.int .i64 (q1 : Int)))
              have RE := Lib.hid (blk_oth HR3.out HI3.out d6 (.int .i64 (q1 : Int)))
              have KE := Lib.hid (HK3.out.trans (KeepsOthers.setCell W3 ⟨bi, 0, none⟩ (.int .i64 (q1 : Int))))
              have BE := Lib.hid (HB3.out.setCell (p := ⟨bi, 0, none⟩) (Nat.le_refl _) (.int .i64 (q1 : Int)))
              have HSTT := Lib.hid hstt
              clear hstt hq0 hz hq1
              have hd : decide (y.t < qn + 1) = true := decide_eq_true c1
              rw [hd]
              clear hd c1
              obtain ⟨wi1, wi2⟩ := HWI.out
              by_cases c3 : (pre.length : Int) + 1 = most
              · have c3b : ((pre.length : Int) + 1 == most) = true := by simp [c3]
                clear c3
                gi_wp2
                refine And.intro ?_ ?_
                · exact trivial
                (with_reducible refine (CallsIn.inRound _ (callsIn_wide.2 (lawake_eq _))).mono ?_)
                rintro e w9 ⟨rfl, hb9⟩
                have r9 := RE.out.call hb9
                have z0 := r9.cell 0
                have z1 := r9.frozen 0
                have HK9 := Lib.hid (keeps_call KE.out hb9)
                have HB9 := Lib.hid (Q.call (HB6.out.trans ((HBW.out.trans BE.out).mono (by have := HHR2.out; have := HHR.out; omega))) hb9)
                clear hb9 wi1 wi2 n0 n1 nl m0 ml i0 i1 il x0 x1 xl l0 ll r9
                gi_wp2
                refine ⟨HK9.out.trans (KeepsOthers.setCell _ _ _), rfl, .inr ⟨World.cell?_setCell_same' w9 ⟨hr, 0, none⟩ (.bool true) (by rw [z0]; rfl), HB9.out.setCell (p := ⟨hr, 0, none⟩) (by have := HHR.out; simp only; omega) _⟩⟩
              · have c3b : ((pre.length : Int) + 1 == most) = false := by simp [c3]
                clear c3
                gi_wp2
                exact ⟨KE.out, trivial, jl_end HSTT.out IE.out XE.out NE.out (HBW.out.trans BE.out)⟩
          · clear wi
            have hstt : stt L (pre.length + 1) = (qi, qn + 1) := by show stp L (stt L pre.length) = _; rw [hq0]; exact stp_on HY.out c1
            have IE := HI3
            have XE := HX3
            have NE := HN3
            have RE := HR3
            have KE := HK3
            have BE := HB3
            have HSTT := Lib.hid hstt
            clear hstt hq0 
            have hd : decide (y.t < qn + 1) = false := decide_eq_false c1
            rw [hd]
            clear hd c1
            by_cases c3 : (pre.length : Int) + 1 = most
            · have c3b : ((pre.length : Int) + 1 == most) = true := by simp [c3]
              clear c3
              gi_wp2
              refine And.intro ?_ ?_
              · exact trivial
              (with_reducible refine (CallsIn.inRound _ (callsIn_wide.2 (lawake_eq _))).mono ?_)
              rintro e w9 ⟨rfl, hb9⟩
              have r9 := RE.out.call hb9
              have z0 := r9.cell 0
              have z1 := r9.frozen 0
              have HK9 := Lib.hid (keeps_call KE.out hb9)
              have HB9 := Lib.hid (Q.call (HB6.out.trans ((HBW.out.trans BE.out).mono (by have := HHR2.out; have := HHR.out; omega))) hb9)
              clear hb9 n0 n1 nl m0 ml i0 i1 il x0 x1 xl l0 ll r9
              gi_wp2
              refine ⟨HK9.out.trans (KeepsOthers.setCell _ _ _), rfl, .inr ⟨World.cell?_setCell_same' w9 ⟨hr, 0, none⟩ (.bool true) (by rw [z0]; rfl), HB9.out.setCell (p := ⟨hr, 0, none⟩) (by have := HHR.out; simp only; omega) _⟩⟩
            · have c3b : ((pre.length : Int) + 1 == most) = false := by simp [c3]
              clear c3
              gi_wp2
              exact ⟨KE.out, trivial, jl_end HSTT.out IE.out XE.out NE.out (HBW.out.trans BE.out)⟩
        · have e1 : ((xa : Int) != qn) = false := by simp [g1]
          have e2 : (IntKind.i64.wrap xb != y.b) = true := by simp [g2]
          have e3 : (IntKind.i64.wrap xb == y.b) = false := by simp [g2]
          have e4 : (wrap64 xb != y.b) = true := by have h := e2; rw [HW64.out] at h; exact h
          have e5 : (wrap64 xb == y.b) = false := by have h := e3; rw [HW64.out] at h; exact h
          have HNG := Lib.hid (show StL L (pre ++ [(xa, xb)]) from ⟨pre, (xa, xb), rfl, fun h => g2 (by
            have h3 : xb = y.b := by have := h.2.2; rw [← HQI.out, spG_of HY.out] at this; exact this
            have := HYC.out
            rw [h3, IntKind.wrap_i64]; omega)⟩)
          gi_wp2
          refine ⟨KeepsOthers.setCell _ _ _, rfl, ?_⟩
          exact .inl HNG.out
      · have e1 : ((xa : Int) == qn) = false := by simp [g1]
        have e2 : ((xa : Int) != qn) = true := by simp [g1]
        have HNG := Lib.hid (show StL L (pre ++ [(xa, xb)]) from ⟨pre, (xa, xb), rfl, fun h => g1 (by have := h.2.1; rw [← HQN.out] at this; exact this)⟩)
        gi_wp2
        refine ⟨KeepsOthers.setCell _ _ _, rfl, ?_⟩
        exact .inl HNG.out
    · clear RLW
      have g0s : ¬ qi < s.length := by have := HSL.out; omega
      have g0i : (s.length : Int) ≤ (qi : Int) := by omega
      have HNG := Lib.hid (show StL L (pre ++ [(xa, xb)]) from ⟨pre, (xa, xb), rfl, fun h => g0 (by have := h.1; rw [← HQI.out] at this; exact this)⟩)
      gi_wp2
      refine ⟨KeepsOthers.setCell _ _ _, rfl, ?_⟩
      exact .inl HNG.out
  case stop2 =>
    rintro D c pre W hD ⟨k, hk, hak, rfl⟩ ⟨rfl, hx⟩ hKD
    rcases hx with ⟨q, y, hq, hy⟩ | ⟨hcell, hbel⟩
    · exfalso
      obtain ⟨h1, h2⟩ := List.append_inj' hq rfl
      cases h2
      rw [← h1] at hy
      exact hy (all_good HTL.out hk hak)
    · have hD' : w.heap.size ≤ D := by omega
      refine wpIn_wide.2 ?_
      clear HT7 HIB HXB HNB hcb hgb6
      go_wp2_with fail
      refine ⟨by simp, .inl ⟨_, _, rfl, run_takeDeferred hKD, ?_⟩⟩
      have hc5 := cell_kept hcell (grownBy_putObj' _ D (.deferred none)) (fun r e => by cases e; exact ⟨_, hKD, rfl⟩)
      refine ⟨.bool true, ?_, rfl, hbel.trans (belowK_b (w := w) (Nat.le_refl _) _ D _ _ hD' hKD rfl rfl)⟩
      simp [results, Try.f3, go_sem, hc5]
  case done2 =>
    rintro D ys W hD rfl ⟨⟨h1, h2, h3⟩, hBW⟩ hKD
    rw [HEND.out, HSL.out] at h1
    have RW : Blk W hr 4 #[.bool false] := RB6.out.below hBW HHR2.out
    have LW : Blk W bl 32 #[.slice (some ⟨zb, zoff, none⟩) s.length lc] := LB6.out.below hBW HBL2.out
    have hBn : Below w.heap.size w W := HB6.out.trans (hBW.mono (by have := HHR2.out; have := HHR.out; omega))
    have rl := RW.lt
    have i0 := h1.cell 0
    have il := h1.lt
    have lw0 := LW.cell 0
    have lwl := LW.lt
    have hD' : w.heap.size ≤ D := by omega
    have RW1 := Lib.hid RW
    have HBN := Lib.hid hBn
    have HD1 := Lib.hid hD
    clear h1 h2 h3 hBW RW LW hBn hcb HT7 hgb6 hD HIB HXB HNB
    go_wp2_with (go_at_call 6; (with_reducible refine (lawake_eq _).mono ?_); rintro e w9 ⟨rfl, hb9⟩; refine Hid.out ?_)
    refine Lib.hid ?_
    have hb99 : Below W.heap.size W w9 := (by repeat' (first | with_reducible exact Below.refl _ _ | with_reducible assumption | with_reducible refine Q.alloc ?_ _ | with_reducible refine Q.drew ?_ | with_reducible refine Q.drewN ?_ _ | with_reducible refine Q.call ?_ (by assumption)))
    have r6 := RW1.out.call hb99
    have hK6 : w9.heap[D]? = some (.deferred (some [])) := heap_call9 hKD hb99
    have hB6 := Q.call HBN.out hb99
    have z0 := r6.cell 0
    have z1 := r6.frozen 0
    clear i0 il lw0 lwl rl
    go_wp2_with fail
    have hK' := (KeepsOthers.setCell w9 ⟨hr, 0, none⟩ (.bool true)).same D _ hK6 rfl
    refine ⟨by simp, .inl ⟨_, _, rfl, run_takeDeferred hK', ?_⟩⟩
    have hc5 := cell_kept (World.cell?_setCell_same' w9 ⟨hr, 0, none⟩ (.bool true) (by rw [z0]; rfl)) (grownBy_putObj' _ D (.deferred none)) (fun r e => by cases e; exact ⟨_, hK', rfl⟩)
    refine ⟨.bool true, ?_, rfl, (hB6.setCell (p := ⟨hr, 0, none⟩) (by have := HHR.out; simp only; omega) _).trans (belowK_b (w := w) (Nat.le_refl _) _ D _ _ hD' hK' rfl rfl)⟩
    simp [results, Try.f3, go_sem, hc5]
end Go.Proofs.Ytggnkkmlabhofaa
