/- The law LabelsLow: the walk. (printed by gen/ll3.py) -/
import Derived.Test.YtggnkkmlabhofaaDoorLl2
import Derived.Test.YtggnkkmlabhofaaDoorLa8
import Derived.Test.YtggnkkmlabhofaaDoorRf1
import Derived.Deep.RegionWith
namespace Go.Proofs.YtggnkkmlabhofaaDoor
set_option linter.unusedVariables false
set_option linter.unusedSimpArgs false
open Go.RowKit
attribute [local go_sem ↓] Go.wp_at_zero Go.wp_at_succ

/-- A table and two memories. -/
structure LI (w : World) (gt gm go : Nat) (v1 v2 : Value) (dc tr : Int) (S b : Nat → Int) (F f : Nat → Int × Int) (W : World) : Prop where
  bel : Below w.heap.size w W
  tab : Tab W gt v1 v2 dc tr S b
  mm : Mem W gm F
  mo : Mem W go f
  ne : gm ≠ go ∧ gt ≠ go ∧ w.heap.size ≤ go
theorem LI.call {w : World} {gt gm go : Nat} {v1 v2 : Value} {dc tr : Int} {S b : Nat → Int} {F f : Nat → Int × Int} {W V : World} (h : LI w gt gm go v1 v2 dc tr S b F f W) (hb : Below W.heap.size W V) : LI w gt gm go v1 v2 dc tr S b F f V :=
  ⟨Q.call h.bel hb, h.tab.call hb, h.mm.call hb, h.mo.call hb, h.ne⟩
theorem LI.set {w : World} {gt gm go : Nat} {v1 v2 : Value} {dc tr : Int} {S b : Nat → Int} {F f f' : Nat → Int × Int} {W V : World} (h : LI w gt gm go v1 v2 dc tr S b F f W) (hc : Chg (· = go) W V) (hm : Mem V go f') : LI w gt gm go v1 v2 dc tr S b F f' V := by
  obtain ⟨n1, n2, n3⟩ := h.ne
  obtain ⟨M, hM, hB⟩ := h.tab
  exact ⟨hc.below h.bel h.bel.size (fun b hb => by have hb : b = go := hb; omega), ⟨M, hM, hB.chg hc (fun h => n2 h)⟩, h.mm.chg hc (fun h => n1 h), hm, h.ne⟩
theorem LI.kin {w : World} {gt gm go : Nat} {v1 v2 : Value} {dc tr : Int} {S b : Nat → Int} {F f : Nat → Int × Int} {W : World} (h : LI w gt gm go v1 v2 dc tr S b F f W) (hk : KIN w) : KIN W := hk.below h.bel hk.lt
set_option maxRecDepth 100000 in
set_option maxHeartbeats 3200000 in
theorem ll_many (w : World) (R : Nat → Prop) (sa ma : Option Addr) (sc mc : Nat) (s m : List Sp) (dc tr : Int) (a : Option Addr) (len cap : Nat) (ops : List LD) (xa : Option Addr) (xl xc : Nat) (xs : List TD) (hk : KIN w) (hs : Rd ES w R (.slice sa s.length sc) s) (hm : Rd ES w R (.slice ma m.length mc) m) (hr : ReadsL w w.heap.size a len ops) (hlen : len ≤ maxLen) (hx : ReadsX w w.heap.size xa xl xs) (hf : ¬ (s.length ≤ 80 ∧ m.length ≤ 80)) : Calls Tryd.prog 5 #[.agg #[.slice sa s.length sc, .slice ma m.length mc, .int .i64 dc, .int .i64 tr], .slice a len cap, .slice xa xl xc] w fun e w' => e = .returned (.bool true) ∧ Below w.heap.size w w' := by
  have FW := fun V => few_eq V sa ma s.length m.length sc mc dc tr false (decide_eq_false hf).symm
  clear hk hs hm hr hx hf
  go_enter Tryd.func5, Tryd.ntmps5
  go_wp2_with (first
    | (go_at_call 24; (with_reducible refine (FW _).mono ?_); rintro e w1 ⟨rfl, hb1⟩)
    | (go_at_call 26; (with_reducible refine (lawake_eq _).mono ?_); rintro e w9 ⟨rfl, hb9⟩))
  go_ret
  exact ⟨rfl, (by repeat' (first | with_reducible exact Below.refl _ _ | with_reducible assumption | with_reducible refine Q.alloc ?_ _ | with_reducible refine Q.drew ?_ | with_reducible refine Q.drewN ?_ _ | with_reducible refine Q.call ?_ (by assumption)))⟩
set_option maxRecDepth 100000 in
set_option maxHeartbeats 6400000 in
theorem ll_few (w : World) (R : Nat → Prop) (sa ma : Option Addr) (sc mc : Nat) (s m : List Sp) (dc tr : Int) (a : Option Addr) (len cap : Nat) (ops : List LD) (xa : Option Addr) (xl xc : Nat) (xs : List TD) (hk : KIN w) (hs : Rd ES w R (.slice sa s.length sc) s) (hm : Rd ES w R (.slice ma m.length mc) m) (hr : ReadsL w w.heap.size a len ops) (hlen : len ≤ maxLen) (hx : ReadsX w w.heap.size xa xl xs) (hf : s.length ≤ 80 ∧ m.length ≤ 80) (bs : ∀ y ∈ s, 0 ≤ y.b ∧ y.b ≤ 255) : Calls Tryd.prog 5 #[.agg #[.slice sa s.length sc, .slice ma m.length mc, .int .i64 dc, .int .i64 tr], .slice a len cap, .slice xa xl xc] w fun e w' => e = .returned (.bool true) ∧ Below w.heap.size w w' := by
  have FW := fun V => few_eq V sa ma s.length m.length sc mc dc tr true (decide_eq_true hf).symm
  have FL := fun V (hV : Below w.heap.size w V) => fewL_calls a len cap ops V hlen (ReadsL.wide (hr.below hV) hV.size)
  have LO := fun V (hV : Below w.heap.size w V) => loadedL_calls a len cap ops V (hk.below hV hk.lt) hlen (ReadsL.wide (hr.below hV) hV.size)
  have HX := Lib.hid hx
  have HK := Lib.hid hk
  have HS := Lib.hid hs
  have HM := Lib.hid hm
  have HBS := Lib.hid bs
  have HF := Lib.hid hf
  have hxl : xs.length = xl := hx.1
  have HXL := Lib.hid hxl
  clear hk hs hm hr hx hf bs hxl hlen
  go_enter Tryd.func5, Tryd.ntmps5
  go_wp2_with (first
    | (go_at_call 24; (with_reducible refine (FW _).mono ?_); rintro e w1 ⟨rfl, hb1⟩)
    | (go_at_call 25; (with_reducible refine (FL _ (by repeat' (first | with_reducible exact Below.refl _ _ | with_reducible assumption | with_reducible refine Q.alloc ?_ _ | with_reducible refine Q.drew ?_ | with_reducible refine Q.drewN ?_ _ | with_reducible refine Q.call ?_ (by assumption)))).mono ?_); rintro e w2 ⟨c, rfl, hc, rfl⟩; refine Hid.out ?_))
  refine Lib.hid ?_
  have PB : Blk w1 w.heap.size 44 #[.slice sa s.length sc, .slice ma m.length mc, .int .i64 dc, .int .i64 tr] := (Blk.new w _ _).call hb1
  have hB1 : Below w.heap.size w w1 := (by repeat' (first | with_reducible exact Below.refl _ _ | with_reducible assumption | with_reducible refine Q.alloc ?_ _ | with_reducible refine Q.drew ?_ | with_reducible refine Q.drewN ?_ _ | with_reducible refine Q.call ?_ (by assumption)))
  obtain ⟨hp, hhp⟩ : ∃ hp, hp = w.heap.size := ⟨_, rfl⟩
  rw [← hhp] at PB ⊢
  have HPB := Lib.hid PB
  have HB1 := Lib.hid hB1
  clear hb1 hhp PB hB1 hc FW FL
  cases c
  · go_wp2_with (go_at_call 26; (with_reducible refine (lawake_eq _).mono ?_); rintro e w9 ⟨rfl, hb9⟩)
    go_ret
    exact ⟨rfl, Q.call HB1.out hb9⟩
  · by_cases hl : 20 < xl
    · have hli : (20 : Int) < (xl : Int) := by omega
      go_wp2_with (go_at_call 26; (with_reducible refine (lawake_eq _).mono ?_); rintro e w9 ⟨rfl, hb9⟩)
      go_ret
      exact ⟨rfl, Q.call HB1.out hb9⟩
    · have hli : ¬ (20 : Int) < (xl : Int) := by omega
      have p0 := HPB.out.cell 0
      have p1 := HPB.out.cell 1
      have p2 := HPB.out.cell 2
      have p3 := HPB.out.cell 3
      have pl := HPB.out.lt
      have CK := fun (V : World) (h : Below w.heap.size w V) => check_eq V R _ _ s m dc tr (HS.out.below h) (HM.out.below h) (by have := HF.out; omega) (by have := HF.out; omega)
      by_cases hC : chk s m dc tr = 0
      · have NW := new_ok w1 R _ _ s m dc tr (HS.out.below HB1.out) (HM.out.below HB1.out) (by have := HF.out; omega) (by have := HF.out; omega) hC
        have HRG := Lib.hid (show ∀ x, 0 ≤ bitsAt (fillT (srt s) (fun _ => 0)) x ∧ bitsAt (fillT (srt s) (fun _ => 0)) x ≤ 255 from fun x => by rw [(chk_tell hC x).1]; exact bitsL_rng s x HBS.out)
        clear hC CK HS HM HBS
        go_wp2_with (go_at_call 27; (with_reducible refine NW.mono ?_); rintro e w2 ⟨gt, v1, v2, rfl, hgt, hN, hT⟩; refine Hid.out ?_)
        refine Lib.hid ?_
        have HB2 := Lib.hid (Q.call HB1.out hN.bel)
        have HTb := Lib.hid hT
        have L1 := LO w2 HB2.out
        clear NW hgt hN hT p0 p1 p2 p3 pl HPB HB1
        go_wp2_with (go_at_call 28; (with_reducible refine L1.mono ?_); rintro e w3 ⟨rfl, hm3, hb3⟩; refine Hid.out ?_)
        refine Lib.hid ?_
        have HB3 := Lib.hid (Q.call HB2.out hb3)
        have HT3 := Lib.hid (HTb.out.call hb3)
        have HM3 := Lib.hid hm3
        have L2 := LO w3 HB3.out
        obtain ⟨gm, hgm⟩ : ∃ gm, gm = w2.heap.size := ⟨_, rfl⟩
        rw [← hgm] at HM3 ⊢
        clear L1 hm3 hb3 HB2 HTb hgm LO
        go_wp2_with (go_at_call 28; (with_reducible refine L2.mono ?_); rintro e w4 ⟨rfl, hm4, hb4⟩; refine Hid.out ?_)
        refine Lib.hid ?_
        obtain ⟨go, hgo⟩ : ∃ go, go = w3.heap.size := ⟨_, rfl⟩
        have HI : Hid (LI w gt gm go v1 v2 dc tr (fillT (srt s) (fun _ => 0)) (fillT (srt m) (fun _ => 0)) (ldAll ops) (ldAll ops) w4) := Lib.hid (by
          have h1 := HM3.out.lt
          have h2 := HT3.out.lt
          have h3 := HB3.out.size
          refine ⟨Q.call HB3.out hb4, HT3.out.call hb4, HM3.out.call hb4, by rw [hgo]; exact hm4, by omega, by omega, by omega⟩)
        rw [← hgo]
        clear L2 hm4 hb4 HB3 HT3 HM3 hgo
        obtain ⟨F, hF⟩ : ∃ F, F = ldAll ops := ⟨_, rfl⟩
        rw [← hF] at HI
        clear hF
        obtain ⟨S, hS⟩ : ∃ S, S = (fillT (srt s) (fun _ => 0)) := ⟨_, rfl⟩
        rw [← hS] at HI HRG
        clear hS
        have LA := low_eq w4 gt gm gm F F v1 v2 dc tr S (fillT (srt m) (fun _ => 0)) true ⟨fun _ k _ => lowV_self F S k, fun _ => rfl⟩ (HI.out.kin HK.out) HI.out.tab HI.out.mm HI.out.mm
        have LB := fun V (hV : Below w4.heap.size w4 V) => low_eq V gt gm go F F v1 v2 dc tr S (fillT (srt m) (fun _ => 0)) true ⟨fun _ k _ => lowV_self F S k, fun _ => rfl⟩ ((HI.out.call hV).kin HK.out) (HI.out.call hV).tab (HI.out.call hV).mm (HI.out.call hV).mo
        go_wp2_with (first
          | (go_at_call 30; (with_reducible refine LA.mono ?_); rintro e w5 ⟨rfl, hb5⟩)
          | (go_at_call 30; (with_reducible refine (LB _ (by repeat' (first | with_reducible exact Below.refl _ _ | with_reducible assumption | with_reducible refine Q.alloc ?_ _ | with_reducible refine Q.drew ?_ | with_reducible refine Q.drewN ?_ _ | with_reducible refine Q.call ?_ (by assumption)))).mono ?_); rintro e w6 ⟨rfl, hb6⟩; have HI6 := Lib.hid (HI.out.call (show Below w4.heap.size w4 w6 from (by repeat' (first | with_reducible exact Below.refl _ _ | with_reducible assumption | with_reducible refine Q.alloc ?_ _ | with_reducible refine Q.drew ?_ | with_reducible refine Q.drewN ?_ _ | with_reducible refine Q.call ?_ (by assumption))))); clear hb5 hb6))
        clear LA LB HI hli
        go_loopw [11] (fun v wr => ∃ k : Nat, v = .int .i64 (k : Int) ∧ k ≤ xl ∧ LI w gt gm go v1 v2 dc tr S (fillT (srt m) (fun _ => 0)) F (tnAll F (xs.take k)) wr) (fun v _ => xl - (intOf v).toNat)
        case atStart => exact ⟨0, rfl, Nat.zero_le _, HI6.out⟩
        case round =>
          clear HI6
          obtain ⟨k, rfl, hkl, hI⟩ := hrel
          by_cases hkn : k < xl
          · obtain ⟨b, off, o, rfl, hbl, hget, c0, c1, cb0, cb1⟩ := (HX.out.below hI.bel).at_ hkn
            have hki : (k : Int) < (xl : Int) := by omega
            have hk0 : (0 : Int) ≤ (k : Int) := by omega
            have hbw : b < wr.heap.size := Nat.lt_of_lt_of_le hbl hI.bel.size
            have HN := Lib.hid (tnAll_snoc F xs k o hget)
            obtain ⟨f, hf⟩ : ∃ f, f = tnAll F (xs.take k) := ⟨_, rfl⟩
            rw [← hf] at hI HN
            have HI := Lib.hid hI
            have RD := read_calls go f o.at_ wr (hI.kin HK.out) hI.mo
            obtain ⟨x, y⟩ := o
            (try simp only at c0 c1 RD)
            obtain ⟨A, hA⟩ : ∃ A, A = (readOf f x).1 := ⟨_, rfl⟩
            obtain ⟨TT, hTT⟩ : ∃ TT, TT = (readOf f x).2 := ⟨_, rfl⟩
            rw [← hA, ← hTT] at RD
            have HA := Lib.hid hA
            clear hf hget hbl cb0 cb1 hI hTT hA
            by_cases he : errOf x = 0
            · rw [he] at RD
              have HE := Lib.hid he
              clear he
              go_wp2_with (go_at_call 31; (with_reducible refine RD.mono ?_); rintro e w2 ⟨rfl, hb2⟩; refine Hid.out ?_)
              refine Lib.hid ?_
              obtain ⟨W, hW⟩ : ∃ W, W = w2.alloc (.cells #[.int .u8 A, .int .u8 TT] 57) := ⟨_, rfl⟩
              obtain ⟨hh, hhh⟩ : ∃ hh, hh = w2.heap.size := ⟨_, rfl⟩
              have bW : Below wr.heap.size wr W := by rw [hW]; exact (by repeat' (first | with_reducible exact Below.refl _ _ | with_reducible assumption | with_reducible refine Q.alloc ?_ _ | with_reducible refine Q.drew ?_ | with_reducible refine Q.drewN ?_ _ | with_reducible refine Q.call ?_ (by assumption)))
              have XB : Blk W hh 57 #[.int .u8 A, .int .u8 TT] := by rw [hW]; exact Blk.new' hhh
              have d0 : W.cell? ⟨b, off + k * 2, none⟩ = some (.int .i64 x) := (bW.cell (p := ⟨b, _, none⟩) hbw).trans c0
              have d1 : W.cell? ⟨b, off + k * 2 + 1, none⟩ = some (.int .u8 y) := (bW.cell (p := ⟨b, _, none⟩) hbw).trans c1
              have dl : b < W.heap.size := Nat.lt_of_lt_of_le hbw bW.size
              have x0 : W.cell? ⟨hh, 0, none⟩ = some (.int .u8 A) := XB.cell 0
              have xl' : hh < W.heap.size := XB.lt
              have HI2 := Lib.hid (HI.out.call bW)
              clear c0 c1 hbw hb2 RD bW XB HI
              go_wp2_with fail
              rw [← hhh, ← hW]
              clear hW hhh
              have LD : ∀ (V : World) (h : Nat), Below W.heap.size W V → W.heap.size ≤ h → Blk V h 5 #[.int .u8 (bits .xor .u8 A y)] → Calls Tryd.prog 32 #[.pointer (some ⟨go, 0, none⟩), .int .i64 x, .slice (some ⟨h, 0, none⟩) 1 1] V fun e w' => e = .returned (.int .i64 (loadErr x 1)) ∧ LI w gt gm go v1 v2 dc tr S (fillT (srt m) (fun _ => 0)) F (tn1 f ⟨x, y⟩) w' := fun V h hV hh hB => by
                have hg := HI2.out.mo.lt
                refine (load_callsn go f x V.heap.size (some ⟨h, 0, none⟩) 1 [bits .xor .u8 A y] V ((HI2.out.call hV).kin HK.out) (HI2.out.call hV).mo ⟨rfl, fun v hv => ?_, fun _ => ⟨h, 0, rfl, hB.lt, fun k v hk => ?_⟩⟩ (fun b off hb => ?_)).mono ?_
                · rw [List.mem_singleton] at hv
                  subst hv
                  exact xor_rng A y
                · obtain ⟨hk1, hk2⟩ := List.getElem?_eq_some_iff.1 hk
                  have hk0 : k = 0 := by simpa using hk1
                  subst hk0
                  simp at hk2
                  subst hk2
                  exact hB.cell 0
                · injection hb with hb
                  injection hb with hb1 hb2
                  subst hb1
                  exact ⟨by omega, hB.lt⟩
                · rintro e w' ⟨he, hm, hc⟩
                  refine ⟨he, (HI2.out.call hV).set hc ?_⟩
                  have e1 : tn1 f ⟨x, y⟩ = (if loadErr x 1 = 0 then loaded f x [bits .xor .u8 A y] 1 else f) := by
                    unfold tn1
                    rw [if_pos HE.out, HA.out]
                  rw [e1]
                  exact hm
              go_region_with (go_at_call 32; (with_reducible refine (LD _ _ (by repeat' (first | with_reducible exact Below.refl _ _ | with_reducible assumption | with_reducible refine Q.alloc ?_ _ | with_reducible refine Q.drew ?_ | with_reducible refine Q.drewN ?_ _ | with_reducible refine Q.call ?_ (by assumption))) (by (try simp only [World.size_drew, World.size_alloc]); omega) (by repeat' (first | exact Blk.new' (by simp) | refine Blk.drew ?_ | refine Blk.alloc ?_ _))).mono ?_); rintro e w3 ⟨rfl, hi3⟩; have HI3 := Lib.hid hi3; clear hi3)
              all_goals
                go_wp2_with fail
                refine ⟨⟨k + 1, by simp, by omega, by rw [HN.out]; exact HI3.out⟩, by simp [intOf]; omega⟩
            · have HE := Lib.hid he
              obtain ⟨E, hE⟩ : ∃ E, E = errOf x := ⟨_, rfl⟩
              rw [← hE] at RD he
              have e0 : (E == 0) = false := beq_eq_false_iff_ne.2 he
              clear hE he
              go_wp2_with (go_at_call 31; (with_reducible refine RD.mono ?_); rintro e w2 ⟨rfl, hb2⟩)
              refine ⟨⟨k + 1, by simp, by omega, ?_⟩, by simp [intOf]; omega⟩
              rw [HN.out, show tn1 f ⟨x, y⟩ = f by unfold tn1; rw [if_neg HE.out]]
              exact HI.out.call (by repeat' (first | with_reducible exact Below.refl _ _ | with_reducible assumption | with_reducible refine Q.alloc ?_ _ | with_reducible refine Q.drew ?_ | with_reducible refine Q.drewN ?_ _ | with_reducible refine Q.call ?_ (by assumption)))
          · have hki : ¬ (k : Int) < (xl : Int) := by omega
            have hG : tnAll F (xs.take k) = tnAll F xs := by rw [List.take_of_length_le (by rw [HXL.out]; omega)]
            rw [hG] at hI
            obtain ⟨G, hGG⟩ : ∃ G, G = tnAll F xs := ⟨_, rfl⟩
            rw [← hGG] at hI
            have HI := Lib.hid hI
            have HG := Lib.hid hGG
            clear hG hGG hI hkl hkn
            go_wp2_with fail
            go_loopw [14, 15] (fun lv iv wr => ∃ (k : Nat) (c : Bool), lv = .bool c ∧ iv = .int .i64 (k : Int) ∧ k ≤ xl ∧ Hid (c = true ↔ ∀ j o, j < k → xs[j]? = some o → quietT F G S o) ∧ LI w gt gm go v1 v2 dc tr S (fillT (srt m) (fun _ => 0)) F G wr) (fun _ iv _ => xl - (intOf iv).toNat)
            case atStart => exact ⟨0, true, rfl, rfl, Nat.zero_le _, Lib.hid ⟨fun _ j o hj _ => absurd hj (by omega), fun _ => rfl⟩, HI.out⟩
            case round =>
              clear HI
              obtain ⟨k, c, rfl, rfl, hkl, HC, hI⟩ := hrel
              by_cases hkn : k < xl
              · obtain ⟨b, off, o, rfl, hbl, hget, c0, c1, cb0, cb1⟩ := (HX.out.below hI.bel).at_ hkn
                have hki : (k : Int) < (xl : Int) := by omega
                have hk0 : (0 : Int) ≤ (k : Int) := by omega
                have hbw : b < wr.heap.size := Nat.lt_of_lt_of_le hbl hI.bel.size
                have HGET := Lib.hid hget
                have HI := Lib.hid hI
                have RM := read_calls gm F o.at_ wr (hI.kin HK.out) hI.mm
                have RO := fun V (hV : Below wr.heap.size wr V) => read_calls go G o.at_ V ((hI.call hV).kin HK.out) (hI.call hV).mo
                obtain ⟨x, y⟩ := o
                (try simp only at c0 c1 RM RO)
                obtain ⟨A, hA⟩ : ∃ A, A = (readOf F x).1 := ⟨_, rfl⟩
                obtain ⟨A2, hA2⟩ : ∃ A2, A2 = (readOf G x).1 := ⟨_, rfl⟩
                obtain ⟨TT, hTT⟩ : ∃ TT, TT = (readOf F x).2 := ⟨_, rfl⟩
                obtain ⟨T2, hT2⟩ : ∃ T2, T2 = (readOf G x).2 := ⟨_, rfl⟩
                rw [← hA, ← hTT] at RM
                rw [← hA2, ← hT2] at RO
                have HA := Lib.hid hA
                have HA2 := Lib.hid hA2
                clear hget hbl cb0 cb1 hI hTT hT2 hA hA2 c1
                obtain ⟨E, hE⟩ : ∃ E, E = errOf x := ⟨_, rfl⟩
                rw [← hE] at RM RO
                have HE := Lib.hid hE
                clear hE
                have STEP : ∀ c' : Bool, (c' = true ↔ (c = true ∧ quietT F G S ⟨x, y⟩)) → Hid (c' = true ↔ ∀ j o, j < k + 1 → xs[j]? = some o → quietT F G S o) := fun c' hc' => Lib.hid ⟨fun h j o hj ho => by
                    obtain ⟨h1, h2⟩ := hc'.1 h
                    by_cases hjk : j = k
                    · rw [hjk, HGET.out] at ho
                      injection ho with ho
                      rw [← ho]
                      exact h2
                    · exact HC.out.1 h1 j o (by omega) ho, fun h => hc'.2 ⟨HC.out.2 (fun j o hj ho => h j o (by omega) ho), h k _ (by omega) HGET.out⟩⟩
                have HST := Lib.hid STEP
                clear STEP HC
                go_wp2_with (go_at_call 31; (with_reducible refine RM.mono ?_); rintro e w2 ⟨rfl, hb2⟩; refine Hid.out ?_)
                refine Lib.hid ?_
                obtain ⟨W1, hW1⟩ : ∃ W1, W1 = w2.alloc (.cells #[.int .u8 A, .int .u8 TT] 57) := ⟨_, rfl⟩
                obtain ⟨h1, hh1⟩ : ∃ h1, h1 = w2.heap.size := ⟨_, rfl⟩
                have bW1 : Below wr.heap.size wr W1 := by rw [hW1]; exact (by repeat' (first | with_reducible exact Below.refl _ _ | with_reducible assumption | with_reducible refine Q.alloc ?_ _ | with_reducible refine Q.drew ?_ | with_reducible refine Q.drewN ?_ _ | with_reducible refine Q.call ?_ (by assumption)))
                have XB1 : Blk W1 h1 57 #[.int .u8 A, .int .u8 TT] := by rw [hW1]; exact Blk.new' hh1
                have d0 : W1.cell? ⟨b, off + k * 2, none⟩ = some (.int .i64 x) := (bW1.cell (p := ⟨b, _, none⟩) hbw).trans c0
                have dl : b < W1.heap.size := Nat.lt_of_lt_of_le hbw bW1.size
                have RO1 := RO W1 bW1
                have k0 : w2.cell? ⟨b, off + k * 2, none⟩ = some (.int .i64 x) := (hb2.cell (p := ⟨b, _, none⟩) hbw).trans c0
                have kl : b < w2.heap.size := Nat.lt_of_lt_of_le hbw hb2.size
                clear hb2 RM RO c0
                go_wp2_with fail
                rw [← hh1, ← hW1]
                clear hW1 hh1
                go_wp2_with (go_at_call 31; (with_reducible refine RO1.mono ?_); rintro e w3 ⟨rfl, hb3⟩; refine Hid.out ?_)
                refine Lib.hid ?_
                obtain ⟨W, hW⟩ : ∃ W, W = w3.alloc (.cells #[.int .u8 A2, .int .u8 T2] 57) := ⟨_, rfl⟩
                obtain ⟨h2, hh2⟩ : ∃ h2, h2 = w3.heap.size := ⟨_, rfl⟩
                have bW : Below W1.heap.size W1 W := by rw [hW]; exact (by repeat' (first | with_reducible exact Below.refl _ _ | with_reducible assumption | with_reducible refine Q.alloc ?_ _ | with_reducible refine Q.drew ?_ | with_reducible refine Q.drewN ?_ _ | with_reducible refine Q.call ?_ (by assumption)))
                have XB2 : Blk W h2 57 #[.int .u8 A2, .int .u8 T2] := by rw [hW]; exact Blk.new' hh2
                have XB1' := XB1.call bW
                have d0' : W.cell? ⟨b, off + k * 2, none⟩ = some (.int .i64 x) := (bW.cell (p := ⟨b, _, none⟩) dl).trans d0
                have dl' : b < W.heap.size := Nat.lt_of_lt_of_le dl bW.size
                have HIW := Lib.hid ((HI.out.call bW1).call bW)
                have La : ∀ y : BW W, y.val.cell? ⟨h1, 0, none⟩ = some (.int .u8 A) := fun y => (XB1'.call y.has).cell 0
                have Lb : ∀ y : BW W, y.val.cell? ⟨h2, 0, none⟩ = some (.int .u8 A2) := fun y => (XB2.call y.has).cell 0
                have Lc : ∀ y : BW W, y.val.cell? ⟨b, off + k * 2, none⟩ = some (.int .i64 x) := fun y => (y.has.cell (p := ⟨b, _, none⟩) dl').trans d0'
                have l1 := XB1'.lt
                have l2 := XB2.lt
                obtain ⟨SV, hSV⟩ : ∃ SV, SV = bitsAt S x := ⟨_, rfl⟩
                have SC : ∀ y : BW W, Calls Tryd.prog 33 #[.pointer (some ⟨gt, 0, none⟩), .int .i64 x] y.val fun e w' => e = .returned (.int .u8 SV) ∧ Below y.val.heap.size y.val w' := fun y => by rw [hSV]; exact secret_eq y.val gt x v1 v2 dc tr S _ (HIW.out.call y.has).tab
                have HSV := Lib.hid hSV
                clear k0 kl hb3 RO1 bW1 XB1 bW XB2 XB1' d0 d0' dl HI hSV hbw
                go_wp2_with fail
                rw [← hh2, ← hW]
                clear hW hh2
                by_cases he : E = 0
                · by_cases hq : bits .or .u8 (bits .xor .u8 A A2) SV = SV
                  · have HQ := Lib.hid (show quietT F G S ⟨x, y⟩ from fun _ => by rw [← HA.out, ← HA2.out, ← HSV.out]; exact hq)
                    subst he
                    refine wp_region_below (by kernel_rfl) (by kernel_rfl) ?_
                    repeat (go_big_quiet_step ((go_at_call 33; exact calls_bw (SC _))))
                    refine wpQuiet_nil ?_
                    first | (intro w9 hw9; obtain ⟨y9, rfl⟩ := hw9) | intro y9
                    go_wp2_with fail
                    refine ⟨⟨k + 1, c, rfl, by simp, by omega, HST.out c ⟨fun h => ⟨h, HQ.out⟩, fun h => h.1⟩, HIW.out.call y9.has⟩, by simp [intOf]; omega⟩
                  · have hqb : (bits .or .u8 (bits .xor .u8 A A2) SV == SV) = false := beq_eq_false_iff_ne.2 hq
                    have HQ := Lib.hid (show ¬ quietT F G S ⟨x, y⟩ from fun h => hq (by
                      have h := h (HE.out.symm.trans he)
                      rw [← HA.out, ← HA2.out, ← HSV.out] at h
                      exact h))
                    subst he
                    clear hq
                    refine wp_region_below (by kernel_rfl) (by kernel_rfl) ?_
                    repeat (go_big_quiet_step ((go_at_call 33; exact calls_bw (SC _))))
                    refine wpQuiet_nil ?_
                    first | (intro w9 hw9; obtain ⟨y9, rfl⟩ := hw9) | intro y9
                    go_wp2_with fail
                    refine ⟨⟨k + 1, false, rfl, by simp, by omega, HST.out false ⟨fun h => (by cases h), fun h => absurd h.2 HQ.out⟩, HIW.out.call y9.has⟩, by simp [intOf]; omega⟩
                · have e0 : (E == 0) = false := beq_eq_false_iff_ne.2 he
                  have HQ := Lib.hid (show quietT F G S ⟨x, y⟩ from fun h => absurd (HE.out.trans h) he)
                  clear he
                  refine wp_region_below (by kernel_rfl) (by kernel_rfl) ?_
                  repeat (go_big_quiet_step ((go_at_call 33; exact calls_bw (SC _))))
                  refine wpQuiet_nil ?_
                  first | (intro w9 hw9; obtain ⟨y9, rfl⟩ := hw9) | intro y9
                  go_wp2_with fail
                  refine ⟨⟨k + 1, c, rfl, by simp, by omega, HST.out c ⟨fun h => ⟨h, HQ.out⟩, fun h => h.1⟩, HIW.out.call y9.has⟩, by simp [intOf]; omega⟩
              · have hki : ¬ (k : Int) < (xl : Int) := by omega
                have hcl : c = true ↔ ∀ k, k < 65536 → lowV F G S k = 0 := by
                  rw [HG.out, ← low_iff F S xs HRG.out, ← HG.out]
                  constructor
                  · intro h o ho
                    obtain ⟨j, hj⟩ := List.getElem?_of_mem ho
                    have hjl := (List.getElem?_eq_some_iff.1 hj).1
                    exact HC.out.1 h j o (by have := HXL.out; omega) hj
                  · intro h
                    exact HC.out.2 (fun j o _ ho => h o (List.mem_of_getElem? ho))
                have LA := low_eq wr gt gm go F G v1 v2 dc tr S (fillT (srt m) (fun _ => 0)) c hcl (hI.kin HK.out) hI.tab hI.mm hI.mo
                have LB := fun V (hV : Below wr.heap.size wr V) => low_eq V gt go gm G F v1 v2 dc tr S (fillT (srt m) (fun _ => 0)) c (hcl.trans ⟨fun h k hk => (lowV_comm G F S k).trans (h k hk), fun h k hk => (lowV_comm F G S k).trans (h k hk)⟩) ((hI.call hV).kin HK.out) (hI.call hV).tab (hI.call hV).mo (hI.call hV).mm
                have HBL := Lib.hid hI.bel
                clear HC hcl hI HG HRG HXL
                go_wp2_with (first
                  | (go_at_call 30; (with_reducible refine LA.mono ?_); rintro e w5 ⟨rfl, hb5⟩)
                  | (go_at_call 30; (with_reducible refine (LB _ (by repeat' (first | with_reducible exact Below.refl _ _ | with_reducible assumption | with_reducible refine Q.alloc ?_ _ | with_reducible refine Q.drew ?_ | with_reducible refine Q.drewN ?_ _ | with_reducible refine Q.call ?_ (by assumption)))).mono ?_); rintro e w6 ⟨rfl, hb6⟩)
                  | (go_at_call 26; (with_reducible refine (lawake_eq _).mono ?_); rintro e w9 ⟨rfl, hb9⟩))
                go_ret
                exact ⟨rfl, Q.call (Q.call (Q.call HBL.out hb5) hb6) hb9⟩
      · have NW := new_bad w1 R _ _ s m dc tr (HS.out.below HB1.out) (HM.out.below HB1.out) (by have := HF.out; omega) (by have := HF.out; omega) _ rfl hC
        obtain ⟨C, hC'⟩ : ∃ C, C = chk s m dc tr := ⟨_, rfl⟩
        rw [← hC'] at NW hC CK
        have hcb : (C == 0) = false := by simp [hC]
        have hcn : (C != 0) = true := by simp [bne, hcb]
        have HCK := Lib.hid CK
        clear hC' HS HM HBS hC CK
        go_wp2_with (go_at_call 27; (with_reducible refine NW.mono ?_); rintro e w2 ⟨rfl, hb2⟩; refine Hid.out ?_)
        refine Lib.hid ?_
        have HB2 := Lib.hid (Q.call HB1.out hb2)
        have HPB2 := Lib.hid (HPB.out.call hb2)
        clear p0 p1 p2 p3 pl NW hb2 HPB HB1
        have L1 := LO w2 HB2.out
        go_wp2_with (go_at_call 28; (with_reducible refine L1.mono ?_); rintro e w3 ⟨rfl, hm3, hb3⟩; refine Hid.out ?_)
        refine Lib.hid ?_
        have HB3 := Lib.hid (Q.call HB2.out hb3)
        have HPB3 := Lib.hid (HPB2.out.call hb3)
        have L2 := LO w3 HB3.out
        clear L1 hm3 hb3 HB2 HPB2 LO
        go_wp2_with (go_at_call 28; (with_reducible refine L2.mono ?_); rintro e w4 ⟨rfl, hm4, hb4⟩; refine Hid.out ?_)
        refine Lib.hid ?_
        have HB4 := Lib.hid (Q.call HB3.out hb4)
        have HPB4 := Lib.hid (HPB3.out.call hb4)
        have p0 := HPB4.out.cell 0
        have p1 := HPB4.out.cell 1
        have p2 := HPB4.out.cell 2
        have p3 := HPB4.out.cell 3
        have pl := HPB4.out.lt
        have CK4 := HCK.out w4 HB4.out
        clear L2 hm4 hb4 HB3 HPB3
        go_wp2_with (first
          | (go_at_call 29; (with_reducible refine CK4.mono ?_); rintro e w5 ⟨rfl, hb5⟩)
          | (go_at_call 26; (with_reducible refine (lawake_eq _).mono ?_); rintro e w9 ⟨rfl, hb9⟩))
        go_ret
        exact ⟨rfl, Q.call HB4.out (by repeat' (first | with_reducible exact Below.refl _ _ | with_reducible assumption | with_reducible refine Q.alloc ?_ _ | with_reducible refine Q.drew ?_ | with_reducible refine Q.drewN ?_ _ | with_reducible refine Q.call ?_ (by assumption)))⟩
end Go.Proofs.YtggnkkmlabhofaaDoor
