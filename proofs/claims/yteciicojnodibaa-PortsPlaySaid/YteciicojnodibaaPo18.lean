/- Ports that are only read: their contracts. (printed by gen/po18.py) -/
import Derived.Test.YteciicojnodibaaPo16
namespace Go.Proofs.Yteciicojnodibaa
set_option linter.unusedVariables false
set_option linter.unusedSimpArgs false
open Go.RowKit
attribute [local go_sem ↓] Go.wp_at_zero Go.wp_at_succ

/-- Ports that can be read. -/
structure RdP (w : World) (g : Nat) (v : PV) (s : PS) : Prop where
  blk : Blk w g 64 v.cells
  pub : Rd EU w (fun _ => True) v.pub s.pub
  sec : Rd EU w (fun _ => True) v.sec s.sec
  out : Rd EU w (fun _ => True) v.out s.out
  kept : Rd EB w (fun _ => True) v.kept s.kept
  log : Rd EE w (fun _ => True) v.log s.log
/-- The document's ones that can be read. -/
structure RdR (w : World) (g : Nat) (v : RV) (s : PS) : Prop where
  blk : Blk w g 34 v.cells
  pub : Rd EU w (fun _ => True) v.pub s.pub
  sec : Rd EU w (fun _ => True) v.sec s.sec
  out : Rd EU w (fun _ => True) v.out s.out
  kept : Rd EB w (fun _ => True) v.kept s.kept
  cyc : Rd EI w (fun _ => True) v.cyc (s.log.map (·.1))
  told : Rd EU w (fun _ => True) v.told (s.log.map (·.2))
theorem RdP.call {w w' : World} {g : Nat} {v : PV} {s : PS} (h : RdP w g v s) (hb : Below w.heap.size w w') : RdP w' g v s := ⟨h.blk.call hb, h.pub.below hb, h.sec.below hb, h.out.below hb, h.kept.below hb, h.log.below hb⟩
theorem RdR.call {w w' : World} {g : Nat} {v : RV} {s : PS} (h : RdR w g v s) (hb : Below w.heap.size w w') : RdR w' g v s := ⟨h.blk.call hb, h.pub.below hb, h.sec.below hb, h.out.below hb, h.kept.below hb, h.cyc.below hb, h.told.below hb⟩
theorem pout_rd (w : World) (g : Nat) (v : PV) (s : PS) (hp : RdP w g v s) (hs : s.ok) :
    Calls Try.prog 17 #[.pointer (some ⟨g, 0, none⟩)] w fun e w' => ∃ sv, e = .returned sv ∧ w'.ownsRow w.heap.size 5 1 sv s.out.length (EU.row s.out) ∧ Below w.heap.size w w' := by
  have C := clone_U v.out s.out _ w (by have := hs.out; omega) hp.out
  have c0 : w.cell? ⟨g, 2, none⟩ = some v.out := hp.blk.cell 2
  obtain ⟨a, cap, hv⟩ := hp.out.len
  rw [hv] at c0 C
  clear hp hs hv
  go_enter Try.func17, Try.ntmps17
  go_wp2_with fail
  (with_reducible refine C.mono ?_)
  rintro e w1 ⟨sv, rfl, ho1, hb1⟩
  have H1 := Lib.hid ho1
  have H2 := Lib.hid hb1
  clear ho1 hb1
  go_wp2
  go_returns
  exact ⟨sv, rfl, H1.out, H2.out⟩
theorem pkept_rd (w : World) (g : Nat) (v : PV) (s : PS) (hp : RdP w g v s) (hs : s.ok) :
    Calls Try.prog 18 #[.pointer (some ⟨g, 0, none⟩)] w fun e w' => ∃ sv, e = .returned sv ∧ w'.ownsRow w.heap.size 23 2 sv s.kept.length (EB.row s.kept) ∧ Below w.heap.size w w' := by
  have C := clone_B v.kept s.kept _ w (by have := hs.kept; omega) hp.kept
  have c0 : w.cell? ⟨g, 3, none⟩ = some v.kept := hp.blk.cell 3
  obtain ⟨a, cap, hv⟩ := hp.kept.len
  rw [hv] at c0 C
  clear hp hs hv
  go_enter Try.func18, Try.ntmps18
  go_wp2_with fail
  (with_reducible refine C.mono ?_)
  rintro e w1 ⟨sv, rfl, ho1, hb1⟩
  have H1 := Lib.hid ho1
  have H2 := Lib.hid hb1
  clear ho1 hb1
  go_wp2
  go_returns
  exact ⟨sv, rfl, H1.out, H2.out⟩
theorem plog_rd (w : World) (g : Nat) (v : PV) (s : PS) (hp : RdP w g v s) (hs : s.ok) :
    Calls Try.prog 19 #[.pointer (some ⟨g, 0, none⟩)] w fun e w' => ∃ sv, e = .returned sv ∧ w'.ownsRow w.heap.size 58 2 sv s.log.length (EE.row s.log) ∧ Below w.heap.size w w' := by
  have C := clone_E v.log s.log _ w (by have := hs.log; omega) hp.log
  have c0 : w.cell? ⟨g, 4, none⟩ = some v.log := hp.blk.cell 4
  obtain ⟨a, cap, hv⟩ := hp.log.len
  rw [hv] at c0 C
  clear hp hs hv
  go_enter Try.func19, Try.ntmps19
  go_wp2_with fail
  (with_reducible refine C.mono ?_)
  rintro e w1 ⟨sv, rfl, ho1, hb1⟩
  have H1 := Lib.hid ho1
  have H2 := Lib.hid hb1
  clear ho1 hb1
  go_wp2
  go_returns
  exact ⟨sv, rfl, H1.out, H2.out⟩
theorem pleft_rd (w : World) (g : Nat) (v : PV) (s : PS) (r : Int) (hp : RdP w g v s) :
    Calls Try.prog 20 #[.pointer (some ⟨g, 0, none⟩), .int .i64 r] w fun e w' => e = .returned (.int .i64 (s.left r)) ∧ w' = w := by
  have c0 : w.cell? ⟨g, 0, none⟩ = some v.pub := hp.blk.cell 0
  have c1 : w.cell? ⟨g, 1, none⟩ = some v.sec := hp.blk.cell 1
  obtain ⟨a, cap, hv, -⟩ := hp.pub
  obtain ⟨a2, cap2, hv2, -⟩ := hp.sec
  rw [hv] at c0
  rw [hv2] at c1
  clear hp hv hv2
  by_cases h0 : r = 0
  · subst h0
    rw [show s.left 0 = s.pub.length from rfl]
    go_enter Try.func20, Try.ntmps20
    go_wp2
    go_returns
    exact ⟨rfl, rfl⟩
  by_cases h1 : r = 1
  · subst h1
    rw [show s.left 1 = s.sec.length from rfl]
    go_enter Try.func20, Try.ntmps20
    go_wp2
    go_returns
    exact ⟨rfl, rfl⟩
  · rw [show s.left r = 0 by unfold PS.left; rw [if_neg h0, if_neg h1]]
    have e0 : (r == 0) = false := beq_eq_false_iff_ne.2 h0
    have e1 : (r == 1) = false := beq_eq_false_iff_ne.2 h1
    go_enter Try.func20, Try.ntmps20
    go_wp2
    go_returns
    exact ⟨rfl, rfl⟩
set_option maxRecDepth 100000 in
set_option maxHeartbeats 6400000 in
theorem alike_rd (w : World) (g x : Nat) (s : PS) (pv : PV) (ru : RV) (hok : s.ok) (hp : RdP w g pv s) (hr : RdR w x ru s) :
    Calls Try.prog 10 #[.pointer (some ⟨g, 0, none⟩), .pointer (some ⟨x, 0, none⟩)] w fun e w' => e = .returned (.bool true) ∧ Below w.heap.size w w' := by
  go_enter Try.func10, Try.ntmps10
  go_wp2_with fail
  (with_reducible refine (pkept_rd w g pv s hp hok).mono ?_)
  rintro e w1 ⟨sv1, rfl, ho1, hb1⟩
  go_wp2_with fail
  (with_reducible refine (plog_rd w1 g pv s (hp.call hb1) hok).mono ?_)
  rintro e w2 ⟨sv2, rfl, ho2, hb2⟩
  have hB2 := Q.call hb1 hb2
  have hp2 := hp.call hB2
  have hr2 := hr.call hB2
  have ho1' := own_keep ho1 (fun b _ hlt => hb2.block b hlt) hb2.size
  obtain ⟨a1, c1, rfl, -⟩ := own_slice ho1
  obtain ⟨a2, c2, rfl, -⟩ := own_slice ho2
  obtain ⟨a3, c3, hv3⟩ := hr2.pub.len
  obtain ⟨a4, c4, hv4⟩ := hr2.sec.len
  obtain ⟨a5, c5, hv5⟩ := hr2.out.len
  obtain ⟨a6, c6, hv6⟩ := hr2.kept.len
  obtain ⟨a7, c7, hv7⟩ := hr2.told.len
  have x0 : w2.cell? ⟨x, 0, none⟩ = some (.slice a3 s.pub.length c3) := by rw [← hv3]; exact hr2.blk.cell 0
  have x1 : w2.cell? ⟨x, 1, none⟩ = some (.slice a4 s.sec.length c4) := by rw [← hv4]; exact hr2.blk.cell 1
  have x2 : w2.cell? ⟨x, 2, none⟩ = some (.slice a5 s.out.length c5) := by rw [← hv5]; exact hr2.blk.cell 2
  have x3 : w2.cell? ⟨x, 3, none⟩ = some (.slice a6 s.kept.length c6) := by rw [← hv6]; exact hr2.blk.cell 3
  have x5 : w2.cell? ⟨x, 5, none⟩ = some (.slice a7 s.log.length c7) := by
    rw [List.length_map] at hv7
    rw [← hv7]
    exact hr2.blk.cell 5
  have hxl := hr2.blk.lt
  have ST : ∀ w' : World, Below w2.heap.size w2 w' → (w'.cell? ⟨x, 0, none⟩ = some (.slice a3 s.pub.length c3) ∧ w'.cell? ⟨x, 1, none⟩ = some (.slice a4 s.sec.length c4) ∧ w'.cell? ⟨x, 2, none⟩ = some (.slice a5 s.out.length c5) ∧ w'.cell? ⟨x, 3, none⟩ = some (.slice a6 s.kept.length c6) ∧ w'.cell? ⟨x, 5, none⟩ = some (.slice a7 s.log.length c7) ∧ Below w2.heap.size w2 w') := fun w' h =>
    ⟨(h.cell (p := ⟨x, 0, none⟩) hxl).trans x0, (h.cell (p := ⟨x, 1, none⟩) hxl).trans x1, (h.cell (p := ⟨x, 2, none⟩) hxl).trans x2, (h.cell (p := ⟨x, 3, none⟩) hxl).trans x3, (h.cell (p := ⟨x, 5, none⟩) hxl).trans x5, h⟩
  have O := fun V (h : Below w2.heap.size w2 V) => pout_rd V g pv s (hp2.call h) hok
  have LF := fun V r (h : Below w2.heap.size w2 V) => pleft_rd V g pv s r (hp2.call h)
  have BY := fun V sv (h : Below w2.heap.size w2 V) (hsv : V.ownsRow 0 5 1 sv s.out.length (EU.row s.out)) => bytes_calls sv (.slice a5 s.out.length c5) s.out (fun _ => True) (fun _ => True) V (Ow.rd (T := 5) ⟨hsv, fun _ _ => trivial⟩) (by rw [← hv5]; exact (hr2.out.below h).keep (fun b _ hR => ⟨rfl, hR⟩) (Nat.le_refl _)) (by have := hok.out; omega)
  have l0 : s.left 0 = s.pub.length := rfl
  have l1 : s.left 1 = s.sec.length := rfl
  have l2 : s.left 2 = 0 := rfl
  have l3 : s.left (-1) = 0 := rfl
  have l4 : s.left 5 = 0 := rfl
  have K1 := Lib.hid (Ow.rd (E := EB) (T := 23) (S := fun _ => True) (w := w2) (v := .slice a1 s.kept.length c1) ⟨own_lower ho1' (Nat.zero_le _), fun _ _ => trivial⟩)
  have K2 := Lib.hid (Ow.rd (E := EE) (T := 58) (S := fun _ => True) (w := w2) (v := .slice a2 s.log.length c2) ⟨own_lower ho2 (Nat.zero_le _), fun _ _ => trivial⟩)
  have K3 : Hid (Rd EB w2 (fun _ => True) (.slice a6 s.kept.length c6) s.kept) := Lib.hid (by rw [← hv6]; exact hr2.kept)
  have K4 : Hid (Rd EU w2 (fun _ => True) (.slice a7 s.log.length c7) (s.log.map (·.2))) := Lib.hid (by rw [List.length_map] at hv7; rw [← hv7]; exact hr2.told)
  obtain ⟨a8, c8, hv8⟩ := hr2.cyc.len
  have x4 : w2.cell? ⟨x, 4, none⟩ = some (.slice a8 s.log.length c8) := by
    rw [List.length_map] at hv8
    rw [← hv8]
    exact hr2.blk.cell 4
  have K5 : Hid (Rd EI w2 (fun _ => True) (.slice a8 s.log.length c8) (s.log.map (·.1))) := Lib.hid (by rw [List.length_map] at hv8; rw [← hv8]; exact hr2.cyc)
  have X4 := Lib.hid x4
  have X3 := Lib.hid x3
  have X5 := Lib.hid x5
  clear hv8 x4
  have HO1 := Lib.hid ho1'
  have HO2 := Lib.hid ho2
  have HP2 := Lib.hid hp2
  have HR2 := Lib.hid hr2
  have HB2 := Lib.hid hB2
  clear ho1 ho1' ho2 hp hr hp2 hr2 hb1 hb2 hB2 hv3 hv4 hv5 hv6 hv7
  go_wp2_with fail
  go_region_held3 (fun w' : World => w'.cell? ⟨x, 0, none⟩ = some (.slice a3 s.pub.length c3) ∧ w'.cell? ⟨x, 1, none⟩ = some (.slice a4 s.sec.length c4) ∧ w'.cell? ⟨x, 2, none⟩ = some (.slice a5 s.out.length c5) ∧ w'.cell? ⟨x, 3, none⟩ = some (.slice a6 s.kept.length c6) ∧ w'.cell? ⟨x, 5, none⟩ = some (.slice a7 s.log.length c7) ∧ Below w2.heap.size w2 w') (exact ST _ (by repeat' (first | with_reducible exact Below.refl _ _ | with_reducible assumption | with_reducible refine Q.alloc ?_ _ | with_reducible refine Q.drew ?_ | with_reducible refine Q.drewN ?_ _ | with_reducible refine Q.call ?_ (by assumption)))) (first
    | (go_at_call 17; (with_reducible refine (O _ (by repeat' (first | with_reducible exact Below.refl _ _ | with_reducible assumption | with_reducible refine Q.alloc ?_ _ | with_reducible refine Q.drew ?_ | with_reducible refine Q.drewN ?_ _ | with_reducible refine Q.call ?_ (by assumption)))).mono ?_); rintro e w3 ⟨sv3, rfl, ho3, hb3⟩)
    | (go_at_call 16; (with_reducible refine (BY _ sv3 (by repeat' (first | with_reducible exact Below.refl _ _ | with_reducible assumption | with_reducible refine Q.alloc ?_ _ | with_reducible refine Q.drew ?_ | with_reducible refine Q.drewN ?_ _ | with_reducible refine Q.call ?_ (by assumption))) (own_lower ho3 (Nat.zero_le _))).mono ?_); rintro e w4 ⟨rfl, hb4⟩)
    | (go_at_call 20; (with_reducible refine (LF _ _ (by repeat' (first | with_reducible exact Below.refl _ _ | with_reducible assumption | with_reducible refine Q.alloc ?_ _ | with_reducible refine Q.drew ?_ | with_reducible refine Q.drewN ?_ _ | with_reducible refine Q.call ?_ (by assumption)))).mono ?_); rintro e w5 ⟨rfl, rfl⟩))
  have B5 : Below w2.heap.size w2 w5 := (by repeat' (first | with_reducible exact Below.refl _ _ | with_reducible assumption | with_reducible refine Q.alloc ?_ _ | with_reducible refine Q.drew ?_ | with_reducible refine Q.drewN ?_ _ | with_reducible refine Q.call ?_ (by assumption)))
  have hlk : (s.kept.length : Int) ≤ 4096 := by have := hok.kept; omega
  have hll : (s.log.length : Int) ≤ 4096 := by have := hok.log; omega
  clear O LF BY ST x0 x1 x2 x3 x5 hb3 hb4 ho3 l0 l1 l2 l3 l4
  go_wp2_with fail
  go_loopw [7] (fun v wr => ∃ k : Nat, v = .int .i64 (k : Int) ∧ k ≤ s.kept.length ∧ Below w2.heap.size w2 wr) (fun v _ => s.kept.length - (intOf v).toNat)
  case atStart => exact ⟨0, rfl, Nat.zero_le _, B5⟩
  case round =>
    clear B5
    obtain ⟨k, rfl, hk, hb⟩ := hrel
    by_cases hkl : k < s.kept.length
    · obtain ⟨b, off, z, rfl, hlb, -, hz, hc⟩ := K1.out.at_ hkl
      obtain ⟨b2, off2, z2, rfl, hlb2, -, hz2, hc2⟩ := K3.out.at_ hkl
      rw [hz] at hz2
      obtain rfl := Option.some.inj hz2
      have d0 := hc 0 _ rfl
      have d1 := hc 1 _ rfl
      have d2 := hc2 0 _ rfl
      have d3 := hc2 1 _ rfl
      simp only [Nat.add_zero] at d0 d2
      have hki : (k : Int) < (s.kept.length : Int) := by omega
      have hk0 : (0 : Int) ≤ (k : Int) := by omega
      have L0 : ∀ y : BW wr, y.val.cell? ⟨b, off + k * 2, none⟩ = some (.int .u8 z.1) := fun y => ((Q.call hb y.has).cell (p := ⟨b, _, none⟩) hlb).trans d0
      have L1 : ∀ y : BW wr, y.val.cell? ⟨b, off + k * 2 + 1, none⟩ = some (.int .u8 z.2) := fun y => ((Q.call hb y.has).cell (p := ⟨b, _, none⟩) hlb).trans d1
      have L2 : ∀ y : BW wr, y.val.cell? ⟨b2, off2 + k * 2, none⟩ = some (.int .u8 z.1) := fun y => ((Q.call hb y.has).cell (p := ⟨b2, _, none⟩) hlb2).trans d2
      have L3 : ∀ y : BW wr, y.val.cell? ⟨b2, off2 + k * 2 + 1, none⟩ = some (.int .u8 z.2) := fun y => ((Q.call hb y.has).cell (p := ⟨b2, _, none⟩) hlb2).trans d3
      have L4 : ∀ y : BW wr, y.val.cell? ⟨x, 3, none⟩ = some (.slice (some ⟨b2, off2, none⟩) s.kept.length c6) := fun y => ((Q.call hb y.has).cell (p := ⟨x, 3, none⟩) hxl).trans X3.out
      clear hz hz2 hc hc2 d0 d1 d2 d3
      go_wp2_with fail
      refine wp_region_below (by kernel_rfl) (by kernel_rfl) ?_
      repeat (go_big_quiet_step (fail))
      refine wpQuiet_nil ?_
      intro w9 hw9
      obtain ⟨y9, rfl⟩ := hw9
      have B9 := Q.call hb y9.has
      clear L0 L1 L2 L3 L4
      generalize y9.val = W9 at B9 ⊢
      go_wp2
      refine ⟨⟨k + 1, by simp, by omega, B9⟩, by simp [intOf]; omega⟩
    · obtain rfl : s.kept.length = k := by omega
      go_wp2_with fail
      go_loopw [8] (fun v wr => ∃ k : Nat, v = .int .i64 (k : Int) ∧ k ≤ s.log.length ∧ Below w2.heap.size w2 wr) (fun v _ => s.log.length - (intOf v).toNat)
      case atStart => exact ⟨0, rfl, Nat.zero_le _, hb⟩
      case round =>
        clear hb
        obtain ⟨k, rfl, hk, hb⟩ := hrel
        by_cases hkl : k < s.log.length
        · obtain ⟨b, off, z, rfl, hlb, -, hz, hc⟩ := K2.out.at_ hkl
          obtain ⟨b2, off2, z2, rfl, hlb2, -, hz2, hc2⟩ := Rd.at_ (m := s.log.length) K4.out (k := k) (by rw [List.length_map]; exact hkl)
          obtain ⟨b3, off3, z3, rfl, hlb3, -, hz3, hc3⟩ := Rd.at_ (m := s.log.length) K5.out (k := k) (by rw [List.length_map]; exact hkl)
          rw [List.getElem?_map, hz] at hz2 hz3
          obtain rfl : z.2 = z2 := Option.some.inj hz2
          obtain rfl : z.1 = z3 := Option.some.inj hz3
          have d0 := hc 0 _ rfl
          have d1 := hc 1 _ rfl
          have d2 := hc2 0 _ rfl
          have d3 := hc3 0 _ rfl
          simp only [Nat.add_zero, Nat.mul_one] at d0 d2 d3
          have hki : (k : Int) < (s.log.length : Int) := by omega
          have hk0 : (0 : Int) ≤ (k : Int) := by omega
          have L0 : ∀ y : BW wr, y.val.cell? ⟨b, off + k * 2, none⟩ = some (.int .i64 z.1) := fun y => ((Q.call hb y.has).cell (p := ⟨b, _, none⟩) hlb).trans d0
          have L1 : ∀ y : BW wr, y.val.cell? ⟨b, off + k * 2 + 1, none⟩ = some (.int .u8 z.2) := fun y => ((Q.call hb y.has).cell (p := ⟨b, _, none⟩) hlb).trans d1
          have L2 : ∀ y : BW wr, y.val.cell? ⟨b2, off2 + k, none⟩ = some (.int .u8 z.2) := fun y => ((Q.call hb y.has).cell (p := ⟨b2, _, none⟩) hlb2).trans d2
          have L3 : ∀ y : BW wr, y.val.cell? ⟨b3, off3 + k, none⟩ = some (.int .i64 z.1) := fun y => ((Q.call hb y.has).cell (p := ⟨b3, _, none⟩) hlb3).trans d3
          have L4 : ∀ y : BW wr, y.val.cell? ⟨x, 5, none⟩ = some (.slice (some ⟨b2, off2, none⟩) s.log.length c7) := fun y => ((Q.call hb y.has).cell (p := ⟨x, 5, none⟩) hxl).trans X5.out
          have L5 : ∀ y : BW wr, y.val.cell? ⟨x, 4, none⟩ = some (.slice (some ⟨b3, off3, none⟩) s.log.length c8) := fun y => ((Q.call hb y.has).cell (p := ⟨x, 4, none⟩) hxl).trans X4.out
          clear hz hz2 hz3 hc hc2 hc3 d0 d1 d2 d3
          go_wp2_with fail
          refine wp_region_below (by kernel_rfl) (by kernel_rfl) ?_
          repeat (go_big_quiet_step (fail))
          refine wpQuiet_nil ?_
          intro w9 hw9
          obtain ⟨y9, rfl⟩ := hw9
          have B9 := Q.call hb y9.has
          clear L0 L1 L2 L3 L4 L5
          generalize y9.val = W9 at B9 ⊢
          go_wp2
          refine ⟨⟨k + 1, by simp, by omega, B9⟩, by simp [intOf]; omega⟩
        · obtain rfl : s.log.length = k := by omega
          go_wp2
          go_returns
          exact ⟨rfl, Q.call HB2.out hb⟩
end Go.Proofs.Yteciicojnodibaa
