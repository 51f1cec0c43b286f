/- Ports: slices.Equal, EqualFunc, Low. (printed by gen/po13.py) -/
import Derived.Test.YteciicojnodibaaPo12
namespace Go.Proofs.Yteciicojnodibaa
set_option linter.unusedVariables false
set_option linter.unusedSimpArgs false
open Go.RowKit
attribute [local go_sem ↓] Go.wp_at_zero Go.wp_at_succ

def sameB (a b : Int × Int) : Bool := decide (a.2 = b.2) && (bits .andNot .u8 (bits .xor .u8 a.1 b.1) a.2 == 0)
theorem bits_xor_self (x : Int) : bits .xor .u8 x x = 0 := by
  simp [bits]
  rfl
theorem bits_zero (t : Int) : bits .andNot .u8 0 t = 0 := by
  simp [bits]
  rfl
theorem sameB_self (a : Int × Int) : sameB a a = true := by
  unfold sameB
  rw [bits_xor_self, bits_zero]
  simp
set_option maxHeartbeats 800000 in
theorem alikeB_calls (a b : Int × Int) (h : sameB a b = true) (w : World) :
    Calls Try.prog 26 #[.agg #[.int .u8 a.1, .int .u8 a.2], .agg #[.int .u8 b.1, .int .u8 b.2]] w fun e w' => e = .returned (.bool true) ∧ Below w.heap.size w w' := by
  unfold sameB at h
  rw [Bool.and_eq_true, decide_eq_true_eq] at h
  obtain ⟨h1, h2⟩ := h
  obtain ⟨a1, a2⟩ := a
  obtain ⟨b1, b2⟩ := b
  simp only at h1 h2 ⊢
  subst h1
  have h3 := beq_iff_eq.1 h2
  clear h2
  go_enter Try.func26, Try.ntmps26
  go_wp2
  go_returns
  exact ⟨by first | rfl | simp [h3], by repeat' (first | exact Below.refl _ _ | refine Q.alloc ?_ _)⟩
set_option maxHeartbeats 1600000 in
theorem equal_U (x y : Value) (l : List (Int)) (R R' : Nat → Prop) (w : World) (hx : Rd EU w R x l) (hy : Rd EU w R' y l) (hl : l.length ≤ 70000) :
    Calls Try.prog 24 #[x, y] w fun e w' => e = .returned (.bool true) ∧ Below w.heap.size w w' := by
  obtain ⟨a, cap, rfl⟩ := hx.len
  obtain ⟨a2, cap2, rfl⟩ := hy.len
  have HX := Lib.hid hx
  have HY := Lib.hid hy
  clear hx hy
  go_enter Try.func24, Try.ntmps24
  go_wp2
  go_loopw [5, 13] (fun _ v wr => ∃ k : Nat, v = .int .i64 (k : Int) ∧ k ≤ l.length ∧ Below w.heap.size w wr) (fun _ v _ => l.length - (intOf v).toNat)
  case atStart => exact ⟨0, rfl, Nat.zero_le _, Below.refl _ _⟩
  case round =>
    obtain ⟨k, rfl, hk, hb⟩ := hrel
    by_cases hkl : k < l.length
    · obtain ⟨b, off, z, rfl, hlb, -, hz, hc⟩ := HX.out.at_ hkl
      obtain ⟨b2, off2, z2, rfl, hlb2, -, hz2, hc2⟩ := HY.out.at_ hkl
      rw [hz] at hz2
      obtain rfl := Option.some.inj hz2
      have d0 := hc 0 _ rfl
      have e0 := hc2 0 _ rfl
      simp only [Nat.mul_one, Nat.add_zero] at d0 e0
      have hki : (k : Int) < (l.length : Int) := by omega
      have hk0 : (0 : Int) ≤ (k : Int) := by omega
      have L0_0 : ∀ y : BW wr, y.val.cell? ⟨b, off + k, none⟩ = some (.int .u8 z) := fun y => ((Q.call hb y.has).cell (p := ⟨b, _, none⟩) hlb).trans d0
      have L0_1 : ∀ y : BW wr, y.val.cell? ⟨b2, off2 + k, none⟩ = some (.int .u8 z) := fun y => ((Q.call hb y.has).cell (p := ⟨b2, _, none⟩) hlb2).trans e0
      clear hz hz2 hc hc2 d0 e0 
      go_wp2_with fail
      refine wp_region_below (by kernel_rfl) (by kernel_rfl) ?_
      repeat (go_big_quiet_step (fail))
      refine wpQuiet_nil ?_
      intro w9 hw9
      obtain ⟨y9, rfl⟩ := hw9
      have B9 := Q.call hb y9.has
      clear L0_0 L0_1
      generalize y9.val = W9 at B9 ⊢
      go_wp2
      refine ⟨⟨k + 1, by simp, by omega, B9⟩, by simp [intOf]; omega⟩
    · obtain rfl : l.length = k := by omega
      go_wp2
      go_returns
      exact ⟨rfl, hb⟩
set_option maxHeartbeats 1600000 in
theorem equal_E (x y : Value) (l : List (Int × Int)) (R R' : Nat → Prop) (w : World) (hx : Rd EE w R x l) (hy : Rd EE w R' y l) (hl : l.length ≤ 70000) :
    Calls Try.prog 27 #[x, y] w fun e w' => e = .returned (.bool true) ∧ Below w.heap.size w w' := by
  obtain ⟨a, cap, rfl⟩ := hx.len
  obtain ⟨a2, cap2, rfl⟩ := hy.len
  have HX := Lib.hid hx
  have HY := Lib.hid hy
  clear hx hy
  go_enter Try.func27, Try.ntmps27
  go_wp2
  go_loopw [5, 13] (fun _ v wr => ∃ k : Nat, v = .int .i64 (k : Int) ∧ k ≤ l.length ∧ Below w.heap.size w wr) (fun _ v _ => l.length - (intOf v).toNat)
  case atStart => exact ⟨0, rfl, Nat.zero_le _, Below.refl _ _⟩
  case round =>
    obtain ⟨k, rfl, hk, hb⟩ := hrel
    by_cases hkl : k < l.length
    · obtain ⟨b, off, z, rfl, hlb, -, hz, hc⟩ := HX.out.at_ hkl
      obtain ⟨b2, off2, z2, rfl, hlb2, -, hz2, hc2⟩ := HY.out.at_ hkl
      rw [hz] at hz2
      obtain rfl := Option.some.inj hz2
      have d0 := hc 0 _ rfl
      have e0 := hc2 0 _ rfl
      have d1 := hc 1 _ rfl
      have e1 := hc2 1 _ rfl
      simp only [Nat.mul_one, Nat.add_zero] at d0 e0
      have hki : (k : Int) < (l.length : Int) := by omega
      have hk0 : (0 : Int) ≤ (k : Int) := by omega
      have L0_0 : ∀ y : BW wr, y.val.cell? ⟨b, off + k * 2, none⟩ = some (.int .i64 z.1) := fun y => ((Q.call hb y.has).cell (p := ⟨b, _, none⟩) hlb).trans d0
      have L0_1 : ∀ y : BW wr, y.val.cell? ⟨b2, off2 + k * 2, none⟩ = some (.int .i64 z.1) := fun y => ((Q.call hb y.has).cell (p := ⟨b2, _, none⟩) hlb2).trans e0
      have L1_0 : ∀ y : BW wr, y.val.cell? ⟨b, off + k * 2 + 1, none⟩ = some (.int .u8 z.2) := fun y => ((Q.call hb y.has).cell (p := ⟨b, _, none⟩) hlb).trans d1
      have L1_1 : ∀ y : BW wr, y.val.cell? ⟨b2, off2 + k * 2 + 1, none⟩ = some (.int .u8 z.2) := fun y => ((Q.call hb y.has).cell (p := ⟨b2, _, none⟩) hlb2).trans e1
      clear hz hz2 hc hc2 d0 e0 d1 e1
      go_wp2_with fail
      refine wp_region_below (by kernel_rfl) (by kernel_rfl) ?_
      repeat (go_big_quiet_step (fail))
      refine wpQuiet_nil ?_
      intro w9 hw9
      obtain ⟨y9, rfl⟩ := hw9
      have B9 := Q.call hb y9.has
      clear L0_0 L0_1 L1_0 L1_1
      generalize y9.val = W9 at B9 ⊢
      go_wp2
      refine ⟨⟨k + 1, by simp, by omega, B9⟩, by simp [intOf]; omega⟩
    · obtain rfl : l.length = k := by omega
      go_wp2
      go_returns
      exact ⟨rfl, hb⟩
/-- Rows of bytes that are the same but for secrets. -/
def alikeL (l m : List (Int × Int)) : Prop := l.length = m.length ∧ ∀ (k : Nat) (x y : Int × Int), l[k]? = some x → m[k]? = some y → sameB x y = true
set_option maxHeartbeats 1600000 in
theorem equalF_calls (x y : Value) (l m : List (Int × Int)) (R R' : Nat → Prop) (w : World) (hx : Rd EB w R x l) (hy : Rd EB w R' y m) (hl : l.length ≤ 70000) (hlm : alikeL l m) :
    Calls Try.prog 25 #[x, y, .func (.func 26) #[] #[]] w fun e w' => e = .returned (.bool true) ∧ Below w.heap.size w w' := by
  obtain ⟨a, cap, rfl⟩ := hx.len
  obtain ⟨a2, cap2, rfl⟩ := hy.len
  obtain ⟨hll, hal⟩ := hlm
  have HX := Lib.hid hx
  have HY := Lib.hid hy
  have HA := Lib.hid hal
  rw [← hll]
  have HLL := Lib.hid hll
  clear hx hy hal hll
  go_enter Try.func25, Try.ntmps25
  go_wp2
  go_loopw [7, 8, 9, 17] (fun _ _ _ v wr => ∃ k : Nat, v = .int .i64 (k : Int) ∧ k ≤ l.length ∧ Below w.heap.size w wr) (fun _ _ _ v _ => l.length - (intOf v).toNat)
  case atStart => exact ⟨0, rfl, Nat.zero_le _, Below.refl _ _⟩
  case round =>
    obtain ⟨k, rfl, hk, hb⟩ := hrel
    by_cases hkl : k < l.length
    · obtain ⟨b, off, z, rfl, hlb, -, hz, hc⟩ := HX.out.at_ hkl
      obtain ⟨b2, off2, z2, rfl, hlb2, -, hz2, hc2⟩ := Rd.at_ (m := l.length) (by rw [HLL.out]; exact HY.out) (k := k) (by rw [← HLL.out]; exact hkl)
      have hsb := HA.out k z z2 hz hz2
      have d0 := (hb.cell (p := ⟨b, _, none⟩) hlb).trans (hc 0 _ rfl)
      have d1 := (hb.cell (p := ⟨b, _, none⟩) hlb).trans (hc 1 _ rfl)
      have e0 := (hb.cell (p := ⟨b2, _, none⟩) hlb2).trans (hc2 0 _ rfl)
      have e1 := (hb.cell (p := ⟨b2, _, none⟩) hlb2).trans (hc2 1 _ rfl)
      simp only [Nat.add_zero] at d0 e0
      have hki : (k : Int) < (l.length : Int) := by omega
      have hk0 : (0 : Int) ≤ (k : Int) := by omega
      have hbs := hb.size
      have q1 : b < wr.heap.size := by omega
      have q2 : b2 < wr.heap.size := by omega
      have AC := fun V => alikeB_calls z z2 hsb V
      clear hz hz2 hc hc2 hsb
      go_wp2_with (go_at_call 26; (with_reducible refine (AC _).mono ?_); rintro e w9 ⟨rfl, hb9⟩)
      have B9 := Q.call (Q.alloc (Q.alloc hb (.cells #[.int .u8 z.1, .int .u8 z.2] 23)) (.cells #[.int .u8 z2.1, .int .u8 z2.2] 23)) hb9
      refine ⟨⟨k + 1, by simp, by omega, B9⟩, by simp [intOf]; omega⟩
    · obtain rfl : l.length = k := by omega
      go_wp2
      go_returns
      exact ⟨rfl, hb⟩
/-- Ports that are the same but for secrets. -/
structure LowP (s t : PS) : Prop where
  pub : s.pub = t.pub
  sec : s.sec.length = t.sec.length
  out : s.out = t.out
  kept : alikeL s.kept t.kept
  log : s.log = t.log
set_option maxRecDepth 100000 in
set_option maxHeartbeats 3200000 in
theorem low_calls (w : World) (col : Nat → Nat) (c d g h : Nat) (v u : PV) (s t : PS) (hp : IsP w col c g v s) (hq : IsP w col d h u t) (hok : s.ok) (hl : LowP s t) :
    Calls Try.prog 13 #[.pointer (some ⟨g, 0, none⟩), .pointer (some ⟨h, 0, none⟩)] w fun e w' => e = .returned (.bool true) ∧ Below w.heap.size w w' := by
  have c0 : w.cell? ⟨g, 0, none⟩ = some v.pub := hp.blk.cell 0
  have c1 : w.cell? ⟨g, 1, none⟩ = some v.sec := hp.blk.cell 1
  have c2 : w.cell? ⟨g, 2, none⟩ = some v.out := hp.blk.cell 2
  have c3 : w.cell? ⟨g, 3, none⟩ = some v.kept := hp.blk.cell 3
  have c4 : w.cell? ⟨g, 4, none⟩ = some v.log := hp.blk.cell 4
  have e0 : w.cell? ⟨h, 0, none⟩ = some u.pub := hq.blk.cell 0
  have e1 : w.cell? ⟨h, 1, none⟩ = some u.sec := hq.blk.cell 1
  have e2 : w.cell? ⟨h, 2, none⟩ = some u.out := hq.blk.cell 2
  have e3 : w.cell? ⟨h, 3, none⟩ = some u.kept := hq.blk.cell 3
  have e4 : w.cell? ⟨h, 4, none⟩ = some u.log := hq.blk.cell 4
  have lg := hp.blk.lt
  have lh := hq.blk.lt
  obtain ⟨a1, m1, hv1⟩ := hp.sec.len
  obtain ⟨a2, m2, hv2⟩ := hq.sec.len
  rw [hv1] at c1
  rw [hv2, ← hl.sec] at e1
  have C0 := fun V (hV : Below w.heap.size w V) => equal_U v.pub u.pub s.pub _ _ V (hp.pub.below hV) (by rw [hl.pub]; exact hq.pub.below hV) (by have := hok.pub; omega)
  have C2 := fun V (hV : Below w.heap.size w V) => equal_U v.out u.out s.out _ _ V (hp.out.rd.below hV) (by rw [hl.out]; exact hq.out.rd.below hV) (by have := hok.out; omega)
  have C3 := fun V (hV : Below w.heap.size w V) => equalF_calls v.kept u.kept s.kept t.kept _ _ V (hp.kept.rd.below hV) (hq.kept.rd.below hV) (by have := hok.kept; omega) hl.kept
  have C4 := fun V (hV : Below w.heap.size w V) => equal_E v.log u.log s.log _ _ V (hp.log.rd.below hV) (by rw [hl.log]; exact hq.log.rd.below hV) (by have := hok.log; omega)
  clear hp hq hok hl hv1 hv2
  generalize v.pub = vp at *
  generalize u.pub = up at *
  generalize v.out = vo at *
  generalize u.out = uo at *
  generalize v.kept = vk at *
  generalize u.kept = uk at *
  generalize v.log = vl at *
  generalize u.log = ul at *
  have L : ∀ (y : BW w) b o z, b < w.heap.size → w.cell? ⟨b, o, none⟩ = some z → y.val.cell? ⟨b, o, none⟩ = some z := fun y b o z hb hz => (y.has.cell (p := ⟨b, o, none⟩) hb).trans hz
  have L0 := fun y : BW w => L y _ _ _ lg c0
  have L1 := fun y : BW w => L y _ _ _ lg c1
  have M0 := fun y : BW w => L y _ _ _ lh e0
  have M1 := fun y : BW w => L y _ _ _ lh e1
  have C0' := fun y : BW w => C0 y.val y.has
  clear L
  go_enter Try.func13, Try.ntmps13
  go_wp2_with fail
  refine wp_region_below (by kernel_rfl) (by kernel_rfl) ?_
  repeat (go_big_quiet_step ((go_at_call 24; exact calls_bw (C0' _))))
  refine wpQuiet_nil ?_
  intro w9 hw9
  obtain ⟨y9, rfl⟩ := hw9
  have B9 := y9.has
  clear L0 L1 M0 M1 C0 C0'
  generalize y9.val = W9 at B9 ⊢
  have hz9 := B9.size
  have L : ∀ (y : BW W9) b o z, b < w.heap.size → w.cell? ⟨b, o, none⟩ = some z → y.val.cell? ⟨b, o, none⟩ = some z := fun y b o z hb hz => ((Q.call B9 y.has).cell (p := ⟨b, o, none⟩) hb).trans hz
  have L2 := fun y : BW W9 => L y _ _ _ lg c2
  have L3 := fun y : BW W9 => L y _ _ _ lg c3
  have L4 := fun y : BW W9 => L y _ _ _ lg c4
  have M2 := fun y : BW W9 => L y _ _ _ lh e2
  have M3 := fun y : BW W9 => L y _ _ _ lh e3
  have M4 := fun y : BW W9 => L y _ _ _ lh e4
  have C2' := fun y : BW W9 => C2 y.val (Q.call B9 y.has)
  have C3' := fun y : BW W9 => C3 y.val (Q.call B9 y.has)
  have C4' := fun y : BW W9 => C4 y.val (Q.call B9 y.has)
  clear L c0 c1 c2 c3 c4 e0 e1 e2 e3 e4 C2 C3 C4
  go_wp2_with fail
  refine wp_region_below (by kernel_rfl) (by kernel_rfl) ?_
  repeat (go_big_quiet_step (first | (go_at_call 24; exact calls_bw (C2' _)) | (go_at_call 25; exact calls_bw (C3' _)) | (go_at_call 27; exact calls_bw (C4' _))))
  refine wpQuiet_nil ?_
  intro w8 hw8
  obtain ⟨y8, rfl⟩ := hw8
  have B8 := Q.call B9 y8.has
  generalize y8.val = W8 at B8 ⊢
  go_wp2
  go_returns
  exact ⟨rfl, B8⟩
end Go.Proofs.Yteciicojnodibaa
