/- The walk of the document's After, and of the chapter's example. -/
import Derived.Test.YtijlmdpcbclmaaaTimer3
namespace Go.Proofs.Ytijlmdpcbclmaaa
set_option linter.unusedVariables false
set_option linter.unusedSimpArgs false
open Go.RowKit
attribute [local go_sem] setRow_alloc_past setRow_alloc_at

theorem Blk.set6 {w : World} {g : Nat} {T : TypeId} {t : TM} (h : Blk w g T t.cells) (a b c d e f : Value) :
    (((((w.setCell ⟨g, 0, none⟩ a).setCell ⟨g, 1, none⟩ b).setCell ⟨g, 2, none⟩ c).setCell ⟨g, 3, none⟩ d).setCell ⟨g, 4, none⟩ e).setCell ⟨g, 5, none⟩ f = w.setRow g #[a, b, c, d, e, f] := by
  rw [h.set4, h.setCell_setRow, h.setCell_setRow]
  rfl

/-- What is left of many ticks, by the document. -/
theorem TM.aft_doc {t : TM} (hr : t.runs = true) (ha : t.again = true) (h0 : 0 ≤ t.count) (hl : 0 ≤ t.latch) (n : Nat) (h : t.count + 1 < n) :
    t.aft n = (TM.mk t.latch t.latch t.runs t.again t.asks true).aft ((n - t.count.toNat - 1) % (t.latch.toNat + 1)) := by
  rw [TM.aft_gt hr h0 n (by omega)]
  have e : (TM.mk t.latch 0 t.runs t.again t.asks t.rings).tick = TM.mk t.latch t.latch t.runs t.again t.asks true := by
    simp [TM.tick, hr, ha]
  rw [e]
  exact TM.aft_mod (t := TM.mk t.latch t.latch t.runs t.again t.asks true) hr ha rfl rfl hl _

set_option maxHeartbeats 3200000 in
theorem rafter_small (t : TM) (ht : t.ok) (n : Nat) (hn : n ≤ 1099511627776) (hs : ¬ (t.runs = true ∧ t.again = true ∧ t.count + 1 < (n : Int))) (w : World) :
    Calls Try.prog 22 #[.agg t.cells, .int .i64 n] w fun e w' => e = .returned (.agg (t.aft n).cells) ∧ Below w.heap.size w w' := by
  obtain ⟨tr, HR⟩ : ∃ tr, tr = t.aft n := ⟨_, rfl⟩
  rw [← HR]
  have HR := Lib.hid HR
  rename_i HR0; clear HR0
  have HOK := Lib.hid ht
  obtain ⟨l, c, r, a, k, i⟩ := t
  obtain ⟨t0, t1, t2, t3⟩ := ht
  simp only at t0 t1 t2 t3 hs
  simp only [TM.cells]
  cases r
  · clear hs
    go_enter Try.func22, Try.ntmps22
    go_wp2
    go_loopw [6] (fun v wr => ∃ (k1 : Nat) (t' : TM), v = .int .i64 (k1 : Int) ∧ k1 ≤ n ∧ t'.ok ∧ tr = t'.aft (n - k1) ∧ Blk wr w.heap.size 43 t'.cells ∧ Blk wr (w.heap.size + 1) 43 TM.zero.cells ∧ Below w.heap.size w wr)
      (fun v _ => n - (intOf v).toNat)
    case atStart => exact ⟨0, _, rfl, Nat.zero_le _, HOK.out, HR.out, (Blk.new _ _ _).alloc _, Blk.new' (by simp), ((Below.refl _ _).alloc (Nat.le_refl _) _).alloc (by simp) _⟩
    case round =>
      obtain ⟨k1, t', rfl, hk, hok', he, hb0, hb1, hbw⟩ := hrel
      clear HR HOK
      have HE := Lib.hid he
      clear he
      obtain ⟨d0, d1, d2, d3, d4, d5, f0, f1, f2, f3, f4, f5⟩ := TM.at_ hb0
      obtain ⟨e0, e1, e2, e3, e4, e5, g0, g1, g2, g3, g4, g5⟩ := TM.at_ hb1
      have HB0 := Lib.hid hb0
      have HB1 := Lib.hid hb1
      clear hb0 hb1
      by_cases hlt : k1 < n
      · cases hru : t'.runs
        · have hx : tr = t' := HE.out.trans (TM.aft_stop hru _)
          subst hx
          clear HE
          obtain ⟨l', c', r', a', k', i'⟩ := tr
          simp only at hru
          subst hru
          simp only at d0 d1 d2 d3 d4 d5
          go_wp2
          refine ret_cell (g := w.heap.size + 1) (cs := #[.int .i64 l', .int .i64 c', .bool false, .bool a', .bool k', .bool i']) rfl Try.underlying43 (by kernel_rfl) rfl (by rw [HB1.out.set6]; exact HB1.out.setRow _) ⟨rfl, ?_⟩
          rw [HB1.out.set6]; exact below_setRow hbw (by omega) _
        · obtain ⟨l', c', r', a', k', i'⟩ := t'
          simp only at hru
          subst hru
          have HT := fun w => rtick_calls ⟨l', c', true, a', k', i'⟩ hok' w
          have hokt := TM.tick_ok hok'
          have hx := HE.out
          rw [show n - k1 = (n - (k1 + 1)) + 1 by omega] at hx
          simp only [TM.aft] at hx
          obtain ⟨tt, htt⟩ : ∃ tt, tt = TM.tick ⟨l', c', true, a', k', i'⟩ := ⟨_, rfl⟩
          rw [← htt] at HT hx hokt
          have HX := Lib.hid hx
          clear hx htt
          simp only [TM.cells] at HT
          simp only at d0 d1 d2 d3 d4 d5
          go_wp2_with (go_at_call 40; refine (HT _).mono ?_; rintro e w2 ⟨rfl, hb2⟩; have hB2 := HB0.out.below hb2 HB0.out.lt; obtain ⟨p0, p1, p2, p3, p4, p5, q0, q1, q2, q3, q4, q5⟩ := TM.at_ hB2; have HB2 := Lib.hid hB2; clear hB2)
          go_roundw
          case rel => exact ⟨k1 + 1, tt, by go_num, by omega, hokt, HX.out, by rw [HB2.out.set6]; exact HB2.out.setRow _, by rw [HB2.out.set6]; exact (HB1.out.below hb2 HB1.out.lt).other (by omega) _, by rw [HB2.out.set6]; exact below_setRow (hbw.trans (hb2.mono hbw.size)) (Nat.le_refl _) _⟩
          case measure => simp [intOf]; omega
      · have hx : tr = t' := by
          rw [HE.out, show n - k1 = 0 by omega]; rfl
        subst hx
        clear HE
        obtain ⟨l', c', r', a', k', i'⟩ := tr
        simp only at d0 d1 d2 d3 d4 d5
        go_wp2
        refine ret_cell (g := w.heap.size + 1) (cs := #[.int .i64 l', .int .i64 c', .bool r', .bool a', .bool k', .bool i']) rfl Try.underlying43 (by kernel_rfl) rfl (by rw [HB1.out.set6]; exact HB1.out.setRow _) ⟨rfl, ?_⟩
        rw [HB1.out.set6]; exact below_setRow hbw (by omega) _
  cases a
  · clear hs
    go_enter Try.func22, Try.ntmps22
    go_wp2
    go_loopw [6] (fun v wr => ∃ (k1 : Nat) (t' : TM), v = .int .i64 (k1 : Int) ∧ k1 ≤ n ∧ t'.ok ∧ tr = t'.aft (n - k1) ∧ Blk wr w.heap.size 43 t'.cells ∧ Blk wr (w.heap.size + 1) 43 TM.zero.cells ∧ Below w.heap.size w wr)
      (fun v _ => n - (intOf v).toNat)
    case atStart => exact ⟨0, _, rfl, Nat.zero_le _, HOK.out, HR.out, (Blk.new _ _ _).alloc _, Blk.new' (by simp), ((Below.refl _ _).alloc (Nat.le_refl _) _).alloc (by simp) _⟩
    case round =>
      obtain ⟨k1, t', rfl, hk, hok', he, hb0, hb1, hbw⟩ := hrel
      clear HR HOK
      have HE := Lib.hid he
      clear he
      obtain ⟨d0, d1, d2, d3, d4, d5, f0, f1, f2, f3, f4, f5⟩ := TM.at_ hb0
      obtain ⟨e0, e1, e2, e3, e4, e5, g0, g1, g2, g3, g4, g5⟩ := TM.at_ hb1
      have HB0 := Lib.hid hb0
      have HB1 := Lib.hid hb1
      clear hb0 hb1
      by_cases hlt : k1 < n
      · cases hru : t'.runs
        · have hx : tr = t' := HE.out.trans (TM.aft_stop hru _)
          subst hx
          clear HE
          obtain ⟨l', c', r', a', k', i'⟩ := tr
          simp only at hru
          subst hru
          simp only at d0 d1 d2 d3 d4 d5
          go_wp2
          refine ret_cell (g := w.heap.size + 1) (cs := #[.int .i64 l', .int .i64 c', .bool false, .bool a', .bool k', .bool i']) rfl Try.underlying43 (by kernel_rfl) rfl (by rw [HB1.out.set6]; exact HB1.out.setRow _) ⟨rfl, ?_⟩
          rw [HB1.out.set6]; exact below_setRow hbw (by omega) _
        · obtain ⟨l', c', r', a', k', i'⟩ := t'
          simp only at hru
          subst hru
          have HT := fun w => rtick_calls ⟨l', c', true, a', k', i'⟩ hok' w
          have hokt := TM.tick_ok hok'
          have hx := HE.out
          rw [show n - k1 = (n - (k1 + 1)) + 1 by omega] at hx
          simp only [TM.aft] at hx
          obtain ⟨tt, htt⟩ : ∃ tt, tt = TM.tick ⟨l', c', true, a', k', i'⟩ := ⟨_, rfl⟩
          rw [← htt] at HT hx hokt
          have HX := Lib.hid hx
          clear hx htt
          simp only [TM.cells] at HT
          simp only at d0 d1 d2 d3 d4 d5
          go_wp2_with (go_at_call 40; refine (HT _).mono ?_; rintro e w2 ⟨rfl, hb2⟩; have hB2 := HB0.out.below hb2 HB0.out.lt; obtain ⟨p0, p1, p2, p3, p4, p5, q0, q1, q2, q3, q4, q5⟩ := TM.at_ hB2; have HB2 := Lib.hid hB2; clear hB2)
          go_roundw
          case rel => exact ⟨k1 + 1, tt, by go_num, by omega, hokt, HX.out, by rw [HB2.out.set6]; exact HB2.out.setRow _, by rw [HB2.out.set6]; exact (HB1.out.below hb2 HB1.out.lt).other (by omega) _, by rw [HB2.out.set6]; exact below_setRow (hbw.trans (hb2.mono hbw.size)) (Nat.le_refl _) _⟩
          case measure => simp [intOf]; omega
      · have hx : tr = t' := by
          rw [HE.out, show n - k1 = 0 by omega]; rfl
        subst hx
        clear HE
        obtain ⟨l', c', r', a', k', i'⟩ := tr
        simp only at d0 d1 d2 d3 d4 d5
        go_wp2
        refine ret_cell (g := w.heap.size + 1) (cs := #[.int .i64 l', .int .i64 c', .bool r', .bool a', .bool k', .bool i']) rfl Try.underlying43 (by kernel_rfl) rfl (by rw [HB1.out.set6]; exact HB1.out.setRow _) ⟨rfl, ?_⟩
        rw [HB1.out.set6]; exact below_setRow hbw (by omega) _
  · have hs' : (n : Int) ≤ c + 1 := by
      by_cases h : (n : Int) ≤ c + 1
      · exact h
      · exact absurd ⟨rfl, rfl, by omega⟩ hs
    clear hs
    go_enter Try.func22, Try.ntmps22
    go_wp2
    go_loopw [6] (fun v wr => ∃ (k1 : Nat) (t' : TM), v = .int .i64 (k1 : Int) ∧ k1 ≤ n ∧ t'.ok ∧ tr = t'.aft (n - k1) ∧ Blk wr w.heap.size 43 t'.cells ∧ Blk wr (w.heap.size + 1) 43 TM.zero.cells ∧ Below w.heap.size w wr)
      (fun v _ => n - (intOf v).toNat)
    case atStart => exact ⟨0, _, rfl, Nat.zero_le _, HOK.out, HR.out, (Blk.new _ _ _).alloc _, Blk.new' (by simp), ((Below.refl _ _).alloc (Nat.le_refl _) _).alloc (by simp) _⟩
    case round =>
      obtain ⟨k1, t', rfl, hk, hok', he, hb0, hb1, hbw⟩ := hrel
      clear HR HOK
      have HE := Lib.hid he
      clear he
      obtain ⟨d0, d1, d2, d3, d4, d5, f0, f1, f2, f3, f4, f5⟩ := TM.at_ hb0
      obtain ⟨e0, e1, e2, e3, e4, e5, g0, g1, g2, g3, g4, g5⟩ := TM.at_ hb1
      have HB0 := Lib.hid hb0
      have HB1 := Lib.hid hb1
      clear hb0 hb1
      by_cases hlt : k1 < n
      · cases hru : t'.runs
        · have hx : tr = t' := HE.out.trans (TM.aft_stop hru _)
          subst hx
          clear HE
          obtain ⟨l', c', r', a', k', i'⟩ := tr
          simp only at hru
          subst hru
          simp only at d0 d1 d2 d3 d4 d5
          go_wp2
          refine ret_cell (g := w.heap.size + 1) (cs := #[.int .i64 l', .int .i64 c', .bool false, .bool a', .bool k', .bool i']) rfl Try.underlying43 (by kernel_rfl) rfl (by rw [HB1.out.set6]; exact HB1.out.setRow _) ⟨rfl, ?_⟩
          rw [HB1.out.set6]; exact below_setRow hbw (by omega) _
        · obtain ⟨l', c', r', a', k', i'⟩ := t'
          simp only at hru
          subst hru
          have HT := fun w => rtick_calls ⟨l', c', true, a', k', i'⟩ hok' w
          have hokt := TM.tick_ok hok'
          have hx := HE.out
          rw [show n - k1 = (n - (k1 + 1)) + 1 by omega] at hx
          simp only [TM.aft] at hx
          obtain ⟨tt, htt⟩ : ∃ tt, tt = TM.tick ⟨l', c', true, a', k', i'⟩ := ⟨_, rfl⟩
          rw [← htt] at HT hx hokt
          have HX := Lib.hid hx
          clear hx htt
          simp only [TM.cells] at HT
          simp only at d0 d1 d2 d3 d4 d5
          go_wp2_with (go_at_call 40; refine (HT _).mono ?_; rintro e w2 ⟨rfl, hb2⟩; have hB2 := HB0.out.below hb2 HB0.out.lt; obtain ⟨p0, p1, p2, p3, p4, p5, q0, q1, q2, q3, q4, q5⟩ := TM.at_ hB2; have HB2 := Lib.hid hB2; clear hB2)
          go_roundw
          case rel => exact ⟨k1 + 1, tt, by go_num, by omega, hokt, HX.out, by rw [HB2.out.set6]; exact HB2.out.setRow _, by rw [HB2.out.set6]; exact (HB1.out.below hb2 HB1.out.lt).other (by omega) _, by rw [HB2.out.set6]; exact below_setRow (hbw.trans (hb2.mono hbw.size)) (Nat.le_refl _) _⟩
          case measure => simp [intOf]; omega
      · have hx : tr = t' := by
          rw [HE.out, show n - k1 = 0 by omega]; rfl
        subst hx
        clear HE
        obtain ⟨l', c', r', a', k', i'⟩ := tr
        simp only at d0 d1 d2 d3 d4 d5
        go_wp2
        refine ret_cell (g := w.heap.size + 1) (cs := #[.int .i64 l', .int .i64 c', .bool r', .bool a', .bool k', .bool i']) rfl Try.underlying43 (by kernel_rfl) rfl (by rw [HB1.out.set6]; exact HB1.out.setRow _) ⟨rfl, ?_⟩
        rw [HB1.out.set6]; exact below_setRow hbw (by omega) _

set_option maxHeartbeats 3200000 in
theorem rafter_big (t : TM) (ht : t.ok) (n : Nat) (hn : n ≤ 1099511627776) (hr : t.runs = true) (ha : t.again = true) (hs : t.count + 1 < (n : Int)) (w : World) :
    Calls Try.prog 22 #[.agg t.cells, .int .i64 n] w fun e w' => e = .returned (.agg (t.aft n).cells) ∧ Below w.heap.size w w' := by
  rw [TM.aft_doc hr ha ht.2.2.1 ht.1 n hs]
  obtain ⟨N, hN⟩ : ∃ N, N = (n - t.count.toNat - 1) % (t.latch.toNat + 1) := ⟨_, rfl⟩
  rw [← hN]
  obtain ⟨l, c, r, a, k, i⟩ := t
  obtain ⟨t0, t1, t2, t3⟩ := ht
  simp only at t0 t1 t2 t3 hs hr ha hN
  subst hr ha
  have HOK : Hid (TM.mk l l true true k true).ok := by exact ⟨t0, t1, t0, t1⟩
  obtain ⟨tr, HR⟩ : ∃ tr, tr = (TM.mk l l true true k true).aft N := ⟨_, rfl⟩
  rw [← HR]
  have HR := Lib.hid HR
  rename_i HR0; clear HR0
  have hN1 : N ≤ 65535 := by
    have := Nat.mod_lt (n - c.toNat - 1) (show 0 < l.toNat + 1 by omega)
    omega
  have hN2 : ((n : Int) - c - 1) % (l + 1) = (N : Int) := by
    rw [hN, Int.natCast_emod, show ((n - c.toNat - 1 : Nat) : Int) = (n : Int) - c - 1 by omega, show ((l.toNat + 1 : Nat) : Int) = l + 1 by omega]
  have HN := Lib.hid hN2
  clear hN hN2
  simp only [TM.cells]
  · go_enter Try.func22, Try.ntmps22
    go_wp2
    rw [HN.out]
    clear HN
    go_loopw [6] (fun v wr => ∃ (k1 : Nat) (t' : TM), v = .int .i64 (k1 : Int) ∧ k1 ≤ N ∧ t'.ok ∧ tr = t'.aft (N - k1) ∧ Blk wr w.heap.size 43 t'.cells ∧ Blk wr (w.heap.size + 1) 43 TM.zero.cells ∧ Below w.heap.size w wr)
      (fun v _ => N - (intOf v).toNat)
    case atStart => exact ⟨0, _, rfl, Nat.zero_le _, HOK.out, HR.out, (Blk.new _ _ _).alloc _, Blk.new' (by simp), ((Below.refl _ _).alloc (Nat.le_refl _) _).alloc (by simp) _⟩
    case round =>
      obtain ⟨k1, t', rfl, hk, hok', he, hb0, hb1, hbw⟩ := hrel
      clear HR HOK
      have HE := Lib.hid he
      clear he
      obtain ⟨d0, d1, d2, d3, d4, d5, f0, f1, f2, f3, f4, f5⟩ := TM.at_ hb0
      obtain ⟨e0, e1, e2, e3, e4, e5, g0, g1, g2, g3, g4, g5⟩ := TM.at_ hb1
      have HB0 := Lib.hid hb0
      have HB1 := Lib.hid hb1
      clear hb0 hb1
      by_cases hlt : k1 < N
      · cases hru : t'.runs
        · have hx : tr = t' := HE.out.trans (TM.aft_stop hru _)
          subst hx
          clear HE
          obtain ⟨l', c', r', a', k', i'⟩ := tr
          simp only at hru
          subst hru
          simp only at d0 d1 d2 d3 d4 d5
          go_wp2
          refine ret_cell (g := w.heap.size + 1) (cs := #[.int .i64 l', .int .i64 c', .bool false, .bool a', .bool k', .bool i']) rfl Try.underlying43 (by kernel_rfl) rfl (by rw [HB1.out.set6]; exact HB1.out.setRow _) ⟨rfl, ?_⟩
          rw [HB1.out.set6]; exact below_setRow hbw (by omega) _
        · obtain ⟨l', c', r', a', k', i'⟩ := t'
          simp only at hru
          subst hru
          have HT := fun w => rtick_calls ⟨l', c', true, a', k', i'⟩ hok' w
          have hokt := TM.tick_ok hok'
          have hx := HE.out
          rw [show N - k1 = (N - (k1 + 1)) + 1 by omega] at hx
          simp only [TM.aft] at hx
          obtain ⟨tt, htt⟩ : ∃ tt, tt = TM.tick ⟨l', c', true, a', k', i'⟩ := ⟨_, rfl⟩
          rw [← htt] at HT hx hokt
          have HX := Lib.hid hx
          clear hx htt
          simp only [TM.cells] at HT
          simp only at d0 d1 d2 d3 d4 d5
          go_wp2_with (go_at_call 40; refine (HT _).mono ?_; rintro e w2 ⟨rfl, hb2⟩; have hB2 := HB0.out.below hb2 HB0.out.lt; obtain ⟨p0, p1, p2, p3, p4, p5, q0, q1, q2, q3, q4, q5⟩ := TM.at_ hB2; have HB2 := Lib.hid hB2; clear hB2)
          go_roundw
          case rel => exact ⟨k1 + 1, tt, by go_num, by omega, hokt, HX.out, by rw [HB2.out.set6]; exact HB2.out.setRow _, by rw [HB2.out.set6]; exact (HB1.out.below hb2 HB1.out.lt).other (by omega) _, by rw [HB2.out.set6]; exact below_setRow (hbw.trans (hb2.mono hbw.size)) (Nat.le_refl _) _⟩
          case measure => simp [intOf]; omega
      · have hx : tr = t' := by
          rw [HE.out, show N - k1 = 0 by omega]; rfl
        subst hx
        clear HE
        obtain ⟨l', c', r', a', k', i'⟩ := tr
        simp only at d0 d1 d2 d3 d4 d5
        go_wp2
        refine ret_cell (g := w.heap.size + 1) (cs := #[.int .i64 l', .int .i64 c', .bool r', .bool a', .bool k', .bool i']) rfl Try.underlying43 (by kernel_rfl) rfl (by rw [HB1.out.set6]; exact HB1.out.setRow _) ⟨rfl, ?_⟩
        rw [HB1.out.set6]; exact below_setRow hbw (by omega) _

theorem rafter_calls (t : TM) (ht : t.ok) (n : Int) (h0 : 0 ≤ n) (hn : n ≤ 1099511627776) (w : World) :
    Calls Try.prog 22 #[.agg t.cells, .int .i64 n] w fun e w' => e = .returned (.agg (t.aft n.toNat).cells) ∧ Below w.heap.size w w' := by
  obtain ⟨m, rfl⟩ := Int.eq_ofNat_of_zero_le h0
  by_cases hs : t.runs = true ∧ t.again = true ∧ t.count + 1 < (m : Int)
  · exact rafter_big t ht m (by omega) hs.1 hs.2.1 hs.2.2 w
  · exact rafter_small t ht m (by omega) hs w
end Go.Proofs.Ytijlmdpcbclmaaa
