/- The walks of the timer's functions: Read, After. -/
import Derived.Test.YtijlmdpcbclmaaaTimer
import Derived.ScopeJumps
import Derived.Deep.RegionWith
import Derived.Deep.RegionHeld3
namespace Go.Proofs.Ytijlmdpcbclmaaa
set_option linter.unusedVariables false
set_option linter.unusedSimpArgs false
open Go.RowKit

set_option maxHeartbeats 400000 in
theorem read_nil (reg : Int) (w : World) :
    Calls Try.prog 36 #[.pointer none, .int .i64 reg] w fun e w' => e = .returned (.tuple #[.int .u8 0, .int .i64 2]) ∧ w = w' := by
  go_enter Try.func36, Try.ntmps36
  go_wp2
  go_returns
  exact ⟨rfl, rfl⟩
set_option maxHeartbeats 400000 in
theorem read_out (g : Nat) (reg : Int) (hr : reg < 0 ∨ 3 < reg) (w : World) :
    Calls Try.prog 36 #[.pointer (some ⟨g, 0, none⟩), .int .i64 reg] w fun e w' => e = .returned (.tuple #[.int .u8 0, .int .i64 10]) ∧ w = w' := by
  have e0 : (reg == 0) = false := beq_eq_false_iff_ne.2 (by omega)
  have e1 : (reg == 1) = false := beq_eq_false_iff_ne.2 (by omega)
  have e2 : (reg == 2) = false := beq_eq_false_iff_ne.2 (by omega)
  have e3 : (reg == 3) = false := beq_eq_false_iff_ne.2 (by omega)
  go_enter Try.func36, Try.ntmps36
  go_wp2
  go_returns
  exact ⟨rfl, rfl⟩
set_option maxHeartbeats 800000 in
theorem read_calls (g : Nat) (t : TM) (ht : t.ok) (reg : Int) (hr : 0 ≤ reg ∧ reg ≤ 3) (w : World) (hb : Blk w g 38 t.cells) :
    Calls Try.prog 36 #[.pointer (some ⟨g, 0, none⟩), .int .i64 reg] w fun e w' => e = .returned (.tuple #[.int .u8 (t.read reg), .int .i64 0]) ∧ Below w.heap.size w w' := by
  obtain ⟨c0, c1, c2, c3, c4, c5, f0, f1, f2, f3, f4, f5⟩ := TM.at_ hb
  obtain ⟨l, c, r, a, k, i⟩ := t
  obtain ⟨t0, t1, t2, t3⟩ := ht
  simp only at c0 c1 c2 c3 c4 c5 t0 t1 t2 t3
  have HB := Lib.hid hb; clear hb
  have hcase : reg = 0 ∨ reg = 1 ∨ reg = 2 ∨ reg = 3 := by omega
  rcases hcase with rfl | rfl | rfl | rfl
  · go_enter Try.func36, Try.ntmps36
    go_wp2
    go_returns
    exact ⟨by simp [TM.read], Below.refl _ _⟩
  · go_enter Try.func36, Try.ntmps36
    go_wp2
    go_returns
    refine ⟨by simp [TM.read], Below.refl _ _⟩
  · go_enter Try.func36, Try.ntmps36
    go_wp2_with (go_at_call 45; refine (told3_calls _ r a k _ (by simp) (by simp) (by simp)).mono ?_; rintro e w' ⟨rfl, rfl⟩)
    go_region_held3 (fun w' => w'.cell? ⟨g, 2, none⟩ = some (.bool r) ∧ w'.cell? ⟨g, 3, none⟩ = some (.bool a) ∧ w'.cell? ⟨g, 4, none⟩ = some (.bool k)) (go_keep) ((go_at_call 45; refine (told3_calls _ r a k _ (by simp) (by simp) (by simp)).mono ?_; rintro e w' ⟨rfl, rfl⟩))
    go_wp2
    go_returns
    refine ⟨by simp [TM.read], ?_⟩
    exact (((Below.refl _ _).alloc (Nat.le_refl _) _).drew)
  · go_enter Try.func36, Try.ntmps36
    go_wp2_with (go_at_call 45; refine (told1_calls _ i _ (by simp)).mono ?_; rintro e w' ⟨rfl, rfl⟩)
    go_returns
    refine ⟨?_, (Below.refl _ _).alloc (Nat.le_refl _) _⟩
    cases i <;> simp [TM.read, b2i]

set_option maxHeartbeats 1600000 in
theorem after_bad (t : TM) (n : Int) (h : ¬ t.ok ∨ n < 0 ∨ 1099511627776 < n) (w : World) :
    Calls Try.prog 18 #[.agg t.cells, .int .i64 n] w fun e w' => e = .returned (.tuple #[.agg TM.zero.cells, .int .i64 10]) ∧ Below w.heap.size w w' := by
  obtain ⟨l, c, r, a, k, i⟩ := t
  simp only [TM.cells, TM.ok] at h ⊢
  have hcase : l < 0 ∨ (0 ≤ l ∧ 65535 < l) ∨ (0 ≤ l ∧ l ≤ 65535 ∧ c < 0) ∨ (0 ≤ l ∧ l ≤ 65535 ∧ 0 ≤ c ∧ 65535 < c) ∨ (0 ≤ l ∧ l ≤ 65535 ∧ 0 ≤ c ∧ c ≤ 65535 ∧ n < 0) ∨ (0 ≤ l ∧ l ≤ 65535 ∧ 0 ≤ c ∧ c ≤ 65535 ∧ 0 ≤ n ∧ 1099511627776 < n) := by omega
  clear h
  rcases hcase with h1 | ⟨h1, h2⟩ | ⟨h1, h2, h3⟩ | ⟨h1, h2, h3, h4⟩ | ⟨h1, h2, h3, h4, h5⟩ | ⟨h1, h2, h3, h4, h5, h6⟩
  all_goals
    go_enter Try.func18, Try.ntmps18
    go_wp2
    go_step3
    go_wp2
    rw [Exit.noGoto_ret]
    refine bodyPost_ret (v := .tuple #[.agg #[.int .i64 0, .int .i64 0, .bool false, .bool false, .bool false, .bool false], .int .i64 10]) (by simp [results, Try.results18, go_sem]) rfl ⟨rfl, ?_⟩
    exact (((Below.refl _ _).alloc (Nat.le_refl _) _).alloc (by simp) _)

attribute [local go_sem] setRow_alloc_past setRow_alloc_at

/-- At the jump: one that does not run, or that does not run out any more. -/
def AftJ (t : TM) (n : Nat) (w0 : World) (a' : Act) (w' : World) : Prop :=
  ∃ (t' : TM) (n' : Nat), t'.ok ∧ t.aft n = t'.aft n' ∧ (t'.runs = false ∨ (n' : Int) ≤ t'.count) ∧ n' ≤ 1099511627776 ∧ w' = (w0.alloc (.cells t'.cells 38)).alloc (.cells TM.zero.cells 38) ∧
  ∃ (u0 u3 u5 u6 u7 u8 u9 u10 u11 u12 u13 u14 u15 u16 u17 u18 u19 u20 u21 u22 u23 u24 u25 u26 u27 u28 u29 u30 u31 u32 u33 u34 u35 u36 u37 u38 u39 u40 u41 u42 u43 u44 u45 u46 u47 u48 u49 u50 u51 u52 u53 u54 u55 u56 u57 u58 u59 u60 : Value), a' = { tmps := #[u0, .int .i64 (n' : Int), .pointer (some ⟨w0.heap.size, 0, none⟩), u3, .pointer (some ⟨w0.heap.size + 1, 0, none⟩), u5, u6, u7, u8, u9, u10, u11, u12, u13, u14, u15, u16, u17, u18, u19, u20, u21, u22, u23, u24, u25, u26, u27, u28, u29, u30, u31, u32, u33, u34, u35, u36, u37, u38, u39, u40, u41, u42, u43, u44, u45, u46, u47, u48, u49, u50, u51, u52, u53, u54, u55, u56, u57, u58, u59, u60], defers := [] }

theorem aft_ret {l c : Int} {r a k i : Bool} {w : World} {tmps : Array Value} {R : Ending → World → Prop} (h4 : tmps.getD 4 undef = .pointer (some ⟨w.heap.size + 1, 0, none⟩)) (h5 : tmps.getD 5 undef = .int .i64 0) (o : Obj)
    (hR : R (.returned (.tuple #[.agg #[.int .i64 l, .int .i64 c, .bool r, .bool a, .bool k, .bool i], .int .i64 0])) ((w.alloc o).alloc (.cells #[.int .i64 l, .int .i64 c, .bool r, .bool a, .bool k, .bool i] 38))) :
    bodyPost Try.prog Try.f18 R .ret { tmps := tmps, defers := [] } ((w.alloc o).alloc (.cells #[.int .i64 l, .int .i64 c, .bool r, .bool a, .bool k, .bool i] 38)) := by
  refine bodyPost_ret ?_ rfl hR
  have h4' : tmps[4]?.getD undef = .pointer (some ⟨w.heap.size + 1, 0, none⟩) := by simpa using h4
  have h5' : tmps[5]?.getD undef = .int .i64 0 := by simpa using h5
  simp [results, Try.results18, go_sem, h4', h5']

set_option maxHeartbeats 1600000 in
theorem after_stop (t : TM) (ht : t.ok) (n : Nat) (hn : n ≤ 1099511627776) (hr : t.runs = false) (w : World) :
    Calls Try.prog 18 #[.agg t.cells, .int .i64 n] w fun e w' => e = .returned (.tuple #[.agg (t.aft n).cells, .int .i64 0]) ∧ Below w.heap.size w w' := by
  rw [TM.aft_stop hr]
  obtain ⟨l, c, r, a, k, i⟩ := t
  obtain ⟨t0, t1, t2, t3⟩ := ht
  simp only at t0 t1 t2 t3 hr
  subst hr
  simp only [TM.cells]
  go_enter Try.func18, Try.ntmps18
  go_wp2
  go_step3
  go_wp2
  go_step3
  go_wp2
  rw [Exit.noGoto_ret]
  exact aft_ret rfl rfl _ ⟨rfl, ((Below.refl _ _).alloc (Nat.le_refl _) _).alloc (by simp) _⟩

set_option maxHeartbeats 1600000 in
theorem after_le (t : TM) (ht : t.ok) (n : Nat) (hn : n ≤ 1099511627776) (hr : t.runs = true) (hc : (n : Int) ≤ t.count) (w : World) :
    Calls Try.prog 18 #[.agg t.cells, .int .i64 n] w fun e w' => e = .returned (.tuple #[.agg (t.aft n).cells, .int .i64 0]) ∧ Below w.heap.size w w' := by
  rw [TM.aft_le hr n hc]
  obtain ⟨l, c, r, a, k, i⟩ := t
  obtain ⟨t0, t1, t2, t3⟩ := ht
  simp only at t0 t1 t2 t3 hr hc
  subst hr
  simp only [TM.cells]
  go_enter Try.func18, Try.ntmps18
  go_wp2
  go_step3
  go_wp2
  go_step3
  go_wp2
  rw [Exit.noGoto_ret]
  exact aft_ret rfl rfl _ ⟨rfl, ((Below.refl _ _).alloc (Nat.le_refl _) _).alloc (by simp) _⟩

set_option maxHeartbeats 1600000 in
theorem after_gt (t : TM) (ht : t.ok) (n : Nat) (hn : n ≤ 1099511627776) (hr : t.runs = true) (hc : t.count < (n : Int)) (w : World) :
    Calls Try.prog 18 #[.agg t.cells, .int .i64 n] w fun e w' => e = .returned (.tuple #[.agg (t.aft n).cells, .int .i64 0]) ∧ Below w.heap.size w w' := by
  have HS := Lib.hid (TM.aft_gt hr ht.2.2.1 n hc)
  have hok := TM.aft_ok ht n
  obtain ⟨tr, HR⟩ : ∃ tr, tr = t.aft n := ⟨_, rfl⟩
  rw [← HR] at HS hok ⊢
  have HR := Lib.hid HR
  rename_i HR0; clear HR0
  obtain ⟨l, c, r, a, k, i⟩ := t
  obtain ⟨t0, t1, t2, t3⟩ := ht
  simp only at t0 t1 t2 t3 hr hc
  subst hr
  have T1 := fun (g : Nat) (w : World) hb => tick_calls g ⟨l, 0, true, true, k, i⟩ ⟨t0, t1, Int.le_refl 0, by simp⟩ w hb
  have T0 := fun (g : Nat) (w : World) hb => tick_calls g ⟨l, 0, true, false, k, i⟩ ⟨t0, t1, Int.le_refl 0, by simp⟩ w hb
  simp only [TM.tick, TM.cells, Bool.false_eq_true, if_true, if_false, Int.lt_irrefl] at T0 T1
  simp only [TM.cells]
  go_enter Try.func18, Try.ntmps18
  go_wp2
  refine wp_scope_jumps 0 (AftJ ⟨l, c, true, a, k, i⟩ n w) (fun _ _ => 0) rfl ?_ ?_
  · go_wp2
    go_step3
    cases a
    · clear T1
      go_wp2_with (go_at_call 23; refine (T0 _ _ ((Blk.new _ _ _).alloc _)).mono ?_; rintro e w' ⟨rfl, rfl⟩)
      go_step3
      refine ⟨rfl, ⟨l, 0, false, false, k, true⟩, n - c.toNat - 1, ⟨t0, t1, Int.le_refl 0, by simp⟩, ?_, Or.inl rfl, by omega, rfl, ?_⟩
      · rw [← HR.out, HS.out]
        simp only [TM.tick, Bool.false_eq_true, if_true, if_false, Int.lt_irrefl]
      · rw [show ((n : Int) - (c + 1)) = ((n - c.toNat - 1 : Nat) : Int) by omega]
        exact ⟨_, _, _, _, _, _, _, _, _, _, _, _, _, _, _, _, _, _, _, _, _, _, _, _, _, _, _, _, _, _, _, _, _, _, _, _, _, _, _, _, _, _, _, _, _, _, _, _, _, _, _, _, _, _, _, _, _, _, rfl⟩
    · clear T0
      go_wp2_with (go_at_call 23; refine (T1 _ _ ((Blk.new _ _ _).alloc _)).mono ?_; rintro e w' ⟨rfl, rfl⟩)
      go_step3
      refine ⟨rfl, ⟨l, l, true, true, k, true⟩, (n - c.toNat - 1) % (l.toNat + 1), ⟨t0, t1, t0, t1⟩, ?_, Or.inr ?_, ?_, rfl, ?_⟩
      · rw [← HR.out, HS.out]
        simp only [TM.tick, Bool.false_eq_true, if_true, if_false, Int.lt_irrefl]
        exact TM.aft_mod rfl rfl rfl rfl t0 _
      · have := Nat.mod_lt (n - c.toNat - 1) (show 0 < l.toNat + 1 by omega)
        simp only
        omega
      · have := Nat.mod_le (n - c.toNat - 1) (l.toNat + 1)
        omega
      · rw [show ((n : Int) - (c + 1)) % (l + 1) = (((n - c.toNat - 1) % (l.toNat + 1) : Nat) : Int) by
          rw [Int.natCast_emod, show ((n - c.toNat - 1 : Nat) : Int) = (n : Int) - (c + 1) by omega, show ((l.toNat + 1 : Nat) : Int) = l + 1 by omega]]
        exact ⟨_, _, _, _, _, _, _, _, _, _, _, _, _, _, _, _, _, _, _, _, _, _, _, _, _, _, _, _, _, _, _, _, _, _, _, _, _, _, _, _, _, _, _, _, _, _, _, _, _, _, _, _, _, _, _, _, _, _, rfl⟩
  · rintro a' w' ⟨t', n', hok', he, hor, hn', rfl, u0, u3, u5, u6, u7, u8, u9, u10, u11, u12, u13, u14, u15, u16, u17, u18, u19, u20, u21, u22, u23, u24, u25, u26, u27, u28, u29, u30, u31, u32, u33, u34, u35, u36, u37, u38, u39, u40, u41, u42, u43, u44, u45, u46, u47, u48, u49, u50, u51, u52, u53, u54, u55, u56, u57, u58, u59, u60, rfl⟩
    rw [← HR.out] at he
    by_cases hr' : t'.runs = true
    · have hle := hor.resolve_left (by simp [hr'])
      rw [TM.aft_le hr' n' hle] at he
      subst he
      obtain ⟨l', c', r', a', k', i'⟩ := t'
      obtain ⟨s0, s1, s2, s3⟩ := hok'
      simp only at s0 s1 s2 s3 hr' hle
      subst hr'
      clear HS HR hor
      simp only [TM.cells, TM.zero]
      go_wp2
      simp only [Exit.jump]
      exact aft_ret rfl rfl _ ⟨rfl, ((Below.refl _ _).alloc (Nat.le_refl _) _).alloc (by simp) _⟩
    · have hr2 : t'.runs = false := by simpa using hr'
      rw [TM.aft_stop hr2] at he
      subst he
      obtain ⟨l', c', r', a', k', i'⟩ := tr
      obtain ⟨s0, s1, s2, s3⟩ := hok'
      simp only at s0 s1 s2 s3 hr2
      subst hr2
      clear HS HR hor hr'
      simp only [TM.cells, TM.zero]
      go_wp2
      simp only [Exit.jump]
      exact aft_ret rfl rfl _ ⟨rfl, ((Below.refl _ _).alloc (Nat.le_refl _) _).alloc (by simp) _⟩
end Go.Proofs.Ytijlmdpcbclmaaa
