/- The walks of the recorder's functions: New, Add. -/
import Derived.Test.YtijlmdpcbclmaaaRec
namespace Go.Proofs.Ytijlmdpcbclmaaa
set_option linter.unusedVariables false
set_option linter.unusedSimpArgs false
open Go.RowKit

set_option maxHeartbeats 400000 in
theorem rnew_bad (most : Int) (h : most < 1 ∨ 4096 < most) (w : World) :
    Calls Try.prog 26 #[.int .i64 most] w fun e w' => e = .returned (.tuple #[.pointer none, .int .i64 10]) ∧ w = w' := by
  rcases h with h | h
  all_goals
    go_enter Try.func26, Try.ntmps26
    go_wp2
    go_returns
    exact ⟨rfl, rfl⟩
set_option maxHeartbeats 400000 in
theorem rnew_calls (most : Int) (h0 : 1 ≤ most) (h1 : most ≤ 4096) (w : World) :
    Calls Try.prog 26 #[.int .i64 most] w fun e w' => e = .returned (.tuple #[.pointer (some ⟨w.heap.size, 0, none⟩), .int .i64 0]) ∧
      w' = w.alloc (.cells #[.slice none 0 0, .int .i64 most, .bool false] 79) := by
  go_enter Try.func26, Try.ntmps26
  go_wp2
  go_returns
  exact ⟨rfl, rfl⟩

set_option maxHeartbeats 400000 in
theorem radd_nil (r : RD) (w : World) :
    Calls Try.prog 28 #[.pointer none, .agg r.cells] w fun e w' => e = .returned (.int .i64 2) ∧ Below w.heap.size w w' := by
  obtain ⟨x, b, v, t⟩ := r
  simp only [RD.cells]
  go_enter Try.func28, Try.ntmps28
  go_wp2
  go_returns
  exact ⟨rfl, (Below.refl _ _).alloc (Nat.le_refl _) _⟩
set_option maxHeartbeats 400000 in
theorem radd_out (g : Nat) (r : RD) (h : r.addr < 0 ∨ 65535 < r.addr) (w : World) :
    Calls Try.prog 28 #[.pointer (some ⟨g, 0, none⟩), .agg r.cells] w fun e w' => e = .returned (.int .i64 10) ∧ Below w.heap.size w w' := by
  obtain ⟨x, b, v, t⟩ := r
  simp only [RD.cells] at h ⊢
  rcases h with h | h
  all_goals
    go_enter Try.func28, Try.ntmps28
    go_wp2
    go_returns
    exact ⟨rfl, (Below.refl _ _).alloc (Nat.le_refl _) _⟩

theorem rec_info : (Try.prog.info? 35).map (fun i => (i.zero, i.size, i.bytes)) = some (some (.agg #[.int .i64 0, .bool false, .int .u8 0, .int .u8 0]), 4, 16) := by kernel_rfl

set_option maxHeartbeats 800000 in
theorem radd_full (B g : Nat) (sv : Value) (l : List RD) (most : Int) (full : Bool) (r : RD) (h0 : 0 ≤ r.addr) (h1 : r.addr ≤ 65535) (w : World) (hr : IsRec w B g sv l most full) (hl : (l.length : Int) = most) :
    Calls Try.prog 28 #[.pointer (some ⟨g, 0, none⟩), .agg r.cells] w fun e w' => e = .returned (.int .i64 18) ∧ IsRec w' B g sv l most true ∧ Chg (· = g) w w' := by
  obtain ⟨a, cap, rfl, hcap, hrd⟩ := hr.reads
  have c0 := hr.blk.cell 0
  have c1 := hr.blk.cell 1
  have c2 := hr.blk.cell 2
  have f2 := hr.blk.frozen 2
  have hlt := hr.blk.lt
  subst hl
  obtain ⟨x, b, v, t⟩ := r
  simp only [RD.cells] at h0 h1 ⊢
  go_enter Try.func28, Try.ntmps28
  go_wp2
  go_quiet (fail)
  go_wp2
  go_returns
  have hch : Chg (· = g) w (((w.alloc (.cells #[.int .i64 x, .bool b, .int .u8 v, .int .u8 t] 35)).drewN nq).setCell ⟨g, 2, none⟩ (.bool true)) :=
    ⟨rfl, rfl, rfl, by simp, fun k hk hne => (Below.heap_setCell _ _ _ k (fun h => hne h)).trans (Below.heap_alloc w _ k hk)⟩
  refine ⟨rfl, ⟨?_, ?_, hr.ge, hr.ne⟩, hch⟩
  · have hb := (hr.blk.alloc (.cells #[.int .i64 x, .bool b, .int .u8 v, .int .u8 t] 35)).drewN nq
    rw [hb.setCell]
    exact hb.setRow _
  · exact own_keep hr.own (fun k hk hlt => hch.block k hlt (fun h => hr.ne (h ▸ hk))) hch.size

set_option maxHeartbeats 1600000 in
theorem radd_ok (B g : Nat) (sv : Value) (l : List RD) (most : Int) (full : Bool) (r : RD) (h0 : 0 ≤ r.addr) (h1 : r.addr ≤ 65535) (w : World) (hr : IsRec w B g sv l most full) (hB : B ≤ w.heap.size) (hl : (l.length : Int) < most) (hm : most ≤ 4096) :
    Calls Try.prog 28 #[.pointer (some ⟨g, 0, none⟩), .agg r.cells] w fun e w' => e = .returned (.int .i64 0) ∧ ∃ sv', IsRec w' B g sv' (l ++ [r]) most full ∧ Chg (RecF g sv) w w' ∧ (∀ b, RecF g sv' b → RecF g sv b ∨ w.heap.size ≤ b) := by
  obtain ⟨a, cap, rfl, hcap, hrd⟩ := hr.reads
  have c0 := hr.blk.cell 0
  have c1 := hr.blk.cell 1
  have f0 := hr.blk.frozen 0
  have hlt := hr.blk.lt
  have hne : ((l.length : Int) == most) = false := beq_eq_false_iff_ne.2 (by omega)
  obtain ⟨i0, hi0, hz0, hz1, hz2⟩ := info_parts rec_info
  obtain ⟨x, b, v, t⟩ := r
  simp only [RD.cells] at h0 h1 ⊢
  go_enter Try.func28, Try.ntmps28
  go_wp2
  go_quiet (fail)
  go_wp2
  go_region_law (refine step_append_lies _ (by rfl) _ _ _ (by rfl) B 35 i0 _ 4 16 Try.underlying22 hi0 hz0 hz1 hz2 rfl (by omega) (.slice a l.length cap) l.length (rows l) (by rfl) (by exact (hr.own.alloc _).alloc _) ⟨w.heap.size + 1, 0, none⟩ 1 1 [.int .i64 x, .bool b, .int .u8 v, .int .u8 t] (by rfl) (by rfl) (World.news_of_block (cs := #[.int .i64 x, .bool b, .int .u8 v, .int .u8 t]) (t := 35) (fr := (0, 0)) (Blk.new' (by simp))) (by simp [Value.oneCell']) (by omega) (by unfold maxLen; omega) (by omega) (by simp; omega) (w.heap.size + 2) (by simp) ?_; intro gg cap1 w1 hown1 hgrow hat hlt1; have hg1 : Blk w1 g 79 #[.slice a l.length cap, .int .i64 most, .bool full] := (hgrow.block g (by simp; omega) (Ne.symm hr.ne)).trans ((hr.blk.alloc _).alloc _); have k0 := hg1.cell 0; have k1 := hg1.frozen 0)
  all_goals
    go_wp2
    go_returns
    have hgg : gg ≠ g := by
      rcases hat with h | h
      · exact fun e => hr.ne (by rw [h, e])
      · omega
    refine ⟨rfl, .slice (some ⟨gg, 0, none⟩) (l.length + 1) cap1, ⟨?_, ?_, hr.ge, ?_⟩, ⟨hgrow.os, hgrow.tape, hgrow.output, ?_, ?_⟩, ?_⟩
    · rw [hg1.setCell]
      exact hg1.setRow _
    · rw [List.length_append, rows_snoc]
      exact own_keep hown1 (fun k hk _ => Below.heap_setCell _ _ _ k (by
        have : gg = k := by simpa [Value.ownBlock] using hk
        rw [← this]; exact hgg)) (by simp)
    · simp [Value.ownBlock, hgg]
    · have := hgrow.size
      simp at this ⊢
      omega
    · intro k hk hS
      have h1 : k ≠ g := fun h => hS (.inl h)
      have h2 : some k ≠ (Value.slice a l.length cap).ownBlock := fun h => hS (.inr h.symm)
      rw [Below.heap_setCell _ _ _ k h1, hgrow.block k (by simp; omega) h2]
      exact (Below.heap_alloc _ _ k (by simp; omega)).trans (Below.heap_alloc w _ k hk)
    · rintro k (h | h)
      · exact .inl (.inl h)
      · have h : gg = k := by simpa [Value.ownBlock] using h
        subst h
        rcases hat with h | h
        · exact .inl (.inr h)
        · exact .inr (by omega)
end Go.Proofs.Ytijlmdpcbclmaaa
