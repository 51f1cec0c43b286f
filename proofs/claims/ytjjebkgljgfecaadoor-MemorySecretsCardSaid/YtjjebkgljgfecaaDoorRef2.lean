/- The walks of the document's Write and Load. -/
import Derived.Test.YtjjebkgljgfecaaDoorRef1
namespace Go.Proofs.YtjjebkgljgfecaaDoor
set_option linter.unusedVariables false
set_option linter.unusedSimpArgs false
open Go.RowKit

theorem put_info : (Tryd.prog.info? 45).map (fun i => (i.zero, i.size, i.bytes)) = some (some (.agg #[.int .i64 0, .int .u8 0, .int .u8 0]), 3, 16) := by kernel_rfl

/-- One put more. -/
theorem ref_push {W V w1 : World} {B g gg cap cap1 : Nat} {a : Option Addr} {l : List PD} {r : PD} (h : IsRef W B g (.slice a l.length cap) l) (hb : Below W.heap.size W V)
    (hown : w1.ownsRow B 45 3 (.slice (some ⟨gg, 0, none⟩) (l.length + 1) cap1) (l.length + 1) (puts l ++ r.list)) (hgrow : V.grownBy w1 (Value.slice a l.length cap).ownBlock)
    (hat : (Value.slice a l.length cap).ownBlock = some gg ∨ V.heap.size ≤ gg) :
    IsRef (w1.setCell ⟨g, 0, none⟩ (.slice (some ⟨gg, 0, none⟩) (l.length + 1) cap1)) B g (.slice (some ⟨gg, 0, none⟩) (l.length + 1) cap1) (l ++ [r]) ∧
      Chg (RefF g (.slice a l.length cap)) W (w1.setCell ⟨g, 0, none⟩ (.slice (some ⟨gg, 0, none⟩) (l.length + 1) cap1)) ∧
      (∀ b, RefF g (.slice (some ⟨gg, 0, none⟩) (l.length + 1) cap1) b → RefF g (.slice a l.length cap) b ∨ W.heap.size ≤ b) := by
  have hlt := h.blk.lt
  have hs := hb.size
  have hg1 : Blk w1 g 39 #[.slice a l.length cap] := (hgrow.block g (by omega) (Ne.symm h.ne)).trans (h.blk.call hb)
  have hgg : gg ≠ g := by
    rcases hat with h1 | h1
    · exact fun e => h.ne (by rw [h1, e])
    · omega
  refine ⟨⟨?_, ?_, h.ge, ?_⟩, ⟨?_, ?_, ?_, ?_, ?_⟩, ?_⟩
  · rw [hg1.setCell]
    exact hg1.setRow _
  · rw [List.length_append, puts_snoc]
    exact own_keep hown (fun k hk _ => Below.heap_setCell _ _ _ k (by
      have : gg = k := by simpa [Value.ownBlock] using hk
      rw [← this]; exact hgg)) (by simp)
  · simp [Value.ownBlock, hgg]
  · exact hgrow.os.trans hb.os
  · exact hgrow.tape.trans hb.tape
  · exact hgrow.output.trans hb.output
  · have := hgrow.size
    simp at this ⊢
    omega
  · intro k hk hS
    have h1 : k ≠ g := fun h => hS (.inl h)
    have h2 : some k ≠ (Value.slice a l.length cap).ownBlock := fun h => hS (.inr h.symm)
    rw [Below.heap_setCell _ _ _ k h1, hgrow.block k (by omega) h2]
    exact hb.block k hk
  · rintro k (h1 | h1)
    · exact .inl (.inl h1)
    · have h1 : gg = k := by simpa [Value.ownBlock] using h1
      subst h1
      rcases hat with h2 | h2
      · exact .inl (.inr h2)
      · exact .inr (by omega)

set_option maxHeartbeats 1600000 in
theorem refWrite_ram (B g : Nat) (sv : Value) (l : List PD) (x v t : Int) (w : World) (hr : IsRef w B g sv l) (hB : B ≤ w.heap.size) (hl : l.length ≤ 1000000) (h0 : 0 ≤ x) (h1 : x < 32768) :
    Calls Tryd.prog 30 #[.pointer (some ⟨g, 0, none⟩), .int .i64 x, .agg #[.int .u8 v, .int .u8 t]] w fun e w' => e = .returned (.int .i64 0) ∧ ∃ sv', IsRef w' B g sv' (l ++ [⟨x, v, t⟩]) ∧ Chg (RefF g sv) w w' ∧ (∀ b, RefF g sv' b → RefF g sv b ∨ w.heap.size ≤ b) := by
  obtain ⟨a, cap, rfl, hcap, hrd⟩ := hr.reads
  clear hrd
  have c0 := hr.blk.cell 0
  have f0 := hr.blk.frozen 0
  have hlt := hr.blk.lt
  have D := fun w => isDev_calls x w
  have A := fun w => isRAM_calls x w
  rw [show isDev x = false by unfold isDev; simp; omega] at D
  rw [show isRAM x = true by unfold isRAM; simp; omega] at A
  obtain ⟨i0, hi0, hz0, hz1, hz2⟩ := info_parts put_info
  go_enter Tryd.func30, Tryd.ntmps30
  go_wp2_with (first
    | (go_at_call 31; (with_reducible refine (D _).mono ?_); rintro e w1 ⟨rfl, rfl⟩)
    | (go_at_call 12; (with_reducible refine (A _).mono ?_); rintro e w1 ⟨rfl, rfl⟩))
  go_region_law (refine step_append_lies _ (by rfl) _ _ _ (by rfl) B 45 i0 _ 3 16 Tryd.underlying37 hi0 hz0 hz1 hz2 rfl (by omega) (.slice a l.length cap) l.length (puts l) (by rfl) (by exact (hr.own.alloc _).alloc _) ⟨w.heap.size + 1, 0, none⟩ 1 1 [.int .i64 x, .int .u8 v, .int .u8 t] (by rfl) (by rfl) (World.news_of_block (cs := #[.int .i64 x, .int .u8 v, .int .u8 t]) (t := 45) (fr := (0, 0)) (Blk.new' (by simp))) (by simp [Value.oneCell']) (by omega) (by unfold maxLen; omega) (by omega) (by simp; omega) (w.heap.size + 2) (by simp) ?_; intro gg cap1 w1 hown1 hgrow hat hlt1; have hg1 : Blk w1 g 39 #[.slice a l.length cap] := (hgrow.block g (by simp; omega) (Ne.symm hr.ne)).trans ((hr.blk.alloc _).alloc _); have k0 := hg1.cell 0; have k1 := hg1.frozen 0)
  all_goals
    go_wp2
    go_returns
    exact ⟨rfl, _, ref_push (r := ⟨x, v, t⟩) hr (Q.alloc (Q.drew (Q.alloc (Below.refl _ _) _)) _) hown1 hgrow (by rcases hat with h | h; exact .inl h; exact .inr (by simp; omega))⟩
end Go.Proofs.YtjjebkgljgfecaaDoor
