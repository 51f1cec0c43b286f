/- The document's Write by an append that tells whether the row moved: the log. (printed by gen/po21.py) -/
import Derived.Test.YteciicojnodibaaPo20
namespace Go.Proofs.Yteciicojnodibaa
set_option linter.unusedVariables false
set_option linter.unusedSimpArgs false
open Go.RowKit
attribute [local go_sem ↓] Go.wp_at_zero Go.wp_at_succ
set_option maxRecDepth 100000 in
set_option maxHeartbeats 3200000 in
theorem rw_app4k (w : World) (col : Nat → Nat) (c g : Nat) (v : RV) (s : PS) (b t cyc : Int) (hp : IsR w col c g v s) (hl : s.log.length < 4096) :
    Calls Try.prog 23 #[.pointer (some ⟨g, 0, none⟩), .int .i64 4, .agg #[.int .u8 b, .int .u8 t], .int .i64 cyc] w fun e w' => e = .returned (.tuple #[.int .i64 0, .int .i64 0]) ∧ ∃ W1 tv, W1.ownsRow 0 5 1 tv ((s.log.map (·.2)) ++ [b]).length (EU.row ((s.log.map (·.2)) ++ [b])) ∧ Chg (fun b => b = g ∨ v.told.ownBlock = some b) w W1 ∧ (∀ b, tv.ownBlock = some b → v.told.ownBlock = some b ∨ w.heap.size ≤ b) ∧ ((∃ b, v.told.ownBlock = some b ∧ tv.ownBlock = some b) ∨ Chg (fun b => b = g) w W1) ∧
      APostK W1 g (v.cells.setIfInBounds 5 tv) 4 3 1 v.cyc ((s.log.map (·.1)) ++ [cyc]).length (EI.row ((s.log.map (·.1)) ++ [cyc])) w' := by
  have hb := hp.blk
  have hr := hp.told.1
  have hrc := hp.cyc.1
  obtain ⟨a, cap, hv, hcap⟩ := own_slice hr
  obtain ⟨a2, cap2, hv2, hcap2⟩ := own_slice hrc
  have c0 : w.cell? ⟨g, 5, none⟩ = some v.told := hb.cell 5
  have hlt := hb.lt
  have hne : v.told.ownBlock ≠ some g := own_ne hr hb (by decide)
  have hnec : v.cyc.ownBlock ≠ some g := own_ne hrc hb (by decide)
  have hnet := fun b h => own_ne2 hr hrc (by decide) b h
  have hl2 : (s.log.map (·.2)).length < 4096 := by rw [List.length_map]; exact hl
  have hl3 : (s.log.map (·.1)).length < 4096 := by rw [List.length_map]; exact hl
  have hl' : ((s.log.map (·.2)).length : Int) < (4096 : Int) := by omega
  obtain ⟨i0, hi0, hz0, hz1, hz2⟩ := info_parts info_U
  obtain ⟨i1, hi1, hy0, hy1, hy2⟩ := info_parts infoI
  have HV := Lib.hid hv
  have HV2 := Lib.hid hv2
  rw [hv] at c0 hr
  have HNE := Lib.hid hne
  have HNEC := Lib.hid hnec
  have HNET := Lib.hid hnet
  have HB := Lib.hid hb
  have HRC := Lib.hid hrc
  clear hp hv hv2 hne hb hnec hnet hrc hl
  rw [EU.row_append, List.length_append, EI.row_append, List.length_append]
  generalize (s.log.map (·.2)) = L1 at *
  generalize (s.log.map (·.1)) = L2 at *
  go_enter Try.func23, Try.ntmps23
  go_wp2_with fail
  go_region_law (refine step_append_keeps _ (by rfl) _ _ _ (by rfl) 0 5 i0 _ 1 1 Try.underlying29 hi0 hz0 hz1 hz2 rfl (by omega) (.slice a L1.length cap) L1.length (EU.row L1) (by rfl) (by exact (own_keep hr (fun b _ hlt => (Below.heap_alloc _ _ b (by simp; omega)).trans (Below.heap_alloc w _ b hlt)) (by simp; omega))) ⟨w.heap.size + 1, 0, none⟩ 1 1 [.int .u8 b] (by rfl) (by rfl) (World.news_of_block (cs := #[.int .u8 b]) (t := 5) (fr := (0, 0)) (Blk.new' (by simp))) (by simp [Value.oneCell']) (by omega) (by unfold maxLen; omega) (by omega) (by simp) (w.heap.size + 2) (by simp) ?_; intro gg cap1 w1 hown1 hgrow hat hlt1; have hg1 : Blk w1 g 34 v.cells := (hgrow.block g (by simp; omega) (by rw [← HV.out]; exact Ne.symm HNE.out)).trans ((HB.out.alloc _).alloc _); have k1 := hg1.frozen 5; have k0 := hg1.cell 5)
  all_goals
    rw [← HV.out] at hgrow hat
    obtain ⟨tv, hb1, ho1, hch1, hnew1, hkeep1⟩ := apostk_of (Q.drew (Q.alloc (Q.alloc (Below.refl _ _) _) _)) (by simp) HNE.out hlt hown1 hgrow hat hg1
    generalize w1.setCell ⟨g, 5, none⟩ (.slice (some ⟨gg, 0, none⟩) (L1.length + 1) cap1) = W1 at *
    have hrc1 : W1.ownsRow 0 3 1 v.cyc L2.length (EI.row L2) := own_keep HRC.out (fun b hb hlt => hch1.block b hlt (by rintro (rfl | h); exact HNEC.out hb; exact HNET.out b h hb)) hch1.size
    have c4 : W1.cell? ⟨g, 4, none⟩ = some v.cyc := hb1.cell 4
    have f4 := hb1.frozen 4
    rw [HV2.out] at c4
    have hrc2 := hrc1
    rw [HV2.out] at hrc2
    have hgl := hb1.lt
    have HB1 := Lib.hid hb1
    have HO1 := Lib.hid ho1
    have HCH1 := Lib.hid hch1
    have HN1 := Lib.hid hnew1
    have HK1 := Lib.hid hkeep1
    clear hown1 hgrow hat hg1 k1 k0 hb1 ho1 hch1 hnew1 hkeep1 hlt1 hr c0
    go_wp2_with (at_builtin; refine wpList_append_keeps _ rfl _ _ _ rfl 0 3 i1 _ 1 8 Try.underlying32 hi1 hy0 hy1 hy2 rfl (by omega) (.slice a2 L2.length cap2) L2.length (EI.row L2) rfl (by exact (own_keep hrc2 (fun b _ hlt => Below.heap_alloc W1 _ b hlt) (by simp))) ⟨W1.heap.size, 0, none⟩ 1 1 [.int .i64 cyc] rfl rfl (World.news_of_block (cs := #[.int .i64 cyc]) (t := 3) (fr := (0, 0)) (Blk.new' (by simp))) (by simp [Value.oneCell']) (by omega) (by unfold maxLen; omega) (by omega) (by simp) (W1.heap.size + 1) (by simp) ?_; intro g3 cap3 w3 hown3 hgrow3 hat3 hlt3; have hg3 : Blk w3 g 34 (v.cells.setIfInBounds 5 tv) := (hgrow3.block g (by simp; omega) (by rw [← HV2.out]; exact Ne.symm HNEC.out)).trans (HB1.out.alloc _); have k3 := hg3.frozen 4; have k4 := hg3.cell 4)
    go_returns
    rw [← HV2.out] at hgrow3 hat3
    exact ⟨rfl, W1, tv, HO1.out, HCH1.out, HN1.out, HK1.out, apostk_of (Q.alloc (Below.refl _ _) _) (by simp) HNEC.out hgl hown3 hgrow3 hat3 hg3⟩
end Go.Proofs.Yteciicojnodibaa
