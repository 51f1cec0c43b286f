/- The document's ports: Write. (printed by gen/po7.py) -/
import Derived.Test.YteciicojnodibaaPo6
namespace Go.Proofs.Yteciicojnodibaa
set_option linter.unusedVariables false
set_option linter.unusedSimpArgs false
open Go.RowKit
attribute [local go_sem ↓] Go.wp_at_zero Go.wp_at_succ

theorem rw_bad (w : World) (g : Nat) (r b t cyc : Int) (h : r < 0 ∨ 4 < r) :
    Calls Try.prog 23 #[.pointer (some ⟨g, 0, none⟩), .int .i64 r, .agg #[.int .u8 b, .int .u8 t], .int .i64 cyc] w fun e w' => e = .returned (.tuple #[.int .i64 0, .int .i64 10]) ∧ Below w.heap.size w w' := by
  rcases h with h | h
  · go_enter Try.func23, Try.ntmps23
    go_wp2_with fail
    go_returns
    exact ⟨rfl, Q.alloc (Below.refl _ _) _⟩
  · have h' : ¬ r < 0 := by omega
    go_enter Try.func23, Try.ntmps23
    go_wp2_with fail
    go_returns
    exact ⟨rfl, Q.alloc (Below.refl _ _) _⟩
theorem rw_alarm (w : World) (g : Nat) (r b t cyc : Int) (h1 : 0 ≤ r) (h2 : r ≤ 2) (h : 0 < t) :
    Calls Try.prog 23 #[.pointer (some ⟨g, 0, none⟩), .int .i64 r, .agg #[.int .u8 b, .int .u8 t], .int .i64 cyc] w fun e w' => e = .returned (.tuple #[.int .i64 4, .int .i64 20]) ∧ Below w.heap.size w w' := by
  have h3 : ¬ r < 0 := by omega
  have h4 : ¬ 4 < r := by omega
  go_enter Try.func23, Try.ntmps23
  go_wp2_with fail
  go_returns
  exact ⟨rfl, Q.alloc (Below.refl _ _) _⟩
theorem rw_quiet0 (w : World) (g : Nat) (b cyc : Int) :
    Calls Try.prog 23 #[.pointer (some ⟨g, 0, none⟩), .int .i64 0, .agg #[.int .u8 b, .int .u8 0], .int .i64 cyc] w fun e w' => e = .returned (.tuple #[.int .i64 0, .int .i64 0]) ∧ Below w.heap.size w w' := by
  go_enter Try.func23, Try.ntmps23
  go_wp2_with fail
  go_returns
  exact ⟨rfl, Q.alloc (Below.refl _ _) _⟩
theorem rw_quiet1 (w : World) (g : Nat) (b cyc : Int) :
    Calls Try.prog 23 #[.pointer (some ⟨g, 0, none⟩), .int .i64 1, .agg #[.int .u8 b, .int .u8 0], .int .i64 cyc] w fun e w' => e = .returned (.tuple #[.int .i64 0, .int .i64 0]) ∧ Below w.heap.size w w' := by
  go_enter Try.func23, Try.ntmps23
  go_wp2_with fail
  go_returns
  exact ⟨rfl, Q.alloc (Below.refl _ _) _⟩
set_option maxRecDepth 100000 in
theorem rw_full2 (w : World) (col : Nat → Nat) (c g : Nat) (v : RV) (s : PS) (b cyc : Int) (hp : IsR w col c g v s) (hl : 4096 ≤ s.out.length) :
    Calls Try.prog 23 #[.pointer (some ⟨g, 0, none⟩), .int .i64 2, .agg #[.int .u8 b, .int .u8 0], .int .i64 cyc] w fun e w' => e = .returned (.tuple #[.int .i64 0, .int .i64 18]) ∧ Below w.heap.size w w' := by
  have c0 : w.cell? ⟨g, 2, none⟩ = some v.out := hp.blk.cell 2
  obtain ⟨a, cap, hv, hcap⟩ := own_slice hp.out.1
  rw [hv] at c0
  have hlt := hp.blk.lt
  clear hp hv
  have hl' : (4096 : Int) ≤ (s.out.length : Int) := by omega
  generalize s.out = L1 at *
  go_enter Try.func23, Try.ntmps23
  go_wp2_with fail
  go_returns
  exact ⟨rfl, Q.alloc (Below.refl _ _) _⟩
set_option maxRecDepth 100000 in
theorem rw_full3 (w : World) (col : Nat → Nat) (c g : Nat) (v : RV) (s : PS) (b t cyc : Int) (hp : IsR w col c g v s) (hl : 4096 ≤ s.kept.length) :
    Calls Try.prog 23 #[.pointer (some ⟨g, 0, none⟩), .int .i64 3, .agg #[.int .u8 b, .int .u8 t], .int .i64 cyc] w fun e w' => e = .returned (.tuple #[.int .i64 0, .int .i64 18]) ∧ Below w.heap.size w w' := by
  have c0 : w.cell? ⟨g, 3, none⟩ = some v.kept := hp.blk.cell 3
  obtain ⟨a, cap, hv, hcap⟩ := own_slice hp.kept.1
  rw [hv] at c0
  have hlt := hp.blk.lt
  clear hp hv
  have hl' : (4096 : Int) ≤ (s.kept.length : Int) := by omega
  generalize s.kept = L1 at *
  go_enter Try.func23, Try.ntmps23
  go_wp2_with fail
  go_returns
  exact ⟨rfl, Q.alloc (Below.refl _ _) _⟩
set_option maxRecDepth 100000 in
theorem rw_full4 (w : World) (col : Nat → Nat) (c g : Nat) (v : RV) (s : PS) (b t cyc : Int) (hp : IsR w col c g v s) (hl : 4096 ≤ (s.log.map (·.2)).length) :
    Calls Try.prog 23 #[.pointer (some ⟨g, 0, none⟩), .int .i64 4, .agg #[.int .u8 b, .int .u8 t], .int .i64 cyc] w fun e w' => e = .returned (.tuple #[.int .i64 0, .int .i64 18]) ∧ Below w.heap.size w w' := by
  have c0 : w.cell? ⟨g, 5, none⟩ = some v.told := hp.blk.cell 5
  obtain ⟨a, cap, hv, hcap⟩ := own_slice hp.told.1
  rw [hv] at c0
  have hlt := hp.blk.lt
  clear hp hv
  have hl' : (4096 : Int) ≤ ((s.log.map (·.2)).length : Int) := by omega
  generalize (s.log.map (·.2)) = L1 at *
  go_enter Try.func23, Try.ntmps23
  go_wp2_with fail
  go_returns
  exact ⟨rfl, Q.alloc (Below.refl _ _) _⟩
/-- One cell of g has another row of its own; new blocks. -/
def APost (w : World) (g : Nat) (cs : Array Value) (j : Nat) (T : TypeId) (n : Nat) (v : Value) (m : Nat) (xs : List Value) (w' : World) : Prop :=
  ∃ v', Blk w' g 34 (cs.setIfInBounds j v') ∧ w'.ownsRow 0 T n v' m xs ∧ Chg (fun b => b = g ∨ v.ownBlock = some b) w w' ∧ (∀ b, v'.ownBlock = some b → v.ownBlock = some b ∨ w.heap.size ≤ b)
theorem apost_of {w w1 : World} {g j gg cap1 l m H : Nat} {cs : Array Value} {T : TypeId} {n : Nat} {v : Value} {xs : List Value} {W : World} (hB : Below w.heap.size w W) (hH : W.heap.size = H) (hne : v.ownBlock ≠ some g) (hg : g < w.heap.size)
    (hown : w1.ownsRow 0 T n (.slice (some ⟨gg, 0, none⟩) l cap1) m xs) (hgrow : W.grownBy w1 v.ownBlock) (hat : v.ownBlock = some gg ∨ gg = H) (hg1 : Blk w1 g 34 cs) :
    APost w g cs j T n v m xs (w1.setCell ⟨g, j, none⟩ (.slice (some ⟨gg, 0, none⟩) l cap1)) := by
  have hsz := hB.size
  have hgg : gg ≠ g := by
    rcases hat with h | h
    · exact fun e => hne (by rw [h, e])
    · omega
  refine ⟨.slice (some ⟨gg, 0, none⟩) l cap1, ?_, ?_, ⟨hgrow.os.trans hB.os, hgrow.tape.trans hB.tape, hgrow.output.trans hB.output, ?_, ?_⟩, ?_⟩
  · rw [hg1.setCell]
    exact hg1.setRow _
  · exact own_keep hown (fun k hk _ => Below.heap_setCell _ _ _ k (by
      have : gg = k := by simpa [Value.ownBlock] using hk
      rw [← this]; exact hgg)) (by simp)
  · have := hgrow.size
    simp at this ⊢
    omega
  · intro k hk hS
    have h1 : k ≠ g := fun h => hS (.inl h)
    have h2 : some k ≠ v.ownBlock := fun h => hS (.inr h.symm)
    rw [Below.heap_setCell _ _ _ k h1, hgrow.block k (by omega) h2]
    exact hB.block k hk
  · intro k h
    have h : gg = k := by simpa [Value.ownBlock] using h
    subst h
    rcases hat with h | h
    · exact .inl h
    · exact .inr (by omega)
theorem infoI : (Try.prog.info? 3).map (fun i => (i.zero, i.size, i.bytes)) = some (some (.int .i64 0), 1, 8) := by kernel_rfl
set_option maxRecDepth 100000 in
set_option maxHeartbeats 3200000 in
theorem rw_app2 (w : World) (col : Nat → Nat) (c g : Nat) (v : RV) (s : PS) (b cyc : Int) (hp : IsR w col c g v s) (hl : s.out.length < 4096) :
    Calls Try.prog 23 #[.pointer (some ⟨g, 0, none⟩), .int .i64 2, .agg #[.int .u8 b, .int .u8 0], .int .i64 cyc] w fun e w' => e = .returned (.tuple #[.int .i64 0, .int .i64 0]) ∧ APost w g v.cells 2 5 1 v.out (s.out ++ [b]).length (EU.row (s.out ++ [b])) w' := by
  have hb := hp.blk
  have hr := hp.out.1
  obtain ⟨a, cap, hv, hcap⟩ := own_slice hr
  have c0 : w.cell? ⟨g, 2, none⟩ = some v.out := hb.cell 2
  have hlt := hb.lt
  have hne : v.out.ownBlock ≠ some g := own_ne hr hb (by decide)
  have hl' : (s.out.length : Int) < (4096 : Int) := by omega
  obtain ⟨i0, hi0, hz0, hz1, hz2⟩ := info_parts info_U
  have HV := Lib.hid hv
  rw [hv] at c0 hr
  have HNE := Lib.hid hne
  have HB := Lib.hid hb
  clear hp hv hne hb
  rw [EU.row_append, List.length_append]
  go_enter Try.func23, Try.ntmps23
  go_wp2_with fail
  go_region_law (refine step_append_lies _ (by rfl) _ _ _ (by rfl) 0 5 i0 _ 1 1 Try.underlying29 hi0 hz0 hz1 hz2 rfl (by omega) (.slice a s.out.length cap) s.out.length (EU.row s.out) (by rfl) (by exact (own_keep hr (fun b _ hlt => (Below.heap_alloc _ _ b (by simp; omega)).trans (Below.heap_alloc w _ b hlt)) (by simp; omega))) ⟨w.heap.size + 1, 0, none⟩ 1 1 [.int .u8 b] (by rfl) (by rfl) (World.news_of_block (cs := #[.int .u8 b]) (t := 5) (fr := (0, 0)) (Blk.new' (by simp))) (by simp [Value.oneCell']) (by omega) (by unfold maxLen; omega) (by omega) (by simp) (w.heap.size + 2) (by simp) ?_; intro gg cap1 w1 hown1 hgrow hat hlt1; have hg1 : Blk w1 g 34 v.cells := (hgrow.block g (by simp; omega) (by rw [← HV.out]; exact Ne.symm HNE.out)).trans ((HB.out.alloc _).alloc _); have k1 := hg1.frozen 2; have k0 := hg1.cell 2)
  all_goals
    go_wp2
    go_returns
    rw [← HV.out] at hgrow hat
    exact ⟨rfl, apost_of (Q.drew (Q.alloc (Q.alloc (Below.refl _ _) _) _)) (by simp) HNE.out hlt hown1 hgrow hat hg1⟩
set_option maxRecDepth 100000 in
set_option maxHeartbeats 3200000 in
theorem rw_app3 (w : World) (col : Nat → Nat) (c g : Nat) (v : RV) (s : PS) (b t cyc : Int) (hp : IsR w col c g v s) (hl : s.kept.length < 4096) :
    Calls Try.prog 23 #[.pointer (some ⟨g, 0, none⟩), .int .i64 3, .agg #[.int .u8 b, .int .u8 t], .int .i64 cyc] w fun e w' => e = .returned (.tuple #[.int .i64 0, .int .i64 0]) ∧ APost w g v.cells 3 23 2 v.kept (s.kept ++ [(b, t)]).length (EB.row (s.kept ++ [(b, t)])) w' := by
  have hb := hp.blk
  have hr := hp.kept.1
  obtain ⟨a, cap, hv, hcap⟩ := own_slice hr
  have c0 : w.cell? ⟨g, 3, none⟩ = some v.kept := hb.cell 3
  have hlt := hb.lt
  have hne : v.kept.ownBlock ≠ some g := own_ne hr hb (by decide)
  have hl' : (s.kept.length : Int) < (4096 : Int) := by omega
  obtain ⟨i0, hi0, hz0, hz1, hz2⟩ := info_parts info_B
  have HV := Lib.hid hv
  rw [hv] at c0 hr
  have HNE := Lib.hid hne
  have HB := Lib.hid hb
  clear hp hv hne hb
  rw [EB.row_append, List.length_append]
  go_enter Try.func23, Try.ntmps23
  go_wp2_with fail
  go_region_law (refine step_append_lies _ (by rfl) _ _ _ (by rfl) 0 23 i0 _ 2 2 Try.underlying31 hi0 hz0 hz1 hz2 rfl (by omega) (.slice a s.kept.length cap) s.kept.length (EB.row s.kept) (by rfl) (by exact (own_keep hr (fun b _ hlt => (Below.heap_alloc _ _ b (by simp; omega)).trans (Below.heap_alloc w _ b hlt)) (by simp; omega))) ⟨w.heap.size + 1, 0, none⟩ 1 1 [.int .u8 b, .int .u8 t] (by rfl) (by rfl) (World.news_of_block (cs := #[.int .u8 b, .int .u8 t]) (t := 23) (fr := (0, 0)) (Blk.new' (by simp))) (by simp [Value.oneCell']) (by omega) (by unfold maxLen; omega) (by omega) (by simp) (w.heap.size + 2) (by simp) ?_; intro gg cap1 w1 hown1 hgrow hat hlt1; have hg1 : Blk w1 g 34 v.cells := (hgrow.block g (by simp; omega) (by rw [← HV.out]; exact Ne.symm HNE.out)).trans ((HB.out.alloc _).alloc _); have k1 := hg1.frozen 3; have k0 := hg1.cell 3)
  all_goals
    go_wp2
    go_returns
    rw [← HV.out] at hgrow hat
    exact ⟨rfl, apost_of (Q.drew (Q.alloc (Q.alloc (Below.refl _ _) _) _)) (by simp) HNE.out hlt hown1 hgrow hat hg1⟩
set_option maxRecDepth 100000 in
set_option maxHeartbeats 3200000 in
theorem rw_app4 (w : World) (col : Nat → Nat) (c g : Nat) (v : RV) (s : PS) (b t cyc : Int) (hp : IsR w col c g v s) (hl : s.log.length < 4096) :
    Calls Try.prog 23 #[.pointer (some ⟨g, 0, none⟩), .int .i64 4, .agg #[.int .u8 b, .int .u8 t], .int .i64 cyc] w fun e w' => e = .returned (.tuple #[.int .i64 0, .int .i64 0]) ∧ ∃ W1 tv, W1.ownsRow 0 5 1 tv ((s.log.map (·.2)) ++ [b]).length (EU.row ((s.log.map (·.2)) ++ [b])) ∧ Chg (fun b => b = g ∨ v.told.ownBlock = some b) w W1 ∧ (∀ b, tv.ownBlock = some b → v.told.ownBlock = some b ∨ w.heap.size ≤ b) ∧
      APost W1 g (v.cells.setIfInBounds 5 tv) 4 3 1 v.cyc ((s.log.map (·.1)) ++ [cyc]).length (EI.row ((s.log.map (·.1)) ++ [cyc])) w' := by
  have hb := hp.blk
  have hr := hp.told.1
  have hrc := hp.cyc.1
  obtain ⟨a, cap, hv, hcap⟩ := own_slice hr
  obtain ⟨a2, cap2, hv2, hcap2⟩ := own_slice hrc
  have c0 : w.cell? ⟨g, 5, none⟩ = some v.told := hb.cell 5
  have hlt := hb.lt
  have hne : v.told.ownBlock ≠ some g := own_ne hr hb (by decide)
  have hnec : v.cyc.ownBlock ≠ some g := own_ne hrc hb (by decide)
  have hnet := fun b h => own_ne2 hr hrc (by decide) b h
  have hl2 : (s.log.map (·.2)).length < 4096 := by rw [List.length_map]; exact hl
  have hl3 : (s.log.map (·.1)).length < 4096 := by rw [List.length_map]; exact hl
  have hl' : ((s.log.map (·.2)).length : Int) < (4096 : Int) := by omega
  obtain ⟨i0, hi0, hz0, hz1, hz2⟩ := info_parts info_U
  obtain ⟨i1, hi1, hy0, hy1, hy2⟩ := info_parts infoI
  have HV := Lib.hid hv
  have HV2 := Lib.hid hv2
  rw [hv] at c0 hr
  have HNE := Lib.hid hne
  have HNEC := Lib.hid hnec
  have HNET := Lib.hid hnet
  have HB := Lib.hid hb
  have HRC := Lib.hid hrc
  clear hp hv hv2 hne hb hnec hnet hrc hl
  rw [EU.row_append, List.length_append, EI.row_append, List.length_append]
  generalize (s.log.map (·.2)) = L1 at *
  generalize (s.log.map (·.1)) = L2 at *
  go_enter Try.func23, Try.ntmps23
  go_wp2_with fail
  go_region_law (refine step_append_lies _ (by rfl) _ _ _ (by rfl) 0 5 i0 _ 1 1 Try.underlying29 hi0 hz0 hz1 hz2 rfl (by omega) (.slice a L1.length cap) L1.length (EU.row L1) (by rfl) (by exact (own_keep hr (fun b _ hlt => (Below.heap_alloc _ _ b (by simp; omega)).trans (Below.heap_alloc w _ b hlt)) (by simp; omega))) ⟨w.heap.size + 1, 0, none⟩ 1 1 [.int .u8 b] (by rfl) (by rfl) (World.news_of_block (cs := #[.int .u8 b]) (t := 5) (fr := (0, 0)) (Blk.new' (by simp))) (by simp [Value.oneCell']) (by omega) (by unfold maxLen; omega) (by omega) (by simp) (w.heap.size + 2) (by simp) ?_; intro gg cap1 w1 hown1 hgrow hat hlt1; have hg1 : Blk w1 g 34 v.cells := (hgrow.block g (by simp; omega) (by rw [← HV.out]; exact Ne.symm HNE.out)).trans ((HB.out.alloc _).alloc _); have k1 := hg1.frozen 5; have k0 := hg1.cell 5)
  all_goals
    rw [← HV.out] at hgrow hat
    obtain ⟨tv, hb1, ho1, hch1, hnew1⟩ := apost_of (Q.drew (Q.alloc (Q.alloc (Below.refl _ _) _) _)) (by simp) HNE.out hlt hown1 hgrow hat hg1
    generalize w1.setCell ⟨g, 5, none⟩ (.slice (some ⟨gg, 0, none⟩) (L1.length + 1) cap1) = W1 at *
    have hrc1 : W1.ownsRow 0 3 1 v.cyc L2.length (EI.row L2) := own_keep HRC.out (fun b hb hlt => hch1.block b hlt (by rintro (rfl | h); exact HNEC.out hb; exact HNET.out b h hb)) hch1.size
    have c4 : W1.cell? ⟨g, 4, none⟩ = some v.cyc := hb1.cell 4
    have f4 := hb1.frozen 4
    rw [HV2.out] at c4
    have hrc2 := hrc1
    rw [HV2.out] at hrc2
    have hgl := hb1.lt
    have HB1 := Lib.hid hb1
    have HO1 := Lib.hid ho1
    have HCH1 := Lib.hid hch1
    have HN1 := Lib.hid hnew1
    clear hown1 hgrow hat hg1 k1 k0 hb1 ho1 hch1 hnew1 hlt1 hr c0
    go_wp2_with (at_builtin; refine wpList_append_lies _ rfl _ _ _ rfl 0 3 i1 _ 1 8 Try.underlying32 hi1 hy0 hy1 hy2 rfl (by omega) (.slice a2 L2.length cap2) L2.length (EI.row L2) rfl (by exact (own_keep hrc2 (fun b _ hlt => Below.heap_alloc W1 _ b hlt) (by simp))) ⟨W1.heap.size, 0, none⟩ 1 1 [.int .i64 cyc] rfl rfl (World.news_of_block (cs := #[.int .i64 cyc]) (t := 3) (fr := (0, 0)) (Blk.new' (by simp))) (by simp [Value.oneCell']) (by omega) (by unfold maxLen; omega) (by omega) (by simp) (W1.heap.size + 1) (by simp) ?_; intro g3 cap3 w3 hown3 hgrow3 hat3 hlt3; have hg3 : Blk w3 g 34 (v.cells.setIfInBounds 5 tv) := (hgrow3.block g (by simp; omega) (by rw [← HV2.out]; exact Ne.symm HNEC.out)).trans (HB1.out.alloc _); have k3 := hg3.frozen 4; have k4 := hg3.cell 4)
    go_returns
    rw [← HV2.out] at hgrow3 hat3
    exact ⟨rfl, W1, tv, HO1.out, HCH1.out, HN1.out, apost_of (Q.alloc (Below.refl _ _) _) (by simp) HNEC.out hgl hown3 hgrow3 hat3 hg3⟩
/-- What Write leaves behind. -/
def WPost (w : World) (col : Nat → Nat) (c g : Nat) (s' : PS) (a er : Int) (e : Ending) (w' : World) : Prop := e = .returned (.tuple #[.int .i64 a, .int .i64 er]) ∧ ∃ v', IsR w' (paint col w.heap.size c) c g v' s' ∧ Chg (fun b => col b = c) w w'
theorem news_mine {w : World} {col : Nat → Nat} {c : Nat} {v v' : Value} (hv : ∀ b, v.ownBlock = some b → col b = c ∧ b < w.heap.size) (hnew : ∀ b, v'.ownBlock = some b → v.ownBlock = some b ∨ w.heap.size ≤ b) : ∀ b, v'.ownBlock = some b → paint col w.heap.size c b = c := by
  intro b hb
  rcases hnew b hb with h1 | h1
  · exact (paint_old (hv b h1).2).trans (hv b h1).1
  · exact paint_new h1
theorem IsR.app2 {w w' : World} {col : Nat → Nat} {c g : Nat} {v : RV} {s : PS} {x : Int} (hp : IsR w col c g v s) (h0 : c ≠ 0) (h : APost w g v.cells 2 5 1 v.out (s.out ++ [x]).length (EU.row (s.out ++ [x])) w') :
    ∃ v', IsR w' (paint col w.heap.size c) c g v' { s with out := s.out ++ [x] } ∧ Chg (fun b => col b = c) w w' := by
  obtain ⟨ov, hblk, hown, hC, hnew⟩ := h
  refine ⟨{ v with out := ov }, ⟨hblk, (paint_old hp.blk.lt).trans hp.mine, ?_, ?_, ⟨hown, news_mine (fun b hb => ⟨hp.out.2 b hb, (own_lt hp.out.1 hb).1⟩) hnew⟩, ?_, ?_, ?_, ?_⟩, hC.mono (by rintro b (rfl | h1); exact hp.mine; exact hp.out.2 b h1)⟩
  · exact hp.pub.keep (fun b hb hR => ⟨hC.block b hb (by rintro (rfl | h1); exact h0 (hp.mine.symm.trans hR); exact h0 ((hp.out.2 b h1).symm.trans hR)), (paint_old hb).trans hR⟩) hC.size
  · exact hp.sec.keep (fun b hb hR => ⟨hC.block b hb (by rintro (rfl | h1); exact h0 (hp.mine.symm.trans hR); exact h0 ((hp.out.2 b h1).symm.trans hR)), (paint_old hb).trans hR⟩) hC.size
  · exact hp.kept.keep (fun b hb hv hS => ⟨hC.block b hb (by rintro (rfl | h1); exact own_ne hp.kept.1 hp.blk (by decide) hv; exact own_ne2 hp.out.1 hp.kept.1 (by decide) b h1 hv), (paint_old hb).trans hS⟩) hC.size
  · exact hp.cyc.keep (fun b hb hv hS => ⟨hC.block b hb (by rintro (rfl | h1); exact own_ne hp.cyc.1 hp.blk (by decide) hv; exact own_ne2 hp.out.1 hp.cyc.1 (by decide) b h1 hv), (paint_old hb).trans hS⟩) hC.size
  · exact hp.told.keep (fun b hb hv hS => ⟨hC.block b hb (by rintro (rfl | h1); exact own_ne hp.told.1 hp.blk (by decide) hv; exact hp.apart b h1 hv), (paint_old hb).trans hS⟩) hC.size
  · intro b hb ht
    rcases hnew b hb with h1 | h1
    · exact hp.apart b h1 ht
    · have := (own_lt hp.told.1 ht).1
      omega
theorem IsR.app3 {w w' : World} {col : Nat → Nat} {c g : Nat} {v : RV} {s : PS} {x : Int × Int} (hp : IsR w col c g v s) (h0 : c ≠ 0) (h : APost w g v.cells 3 23 2 v.kept (s.kept ++ [x]).length (EB.row (s.kept ++ [x])) w') :
    ∃ v', IsR w' (paint col w.heap.size c) c g v' { s with kept := s.kept ++ [x] } ∧ Chg (fun b => col b = c) w w' := by
  obtain ⟨ov, hblk, hown, hC, hnew⟩ := h
  refine ⟨{ v with kept := ov }, ⟨hblk, (paint_old hp.blk.lt).trans hp.mine, ?_, ?_, ?_, ⟨hown, news_mine (fun b hb => ⟨hp.kept.2 b hb, (own_lt hp.kept.1 hb).1⟩) hnew⟩, ?_, ?_, hp.apart⟩, hC.mono (by rintro b (rfl | h1); exact hp.mine; exact hp.kept.2 b h1)⟩
  · exact hp.pub.keep (fun b hb hR => ⟨hC.block b hb (by rintro (rfl | h1); exact h0 (hp.mine.symm.trans hR); exact h0 ((hp.kept.2 b h1).symm.trans hR)), (paint_old hb).trans hR⟩) hC.size
  · exact hp.sec.keep (fun b hb hR => ⟨hC.block b hb (by rintro (rfl | h1); exact h0 (hp.mine.symm.trans hR); exact h0 ((hp.kept.2 b h1).symm.trans hR)), (paint_old hb).trans hR⟩) hC.size
  · exact hp.out.keep (fun b hb hv hS => ⟨hC.block b hb (by rintro (rfl | h1); exact own_ne hp.out.1 hp.blk (by decide) hv; exact own_ne2 hp.kept.1 hp.out.1 (by decide) b h1 hv), (paint_old hb).trans hS⟩) hC.size
  · exact hp.cyc.keep (fun b hb hv hS => ⟨hC.block b hb (by rintro (rfl | h1); exact own_ne hp.cyc.1 hp.blk (by decide) hv; exact own_ne2 hp.kept.1 hp.cyc.1 (by decide) b h1 hv), (paint_old hb).trans hS⟩) hC.size
  · exact hp.told.keep (fun b hb hv hS => ⟨hC.block b hb (by rintro (rfl | h1); exact own_ne hp.told.1 hp.blk (by decide) hv; exact own_ne2 hp.kept.1 hp.told.1 (by decide) b h1 hv), (paint_old hb).trans hS⟩) hC.size
theorem IsR.app4 {w W1 w' : World} {col : Nat → Nat} {c g : Nat} {v : RV} {tv : Value} {s : PS} {b0 cyc : Int} (hp : IsR w col c g v s) (h0 : c ≠ 0)
    (ho1 : W1.ownsRow 0 5 1 tv ((s.log.map (·.2)) ++ [b0]).length (EU.row ((s.log.map (·.2)) ++ [b0]))) (hC1 : Chg (fun b => b = g ∨ v.told.ownBlock = some b) w W1) (hn1 : ∀ b, tv.ownBlock = some b → v.told.ownBlock = some b ∨ w.heap.size ≤ b)
    (h : APost W1 g (v.cells.setIfInBounds 5 tv) 4 3 1 v.cyc ((s.log.map (·.1)) ++ [cyc]).length (EI.row ((s.log.map (·.1)) ++ [cyc])) w') :
    ∃ v', IsR w' (paint col w.heap.size c) c g v' { s with log := s.log ++ [(cyc, b0)] } ∧ Chg (fun b => col b = c) w w' := by
  obtain ⟨cv, hblk, hown, hC2, hnew⟩ := h
  have hglt := hp.blk.lt
  have tg : ∀ b, tv.ownBlock = some b → b ≠ g := by
    rintro b hb rfl
    rcases hn1 b hb with h1 | h1
    · exact own_ne hp.told.1 hp.blk (by decide) h1
    · omega
  have tc : ∀ b, tv.ownBlock = some b → v.cyc.ownBlock ≠ some b := by
    intro b hb hc
    rcases hn1 b hb with h1 | h1
    · exact own_ne2 hp.told.1 hp.cyc.1 (by decide) b h1 hc
    · have := (own_lt hp.cyc.1 hc).1
      omega
  have hC : Chg (fun b => b = g ∨ v.told.ownBlock = some b ∨ v.cyc.ownBlock = some b) w w' := (hC1.mono (by rintro b (h | h); exact .inl h; exact .inr (.inl h))).trans (hC2.mono (by rintro b (h | h); exact .inl h; exact .inr (.inr h)))
  have hs1 := hC1.size
  refine ⟨{ v with told := tv, cyc := cv }, ⟨hblk, (paint_old hp.blk.lt).trans hp.mine, ?_, ?_, ?_, ?_, ?_, ?_, ?_⟩, hC.mono (by rintro b (rfl | h1 | h1); exact hp.mine; exact hp.told.2 b h1; exact hp.cyc.2 b h1)⟩
  · exact hp.pub.keep (fun b hb hR => ⟨hC.block b hb (by rintro (rfl | h1 | h1); exact h0 (hp.mine.symm.trans hR); exact h0 ((hp.told.2 b h1).symm.trans hR); exact h0 ((hp.cyc.2 b h1).symm.trans hR)), (paint_old hb).trans hR⟩) hC.size
  · exact hp.sec.keep (fun b hb hR => ⟨hC.block b hb (by rintro (rfl | h1 | h1); exact h0 (hp.mine.symm.trans hR); exact h0 ((hp.told.2 b h1).symm.trans hR); exact h0 ((hp.cyc.2 b h1).symm.trans hR)), (paint_old hb).trans hR⟩) hC.size
  · exact hp.out.keep (fun b hb hv hS => ⟨hC.block b hb (by rintro (rfl | h1 | h1); exact own_ne hp.out.1 hp.blk (by decide) hv; exact hp.apart b hv h1; exact own_ne2 hp.cyc.1 hp.out.1 (by decide) b h1 hv), (paint_old hb).trans hS⟩) hC.size
  · exact hp.kept.keep (fun b hb hv hS => ⟨hC.block b hb (by rintro (rfl | h1 | h1); exact own_ne hp.kept.1 hp.blk (by decide) hv; exact own_ne2 hp.told.1 hp.kept.1 (by decide) b h1 hv; exact own_ne2 hp.cyc.1 hp.kept.1 (by decide) b h1 hv), (paint_old hb).trans hS⟩) hC.size
  · rw [show ({ s with log := s.log ++ [(cyc, b0)] } : PS).log.map (·.1) = s.log.map (·.1) ++ [cyc] by simp]
    refine ⟨hown, news_mine (fun b hb => ⟨hp.cyc.2 b hb, (own_lt hp.cyc.1 hb).1⟩) (fun b hb => ?_)⟩
    rcases hnew b hb with h1 | h1
    · exact .inl h1
    · exact .inr (by omega)
  · rw [show ({ s with log := s.log ++ [(cyc, b0)] } : PS).log.map (·.2) = s.log.map (·.2) ++ [b0] by simp]
    exact ⟨own_keep ho1 (fun b hb hlt => hC2.block b hlt (by rintro (rfl | h1); exact tg _ hb rfl; exact tc b hb h1)) hC2.size, news_mine (fun b hb => ⟨hp.told.2 b hb, (own_lt hp.told.1 hb).1⟩) hn1⟩
  · intro b hb ht
    rcases hn1 b ht with h1 | h1
    · exact hp.apart b hb h1
    · have := (own_lt hp.out.1 hb).1
      omega
theorem rwrite_calls (w : World) (col : Nat → Nat) (c g : Nat) (v : RV) (s : PS) (r b t cyc : Int) (ht : 0 ≤ t) (hp : IsR w col c g v s) (h0 : c ≠ 0) :
    Calls Try.prog 23 #[.pointer (some ⟨g, 0, none⟩), .int .i64 r, .agg #[.int .u8 b, .int .u8 t], .int .i64 cyc] w (WPost w col c g (s.wrote r b t cyc) (wRule r t) (s.wErr r t)) := by
  have same : ∀ {a x : Int}, s.wErr r t = x → wRule r t = a → s.wrote r b t cyc = s →
      (Calls Try.prog 23 #[.pointer (some ⟨g, 0, none⟩), .int .i64 r, .agg #[.int .u8 b, .int .u8 t], .int .i64 cyc] w fun e w' => e = .returned (.tuple #[.int .i64 a, .int .i64 x]) ∧ Below w.heap.size w w') →
      Calls Try.prog 23 #[.pointer (some ⟨g, 0, none⟩), .int .i64 r, .agg #[.int .u8 b, .int .u8 t], .int .i64 cyc] w (WPost w col c g (s.wrote r b t cyc) (wRule r t) (s.wErr r t)) := by
    intro a x e1 e2 e3 h
    rw [e1, e2, e3]
    exact h.mono fun e w' ⟨he, hb⟩ => ⟨he, v, hp.new hb c, .of hb⟩
  by_cases hbad : r < 0 ∨ 4 < r
  · have e1 : s.wErr r t = 10 := if_pos hbad
    exact same e1 (if_neg (by omega)) (if_pos (by rw [e1]; decide)) (rw_bad w g r b t cyc hbad)
  by_cases hal : r ≤ 2 ∧ t ≠ 0
  · have e1 : s.wErr r t = 20 := by unfold PS.wErr; rw [if_neg hbad, if_pos hal]
    exact same e1 (if_pos ⟨by omega, hal.2⟩) (if_pos (by rw [e1]; decide)) (rw_alarm w g r b t cyc (by omega) hal.1 (by have := hal.2; omega))
  have er : wRule r t = 0 := if_neg (by rintro ⟨h1, h2⟩; exact hal ⟨h1.2, h2⟩)
  by_cases hf : (r = 2 ∧ 4096 ≤ s.out.length) ∨ (r = 3 ∧ 4096 ≤ s.kept.length) ∨ (r = 4 ∧ 4096 ≤ s.log.length)
  · have e1 : s.wErr r t = 18 := by unfold PS.wErr; rw [if_neg hbad, if_neg hal, if_pos hf]
    refine same e1 er (if_pos (by rw [e1]; decide)) ?_
    rcases hf with ⟨rfl, hl⟩ | ⟨rfl, hl⟩ | ⟨rfl, hl⟩
    · obtain rfl : t = 0 := by omega
      exact rw_full2 w col c g v s b cyc hp hl
    · exact rw_full3 w col c g v s b t cyc hp hl
    · exact rw_full4 w col c g v s b t cyc hp (by rw [List.length_map]; exact hl)
  have e1 : s.wErr r t = 0 := by unfold PS.wErr; rw [if_neg hbad, if_neg hal, if_neg hf]
  have e2 : s.wrote r b t cyc = if r = 2 then { s with out := s.out ++ [b] } else if r = 3 then { s with kept := s.kept ++ [(b, t)] } else if r = 4 then { s with log := s.log ++ [(cyc, b)] } else s := if_neg (by rw [e1]; decide)
  rcases (by omega : r = 0 ∨ r = 1 ∨ r = 2 ∨ r = 3 ∨ r = 4) with rfl | rfl | rfl | rfl | rfl
  · obtain rfl : t = 0 := by omega
    exact same e1 er (by rw [e2]; rfl) (rw_quiet0 w g b cyc)
  · obtain rfl : t = 0 := by omega
    exact same e1 er (by rw [e2]; rfl) (rw_quiet1 w g b cyc)
  · obtain rfl : t = 0 := by omega
    rw [er, e1, e2]
    exact (rw_app2 w col c g v s b cyc hp (by omega)).mono fun e w' ⟨he, h⟩ => ⟨he, hp.app2 h0 h⟩
  · rw [er, e1, e2]
    exact (rw_app3 w col c g v s b t cyc hp (by omega)).mono fun e w' ⟨he, h⟩ => ⟨he, hp.app3 h0 h⟩
  · rw [er, e1, e2]
    exact (rw_app4 w col c g v s b t cyc hp (by omega)).mono fun e w' ⟨he, W1, tv, h1, h2, h3, h4⟩ => ⟨he, hp.app4 h0 h1 h2 h3 h4⟩
end Go.Proofs.Yteciicojnodibaa
