/- Ports: put at three kinds of elements; next. (printed by gen/po2.py) -/
import Derived.Test.YteciicojnodibaaPo1
import Derived.Deep.RegionWith
namespace Go.Proofs.Yteciicojnodibaa
set_option linter.unusedVariables false
set_option linter.unusedSimpArgs false
open Go.RowKit

theorem put_full_U (g j : Nat) (cs : Array Value) (v : Value) (l : List (Int)) (x : Int) (w : World) (hb : Blk w g 64 cs) (hj : cs[j]? = some v) (hr : w.ownsRow 0 5 1 v l.length (EU.row l)) (hl : 4096 ≤ l.length) :
    Calls Try.prog 32 #[.pointer (some ⟨g, j, none⟩), .int .u8 x] w fun e w' => e = .returned (.tuple #[.int .i64 0, .int .i64 18]) ∧ Below w.heap.size w w' := by
  have c0 := (hb.cell j).trans hj
  have hlt := hb.lt
  obtain ⟨a, cap, rfl, hcap⟩ := own_slice hr
  have hl' : (4096 : Int) ≤ (l.length : Int) := by omega
  go_enter Try.func32, Try.ntmps32
  go_wp2
  go_returns
  exact ⟨rfl, by repeat' (first | exact Below.refl _ _ | refine Q.alloc ?_ _)⟩
set_option maxRecDepth 100000 in
set_option maxHeartbeats 1600000 in
theorem put_ok_U (g j : Nat) (cs : Array Value) (v : Value) (l : List (Int)) (x : Int) (w : World) (hb : Blk w g 64 cs) (hj : cs[j]? = some v) (hr : w.ownsRow 0 5 1 v l.length (EU.row l)) (hl : l.length < 4096) :
    Calls Try.prog 32 #[.pointer (some ⟨g, j, none⟩), .int .u8 x] w fun e w' => e = .returned (.tuple #[.int .i64 0, .int .i64 0]) ∧ ∃ v', Blk w' g 64 (cs.setIfInBounds j v') ∧ w'.ownsRow 0 5 1 v' (l ++ [x]).length (EU.row (l ++ [x])) ∧ Chg (fun b => b = g ∨ v.ownBlock = some b) w w' ∧ (∀ b, v'.ownBlock = some b → v.ownBlock = some b ∨ w.heap.size ≤ b) := by
  have c0 := (hb.cell j).trans hj
  have hlt := hb.lt
  obtain ⟨a, cap, rfl, hcap⟩ := own_slice hr
  have hne : (Value.slice a l.length cap).ownBlock ≠ some g := own_ne hr hb (by decide)
  have hl' : (l.length : Int) < (4096 : Int) := by omega
  obtain ⟨i0, hi0, hz0, hz1, hz2⟩ := info_parts info_U
  have hjs : j < cs.size := (Array.getElem?_eq_some_iff.1 hj).1
  have HJ := Lib.hid hj
  clear hj
  go_enter Try.func32, Try.ntmps32
  go_wp2_with (at_builtin; refine wpList_append_lies _ rfl _ _ _ rfl 0 5 i0 _ 1 1 Try.underlying29 hi0 hz0 hz1 hz2 rfl (by omega) (.slice a l.length cap) l.length (EU.row l) rfl (by exact (own_keep hr (fun b _ hlt => Below.heap_alloc w _ b hlt) (by simp))) ⟨w.heap.size, 0, none⟩ 1 1 [.int .u8 x] rfl rfl (World.news_of_block (cs := #[.int .u8 x]) (t := 5) (fr := (0, 0)) (Blk.new' (by simp))) (by simp [Value.oneCell']) (by omega) (by unfold maxLen; omega) (by omega) (by simp) (w.heap.size + 1) (by simp) ?_; intro gg cap1 w1 hown1 hgrow hat hlt1; have hg1 : Blk w1 g 64 cs := (hgrow.block g (by simp; omega) (Ne.symm hne)).trans (hb.alloc _); have k0 := (hg1.cell j).trans HJ.out; have k1 := hg1.frozen j)
  all_goals
    go_returns
    have hgg : gg ≠ g := by
      rcases hat with h | h
      · exact fun e => hne (by rw [h, e])
      · omega
    refine ⟨rfl, .slice (some ⟨gg, 0, none⟩) (l.length + 1) cap1, ?_, ?_, ⟨hgrow.os, hgrow.tape, hgrow.output, ?_, ?_⟩, ?_⟩
    · rw [hg1.setCell]
      exact hg1.setRow _
    · rw [List.length_append, EU.row_append]
      exact own_keep hown1 (fun k hk _ => Below.heap_setCell _ _ _ k (by
        have : gg = k := by simpa [Value.ownBlock] using hk
        rw [← this]; exact hgg)) (by simp)
    · have := hgrow.size
      simp at this ⊢
      omega
    · intro k hk hS
      have h1 : k ≠ g := fun h => hS (.inl h)
      have h2 : some k ≠ (Value.slice a l.length cap).ownBlock := fun h => hS (.inr h.symm)
      rw [Below.heap_setCell _ _ _ k h1, hgrow.block k (by simp; omega) h2]
      exact Below.heap_alloc w _ k hk
    · intro k h
      have h : gg = k := by simpa [Value.ownBlock] using h
      subst h
      rcases hat with h | h
      · exact .inl h
      · exact .inr (by omega)
theorem put_full_B (g j : Nat) (cs : Array Value) (v : Value) (l : List (Int × Int)) (x : Int × Int) (w : World) (hb : Blk w g 64 cs) (hj : cs[j]? = some v) (hr : w.ownsRow 0 23 2 v l.length (EB.row l)) (hl : 4096 ≤ l.length) :
    Calls Try.prog 33 #[.pointer (some ⟨g, j, none⟩), .agg #[.int .u8 x.1, .int .u8 x.2]] w fun e w' => e = .returned (.tuple #[.int .i64 0, .int .i64 18]) ∧ Below w.heap.size w w' := by
  have c0 := (hb.cell j).trans hj
  have hlt := hb.lt
  obtain ⟨a, cap, rfl, hcap⟩ := own_slice hr
  have hl' : (4096 : Int) ≤ (l.length : Int) := by omega
  go_enter Try.func33, Try.ntmps33
  go_wp2
  go_returns
  exact ⟨rfl, by repeat' (first | exact Below.refl _ _ | refine Q.alloc ?_ _)⟩
set_option maxRecDepth 100000 in
set_option maxHeartbeats 1600000 in
theorem put_ok_B (g j : Nat) (cs : Array Value) (v : Value) (l : List (Int × Int)) (x : Int × Int) (w : World) (hb : Blk w g 64 cs) (hj : cs[j]? = some v) (hr : w.ownsRow 0 23 2 v l.length (EB.row l)) (hl : l.length < 4096) :
    Calls Try.prog 33 #[.pointer (some ⟨g, j, none⟩), .agg #[.int .u8 x.1, .int .u8 x.2]] w fun e w' => e = .returned (.tuple #[.int .i64 0, .int .i64 0]) ∧ ∃ v', Blk w' g 64 (cs.setIfInBounds j v') ∧ w'.ownsRow 0 23 2 v' (l ++ [x]).length (EB.row (l ++ [x])) ∧ Chg (fun b => b = g ∨ v.ownBlock = some b) w w' ∧ (∀ b, v'.ownBlock = some b → v.ownBlock = some b ∨ w.heap.size ≤ b) := by
  have c0 := (hb.cell j).trans hj
  have hlt := hb.lt
  obtain ⟨a, cap, rfl, hcap⟩ := own_slice hr
  have hne : (Value.slice a l.length cap).ownBlock ≠ some g := own_ne hr hb (by decide)
  have hl' : (l.length : Int) < (4096 : Int) := by omega
  obtain ⟨i0, hi0, hz0, hz1, hz2⟩ := info_parts info_B
  have hjs : j < cs.size := (Array.getElem?_eq_some_iff.1 hj).1
  have HJ := Lib.hid hj
  clear hj
  go_enter Try.func33, Try.ntmps33
  go_wp2
  go_region_law (refine step_append_lies _ (by rfl) _ _ _ (by rfl) 0 23 i0 _ 2 2 Try.underlying31 hi0 hz0 hz1 hz2 rfl (by omega) (.slice a l.length cap) l.length (EB.row l) (by rfl) (by exact (own_keep hr (fun b _ hlt => (Below.heap_alloc _ _ b (by simp; omega)).trans (Below.heap_alloc w _ b hlt)) (by simp; omega))) ⟨w.heap.size + 1, 0, none⟩ 1 1 [.int .u8 x.1, .int .u8 x.2] (by rfl) (by rfl) (World.news_of_block (cs := #[.int .u8 x.1, .int .u8 x.2]) (t := 23) (fr := (0, 0)) (Blk.new' (by simp))) (by simp [Value.oneCell']) (by omega) (by unfold maxLen; omega) (by omega) (by simp) (w.heap.size + 2) (by simp) ?_; intro gg cap1 w1 hown1 hgrow hat hlt1; have hg1 : Blk w1 g 64 cs := (hgrow.block g (by simp; omega) (Ne.symm hne)).trans ((hb.alloc _).alloc _); have k0 := (hg1.cell j).trans HJ.out; have k1 := hg1.frozen j)
  all_goals
    go_wp2
    go_returns
    have hgg : gg ≠ g := by
      rcases hat with h | h
      · exact fun e => hne (by rw [h, e])
      · omega
    refine ⟨rfl, .slice (some ⟨gg, 0, none⟩) (l.length + 1) cap1, ?_, ?_, ⟨hgrow.os, hgrow.tape, hgrow.output, ?_, ?_⟩, ?_⟩
    · rw [hg1.setCell]
      exact hg1.setRow _
    · rw [List.length_append, EB.row_append]
      exact own_keep hown1 (fun k hk _ => Below.heap_setCell _ _ _ k (by
        have : gg = k := by simpa [Value.ownBlock] using hk
        rw [← this]; exact hgg)) (by simp)
    · have := hgrow.size
      simp at this ⊢
      omega
    · intro k hk hS
      have h1 : k ≠ g := fun h => hS (.inl h)
      have h2 : some k ≠ (Value.slice a l.length cap).ownBlock := fun h => hS (.inr h.symm)
      rw [Below.heap_setCell _ _ _ k h1, hgrow.block k (by simp; omega) h2]
      exact (Below.heap_alloc _ _ k (by simp; omega)).trans (Below.heap_alloc w _ k hk)
    · intro k h
      have h : gg = k := by simpa [Value.ownBlock] using h
      subst h
      rcases hat with h | h
      · exact .inl h
      · exact .inr (by omega)
theorem put_full_E (g j : Nat) (cs : Array Value) (v : Value) (l : List (Int × Int)) (x : Int × Int) (w : World) (hb : Blk w g 64 cs) (hj : cs[j]? = some v) (hr : w.ownsRow 0 58 2 v l.length (EE.row l)) (hl : 4096 ≤ l.length) :
    Calls Try.prog 34 #[.pointer (some ⟨g, j, none⟩), .agg #[.int .i64 x.1, .int .u8 x.2]] w fun e w' => e = .returned (.tuple #[.int .i64 0, .int .i64 18]) ∧ Below w.heap.size w w' := by
  have c0 := (hb.cell j).trans hj
  have hlt := hb.lt
  obtain ⟨a, cap, rfl, hcap⟩ := own_slice hr
  have hl' : (4096 : Int) ≤ (l.length : Int) := by omega
  go_enter Try.func34, Try.ntmps34
  go_wp2
  go_returns
  exact ⟨rfl, by repeat' (first | exact Below.refl _ _ | refine Q.alloc ?_ _)⟩
set_option maxRecDepth 100000 in
set_option maxHeartbeats 1600000 in
theorem put_ok_E (g j : Nat) (cs : Array Value) (v : Value) (l : List (Int × Int)) (x : Int × Int) (w : World) (hb : Blk w g 64 cs) (hj : cs[j]? = some v) (hr : w.ownsRow 0 58 2 v l.length (EE.row l)) (hl : l.length < 4096) :
    Calls Try.prog 34 #[.pointer (some ⟨g, j, none⟩), .agg #[.int .i64 x.1, .int .u8 x.2]] w fun e w' => e = .returned (.tuple #[.int .i64 0, .int .i64 0]) ∧ ∃ v', Blk w' g 64 (cs.setIfInBounds j v') ∧ w'.ownsRow 0 58 2 v' (l ++ [x]).length (EE.row (l ++ [x])) ∧ Chg (fun b => b = g ∨ v.ownBlock = some b) w w' ∧ (∀ b, v'.ownBlock = some b → v.ownBlock = some b ∨ w.heap.size ≤ b) := by
  have c0 := (hb.cell j).trans hj
  have hlt := hb.lt
  obtain ⟨a, cap, rfl, hcap⟩ := own_slice hr
  have hne : (Value.slice a l.length cap).ownBlock ≠ some g := own_ne hr hb (by decide)
  have hl' : (l.length : Int) < (4096 : Int) := by omega
  obtain ⟨i0, hi0, hz0, hz1, hz2⟩ := info_parts info_E
  have hjs : j < cs.size := (Array.getElem?_eq_some_iff.1 hj).1
  have HJ := Lib.hid hj
  clear hj
  go_enter Try.func34, Try.ntmps34
  go_wp2
  go_region_law (refine step_append_lies _ (by rfl) _ _ _ (by rfl) 0 58 i0 _ 2 16 Try.underlying55 hi0 hz0 hz1 hz2 rfl (by omega) (.slice a l.length cap) l.length (EE.row l) (by rfl) (by exact (own_keep hr (fun b _ hlt => (Below.heap_alloc _ _ b (by simp; omega)).trans (Below.heap_alloc w _ b hlt)) (by simp; omega))) ⟨w.heap.size + 1, 0, none⟩ 1 1 [.int .i64 x.1, .int .u8 x.2] (by rfl) (by rfl) (World.news_of_block (cs := #[.int .i64 x.1, .int .u8 x.2]) (t := 58) (fr := (0, 0)) (Blk.new' (by simp))) (by simp [Value.oneCell']) (by omega) (by unfold maxLen; omega) (by omega) (by simp) (w.heap.size + 2) (by simp) ?_; intro gg cap1 w1 hown1 hgrow hat hlt1; have hg1 : Blk w1 g 64 cs := (hgrow.block g (by simp; omega) (Ne.symm hne)).trans ((hb.alloc _).alloc _); have k0 := (hg1.cell j).trans HJ.out; have k1 := hg1.frozen j)
  all_goals
    go_wp2
    go_returns
    have hgg : gg ≠ g := by
      rcases hat with h | h
      · exact fun e => hne (by rw [h, e])
      · omega
    refine ⟨rfl, .slice (some ⟨gg, 0, none⟩) (l.length + 1) cap1, ?_, ?_, ⟨hgrow.os, hgrow.tape, hgrow.output, ?_, ?_⟩, ?_⟩
    · rw [hg1.setCell]
      exact hg1.setRow _
    · rw [List.length_append, EE.row_append]
      exact own_keep hown1 (fun k hk _ => Below.heap_setCell _ _ _ k (by
        have : gg = k := by simpa [Value.ownBlock] using hk
        rw [← this]; exact hgg)) (by simp)
    · have := hgrow.size
      simp at this ⊢
      omega
    · intro k hk hS
      have h1 : k ≠ g := fun h => hS (.inl h)
      have h2 : some k ≠ (Value.slice a l.length cap).ownBlock := fun h => hS (.inr h.symm)
      rw [Below.heap_setCell _ _ _ k h1, hgrow.block k (by simp; omega) h2]
      exact (Below.heap_alloc _ _ k (by simp; omega)).trans (Below.heap_alloc w _ k hk)
    · intro k h
      have h : gg = k := by simpa [Value.ownBlock] using h
      subst h
      rcases hat with h | h
      · exact .inl h
      · exact .inr (by omega)

set_option maxHeartbeats 1600000 in
theorem next_none (g j : Nat) (cs : Array Value) (v : Value) (R : Nat → Prop) (w : World) (hb : Blk w g 64 cs) (hj : cs[j]? = some v) (hr : Rd EU w R v []) :
    Calls Try.prog 28 #[.pointer (some ⟨g, j, none⟩)] w fun e w' => e = .returned (.int .u8 0) ∧ w' = w := by
  have c0 := (hb.cell j).trans hj
  obtain ⟨a, cap, rfl, hcap, -⟩ := hr
  go_enter Try.func28, Try.ntmps28
  go_wp2
  go_returns
  exact ⟨rfl, rfl⟩
set_option maxHeartbeats 1600000 in
theorem next_some (g j : Nat) (cs : Array Value) (v : Value) (R : Nat → Prop) (x : Int) (l : List Int) (w : World) (hb : Blk w g 64 cs) (hj : cs[j]? = some v) (hl : l.length ≤ 70000) (hr : Rd EU w R v (x :: l)) :
    Calls Try.prog 28 #[.pointer (some ⟨g, j, none⟩)] w fun e w' => e = .returned (.int .u8 x) ∧ ∃ v', Rd EU w R v' l ∧ w' = (w.setRow g (cs.setIfInBounds j v')).drew := by
  have c0 := (hb.cell j).trans hj
  have f0 := hb.frozen j
  have hr' := hr
  obtain ⟨a, cap, rfl, -⟩ := hr
  obtain ⟨b, off, rfl, hm, hcap, hlb, -, hx, hrest⟩ := hr'.cut
  have d0 := hx 0 _ rfl
  rw [Nat.add_zero] at d0
  have hcap' : (((x :: l).length : Nat) : Int) ≤ (cap : Int) := by omega
  have HB := Lib.hid hb
  have HRest := Lib.hid hrest
  have hln : (1 : Int) ≤ (((x :: l).length : Nat) : Int) := by simp only [List.length_cons]; omega
  have hl0 : (0 : Int) < (((x :: l).length : Nat) : Int) := by simp
  have HL := Lib.hid (show (x :: l).length - 1 = l.length by simp)
  generalize (x :: l).length = m at *
  clear hb hx hrest hr' hm hcap
  go_enter Try.func28, Try.ntmps28
  go_wp2
  go_region_with (fail)
  all_goals
    generalize (if cap = 1 then some (⟨b, off, none⟩ : Addr) else some ⟨b, off + 1, none⟩) = A at *
    go_wp2
    go_returns
    rw [HL.out]
    exact ⟨rfl, _, HRest.out, by rw [HB.out.setCell]⟩
end Go.Proofs.Yteciicojnodibaa
