/- The walk of does: one call of both memories, in either order. -/
import Derived.Test.YtjjebkgljgfecaaDoorRef5
namespace Go.Proofs.YtjjebkgljgfecaaDoor
set_option linter.unusedVariables false
set_option linter.unusedSimpArgs false
open Go.RowKit

/-- The blocks that a call may turn. -/
def BothF (g x : Nat) (sv : Value) : Nat → Prop := fun b => b = g ∨ RefF x sv b

theorem refLoad_calls (B g : Nat) (sv : Value) (l : List PD) (x : Int) (a : Option Addr) (ca : Nat) (bs : List Int) (w : World) (hr : IsRef w B g sv l) (hB : B ≤ w.heap.size) (hl : l.length + bs.length ≤ 1000000)
    (hrb : ReadsU w B a bs.length bs) :
    Calls Tryd.prog 28 #[.pointer (some ⟨g, 0, none⟩), .int .i64 x, .slice a bs.length ca] w fun e w' => e = .returned (.int .i64 (refLoadErr x bs.length)) ∧ ∃ sv', IsRef w' B g sv' (if refLoadErr x bs.length = 0 then refLoaded l x bs bs.length else l) ∧ Chg (RefF g sv) w w' ∧ (∀ b, RefF g sv' b → RefF g sv b ∨ w.heap.size ≤ b) := by
  by_cases h : refLoadErr x bs.length = 0
  · rw [if_pos h, h]
    exact refLoad_ok B g sv l x a ca bs w hr hB hl hrb h
  · have h2 : refLoadErr x bs.length = 10 := by
      unfold refLoadErr at h ⊢
      split at h
      · rename_i hc; rw [if_pos hc]
      · exact absurd rfl h
    rw [if_neg h, h2]
    exact (refLoad_bad g x a bs.length ca (by omega) w h2).mono fun e w' ⟨he, hw⟩ => ⟨he, sv, by rw [hw]; exact hr, by rw [hw]; exact .refl _ _, fun b h => .inl h⟩
theorem refLabel_calls (B g : Nat) (sv : Value) (l : List PD) (x y t : Int) (w : World) (hr : IsRef w B g sv l) (hB : B ≤ w.heap.size) (hl : refLabelErr x y = 0 → (l.length : Int) + (y - x) ≤ 900000) :
    Calls Tryd.prog 29 #[.pointer (some ⟨g, 0, none⟩), .int .i64 x, .int .i64 y, .int .u8 t] w fun e w' => e = .returned (.int .i64 (refLabelErr x y)) ∧ ∃ sv', IsRef w' B g sv' (if refLabelErr x y = 0 then refLabelled l x t (y - x + 1).toNat else l) ∧ Chg (RefF g sv) w w' ∧ (∀ b, RefF g sv' b → RefF g sv b ∨ w.heap.size ≤ b) := by
  by_cases h : refLabelErr x y = 0
  · rw [if_pos h, h]
    exact refLabel_ok B g sv l x y t w hr hB (hl h) h
  · have h2 : refLabelErr x y = 10 := by
      unfold refLabelErr at h ⊢
      split at h
      · rename_i hc; rw [if_pos hc]
      · exact absurd rfl h
    rw [if_neg h, h2]
    exact (refLabel_bad g x y t w h2).mono fun e w' ⟨he, hw⟩ => ⟨he, sv, by rw [hw]; exact hr, by rw [hw]; exact .refl _ _, fun b h => .inl h⟩

set_option maxRecDepth 100000 in
set_option maxHeartbeats 3200000 in
theorem does0 (B g x : Nat) (sv : Value) (f f' : Nat → Int × Int) (l l' : List PD) (at_ to v t c : Int) (a : Option Addr) (n ca : Nat) (w : World) (hm : Mem w g f) (hx : IsRef w B x sv l) (hgB : B ≤ g) (hgx : ¬ RefF x sv g)
    (CM : ∀ V, Below B w V → Mem V g f → Calls Tryd.prog 17 #[.pointer (some ⟨g, 0, none⟩), .int .i64 at_, .slice a n ca] V fun e w' => e = .returned (.int .i64 c) ∧ Mem w' g f' ∧ Chg (· = g) V w')
    (CX : ∀ V, Below B w V → IsRef V B x sv l → Calls Tryd.prog 28 #[.pointer (some ⟨x, 0, none⟩), .int .i64 at_, .slice a n ca] V fun e w' => e = .returned (.int .i64 c) ∧ ∃ sv', IsRef w' B x sv' l' ∧ Chg (RefF x sv) V w' ∧ (∀ b, RefF x sv' b → RefF x sv b ∨ V.heap.size ≤ b)) :
    Calls Tryd.prog 15 #[.pointer (some ⟨g, 0, none⟩), .pointer (some ⟨x, 0, none⟩), .agg #[.int .i64 0, .int .i64 at_, .int .i64 to, .int .u8 v, .int .u8 t, .slice a n ca]] w fun e w' => e = .returned (.bool true) ∧ ∃ sv', Mem w' g f' ∧ IsRef w' B x sv' l' ∧ Chg (BothF g x sv) w w' ∧ (∀ b, RefF x sv' b → RefF x sv b ∨ w.heap.size ≤ b) := by
  have hglt := hm.lt
  have hxlt : ∀ b, RefF x sv b → b < w.heap.size ∧ B ≤ b := fun b hb => hx.lt hb
  have HXL := Lib.hid hxlt
  clear hxlt
  go_enter Tryd.func15, Tryd.ntmps15
  go_wp2
  obtain ⟨W, hW⟩ : ∃ W, W = w.alloc (.cells #[.int .i64 0, .int .i64 at_, .int .i64 to, .int .u8 v, .int .u8 t, .slice a n ca] 43) := ⟨_, rfl⟩
  rw [← hW]
  have hBW : Below w.heap.size w W := by rw [hW]; exact Q.alloc (Below.refl _ _) _
  have k5 : Blk W w.heap.size 43 #[.int .i64 0, .int .i64 at_, .int .i64 to, .int .u8 v, .int .u8 t, .slice a n ca] := by rw [hW]; exact Blk.new _ _ _
  have hmD : Mem W.drew g f := (hm.call hBW).call (Q.drew (Below.refl _ _))
  have hxD : IsRef W.drew B x sv l := (hx.call hBW).call (Q.drew (Below.refl _ _))
  have hcD : Chg (BothF g x sv) W W.drew := .of (Q.drew (Below.refl _ _))
  have hbD : Below B w W.drew := (Q.drew hBW).mono (by omega)
  have h5 : ∀ b, BothF g x sv b → b ≠ w.heap.size := fun b hb => by
    rcases hb with rfl | hb
    · omega
    · have := (HXL.out b hb).1; omega
  have ST : ∀ w' : World, Chg (BothF g x sv) W w' → ((fun w' : World => w'.cell? ⟨w.heap.size, 1, none⟩ = some (.int .i64 at_) ∧ w'.cell? ⟨w.heap.size, 2, none⟩ = some (.int .i64 to) ∧ w'.cell? ⟨w.heap.size, 3, none⟩ = some (.int .u8 v) ∧ w'.cell? ⟨w.heap.size, 4, none⟩ = some (.int .u8 t) ∧ w'.cell? ⟨w.heap.size, 5, none⟩ = some (.slice a n ca) ∧ Chg (BothF g x sv) W w') w') :=
    fun w' h => by
      have k := k5.chg h (fun hb => h5 _ hb rfl)
      exact ⟨k.cell 1, k.cell 2, k.cell 3, k.cell 4, k.cell 5, h⟩
  have HD := Lib.hid hcD
  clear hW
  go_region_held3 (fun w' : World => w'.cell? ⟨w.heap.size, 1, none⟩ = some (.int .i64 at_) ∧ w'.cell? ⟨w.heap.size, 2, none⟩ = some (.int .i64 to) ∧ w'.cell? ⟨w.heap.size, 3, none⟩ = some (.int .u8 v) ∧ w'.cell? ⟨w.heap.size, 4, none⟩ = some (.int .u8 t) ∧ w'.cell? ⟨w.heap.size, 5, none⟩ = some (.slice a n ca) ∧ Chg (BothF g x sv) W w')
    (exact ST _ (by assumption))
    (first
      | (go_at_call 17; (with_reducible refine (CM _ hbD hmD).mono ?_); rintro e w1 ⟨rfl, hm1, hc1⟩; have hC1 : Chg (BothF g x sv) W w1 := HD.out.trans (hc1.mono (fun b hb => .inl hb)); have hx1 : IsRef w1 B x sv l := hxD.chg hc1 (fun b hb e => hgx (e ▸ hb)); have hb1 : Below B w w1 := hc1.below hbD (by have := hbD.size; omega) (fun b hb => by omega))
      | (go_at_call 28; (with_reducible refine (CX _ hb1 hx1).mono ?_); rintro e w2 ⟨rfl, sv', hx2, hc2, hf2⟩; have hC2 : Chg (BothF g x sv) W w2 := hC1.trans (hc2.mono (fun b hb => .inr hb)); have hm2 : Mem w2 g f' := hm1.chg hc2 hgx))
  go_wp2
  go_returns
  refine ⟨rfl, sv', hm2, hx2, ⟨hC2.os.trans hBW.os, hC2.tape.trans hBW.tape, hC2.output.trans hBW.output, Nat.le_trans hBW.size hC2.size, fun b hb hS => (hC2.block b (Nat.lt_of_lt_of_le hb hBW.size) hS).trans (hBW.block b hb)⟩, fun b hb => ?_⟩
  rcases hf2 b hb with h | h
  · exact .inl h
  · exact .inr (Nat.le_trans (Nat.le_trans hBW.size hC1.size) h)

set_option maxRecDepth 100000 in
set_option maxHeartbeats 3200000 in
theorem does1 (B g x : Nat) (sv : Value) (f f' : Nat → Int × Int) (l l' : List PD) (at_ to v t c : Int) (a : Option Addr) (n ca : Nat) (w : World) (hm : Mem w g f) (hx : IsRef w B x sv l) (hgB : B ≤ g) (hgx : ¬ RefF x sv g)
    (CM : ∀ V, Below B w V → Mem V g f → Calls Tryd.prog 18 #[.pointer (some ⟨g, 0, none⟩), .int .i64 at_, .int .i64 to, .int .u8 t] V fun e w' => e = .returned (.int .i64 c) ∧ Mem w' g f' ∧ Chg (· = g) V w')
    (CX : ∀ V, Below B w V → IsRef V B x sv l → Calls Tryd.prog 29 #[.pointer (some ⟨x, 0, none⟩), .int .i64 at_, .int .i64 to, .int .u8 t] V fun e w' => e = .returned (.int .i64 c) ∧ ∃ sv', IsRef w' B x sv' l' ∧ Chg (RefF x sv) V w' ∧ (∀ b, RefF x sv' b → RefF x sv b ∨ V.heap.size ≤ b)) :
    Calls Tryd.prog 15 #[.pointer (some ⟨g, 0, none⟩), .pointer (some ⟨x, 0, none⟩), .agg #[.int .i64 1, .int .i64 at_, .int .i64 to, .int .u8 v, .int .u8 t, .slice a n ca]] w fun e w' => e = .returned (.bool true) ∧ ∃ sv', Mem w' g f' ∧ IsRef w' B x sv' l' ∧ Chg (BothF g x sv) w w' ∧ (∀ b, RefF x sv' b → RefF x sv b ∨ w.heap.size ≤ b) := by
  have hglt := hm.lt
  have hxlt : ∀ b, RefF x sv b → b < w.heap.size ∧ B ≤ b := fun b hb => hx.lt hb
  have HXL := Lib.hid hxlt
  clear hxlt
  go_enter Tryd.func15, Tryd.ntmps15
  go_wp2
  obtain ⟨W, hW⟩ : ∃ W, W = w.alloc (.cells #[.int .i64 1, .int .i64 at_, .int .i64 to, .int .u8 v, .int .u8 t, .slice a n ca] 43) := ⟨_, rfl⟩
  rw [← hW]
  have hBW : Below w.heap.size w W := by rw [hW]; exact Q.alloc (Below.refl _ _) _
  have k5 : Blk W w.heap.size 43 #[.int .i64 1, .int .i64 at_, .int .i64 to, .int .u8 v, .int .u8 t, .slice a n ca] := by rw [hW]; exact Blk.new _ _ _
  have hmD : Mem W.drew g f := (hm.call hBW).call (Q.drew (Below.refl _ _))
  have hxD : IsRef W.drew B x sv l := (hx.call hBW).call (Q.drew (Below.refl _ _))
  have hcD : Chg (BothF g x sv) W W.drew := .of (Q.drew (Below.refl _ _))
  have hbD : Below B w W.drew := (Q.drew hBW).mono (by omega)
  have h5 : ∀ b, BothF g x sv b → b ≠ w.heap.size := fun b hb => by
    rcases hb with rfl | hb
    · omega
    · have := (HXL.out b hb).1; omega
  have ST : ∀ w' : World, Chg (BothF g x sv) W w' → ((fun w' : World => w'.cell? ⟨w.heap.size, 1, none⟩ = some (.int .i64 at_) ∧ w'.cell? ⟨w.heap.size, 2, none⟩ = some (.int .i64 to) ∧ w'.cell? ⟨w.heap.size, 3, none⟩ = some (.int .u8 v) ∧ w'.cell? ⟨w.heap.size, 4, none⟩ = some (.int .u8 t) ∧ w'.cell? ⟨w.heap.size, 5, none⟩ = some (.slice a n ca) ∧ Chg (BothF g x sv) W w') w') :=
    fun w' h => by
      have k := k5.chg h (fun hb => h5 _ hb rfl)
      exact ⟨k.cell 1, k.cell 2, k.cell 3, k.cell 4, k.cell 5, h⟩
  have HD := Lib.hid hcD
  clear hW
  go_region_held3 (fun w' : World => w'.cell? ⟨w.heap.size, 1, none⟩ = some (.int .i64 at_) ∧ w'.cell? ⟨w.heap.size, 2, none⟩ = some (.int .i64 to) ∧ w'.cell? ⟨w.heap.size, 3, none⟩ = some (.int .u8 v) ∧ w'.cell? ⟨w.heap.size, 4, none⟩ = some (.int .u8 t) ∧ w'.cell? ⟨w.heap.size, 5, none⟩ = some (.slice a n ca) ∧ Chg (BothF g x sv) W w')
    (exact ST _ (by assumption))
    (first
      | (go_at_call 18; (with_reducible refine (CM _ hbD hmD).mono ?_); rintro e w1 ⟨rfl, hm1, hc1⟩; have hC1 : Chg (BothF g x sv) W w1 := HD.out.trans (hc1.mono (fun b hb => .inl hb)); have hx1 : IsRef w1 B x sv l := hxD.chg hc1 (fun b hb e => hgx (e ▸ hb)); have hb1 : Below B w w1 := hc1.below hbD (by have := hbD.size; omega) (fun b hb => by omega))
      | (go_at_call 29; (with_reducible refine (CX _ hb1 hx1).mono ?_); rintro e w2 ⟨rfl, sv', hx2, hc2, hf2⟩; have hC2 : Chg (BothF g x sv) W w2 := hC1.trans (hc2.mono (fun b hb => .inr hb)); have hm2 : Mem w2 g f' := hm1.chg hc2 hgx))
  go_wp2
  go_returns
  refine ⟨rfl, sv', hm2, hx2, ⟨hC2.os.trans hBW.os, hC2.tape.trans hBW.tape, hC2.output.trans hBW.output, Nat.le_trans hBW.size hC2.size, fun b hb hS => (hC2.block b (Nat.lt_of_lt_of_le hb hBW.size) hS).trans (hBW.block b hb)⟩, fun b hb => ?_⟩
  rcases hf2 b hb with h | h
  · exact .inl h
  · exact .inr (Nat.le_trans (Nat.le_trans hBW.size hC1.size) h)

set_option maxRecDepth 100000 in
set_option maxHeartbeats 3200000 in
theorem does2 (B g x : Nat) (sv : Value) (f f' : Nat → Int × Int) (l l' : List PD) (at_ to v t c : Int) (a : Option Addr) (n ca : Nat) (w : World) (hm : Mem w g f) (hx : IsRef w B x sv l) (hgB : B ≤ g) (hgx : ¬ RefF x sv g)
    (CM : ∀ V, Below B w V → Mem V g f → Calls Tryd.prog 9 #[.pointer (some ⟨g, 0, none⟩), .int .i64 at_, .agg #[.int .u8 v, .int .u8 t]] V fun e w' => e = .returned (.int .i64 c) ∧ Mem w' g f' ∧ Chg (· = g) V w')
    (CX : ∀ V, Below B w V → IsRef V B x sv l → Calls Tryd.prog 30 #[.pointer (some ⟨x, 0, none⟩), .int .i64 at_, .agg #[.int .u8 v, .int .u8 t]] V fun e w' => e = .returned (.int .i64 c) ∧ ∃ sv', IsRef w' B x sv' l' ∧ Chg (RefF x sv) V w' ∧ (∀ b, RefF x sv' b → RefF x sv b ∨ V.heap.size ≤ b)) :
    Calls Tryd.prog 15 #[.pointer (some ⟨g, 0, none⟩), .pointer (some ⟨x, 0, none⟩), .agg #[.int .i64 2, .int .i64 at_, .int .i64 to, .int .u8 v, .int .u8 t, .slice a n ca]] w fun e w' => e = .returned (.bool true) ∧ ∃ sv', Mem w' g f' ∧ IsRef w' B x sv' l' ∧ Chg (BothF g x sv) w w' ∧ (∀ b, RefF x sv' b → RefF x sv b ∨ w.heap.size ≤ b) := by
  have hglt := hm.lt
  have hxlt : ∀ b, RefF x sv b → b < w.heap.size ∧ B ≤ b := fun b hb => hx.lt hb
  have HXL := Lib.hid hxlt
  clear hxlt
  go_enter Tryd.func15, Tryd.ntmps15
  go_wp2
  obtain ⟨W, hW⟩ : ∃ W, W = w.alloc (.cells #[.int .i64 2, .int .i64 at_, .int .i64 to, .int .u8 v, .int .u8 t, .slice a n ca] 43) := ⟨_, rfl⟩
  rw [← hW]
  have hBW : Below w.heap.size w W := by rw [hW]; exact Q.alloc (Below.refl _ _) _
  have k5 : Blk W w.heap.size 43 #[.int .i64 2, .int .i64 at_, .int .i64 to, .int .u8 v, .int .u8 t, .slice a n ca] := by rw [hW]; exact Blk.new _ _ _
  have hmD : Mem W.drew g f := (hm.call hBW).call (Q.drew (Below.refl _ _))
  have hxD : IsRef W.drew B x sv l := (hx.call hBW).call (Q.drew (Below.refl _ _))
  have hcD : Chg (BothF g x sv) W W.drew := .of (Q.drew (Below.refl _ _))
  have hbD : Below B w W.drew := (Q.drew hBW).mono (by omega)
  have h5 : ∀ b, BothF g x sv b → b ≠ w.heap.size := fun b hb => by
    rcases hb with rfl | hb
    · omega
    · have := (HXL.out b hb).1; omega
  have ST : ∀ w' : World, Chg (BothF g x sv) W w' → ((fun w' : World => w'.cell? ⟨w.heap.size, 1, none⟩ = some (.int .i64 at_) ∧ w'.cell? ⟨w.heap.size, 2, none⟩ = some (.int .i64 to) ∧ w'.cell? ⟨w.heap.size, 3, none⟩ = some (.int .u8 v) ∧ w'.cell? ⟨w.heap.size, 4, none⟩ = some (.int .u8 t) ∧ w'.cell? ⟨w.heap.size, 5, none⟩ = some (.slice a n ca) ∧ Chg (BothF g x sv) W w') w') :=
    fun w' h => by
      have k := k5.chg h (fun hb => h5 _ hb rfl)
      exact ⟨k.cell 1, k.cell 2, k.cell 3, k.cell 4, k.cell 5, h⟩
  have HD := Lib.hid hcD
  clear hW
  go_region_held3 (fun w' : World => w'.cell? ⟨w.heap.size, 1, none⟩ = some (.int .i64 at_) ∧ w'.cell? ⟨w.heap.size, 2, none⟩ = some (.int .i64 to) ∧ w'.cell? ⟨w.heap.size, 3, none⟩ = some (.int .u8 v) ∧ w'.cell? ⟨w.heap.size, 4, none⟩ = some (.int .u8 t) ∧ w'.cell? ⟨w.heap.size, 5, none⟩ = some (.slice a n ca) ∧ Chg (BothF g x sv) W w')
    (exact ST _ (by assumption))
    (first
      | (go_at_call 9; (with_reducible refine (CM _ hbD hmD).mono ?_); rintro e w1 ⟨rfl, hm1, hc1⟩; have hC1 : Chg (BothF g x sv) W w1 := HD.out.trans (hc1.mono (fun b hb => .inl hb)); have hx1 : IsRef w1 B x sv l := hxD.chg hc1 (fun b hb e => hgx (e ▸ hb)); have hb1 : Below B w w1 := hc1.below hbD (by have := hbD.size; omega) (fun b hb => by omega))
      | (go_at_call 30; (with_reducible refine (CX _ hb1 hx1).mono ?_); rintro e w2 ⟨rfl, sv', hx2, hc2, hf2⟩; have hC2 : Chg (BothF g x sv) W w2 := hC1.trans (hc2.mono (fun b hb => .inr hb)); have hm2 : Mem w2 g f' := hm1.chg hc2 hgx))
  go_wp2
  go_returns
  refine ⟨rfl, sv', hm2, hx2, ⟨hC2.os.trans hBW.os, hC2.tape.trans hBW.tape, hC2.output.trans hBW.output, Nat.le_trans hBW.size hC2.size, fun b hb hS => (hC2.block b (Nat.lt_of_lt_of_le hb hBW.size) hS).trans (hBW.block b hb)⟩, fun b hb => ?_⟩
  rcases hf2 b hb with h | h
  · exact .inl h
  · exact .inr (Nat.le_trans (Nat.le_trans hBW.size hC1.size) h)
end Go.Proofs.YtjjebkgljgfecaaDoor
