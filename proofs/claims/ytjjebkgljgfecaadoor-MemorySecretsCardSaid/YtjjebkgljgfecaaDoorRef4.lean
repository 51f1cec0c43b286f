/- The walk of the document's Label, and of its refusals; Write whole. -/
import Derived.Test.YtjjebkgljgfecaaDoorRef3
namespace Go.Proofs.YtjjebkgljgfecaaDoor
set_option linter.unusedVariables false
set_option linter.unusedSimpArgs false
open Go.RowKit

theorem field_vi (a b : Int) (w : World) : (Instr.field 24 (.agg #[.int .u8 a, .int .u8 b]) 0).run Tryd.prog w = .ok (.int .u8 a) w := by
  simp [Instr.field, asAgg, run_underlying Tryd.underlying24, go_sem]
attribute [local go_sem] field_vi

/-- The puts behind k addresses of a label. -/
def refLabelled (l : List PD) (x t : Int) : Nat → List PD
  | 0 => l
  | k + 1 => refLabelled l x t k ++ [⟨x + k, (refAt (refLabelled l x t k) (x + k)).1, t⟩]
theorem refLabelled_length (l : List PD) (x t : Int) : ∀ k, (refLabelled l x t k).length = l.length + k
  | 0 => rfl
  | k + 1 => by rw [refLabelled, List.length_append, refLabelled_length l x t k]; rfl
def refLabelErr (x y : Int) : Int := if y < x ∨ isOne x y = false then 10 else 0

set_option maxHeartbeats 1600000 in
theorem refLabel_bad (g : Nat) (x y t : Int) (w : World) (h : refLabelErr x y = 10) :
    Calls Tryd.prog 29 #[.pointer (some ⟨g, 0, none⟩), .int .i64 x, .int .i64 y, .int .u8 t] w fun e w' => e = .returned (.int .i64 10) ∧ w' = w := by
  by_cases h0 : y < x
  · go_enter Tryd.func29, Tryd.ntmps29
    go_wp2
    go_returns
    exact ⟨rfl, rfl⟩
  · have A3 := fun w => isOne_calls x y w
    rw [show isOne x y = false by
      unfold refLabelErr at h
      cases ho : isOne x y
      · rfl
      · rw [if_neg (by rintro (h | h); exact h0 h; rw [ho] at h; cases h)] at h; exact absurd h (by decide)] at A3
    clear h
    go_enter Tryd.func29, Tryd.ntmps29
    go_wp2_with (go_at_call 27; (with_reducible refine (A3 _).mono ?_); rintro e w1 ⟨rfl, hw⟩; obtain rfl := hw.symm)
    go_returns
    exact ⟨rfl, rfl⟩

set_option maxRecDepth 100000 in
set_option maxHeartbeats 3200000 in
theorem refLabel_ok (B g : Nat) (sv : Value) (l : List PD) (x y t : Int) (w : World) (hr : IsRef w B g sv l) (hB : B ≤ w.heap.size) (hl : (l.length : Int) + (y - x) ≤ 900000) (h : refLabelErr x y = 0) :
    Calls Tryd.prog 29 #[.pointer (some ⟨g, 0, none⟩), .int .i64 x, .int .i64 y, .int .u8 t] w fun e w' => e = .returned (.int .i64 0) ∧ ∃ sv', IsRef w' B g sv' (refLabelled l x t (y - x + 1).toNat) ∧ Chg (RefF g sv) w w' ∧ (∀ b, RefF g sv' b → RefF g sv b ∨ w.heap.size ≤ b) := by
  have h1 : x ≤ y ∧ isOne x y = true := by
    unfold refLabelErr at h
    by_cases hc : y < x ∨ isOne x y = false
    · rw [if_pos hc] at h; exact absurd h (by decide)
    · refine ⟨by omega, ?_⟩
      cases ho : isOne x y
      · exact absurd (.inr ho) hc
      · rfl
  have hb := one_ok h1.2
  have hx0 : 0 ≤ x := by omega
  have hy1 : y < 65536 := by omega
  have hxy : x ≤ y := h1.1
  have A3 := fun w => isOne_calls x y w
  rw [h1.2] at A3
  clear h h1 hb
  have HR := Lib.hid hr
  clear hr
  obtain ⟨i0, hi0, hz0, hz1, hz2⟩ := info_parts put_info
  go_enter Tryd.func29, Tryd.ntmps29
  go_wp2_with (go_at_call 27; (with_reducible refine (A3 _).mono ?_); rintro e w1 ⟨rfl, hw⟩; obtain rfl := hw.symm)
  clear A3
  go_loopw [9] (fun v wr => ∃ (k : Nat) (sk : Value), v = .int .i64 (x + (k : Int)) ∧ (k : Int) ≤ y - x + 1 ∧ IsRef wr B g sk (refLabelled l x t k) ∧ Chg (RefF g sv) w wr ∧ (∀ b, RefF g sk b → RefF g sv b ∨ w.heap.size ≤ b))
    (fun v _ => (y - intOf v + 1).toNat)
  case atStart => exact ⟨0, sv, by simp, by omega, HR.out, Chg.refl _ _, fun b hb => .inl hb⟩
  case round =>
    obtain ⟨k, sk, rfl, hk, hrec, hch, hfp⟩ := hrel
    have HF := Lib.hid hfp
    have HC := Lib.hid hch
    clear hch hfp
    by_cases hkn : x + (k : Int) ≤ y
    · have hlen : (refLabelled l x t k).length + 1 ≤ 1000000 := by have := refLabelled_length l x t k; omega
      have CA := fun W h => refAt_calls B g sk (refLabelled l x t k) (x + k) W h (by omega)
      have HBs := hrec.own
      obtain ⟨a', cap, rfl, hcap, hrd⟩ := hrec.reads
      clear hrd HBs
      have c0 := hrec.blk.cell 0
      have f0 := hrec.blk.frozen 0
      have hlt := hrec.blk.lt
      have hB2 : B ≤ wr.heap.size := Nat.le_trans hB HC.out.size
      go_wp2
      go_region_law (first
        | (refine step_append_lies _ (by rfl) _ _ _ (by rfl) B 45 i0 _ 3 16 Tryd.underlying37 hi0 hz0 hz1 hz2 rfl (by omega) (.slice a' (refLabelled l x t k).length cap) (refLabelled l x t k).length (puts (refLabelled l x t k)) (by rfl) (by exact hrec5.own.alloc _) ⟨w5.heap.size, 0, none⟩ 1 1 [.int .i64 (x + k), .int .u8 (refAt (refLabelled l x t k) (x + k)).1, .int .u8 t] (by rfl) (by rfl) (World.news_of_block (cs := #[.int .i64 (x + k), .int .u8 (refAt (refLabelled l x t k) (x + k)).1, .int .u8 t]) (t := 45) (fr := (0, 0)) (Blk.new' (by rfl))) (by simp [Value.oneCell']) (by omega) (by unfold maxLen; omega) (by omega) (by simp; omega) (w5.heap.size + 1) (by simp) ?_; intro gg cap1 w1 hown1 hgrow hat hlt1; have hg1 : Blk w1 g 39 #[.slice a' (refLabelled l x t k).length cap] := (hgrow.block g (by have := hrec5.blk.lt; simp; omega) (Ne.symm hrec.ne)).trans (hrec5.blk.alloc _); have k0 := hg1.cell 0; have k1 := hg1.frozen 0)
        | (go_simp; go_at_call 22; (with_reducible refine (CA _ (hrec.call (Q.drew (Below.refl _ _)))).mono ?_); rintro e w5 ⟨rfl, hb5⟩; have hrec5 := hrec.call (Q.call (Q.drew (Below.refl _ _)) hb5); have c5 := hrec5.blk.cell 0; have g5 := hrec5.blk.lt; have hs5 : B ≤ w5.heap.size := Nat.le_trans hB2 (Q.call (Q.drew (Below.refl _ _)) hb5).size))
      all_goals
        go_wp2
        obtain ⟨p1, p2, p3⟩ := ref_push (r := ⟨x + k, (refAt (refLabelled l x t k) (x + k)).1, t⟩) hrec (Q.alloc (Q.call (Q.drew (Below.refl _ _)) hb5) _) hown1 hgrow (by rcases hat with h | h; exact .inl h; exact .inr (by simp; omega))
        refine ⟨⟨k + 1, _, by simp; omega, by omega, p1, HC.out.step p2 HF.out, fun b hb => ?_⟩, by simp [intOf]; omega⟩
        rcases p3 b hb with h | h
        · exact HF.out b h
        · exact .inr (Nat.le_trans HC.out.size h)
    · have hk2 : (y - x + 1).toNat = k := by omega
      have hkn2 : y < x + (k : Int) := by omega
      go_wp2
      go_returns
      exact ⟨rfl, sk, hrec, HC.out, HF.out⟩
end Go.Proofs.YtjjebkgljgfecaaDoor
