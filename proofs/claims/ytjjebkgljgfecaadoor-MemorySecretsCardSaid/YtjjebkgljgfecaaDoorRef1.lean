/- The walk of the document's At. -/
import Derived.Test.YtjjebkgljgfecaaDoorRef0
namespace Go.Proofs.YtjjebkgljgfecaaDoor
set_option linter.unusedVariables false
set_option linter.unusedSimpArgs false
open Go.RowKit

theorem refAt_out (B g : Nat) (sv : Value) (l : List PD) (x : Int) (w : World) (hr : IsRef w B g sv l) (h1 : isRAM x = false) (h2 : isROM x = false) :
    Calls Tryd.prog 22 #[.pointer (some ⟨g, 0, none⟩), .int .i64 x] w fun e w' => e = .returned (.agg #[.int .u8 255, .int .u8 0]) ∧ Below w.heap.size w w' := by
  have A1 := fun w => isRAM_calls x w
  have A2 := fun w => isROM_calls x w
  rw [h1] at A1
  rw [h2] at A2
  go_enter Tryd.func22, Tryd.ntmps22
  go_wp2_with (first
    | (go_at_call 12; (with_reducible refine (A1 _).mono ?_); rintro e w1 ⟨rfl, rfl⟩)
    | (go_at_call 24; (with_reducible refine (A2 _).mono ?_); rintro e w1 ⟨rfl, rfl⟩))
  go_returns
  exact ⟨rfl, (Below.refl _ _).alloc (Nat.le_refl _) _⟩

set_option maxHeartbeats 1600000 in
theorem refAt_in (B g : Nat) (sv : Value) (l : List PD) (x : Int) (w : World) (hr : IsRef w B g sv l) (hl : l.length ≤ 1000000) (h : isRAM x = true ∨ (isRAM x = false ∧ isROM x = true)) :
    Calls Tryd.prog 22 #[.pointer (some ⟨g, 0, none⟩), .int .i64 x] w fun e w' => e = .returned (.agg #[.int .u8 (lastAt l x).1, .int .u8 (lastAt l x).2]) ∧ Below w.heap.size w w' := by
  obtain ⟨a, cap, rfl, hcap, hrd⟩ := hr.reads
  have c0 := hr.blk.cell 0
  have hlt := hr.blk.lt
  have A1 := fun w => isRAM_calls x w
  have A2 := fun w => isROM_calls x w
  rcases h with h1 | ⟨h1, h2⟩
  all_goals
    rw [h1] at A1
    try rw [h2] at A2
    clear h1
    go_enter Tryd.func22, Tryd.ntmps22
    go_wp2_with (first
      | (go_at_call 12; (with_reducible refine (A1 _).mono ?_); rintro e w1 ⟨rfl, rfl⟩)
      | (go_at_call 24; (with_reducible refine (A2 _).mono ?_); rintro e w1 ⟨rfl, rfl⟩))
    clear A1 A2
    go_loopw [5] (fun v wr => wr = w.alloc (.cells #[.int .u8 0, .int .u8 0] 24) ∧ ∃ k : Nat, v = .int .i64 ((k : Int) - 1) ∧ k ≤ l.length ∧ lastAt (l.take k) x = lastAt l x)
      (fun v _ => (intOf v + 1).toNat)
    case atStart => exact ⟨rfl, l.length, rfl, Nat.le_refl _, by rw [List.take_length]⟩
    case round =>
      obtain ⟨rfl, k, rfl, hk, hs⟩ := hrel
      have HS := Lib.hid hs
      clear hs
      by_cases h0 : k = 0
      · subst h0
        go_wp2
        go_returns
        refine ⟨?_, Q.alloc (Below.refl _ _) _⟩
        rw [← HS.out]
        rfl
      · obtain ⟨b, rfl, hb, hc⟩ := hrd (by omega)
        have hkl : k - 1 < l.length := by omega
        obtain ⟨d0, d1, d2⟩ := hc (k - 1) l[k - 1] (List.getElem?_eq_getElem hkl)
        have hsn := take_snoc l (k - 1) l[k - 1] (List.getElem?_eq_getElem hkl)
        rw [show k - 1 + 1 = k by omega] at hsn
        have HN := Lib.hid hsn
        have hti : ((k : Int) - 1).toNat = k - 1 := by omega
        have hkk : (1 : Int) ≤ (k : Int) := by omega
        have hkm : (k : Int) - 1 < (l.length : Int) := by omega
        clear hc hsn
        generalize hq : l[k - 1] = q at d0 d1 d2 HN
        have HQ := Lib.hid hq
        clear hq
        by_cases hx : q.at_ = x
        · have hd : decide (q.at_ = x) = true := decide_eq_true hx
          go_wp2
          go_returns
          refine ⟨?_, Q.alloc (Below.refl _ _) _⟩
          rw [← HS.out, HN.out, lastAt_snoc, if_pos hx]
        · have hd : decide (q.at_ = x) = false := decide_eq_false hx
          go_wp2
          refine ⟨⟨trivial, k - 1, by congr 1; omega, by omega, ?_⟩, by simp [intOf]; omega⟩
          rw [← HS.out, HN.out, lastAt_snoc, if_neg hx]

theorem refAt_calls (B g : Nat) (sv : Value) (l : List PD) (x : Int) (w : World) (hr : IsRef w B g sv l) (hl : l.length ≤ 1000000) :
    Calls Tryd.prog 22 #[.pointer (some ⟨g, 0, none⟩), .int .i64 x] w fun e w' => e = .returned (.agg #[.int .u8 (refAt l x).1, .int .u8 (refAt l x).2]) ∧ Below w.heap.size w w' := by
  unfold refAt
  cases h1 : isRAM x
  · cases h2 : isROM x
    · exact refAt_out B g sv l x w hr h1 h2
    · exact refAt_in B g sv l x w hr hl (.inr ⟨h1, h2⟩)
  · exact refAt_in B g sv l x w hr hl (.inl h1)

/-- What Read answers. -/
def refErr (x : Int) : Int := if x < 0 ∨ 65535 < x then 10 else if isDev x = true then 15 else 0
def refRead (l : List PD) (x : Int) : Int × Int := if refErr x = 0 then refAt l x else (0, 0)
set_option maxHeartbeats 1600000 in
theorem refRead_calls (B g : Nat) (sv : Value) (l : List PD) (x : Int) (w : World) (hr : IsRef w B g sv l) (hl : l.length ≤ 1000000) :
    Calls Tryd.prog 16 #[.pointer (some ⟨g, 0, none⟩), .int .i64 x] w fun e w' => e = .returned (.tuple #[.agg #[.int .u8 (refRead l x).1, .int .u8 (refRead l x).2], .int .i64 (refErr x)]) ∧ Below w.heap.size w w' := by
  unfold refRead
  by_cases h1 : x < 0
  · rw [show refErr x = 10 by unfold refErr; rw [if_pos (.inl h1)]]
    go_enter Tryd.func16, Tryd.ntmps16
    go_wp2
    go_returns
    exact ⟨rfl, Q.alloc (Below.refl _ _) _⟩
  · by_cases h2 : 65535 < x
    · rw [show refErr x = 10 by unfold refErr; rw [if_pos (.inr h2)]]
      go_enter Tryd.func16, Tryd.ntmps16
      go_wp2
      go_returns
      exact ⟨rfl, Q.alloc (Below.refl _ _) _⟩
    · have D := fun w => isDev_calls x w
      have A := fun W h => refAt_calls B g sv l x W h hl
      have HR := Lib.hid hr
      clear hr
      cases hd : isDev x
      · rw [show refErr x = 0 by unfold refErr; rw [if_neg (by omega), if_neg (by rw [hd]; simp)], if_pos rfl]
        rw [hd] at D
        go_enter Tryd.func16, Tryd.ntmps16
        go_wp2_with (go_at_call 31; (with_reducible refine (D _).mono ?_); rintro e w1 ⟨rfl, rfl⟩)
        (with_reducible refine (A _ (HR.out.call (Q.alloc (Below.refl _ _) _))).mono ?_)
        rintro e w1 ⟨rfl, hb1⟩
        have r1 := (Blk.new w 24 #[.int .u8 0, .int .u8 0]).call hb1
        have e0 := r1.cell 0
        have e1 := r1.cell 1
        have f0 := r1.frozen 0
        have f1 := r1.frozen 1
        have hB1 := Q.call (Q.alloc (Below.refl _ w) _) hb1
        go_wp2_with fail
        have E : (w1.setCell ⟨w.heap.size, 0, none⟩ (.int .u8 (refAt l x).1)).setCell ⟨w.heap.size, 1, none⟩ (.int .u8 (refAt l x).2) = w1.setRow w.heap.size #[.int .u8 (refAt l x).1, .int .u8 (refAt l x).2] := by
          rw [r1.setCell, r1.setCell_setRow]
          rfl
        rw [E]
        have r2 := r1.setRow #[.int .u8 (refAt l x).1, .int .u8 (refAt l x).2]
        have n0 := r2.cell 0
        have n1 := r2.cell 1
        refine bodyPost_ret (v := .tuple #[.agg #[.int .u8 (refAt l x).1, .int .u8 (refAt l x).2], .int .i64 0]) (by simp [results, Tryd.results16, go_sem, n0, n1]) rfl ?_
        exact ⟨rfl, below_setRow hB1 (Nat.le_refl _) _⟩
      · rw [show refErr x = 15 by unfold refErr; rw [if_neg (by omega), if_pos hd]]
        rw [hd] at D
        go_enter Tryd.func16, Tryd.ntmps16
        go_wp2_with (go_at_call 31; (with_reducible refine (D _).mono ?_); rintro e w1 ⟨rfl, rfl⟩)
        go_returns
        exact ⟨rfl, Q.alloc (Below.refl _ _) _⟩
end Go.Proofs.YtjjebkgljgfecaaDoor
