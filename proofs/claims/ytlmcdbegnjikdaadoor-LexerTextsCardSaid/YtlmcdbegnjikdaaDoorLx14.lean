/- The lexer: two rows of tokens that are the same but for places. -/
import Derived.Test.YtlmcdbegnjikdaaDoorLx13
namespace Go.Proofs.YtlmcdbegnjikdaaDoor
set_option linter.unusedVariables false
set_option linter.unusedSimpArgs false
open Go.RowKit
attribute [local go_sem ↓] Go.wp_at_zero Go.wp_at_succ

set_option maxHeartbeats 3200000 in
theorem same_yes (w : World) (v u : Value) (l l' : List Tok) (B B' : Nat) (ho : w.ownsRow B 37 5 v l.length (ET.row l)) (ho' : w.ownsRow B' 37 5 u l'.length (ET.row l')) (hlen : l.length ≤ 1000000000) (hb : l.map bare = l'.map bare) :
    Calls Tryd.prog 11 #[v, u] w fun e w' => e = .returned (.bool true) ∧ Below w.heap.size w w' := by
  have hll : l.length = l'.length := by have := congrArg List.length hb; simpa using this
  obtain ⟨a, cap, rfl, -⟩ := own_slice ho
  obtain ⟨a', cap', rfl, -⟩ := own_slice ho'
  have HLL := Lib.hid hll
  have HO := Lib.hid ho
  have HO' := Lib.hid ho'
  have HB := Lib.hid hb
  have hne : ((l.length : Int) != (l'.length : Int)) = false := by simp [hll]
  clear ho ho' hb
  rw [← hll]
  generalize hN : l.length = N at *
  clear hll hne
  go_enter Tryd.func11, Tryd.ntmps11
  go_wp2_with fail
  go_loopw [5] (fun i wr => ∃ k : Nat, i = .int .i64 (k : Int) ∧ k ≤ N ∧ Below w.heap.size w wr) (fun i _ => N - (intOf i).toNat)
  case atStart => exact ⟨0, rfl, Nat.zero_le _, Below.refl _ _⟩
  case round =>
    obtain ⟨k, rfl, hk, hw⟩ := hrel
    by_cases hlt : k < N
    · have hki : (k : Int) < (N : Int) := by omega
      obtain ⟨g, cap1, e1, hc1, hg, -, hcell⟩ := own_form HO.out (by omega)
      obtain ⟨g', cap2, e2, hc2, hg', -, hcell'⟩ := own_form HO'.out (by have := HLL.out; omega)
      obtain ⟨t, ht⟩ : ∃ t, l[k]? = some t := ⟨_, List.getElem?_eq_getElem (by omega)⟩
      obtain ⟨t', ht'⟩ : ∃ t', l'[k]? = some t' := ⟨_, List.getElem?_eq_getElem (by have := HLL.out; omega)⟩
      have hbt : bare t = bare t' := by
        have := congrArg (·[k]?) HB.out
        simp only [List.getElem?_map, ht, ht', Option.map_some, Option.some.injEq] at this
        exact this
      obtain ⟨c0, c1, c2, c3, c4⟩ := tok_cells hcell ht
      obtain ⟨d0, d1, d2, d3, d4⟩ := tok_cells hcell' ht'
      injection e1 with e1 _ e3
      injection e2 with e2 _ e4
      subst e1 e2 e3 e4
      obtain ⟨kk, x, n, ln, c⟩ := t
      obtain ⟨kk', x', n', ln', c'⟩ := t'
      simp only [bare, Prod.mk.injEq] at hbt
      obtain ⟨rfl, rfl, rfl⟩ := hbt
      simp only at c0 c1 c2 c3 c4 d0 d1 d2 d3 d4
      have LC : ∀ y : BW wr, ∀ b o v, b < w.heap.size → w.cell? ⟨b, o, none⟩ = some v → y.val.cell? ⟨b, o, none⟩ = some v := fun y b o v hb hv =>
        (y.has.cell (p := ⟨b, o, none⟩) (Nat.lt_of_lt_of_le hb hw.size)).trans ((hw.cell (p := ⟨b, o, none⟩) hb).trans hv)
      have L0 := fun y => LC y _ _ _ hg c0
      have L1 := fun y => LC y _ _ _ hg c1
      have L2 := fun y => LC y _ _ _ hg c2
      have L3 := fun y => LC y _ _ _ hg c3
      have L4 := fun y => LC y _ _ _ hg c4
      have M0 := fun y => LC y _ _ _ hg' d0
      have M1 := fun y => LC y _ _ _ hg' d1
      have M2 := fun y => LC y _ _ _ hg' d2
      have M3 := fun y => LC y _ _ _ hg' d3
      have M4 := fun y => LC y _ _ _ hg' d4
      have HW := Lib.hid hw
      clear c0 c1 c2 c3 c4 d0 d1 d2 d3 d4 hcell hcell' LC ht ht' hw
      go_wp2_with fail
      refine wp_region_below (by kernel_rfl) (by kernel_rfl) ?_
      repeat (go_big_quiet_step ((go_at_call 18; exact calls_bw (bare_eq _ _ _ _ _ _))))
      refine wpQuiet_nil ?_
      intro w9 hw9
      obtain ⟨y9, rfl⟩ := hw9
      go_wp2_with fail
      refine ⟨⟨k + 1, by go_num, by omega, Q.call HW.out y9.has⟩, by simp [intOf]; omega⟩
    · have hki : ¬ (k : Int) < (N : Int) := by omega
      go_wp2_with fail
      go_ret
      exact ⟨rfl, hw⟩
end Go.Proofs.YtlmcdbegnjikdaaDoor
