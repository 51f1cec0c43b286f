/- Same of two memories that differ at one byte at most. -/
import Derived.Test.YtjjebkgljgfecaaDoorSec1
namespace Go.Proofs.YtjjebkgljgfecaaDoor
set_option linter.unusedVariables false
set_option linter.unusedSimpArgs false
open Go.RowKit

set_option maxRecDepth 100000 in
set_option maxHeartbeats 1600000 in
theorem same_upd (g h k : Nat) (f : Nat → Int × Int) (b : Int × Int) (w : World) (hk : k < 65536) (hm : Mem w g f) (hn : Mem w h (upd f k b)) :
    Calls Tryd.prog 19 #[.pointer (some ⟨g, 0, none⟩), .pointer (some ⟨h, 0, none⟩)] w fun e w' => e = .returned (.bool (sameB (f k) b)) ∧ Below w.heap.size w w' := by
  by_cases hfb : f k = b
  · have hu : upd f k b = f := by
      funext j
      unfold upd
      by_cases hj : (j : Int) = (k : Int)
      · rw [if_pos hj]
        have : j = k := by omega
        rw [this, hfb]
      · rw [if_neg hj]
    rw [hu] at hn
    rw [hfb, sameB_self]
    exact same_calls g h f w hm hn
  · have hdf : f k ≠ upd f k b k := by
      unfold upd
      rw [if_pos rfl]
      exact hfb
    obtain ⟨M, hMs, hMb, hMf⟩ := hm.blk
    obtain ⟨N, hNs, hNb, hNf⟩ := hn.blk
    have hE := differ_mem M N f (upd f k b) hMf hNf k hk hdf
    have HMb := Lib.hid hMb
    have HNb := Lib.hid hNb
    have HM := Lib.hid hm
    have HN := Lib.hid hn
    clear hMf hNf hMb hNb hm hn hdf
    go_enter Tryd.func19, Tryd.ntmps19
    go_wp2
    refine wp_region_quiet_lit (by kernel_rfl) (by kernel_rfl) ?_
    go_big_quiet_step (fail)
    go_big_quiet_step (fail)
    go_big_quiet_step (fail)
    refine BigFrame.wpQuiet_want (by rfl) (fun K hK => ?_)
    refine quiet_load_row 57 _ rfl g rfl 59 M (0, 0) _ (fun w' hw' => by obtain ⟨n, rfl⟩ := hw'; exact HMb.out) Tryd.underlying57 rfl (by rw [hMs]; exact arr_size) ?_
    refine hK _ ?_
    clear hK K
    go_simp
    go_big_quiet_step (fail)
    go_big_quiet_step (fail)
    go_big_quiet_step (fail)
    refine BigFrame.wpQuiet_want (by rfl) (fun K hK => ?_)
    refine quiet_load_row 57 _ rfl h rfl 59 N (0, 0) _ (fun w' hw' => by obtain ⟨n, rfl⟩ := hw'; exact HNb.out) Tryd.underlying57 rfl (by rw [hNs]; exact arr_size) ?_
    refine hK _ ?_
    clear hK K
    go_simp
    refine BigFrame.wpQuiet_want (by rfl) (fun K hK => ?_)
    refine quiet_eql 57 _ _ _ rfl M N false rfl rfl (by kernel_rfl) hE ?_
    refine hK _ ?_
    clear hK K
    go_simp
    intro nq
    go_wp2
    go_loopw [24] (fun v wr => ∃ i : Nat, v = .int .i64 (i : Int) ∧ i ≤ 65536 ∧ (k < i → sameB (f k) b = true) ∧ Below w.heap.size w wr) (fun v _ => 65536 - (intOf v).toNat)
    case atStart => exact ⟨0, rfl, by omega, fun h => by omega, Q.drewN (Below.refl _ _) _⟩
    case round =>
      obtain ⟨i, rfl, hi, hs, hb⟩ := hrel
      have HS := Lib.hid hs
      clear hs
      by_cases hlt : i < 65536
      · have hii : (i : Int) < 65536 := by omega
        have L0 : ∀ y : BW wr, y.val.cell? ⟨g, i * 2, none⟩ = some (.int .u8 (f i).1) := fun y => (((HM.out.call hb).call y.has).at_ hlt).1
        have L1 : ∀ y : BW wr, y.val.cell? ⟨g, i * 2 + 1, none⟩ = some (.int .u8 (f i).2) := fun y => (((HM.out.call hb).call y.has).at_ hlt).2
        have L2 : ∀ y : BW wr, y.val.cell? ⟨h, i * 2, none⟩ = some (.int .u8 (upd f k b i).1) := fun y => (((HN.out.call hb).call y.has).at_ hlt).1
        have L3 : ∀ y : BW wr, y.val.cell? ⟨h, i * 2 + 1, none⟩ = some (.int .u8 (upd f k b i).2) := fun y => (((HN.out.call hb).call y.has).at_ hlt).2
        have hik : i ≠ k → sameB (f i) (upd f k b i) = true := fun hne => by
          unfold upd
          rw [if_neg (by omega)]
          exact sameB_self _
        have hkk : i = k → upd f k b i = b := fun he => by
          unfold upd
          rw [if_pos (by omega)]
        have HIK := Lib.hid hik
        have HKK := Lib.hid hkk
        clear hik hkk
        generalize upd f k b i = u at L2 L3 HIK HKK
        cases hsb : sameB (f i) u with
        | true =>
          have CT : ∀ V, Calls Tryd.prog 23 #[.agg #[.int .u8 (f i).1, .int .u8 (f i).2], .agg #[.int .u8 u.1, .int .u8 u.2]] V (fun e w' => e = .returned (.bool true) ∧ Below V.heap.size V w') := fun V => by rw [← hsb]; exact tsame_calls (f i) u V
          have HT : Hid (k < i + 1 → sameB (f k) b = true) := by
            show k < i + 1 → sameB (f k) b = true
            intro hki
            by_cases he : i = k
            · rw [← HKK.out he, ← he]; exact hsb
            · exact HS.out (by omega)
          clear hsb
          go_wp2
          refine wp_region_below (by kernel_rfl) (by kernel_rfl) ?_
          repeat (go_big_quiet_step (exact calls_bw (CT _)))
          refine wpQuiet_nil ?_
          intro w9 hw9
          obtain ⟨y9, rfl⟩ := hw9
          have hb9 := Q.call hb y9.has
          generalize y9.val = W9 at hb9 ⊢
          clear L0 L1 L2 L3 CT
          go_wp2
          exact ⟨⟨i + 1, by simp, by omega, HT.out, hb9⟩, by simp [intOf]; omega⟩
        | false =>
          have CT : ∀ V, Calls Tryd.prog 23 #[.agg #[.int .u8 (f i).1, .int .u8 (f i).2], .agg #[.int .u8 u.1, .int .u8 u.2]] V (fun e w' => e = .returned (.bool false) ∧ Below V.heap.size V w') := fun V => by rw [← hsb]; exact tsame_calls (f i) u V
          have HT : Hid (sameB (f k) b = false) := by
            show sameB (f k) b = false
            by_cases he : i = k
            · rw [← HKK.out he, ← he]; exact hsb
            · rw [HIK.out he] at hsb; cases hsb
          clear hsb
          go_wp2
          refine wp_region_below (by kernel_rfl) (by kernel_rfl) ?_
          repeat (go_big_quiet_step (exact calls_bw (CT _)))
          refine wpQuiet_nil ?_
          intro w9 hw9
          obtain ⟨y9, rfl⟩ := hw9
          have hb9 := Q.call hb y9.has
          generalize y9.val = W9 at hb9 ⊢
          clear L0 L1 L2 L3 CT
          go_wp2
          go_returns
          exact ⟨by rw [HT.out]; rfl, hb9⟩
      · obtain rfl : i = 65536 := by omega
        go_wp2
        go_returns
        exact ⟨by rw [HS.out (by omega)]; rfl, hb⟩
end Go.Proofs.YtjjebkgljgfecaaDoor
