/- Memory.Load of bytes that lie in any other block. (printed by gen/ll1.py) -/
import Derived.Test.YtggnkkmlabhofaaDoorMem6
import Derived.Deep.RegionWith
namespace Go.Proofs.YtggnkkmlabhofaaDoor
set_option linter.unusedVariables false
set_option linter.unusedSimpArgs false
open Go.RowKit

set_option maxRecDepth 100000 in
set_option maxHeartbeats 1600000 in
theorem load_okn (g : Nat) (f : Nat → Int × Int) (x : Int) (B : Nat) (a : Option Addr) (ca : Nat) (l : List Int) (w : World) (hk : KIN w) (hm : Mem w g f) (hr : ReadsU w B a l.length l) (hB : ∀ b off, a = some ⟨b, off, none⟩ → b ≠ g ∧ b < w.heap.size)
    (hl : l.length ≤ 65536) (hx : loadsOf x = true) (hs : spanOf x (x + max 0 ((l.length : Int) - 1)) = 0) :
    Calls Tryd.prog 32 #[.pointer (some ⟨g, 0, none⟩), .int .i64 x, .slice a l.length ca] w fun e w' => e = .returned (.int .i64 0) ∧ Mem w' g (loaded f x l l.length) ∧ Chg (· = g) w w' := by
  have L := loads_calls x w hk
  rw [hx] at L
  obtain ⟨hle, hbd⟩ := span_ok hs
  have S1 : 0 < (l.length : Int) - 1 → Calls Tryd.prog 59 #[.int .i64 x, .int .i64 (x + ((l.length : Int) - 1))] w fun e w' => e = .returned (.int .i64 0) ∧ w' = w := fun h => by
    have S := span_calls x (x + max 0 ((l.length : Int) - 1)) w hk
    rw [hs, show max 0 ((l.length : Int) - 1) = (l.length : Int) - 1 by omega] at S
    exact S
  have S2 : Calls Tryd.prog 59 #[.int .i64 x, .int .i64 x] w fun e w' => e = .returned (.int .i64 0) ∧ w' = w := by
    have S := span_calls x x w hk
    rw [show spanOf x x = 0 by unfold spanOf; rw [if_pos ⟨Int.le_refl _, hx, rfl⟩]] at S
    exact S
  have hlen : ¬ (65536 < (l.length : Int)) := by omega
  have hx0 : 0 ≤ x := by omega
  have hend : x + l.length ≤ 65536 := by omega
  have hbd := Lib.hid hbd
  clear hle hs
  have HR := Lib.hid hr
  have HQ := Lib.hid hB
  clear hB
  have S1 := Lib.hid S1
  have S2 := Lib.hid S2
  have hend := Lib.hid hend
  go_enter Tryd.func32, Tryd.ntmps32
  go_wp2_with (first
    | (go_at_call 58; (with_reducible refine L.mono ?_); rintro e w1 ⟨rfl, hw1⟩; obtain rfl := hw1.symm)
    | (go_at_call 59; (with_reducible refine (S1.out (by omega)).mono ?_); rintro e w1 ⟨rfl, hw1⟩; obtain rfl := hw1.symm)
    | (go_at_call 59; (with_reducible refine S2.out.mono ?_); rintro e w1 ⟨rfl, hw1⟩; obtain rfl := hw1.symm))
  all_goals
    go_loopw [33] (fun v wr => ∃ k : Nat, v = .int .i64 (k : Int) ∧ k ≤ l.length ∧ Mem wr g (loaded f x l k) ∧ Chg (· = g) w wr)
      (fun v _ => l.length - (intOf v).toNat)
    case atStart => exact ⟨0, rfl, Nat.zero_le _, hm, .refl _ _⟩
    case round =>
      obtain ⟨k, rfl, hkl, hmr, hcr⟩ := hrel
      by_cases h1 : k < l.length
      · obtain ⟨b, off, rfl, hb, hcell⟩ := HR.out.2.2 (by omega)
        have hv := HR.out.2.1 l[k] (List.getElem_mem _)
        have hcl := (hcr.cell (b := b) (HQ.out b off rfl).2 (fun h => (HQ.out b off rfl).1 h) (off + k)).trans (hcell k l[k] (List.getElem?_eq_getElem h1))
        generalize hlk : l[k] = v at hv hcl
        obtain ⟨hv0, hv1⟩ := hv
        have hli : (k : Int) < (l.length : Int) := by omega
        obtain ⟨c0, c1⟩ := hmr.at_ (show (x + k).toNat < 65536 by have := hend.out; omega)
        obtain ⟨M, hMs, hMb, hMf⟩ := hmr.blk
        have f0 := hMb.frozen ((x + k).toNat * 2)
        have f1 := hMb.frozen ((x + k).toNat * 2 + 1)
        have hglt := hmr.lt
        clear hMb hMf hMs
        have hki0 : 0 ≤ x + (k : Int) := by omega
        have hki : x + (k : Int) < 65536 := by have := hend.out; omega
        have hwv : IntKind.i64.wrap v = v := wrap_i64 v (by omega) (by omega)
        have hwk : IntKind.i64.wrap (x + (k : Int)) = x + k := wrap_i64 _ (by omega) (by omega)
        go_wp2
        go_region_with (go_at_call 57; (with_reducible refine (of_calls v hv0 hv1 _).mono ?_); rintro e w2 ⟨rfl, hb2⟩; have d0 := (hb2.cell (p := ⟨g, (x + k).toNat * 2, none⟩) hglt).trans c0; have d1 := (hb2.cell (p := ⟨g, (x + k).toNat * 2 + 1, none⟩) hglt).trans c1; have d2 := (hb2.frozen (p := ⟨g, (x + k).toNat * 2, none⟩) hglt).trans f0; have d3 := (hb2.frozen (p := ⟨g, (x + k).toNat * 2 + 1, none⟩) hglt).trans f1)
        all_goals go_wp2
        all_goals
          have hmw2 : Mem w2 g (loaded f x l k) := (hmr.call (Below.refl _ _).drew).call hb2
          have hset := hmw2.set (k := (x + k).toNat) (by omega) (v, 0)
          have hl1 : loaded f x l (k + 1) = upd (loaded f x l k) (((x + k).toNat : Nat) : Int) (v, 0) := by
            rw [loaded, List.getElem?_eq_getElem h1, hlk, Int.toNat_of_nonneg hki0]
            rfl
          refine ⟨⟨k + 1, by simp, by omega, by rw [hl1]; exact hset, ?_⟩, by simp [intOf]; omega⟩
          refine (hcr.trans ((Chg.of (Below.refl _ _).drew).trans (Chg.of hb2))).trans ?_
          exact ⟨rfl, rfl, rfl, by simp, fun c hc hne => (Below.heap_setCell _ _ _ c (fun h => hne h)).trans (Below.heap_setCell _ _ _ c (fun h => hne h))⟩
      · obtain rfl : k = l.length := by omega
        go_wp2
        go_returns
        exact ⟨rfl, hmr, hcr⟩
theorem load_callsn (g : Nat) (f : Nat → Int × Int) (x : Int) (B : Nat) (a : Option Addr) (ca : Nat) (l : List Int) (w : World) (hk : KIN w) (hm : Mem w g f) (hr : ReadsU w B a l.length l) (hB : ∀ b off, a = some ⟨b, off, none⟩ → b ≠ g ∧ b < w.heap.size) :
    Calls Tryd.prog 32 #[.pointer (some ⟨g, 0, none⟩), .int .i64 x, .slice a l.length ca] w fun e w' => e = .returned (.int .i64 (loadErr x l.length)) ∧ Mem w' g (if loadErr x l.length = 0 then loaded f x l l.length else f) ∧ Chg (· = g) w w' := by
  by_cases h : loadsOf x = true ∧ l.length ≤ 65536 ∧ spanOf x (x + max 0 ((l.length : Int) - 1)) = 0
  · have e : loadErr x l.length = 0 := by unfold loadErr; rw [if_pos h]
    rw [e, if_pos rfl]
    exact load_okn g f x B a ca l w hk hm hr hB h.2.1 h.1 h.2.2
  · have e : loadErr x l.length = 10 := by unfold loadErr; rw [if_neg h]
    rw [e, if_neg (by decide)]
    exact (load_bad g x a l.length ca w hk e).mono fun e' w' ⟨he, hw⟩ => ⟨he, by rw [← hw]; exact hm, by rw [← hw]; exact .refl _ _⟩

end Go.Proofs.YtggnkkmlabhofaaDoor
