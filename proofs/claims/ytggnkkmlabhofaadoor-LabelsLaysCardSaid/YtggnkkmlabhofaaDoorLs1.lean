/- Table.Lay. (printed by gen/ls1.py) -/
import Derived.Test.YtggnkkmlabhofaaDoorLl1
import Derived.Test.YtggnkkmlabhofaaDoorLt1
import Derived.Test.YtggnkkmlabhofaaDoorLa7
namespace Go.Proofs.YtggnkkmlabhofaaDoor
set_option linter.unusedVariables false
set_option linter.unusedSimpArgs false
open Go.RowKit
attribute [local go_sem ↓] Go.wp_at_zero Go.wp_at_succ

/-- What a memory has behind Lay. -/
def layAll (f : Nat → Int × Int) (l : List Sp) : Nat → Int × Int := l.foldl (fun f x => labelled f x.f x.b (x.t - x.f + 1).toNat) f
theorem layAll_snoc (f : Nat → Int × Int) (l : List Sp) (k : Nat) (x : Sp) (h : l[k]? = some x) : layAll f (l.take (k + 1)) = labelled (layAll f (l.take k)) x.f x.b (x.t - x.f + 1).toNat := by
  obtain ⟨hk, rfl⟩ := List.getElem?_eq_some_iff.1 h
  unfold layAll
  rw [List.take_succ_eq_append_getElem hk, List.foldl_append]
  rfl
set_option maxRecDepth 100000 in
set_option maxHeartbeats 3200000 in
theorem lay_calls (w : World) (gt gm : Nat) (f : Nat → Int × Int) (R : Nat → Prop) (sv mv : Value) (dc tr : Int) (a b : Nat → Int) (l : List Sp) (hk : KIN w) (hkm : gm ≠ 1) (hT : Tab w gt sv mv dc tr a b) (hs : Rd ES w R sv l) (hR : ∀ b, R b → b ≠ gm) (hm : Mem w gm f) (hl : l.length ≤ 1000) (hsp : ∀ x ∈ l, spanOf x.f x.t = 0) :
    Calls Tryd.prog 40 #[.pointer (some ⟨gt, 0, none⟩), .pointer (some ⟨gm, 0, none⟩)] w fun e w' => e = .returned (.int .i64 0) ∧ Mem w' gm (layAll f l) ∧ Chg (· = gm) w w' := by
  obtain ⟨M, hM, hG⟩ := hT
  have hs' := hs
  obtain ⟨sa, sc, rfl, -⟩ := hs'
  have c0 : w.cell? ⟨gt, 0, none⟩ = some (.slice sa l.length sc) := (hG.cell 0).trans hM.p0
  have gl := hG.lt
  have HS := Lib.hid hs
  have HK := Lib.hid hk
  have HM := Lib.hid hm
  have HR := Lib.hid hR
  have HSP := Lib.hid hsp
  have HKM := Lib.hid hkm
  clear hM hG hs hk hm hR hsp hkm
  go_enter Tryd.func40, Tryd.ntmps40
  go_wp2_with fail
  go_loopw [20] (fun v wr => ∃ k : Nat, v = .int .i64 (k : Int) ∧ k ≤ l.length ∧ Mem wr gm (layAll f (l.take k)) ∧ Chg (· = gm) w wr) (fun v _ => l.length - (intOf v).toNat)
  case atStart => exact ⟨0, rfl, Nat.zero_le _, HM.out, .refl _ _⟩
  case round =>
    clear HM
    obtain ⟨k, rfl, hkl, hmr, hcr⟩ := hrel
    by_cases hkn : k < l.length
    · obtain ⟨b0, off, rfl, hb0, hRb, hcell⟩ := HS.out.cells hkn
      obtain ⟨y, hy⟩ : ∃ y, l[k]? = some y := ⟨_, List.getElem?_eq_getElem hkn⟩
      have hbm := HR.out b0 hRb
      have c0 : wr.cell? ⟨b0, off + k * 3, none⟩ = some (.int .i64 y.f) := (hcr.cell hb0 hbm _).trans (hcell k y hy 0 _ rfl)
      have c1 : wr.cell? ⟨b0, off + k * 3 + 1, none⟩ = some (.int .i64 y.t) := (hcr.cell hb0 hbm _).trans (hcell k y hy 1 _ rfl)
      have c2 : wr.cell? ⟨b0, off + k * 3 + 2, none⟩ = some (.int .u8 y.b) := (hcr.cell hb0 hbm _).trans (hcell k y hy 2 _ rfl)
      have hbw : b0 < wr.heap.size := Nat.lt_of_lt_of_le hb0 hcr.size
      have hki : (k : Int) < (l.length : Int) := by omega
      have hk0 : (0 : Int) ≤ (k : Int) := by omega
      have HSN := Lib.hid (layAll_snoc f l k y hy)
      have hspy := HSP.out y (List.mem_of_getElem? hy)
      have HMR := Lib.hid hmr
      have HCR := Lib.hid hcr
      have LB := fun V (hV : Below wr.heap.size wr V) => label_ok gm (layAll f (l.take k)) y.f y.t y.b V ((HK.out.chg hcr (fun e => HKM.out e.symm)).below hV (HK.out.chg hcr (fun e => HKM.out e.symm)).lt) (hmr.call hV) hspy
      obtain ⟨yf, yt, yb⟩ := y
      simp only at c0 c1 c2 LB HSN
      clear hcell hy hspy hmr hcr hRb hbm hb0
      go_wp2_with (go_at_call 63; (with_reducible refine (LB _ (by repeat' (first | with_reducible exact Below.refl _ _ | with_reducible assumption | with_reducible refine Q.alloc ?_ _ | with_reducible refine Q.drew ?_ | with_reducible refine Q.drewN ?_ _ | with_reducible refine Q.call ?_ (by assumption)))).mono ?_); rintro e w2 ⟨rfl, hm2, hc2⟩; have HM2 := Lib.hid hm2; have HC2 := Lib.hid hc2; clear hm2 hc2)
      refine ⟨⟨k + 1, by simp, by omega, by rw [HSN.out]; exact HM2.out, (HCR.out.trans (.of (Q.alloc (Below.refl _ _) _))).trans HC2.out⟩, by simp [intOf]; omega⟩
    · have hki : ¬ (k : Int) < (l.length : Int) := by omega
      have he : k = l.length := by omega
      have HMR := Lib.hid (show Mem wr gm (layAll f l) by rw [he, List.take_length] at hmr; exact hmr)
      have HCR := Lib.hid hcr
      clear he hmr hcr
      go_wp2_with fail
      go_returns
      exact ⟨rfl, HMR.out, HCR.out⟩
end Go.Proofs.YtggnkkmlabhofaaDoor
