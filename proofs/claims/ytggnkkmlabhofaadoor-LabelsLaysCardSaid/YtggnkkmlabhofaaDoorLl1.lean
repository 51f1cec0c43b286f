/- Loads that come in; how many; a memory into which they are loaded. (printed by gen/ll1.py) -/
import Derived.Test.YtggnkkmlabhofaaDoorLl0
import Derived.Test.YtggnkkmlabhofaaDoorMem1
import Derived.Test.YtggnkkmlabhofaaDoorMem3
import Derived.Test.YtggnkkmlabhofaaDoorQuiet
import Derived.Deep.RegionWith
namespace Go.Proofs.YtggnkkmlabhofaaDoor
set_option linter.unusedVariables false
set_option linter.unusedSimpArgs false
open Go.RowKit

/-- Bytes that stand from an address on. -/
structure LD where
  at_ : Int
  a : Option Addr
  n : Nat
  ca : Nat
  l : List Int
def ReadsL (w : World) (B : Nat) (a : Option Addr) (len : Nat) (ops : List LD) : Prop :=
  ops.length = len ∧ (0 < len → ∃ b off, a = some ⟨b, off, none⟩ ∧ b < B ∧ ∀ (k : Nat) (o : LD), ops[k]? = some o → w.cell? ⟨b, off + k * 2, none⟩ = some (.int .i64 o.at_) ∧ w.cell? ⟨b, off + k * 2 + 1, none⟩ = some (.slice o.a o.n o.ca) ∧ ReadsU w B o.a o.n o.l)
theorem ReadsL.keep {w w' : World} {B : Nat} {a : Option Addr} {len : Nat} {ops : List LD} (h : ReadsL w B a len ops) (hb : ∀ b off, b < B → w'.cell? ⟨b, off, none⟩ = w.cell? ⟨b, off, none⟩) : ReadsL w' B a len ops := by
  refine ⟨h.1, fun hl => ?_⟩
  obtain ⟨b, off, rfl, hlt, hc⟩ := h.2 hl
  refine ⟨b, off, rfl, hlt, fun k o hk => ?_⟩
  obtain ⟨c0, c1, c2⟩ := hc k o hk
  exact ⟨(hb b _ hlt).trans c0, (hb b _ hlt).trans c1, c2.keep hb⟩
theorem ReadsL.below {w w' : World} {B : Nat} {a : Option Addr} {len : Nat} {ops : List LD} (h : ReadsL w B a len ops) (hb : Below B w w') : ReadsL w' B a len ops := h.keep fun b off hlt => hb.cell (p := ⟨b, off, none⟩) hlt
theorem ReadsL.at_' {w : World} {B : Nat} {a : Option Addr} {len : Nat} {ops : List LD} (h : ReadsL w B a len ops) {k : Nat} (hk : k < len) :
    ∃ b off o, a = some ⟨b, off, none⟩ ∧ b < B ∧ ops[k]? = some o ∧ w.cell? ⟨b, off + k * 2, none⟩ = some (.int .i64 o.at_) ∧ w.cell? ⟨b, off + k * 2 + 1, none⟩ = some (.slice o.a o.n o.ca) ∧ ReadsU w B o.a o.n o.l := by
  obtain ⟨b, off, rfl, hb, hc⟩ := h.2 (by omega)
  have hr : ops[k]? = some (ops[k]'(by rw [h.1]; exact hk)) := List.getElem?_eq_getElem _
  exact ⟨b, off, _, rfl, hb, hr, hc k _ hr⟩
theorem ReadsL.wide {w : World} {B B' : Nat} {a : Option Addr} {len : Nat} {ops : List LD} (h : ReadsL w B a len ops) (hB : B ≤ B') : ReadsL w B' a len ops := by
  refine ⟨h.1, fun hl => ?_⟩
  obtain ⟨b, off, rfl, hb, hc⟩ := h.2 hl
  refine ⟨b, off, rfl, by omega, fun k o hk => ?_⟩
  obtain ⟨c0, c1, c2⟩ := hc k o hk
  refine ⟨c0, c1, c2.1, c2.2.1, fun hl => ?_⟩
  obtain ⟨b', off', e, hb', hc'⟩ := c2.2.2 hl
  exact ⟨b', off', e, by omega, hc'⟩
def FewPost (len : Nat) (w : World) (e : Ending) (w' : World) : Prop := ∃ c : Bool, e = .returned (.bool c) ∧ (c = true → len ≤ 8) ∧ w = w'
set_option maxHeartbeats 1600000 in
theorem fewL_calls (a : Option Addr) (len cap : Nat) (ops : List LD) (w : World) (hlen : len ≤ maxLen) (hr : ReadsL w w.heap.size a len ops) : Calls Tryd.prog 25 #[.slice a len cap] w (FewPost len w) := by
  unfold maxLen at hlen
  have HR := Lib.hid hr
  clear hr
  go_enter Tryd.func25, Tryd.ntmps25
  go_wp2
  go_loop [3] (fun v => ∃ k : Nat, v = .int .i64 (k : Int) ∧ k ≤ len) (fun v => len - (intOf v).toNat)
  case atStart => exact ⟨0, rfl, Nat.zero_le _⟩
  case round =>
    obtain ⟨k, rfl, hk⟩ := hrel
    by_cases hkn : k < len
    · obtain ⟨b, off, o, rfl, hbl, hget, c0, c1, c2⟩ := HR.out.at_' hkn
      have hki : (k : Int) < (len : Int) := by omega
      have hk0 : (0 : Int) ≤ (k : Int) := by omega
      clear hget c2 c0
      by_cases h3 : 300 < o.n
      · have h3i : (300 : Int) < (o.n : Int) := by omega
        go_wp2
        go_ret
        exact ⟨false, rfl, (fun h => by cases h), rfl⟩
      · have h3i : ¬ (300 : Int) < (o.n : Int) := by omega
        go_wp2
        go_round
        case rel => exact ⟨k + 1, by go_num, by omega⟩
        case measure => simp [intOf]; omega
    · have hki : ¬ (k : Int) < (len : Int) := by omega
      by_cases h8 : len ≤ 8
      · have h8i : (len : Int) ≤ 8 := by omega
        go_wp2
        go_ret
        exact ⟨true, rfl, (fun _ => h8), rfl⟩
      · have h8i : ¬ (len : Int) ≤ 8 := by omega
        go_wp2
        go_ret
        exact ⟨false, rfl, (fun h => by cases h), rfl⟩
def ld1 (f : Nat → Int × Int) (o : LD) : Nat → Int × Int := if loadErr o.at_ o.l.length = 0 then loaded f o.at_ o.l o.l.length else f
/-- What a memory has into which loads were loaded. -/
def ldAll (ops : List LD) : Nat → Int × Int := ops.foldl ld1 (fun _ => (0, 0))
theorem ldAll_snoc (ops : List LD) (k : Nat) (o : LD) (h : ops[k]? = some o) : ldAll (ops.take (k + 1)) = ld1 (ldAll (ops.take k)) o := by
  obtain ⟨hk, rfl⟩ := List.getElem?_eq_some_iff.1 h
  unfold ldAll
  rw [List.take_succ_eq_append_getElem hk, List.foldl_append]
  rfl
set_option maxRecDepth 100000 in
set_option maxHeartbeats 3200000 in
theorem loadedL_calls (a : Option Addr) (len cap : Nat) (ops : List LD) (w : World) (hk : KIN w) (hlen : len ≤ maxLen) (hr : ReadsL w w.heap.size a len ops) : Calls Tryd.prog 28 #[.slice a len cap] w fun e w' => e = .returned (.pointer (some ⟨w.heap.size, 0, none⟩)) ∧ Mem w' w.heap.size (ldAll ops) ∧ Below w.heap.size w w' := by
  unfold maxLen at hlen
  have HR := Lib.hid hr
  have HK := Lib.hid hk
  have hO : ops.length = len := hr.1
  have HO := Lib.hid hO
  clear hr hk hO
  go_enter Tryd.func28, Tryd.ntmps28
  go_wp2_with (go_at_call 34; (with_reducible refine (new_calls _).mono ?_); rintro e w1 ⟨rfl, hw1⟩; have HW1 := Lib.hid hw1; clear hw1; refine Hid.out ?_)
  refine Lib.hid ?_
  obtain ⟨g, hg⟩ : ∃ g, g = w.heap.size := ⟨_, rfl⟩
  have HG := Lib.hid hg
  have HM := Lib.hid (show Mem w1 g (fun _ => (0, 0)) by rw [HW1.out, hg]; exact Mem.fresh w)
  have HB := Lib.hid (show Below w.heap.size w w1 by rw [HW1.out]; exact Q.alloc (Below.refl _ _) _)
  rw [← hg]
  clear hg HW1
  go_wp2_with fail
  go_loopw [4] (fun v wr => ∃ k : Nat, v = .int .i64 (k : Int) ∧ k ≤ len ∧ Mem wr g (ldAll (ops.take k)) ∧ Below w.heap.size w wr) (fun v _ => len - (intOf v).toNat)
  case atStart => exact ⟨0, rfl, Nat.zero_le _, HM.out, HB.out⟩
  case round =>
    clear HM HB
    obtain ⟨k, rfl, hkl, hm, hb⟩ := hrel
    by_cases hkn : k < len
    · obtain ⟨b, off, o, rfl, hbl, hget, c0, c1, c2⟩ := (HR.out.below hb).at_' hkn
      have hki : (k : Int) < (len : Int) := by omega
      have hk0 : (0 : Int) ≤ (k : Int) := by omega
      have hbw : b < wr.heap.size := Nat.lt_of_lt_of_le hbl hb.size
      have HN := Lib.hid (ldAll_snoc ops k o hget)
      have HMr := Lib.hid hm
      have HBr := Lib.hid hb
      obtain ⟨at0, oa, on, oca, ol⟩ := o
      (try simp only at c0 c1 c2)
      obtain rfl : ol.length = on := c2.1
      have LC := fun V (hV : Below wr.heap.size wr V) => load_calls g (ldAll (ops.take k)) at0 w.heap.size oa oca ol V (HK.out.below (Q.call hb hV) HK.out.lt) (hm.call hV) (c2.keep fun b o hlt => hV.cell (p := ⟨b, o, none⟩) (Nat.lt_of_lt_of_le hlt hb.size)) (by have := HG.out; omega)
      clear hget hm c2 hbl hb
      go_wp2_with fail
      go_region_with (go_at_call 32; (with_reducible refine (LC _ (by repeat' (first | with_reducible exact Below.refl _ _ | with_reducible assumption | with_reducible refine Q.alloc ?_ _ | with_reducible refine Q.drew ?_ | with_reducible refine Q.drewN ?_ _ | with_reducible refine Q.call ?_ (by assumption)))).mono ?_); rintro e w2 ⟨rfl, hm2, hc2⟩; have HM2 := Lib.hid hm2; have HC2 := Lib.hid hc2; clear hm2 hc2)
      all_goals
        have HB2 := Lib.hid (HC2.out.below (Q.call HBr.out (by repeat' (first | with_reducible exact Below.refl _ _ | with_reducible assumption | with_reducible refine Q.alloc ?_ _ | with_reducible refine Q.drew ?_ | with_reducible refine Q.drewN ?_ _ | with_reducible refine Q.call ?_ (by assumption)))) (Q.call HBr.out (by repeat' (first | with_reducible exact Below.refl _ _ | with_reducible assumption | with_reducible refine Q.alloc ?_ _ | with_reducible refine Q.drew ?_ | with_reducible refine Q.drewN ?_ _ | with_reducible refine Q.call ?_ (by assumption)))).size (fun b hb => by have hb : b = g := hb; have := HG.out; omega))
        go_wp2_with fail
        refine ⟨⟨k + 1, by simp, by omega, by rw [HN.out]; exact HM2.out, HB2.out⟩, by simp [intOf]; omega⟩
    · have hki : ¬ (k : Int) < (len : Int) := by omega
      have he : k = len := by omega
      have HE := Lib.hid he
      have HMr := Lib.hid hm
      have HBr := Lib.hid hb
      clear he hm hb
      go_wp2_with fail
      go_ret
      refine ⟨by rw [HG.out]; rfl, ?_, HBr.out⟩
      have h := HMr.out
      rw [HE.out, List.take_of_length_le (by rw [HO.out]; exact Nat.le_refl _)] at h
      rw [← HG.out]
      exact h
end Go.Proofs.YtggnkkmlabhofaaDoor
