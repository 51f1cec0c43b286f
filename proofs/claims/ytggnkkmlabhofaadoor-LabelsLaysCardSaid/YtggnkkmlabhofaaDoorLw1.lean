/- Labels: when two memories are the same but for what is secret. (printed by gen/lw1.py) -/
import Derived.Test.YtggnkkmlabhofaaDoorLa7
import Derived.Test.YtggnkkmlabhofaaDoorMem6
import Derived.Test.YtggnkkmlabhofaaDoorQuiet
namespace Go.Proofs.YtggnkkmlabhofaaDoor
set_option linter.unusedVariables false
set_option linter.unusedSimpArgs false
open Go.RowKit Go.Shelf
attribute [local go_sem ↓] Go.wp_at_zero Go.wp_at_succ

def lowV (f1 f2 : Nat → Int × Int) (a : Nat → Int) (k : Nat) : Int := bits .andNot .u8 (bits .xor .u8 (readOf f1 k).1 (readOf f2 k).1) (a k)
set_option maxHeartbeats 3200000 in
set_option maxRecDepth 4000000 in
theorem low_eq (w : World) (gt g1 g2 : Nat) (f1 f2 : Nat → Int × Int) (sv mv : Value) (dc tr : Int) (a b : Nat → Int) (B : Bool) (hB : B = true ↔ ∀ k, k < 65536 → lowV f1 f2 a k = 0) (hk : KIN w) (hT : Tab w gt sv mv dc tr a b) (h1 : Mem w g1 f1) (h2 : Mem w g2 f2) :
    Calls Tryd.prog 30 #[.pointer (some ⟨gt, 0, none⟩), .pointer (some ⟨g1, 0, none⟩), .pointer (some ⟨g2, 0, none⟩)] w fun e w' => e = .returned (.bool B) ∧ Below w.heap.size w w' := by
  have HB := Lib.hid hB
  have HK := Lib.hid hk
  have HT := Lib.hid hT
  have H1 := Lib.hid h1
  have H2 := Lib.hid h2
  have KB := fun (V : World) (h : Below w.heap.size w V) => HK.out.below h HK.out.lt
  clear hB hk hT h1 h2
  go_enter Tryd.func30, Tryd.ntmps30
  go_wp2_with fail
  go_loopg [22] 65536 (fun kx s22 wr => ∃ k : Nat, s22 = .int .i64 k ∧ k ≤ 65536 ∧ 65536 - k ≤ kx ∧ Aside (Below w.heap.size w wr) ∧ Aside (∀ j, j < k → lowV f1 f2 a j = 0))
  case atStart => exact ⟨0, rfl, Nat.zero_le _, Nat.le_refl _, Below.refl _ _, by intro j hj; omega⟩
  case round =>
    obtain ⟨k, rfl, hkl, hm, B1, I1⟩ := hrel
    by_cases hlt : k < 65536
    · have hltz : (k : Int) < 65536 := by omega
      have wrh := B1.out.size
      have ca : wr.cell? ⟨gt, 4 + k, none⟩ = some (.int .u8 (a k)) := (HT.out.call B1.out).ca hlt
      have hgl : gt < wr.heap.size := (HT.out.call B1.out).lt
      have RC := fun (V : World) (g : Nat) (f : Nat → Int × Int) (hV : Below w.heap.size w V) (h : Mem V g f) => read_calls g f k V (KB V hV) h
      go_wp2_with (first
        | (go_at_call 31; (with_reducible refine (RC _ g1 f1 (Q.call B1.out (by repeat' (first | with_reducible exact Below.refl _ _ | with_reducible assumption | with_reducible refine Q.alloc ?_ _ | with_reducible refine Q.drew ?_ | with_reducible refine Q.drewN ?_ _ | with_reducible refine Q.call ?_ (by assumption)))) ((H1.out.call B1.out).call (by repeat' (first | with_reducible exact Below.refl _ _ | with_reducible assumption | with_reducible refine Q.alloc ?_ _ | with_reducible refine Q.drew ?_ | with_reducible refine Q.drewN ?_ _ | with_reducible refine Q.call ?_ (by assumption))))).mono ?_); rintro e w1 ⟨rfl, hb1⟩; obtain ⟨hc1, hf1, hz1⟩ := bcell hb1; have z1 := hb1.size)
        | (go_at_call 31; (with_reducible refine (RC _ g2 f2 (Q.call B1.out (by repeat' (first | with_reducible exact Below.refl _ _ | with_reducible assumption | with_reducible refine Q.alloc ?_ _ | with_reducible refine Q.drew ?_ | with_reducible refine Q.drewN ?_ _ | with_reducible refine Q.call ?_ (by assumption)))) ((H2.out.call B1.out).call (by repeat' (first | with_reducible exact Below.refl _ _ | with_reducible assumption | with_reducible refine Q.alloc ?_ _ | with_reducible refine Q.drew ?_ | with_reducible refine Q.drewN ?_ _ | with_reducible refine Q.call ?_ (by assumption))))).mono ?_); rintro e w2 ⟨rfl, hb2⟩; obtain ⟨hc2, hf2, hz2⟩ := bcell hb2; have z2 := hb2.size))
      have X1 : Blk w2 w1.heap.size 57 #[.int .u8 (readOf f1 k).1, .int .u8 (readOf f1 k).2] := (Blk.new' rfl).call hb2
      obtain ⟨W, hW⟩ : ∃ W, W = w2.alloc (.cells #[.int .u8 (readOf f2 k).1, .int .u8 (readOf f2 k).2] 57) := ⟨_, rfl⟩
      have X2 : Blk W w2.heap.size 57 #[.int .u8 (readOf f2 k).1, .int .u8 (readOf f2 k).2] := by rw [hW]; exact Blk.new' rfl
      have X1' : Blk W w1.heap.size 57 #[.int .u8 (readOf f1 k).1, .int .u8 (readOf f1 k).2] := by rw [hW]; exact X1.alloc _
      have bW : Below wr.heap.size wr W := by rw [hW]; exact (by repeat' (first | with_reducible exact Below.refl _ _ | with_reducible assumption | with_reducible refine Q.alloc ?_ _ | with_reducible refine Q.drew ?_ | with_reducible refine Q.drewN ?_ _ | with_reducible refine Q.call ?_ (by assumption)))
      rw [← hW]
      obtain ⟨x1, hx1⟩ : ∃ x1, x1 = w1.heap.size := ⟨_, rfl⟩
      obtain ⟨x2, hx2⟩ : ∃ x2, x2 = w2.heap.size := ⟨_, rfl⟩
      rw [← hx1] at X1' ⊢
      rw [← hx2] at X2 ⊢
      have TA := (HT.out.call B1.out).call bW
      have HBW := Lib.hid (Q.call B1.out bW)
      have L1 : ∀ y : BW W, y.val.cell? ⟨x1, 0, none⟩ = some (.int .u8 (readOf f1 k).1) := fun y => (X1'.call y.has).cell 0
      have L2 : ∀ y : BW W, y.val.cell? ⟨x2, 0, none⟩ = some (.int .u8 (readOf f2 k).1) := fun y => (X2.call y.has).cell 0
      have L3 : ∀ y : BW W, y.val.cell? ⟨gt, 4 + k, none⟩ = some (.int .u8 (a k)) := fun y => (TA.call y.has).ca hlt
      clear hz1 hz2 hx1 hx2 hW X1 X2 X1' bW TA hb1 hb2 hc1 hc2 hf1 hf2 z1 z2 ca hgl RC
      refine wp_region_below (by kernel_rfl) (by kernel_rfl) ?_
      repeat (go_big_quiet_step (fail))
      refine wpQuiet_nil ?_
      intro w9 hw9
      obtain ⟨y9, rfl⟩ := hw9
      obtain ⟨W9, hW9⟩ : ∃ W9, W9 = y9.val := ⟨_, rfl⟩
      have HB9 := Lib.hid (show Below w.heap.size w W9 by rw [hW9]; exact Q.call HBW.out y9.has)
      rw [← hW9]
      clear hW9 L1 L2 L3
      obtain ⟨v, hv⟩ : ∃ v, v = lowV f1 f2 a k := ⟨_, rfl⟩
      have HV := Lib.hid hv
      unfold lowV at hv
      rw [← hv]
      clear hv
      by_cases h0 : v = 0
      · subst h0
        go_wp2_with fail
        go_roundg (65536 - (k + 1))
        case measure => omega
        case rel => exact ⟨k + 1, by go_num, by omega, Nat.le_refl _, HB9.out, fun j hj => by
          by_cases hjk : j = k
          · rw [hjk]; exact HV.out.symm
          · exact I1.out j (by omega)⟩
      · have hvb : (v == 0) = false := by simp [h0]
        have HE : Aside (B = false) := by
          show _ = _
          cases hBB : B with
          | false => rfl
          | true => exact absurd (HV.out.trans (HB.out.1 hBB k hlt)) h0
        go_wp2_with fail
        (try simp only [Exit.noGoto_ret])
        go_ret
        exact ⟨by rw [HE.out]; rfl, HB9.out⟩
    · have hltz : ¬ (k : Int) < 65536 := by omega
      have HE : Aside (B = true) := HB.out.2 (fun j hj => I1.out j (by omega))
      go_wp2_with fail
      go_ret
      exact ⟨by rw [HE.out]; rfl, B1.out⟩
end Go.Proofs.YtggnkkmlabhofaaDoor
