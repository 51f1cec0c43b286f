/- Alarms: the document's text. (printed by gen/wt7.py) -/
import Derived.Test.YtggnkkmlabhofaaDoorWt6
namespace Go.Proofs.YtggnkkmlabhofaaDoor
set_option linter.unusedVariables false
set_option linter.unusedSimpArgs false
open Go.RowKit
attribute [local go_sem ↓] Go.wp_at_zero Go.wp_at_succ
attribute [local go_sem high] cat_ok

set_option maxRecDepth 100000 in
set_option maxHeartbeats 3200000 in
theorem ratext_eq (w : World) (rn : Nat) (cy : Int) (an bn : Nat) (h1 : 1 ≤ rn) (h4 : rn ≤ 4) (hc0 : 0 ≤ cy) (hc1 : cy ≤ 9223372036854775807) (ha : an ≤ 65535) (hb : bn ≤ 255) :
    Calls Tryd.prog 12 #[.agg #[.int .i64 (rn : Int), .int .i64 cy, .int .i64 (an : Int), .int .u8 (bn : Int)]] w fun e w' => e = .returned (.string (str (alT rn cy an bn))) ∧ Below w.heap.size w w' := by
  obtain ⟨W, hW⟩ : ∃ W, W = ((w.alloc (.cells #[.int .i64 (rn : Int), .int .i64 cy, .int .i64 (an : Int), .int .u8 (bn : Int)] 28)).alloc (.cells #[.string ⟨#[97, 100, 100, 114]⟩, .string ⟨#[98, 114, 97, 110, 99, 104]⟩, .string ⟨#[105, 114, 113]⟩, .string ⟨#[115, 105, 110, 107]⟩] 9)) := ⟨_, rfl⟩
  obtain ⟨hx, hhx⟩ : ∃ hx, hx = w.heap.size := ⟨_, rfl⟩
  obtain ⟨hy, hhy⟩ : ∃ hy, hy = w.heap.size + 1 := ⟨_, rfl⟩
  have bW : Below w.heap.size w W := by rw [hW]; exact (by repeat' (first | with_reducible exact Below.refl _ _ | with_reducible assumption | with_reducible refine Q.alloc ?_ _ | with_reducible refine Q.drew ?_ | with_reducible refine Q.drewN ?_ _ | with_reducible refine Q.call ?_ (by assumption)))
  have XB : Blk W hx 28 #[.int .i64 (rn : Int), .int .i64 cy, .int .i64 (an : Int), .int .u8 (bn : Int)] := by rw [hW]; exact (Blk.new' hhx).alloc _
  have YB : Blk W hy 9 #[.string ⟨#[97, 100, 100, 114]⟩, .string ⟨#[98, 114, 97, 110, 99, 104]⟩, .string ⟨#[105, 114, 113]⟩, .string ⟨#[115, 105, 110, 107]⟩] := by rw [hW]; exact Blk.new' (by rw [hhy]; simp)
  obtain ⟨k, hk⟩ : ∃ k, rn = k + 1 := ⟨rn - 1, by omega⟩
  have YC : (#[.string ⟨#[97, 100, 100, 114]⟩, .string ⟨#[98, 114, 97, 110, 99, 104]⟩, .string ⟨#[105, 114, 113]⟩, .string ⟨#[115, 105, 110, 107]⟩] : Array Value)[k]? = some (.string (str (ruleT rn))) := by
    subst hk
    have hc : k = 0 ∨ k = 1 ∨ k = 2 ∨ k = 3 := by omega
    rcases hc with rfl | rfl | rfl | rfl <;> rfl
  have L1 := fun y : BW W => (XB.call y.has).cell 0
  have L2 := fun y : BW W => (XB.call y.has).cell 1
  have L3 := fun y : BW W => (XB.call y.has).cell 2
  have L4 := fun y : BW W => (XB.call y.has).cell 3
  have L5 := fun y : BW W => ((YB.call y.has).cell k).trans YC
  have DE : ∀ V : World, Calls Tryd.prog 46 #[.int .i64 cy] V fun e w' => e = .returned (.string (str (Lib.decDigits cy.toNat))) ∧ Below V.heap.size V w' := by
    have h := dec_eq cy.toNat (by omega)
    rw [show ((cy.toNat : Nat) : Int) = cy by omega] at h
    exact h
  have X1 : ∀ V : World, Calls Tryd.prog 47 #[.int .i64 (an : Int), .int .i64 4] V fun e w' => e = .returned (.string (str (36 :: hexA 4 an []))) ∧ w' = V := fun V => (rHex_eq V an 4 ha (by decide)).mono fun e w' h => ⟨h.1, h.2.symm⟩
  have X2 : ∀ V : World, Calls Tryd.prog 47 #[.int .i64 (bn : Int), .int .i64 2] V fun e w' => e = .returned (.string (str (36 :: hexA 2 bn []))) ∧ w' = V := fun V => (rHex_eq V bn 2 (by omega) (by decide)).mono fun e w' h => ⟨h.1, h.2.symm⟩
  have q1 := rule_len rn
  have q2 := dec_len cy.toNat (by omega)
  have q3 := hexA_len 4 an []
  have q4 := hexA_len 2 bn []
  simp only [List.length_nil] at q3 q4
  obtain ⟨S1, e1⟩ : ∃ S, S = str (ruleT rn) := ⟨_, rfl⟩
  obtain ⟨S2, e2⟩ : ∃ S, S = str (Lib.decDigits cy.toNat) := ⟨_, rfl⟩
  obtain ⟨S3, e3⟩ : ∃ S, S = str (36 :: hexA 4 an []) := ⟨_, rfl⟩
  obtain ⟨S4, e4⟩ : ∃ S, S = str (36 :: hexA 2 bn []) := ⟨_, rfl⟩
  have HE := Lib.hid (show S1 ++ ByteArray.mk #[32] ++ S2 ++ ByteArray.mk #[32] ++ S3 ++ ByteArray.mk #[32] ++ S4 = str (alT rn cy an bn) from by
    rw [e1, e2, e3, e4, show ByteArray.mk #[32] = str [32] from rfl, str_app, str_app, str_app, str_app, str_app, str_app]
    unfold alT
    rw [show Lib.itoa cy = Lib.decDigits cy.toNat from by unfold Lib.itoa; rw [if_neg (by omega)]]
    simp)
  rw [← e1] at L5
  rw [← e2] at DE
  rw [← e3] at X1
  rw [← e4] at X2
  have z1 : S1.size ≤ 10 := by rw [e1, str_size]; omega
  have z2 : S2.size ≤ 30 := by rw [e2, str_size]; omega
  have z3 : S3.size ≤ 10 := by rw [e3, str_size]; simp only [List.length_cons]; omega
  have z4 : S4.size ≤ 10 := by rw [e4, str_size]; simp only [List.length_cons]; omega
  have s0 : (ByteArray.mk #[32]).size ≤ 1000000 := by decide
  have s1 : S1.size ≤ 1000000 := by omega
  have s2 : (S1 ++ ByteArray.mk #[32]).size ≤ 1000000 := by rw [sz_cat]; simp only [sz_one]; omega
  have s3 : S2.size ≤ 1000000 := by omega
  have s4 : (S1 ++ ByteArray.mk #[32] ++ S2).size ≤ 1000000 := by rw [sz_cat, sz_cat]; simp only [sz_one]; omega
  have s5 : (S1 ++ ByteArray.mk #[32] ++ S2 ++ ByteArray.mk #[32]).size ≤ 1000000 := by rw [sz_cat, sz_cat, sz_cat]; simp only [sz_one]; omega
  have s6 : S3.size ≤ 1000000 := by omega
  have s7 : (S1 ++ ByteArray.mk #[32] ++ S2 ++ ByteArray.mk #[32] ++ S3).size ≤ 1000000 := by rw [sz_cat, sz_cat, sz_cat, sz_cat]; simp only [sz_one]; omega
  have s8 : (S1 ++ ByteArray.mk #[32] ++ S2 ++ ByteArray.mk #[32] ++ S3 ++ ByteArray.mk #[32]).size ≤ 1000000 := by rw [sz_cat, sz_cat, sz_cat, sz_cat, sz_cat]; simp only [sz_one]; omega
  have s9 : S4.size ≤ 1000000 := by omega
  have HB := Lib.hid bW
  have hkn : k < 4 := by omega
  have hki : (k : Int) < 4 := by omega
  have hkj : (k : Int) ≤ 4 := by omega
  have hrk : (rn : Int) = (k : Int) + 1 := by omega
  clear q1 q2 q3 q4 z1 z2 z3 z4 e1 e2 e3 e4 bW XB YB YC
  rw [hrk] at L1
  rw [hrk] at hW
  rw [hrk]
  clear hrk hk h1 h4
  go_enter Tryd.func12, Tryd.ntmps12
  go_wp2_with fail
  rw [← hhy, ← hhx, ← hW]
  clear hW hhx hhy
  refine wp_region_below (by kernel_rfl) (by kernel_rfl) ?_
  repeat (go_big_quiet_step ((first | (go_at_call 46; exact calls_bw (DE _)) | (go_at_call 47; first | with_reducible exact calls_bw' (X1 _) | with_reducible exact calls_bw' (X2 _)))))
  refine wpQuiet_nil ?_
  first | (intro w9 hw9; obtain ⟨y1, rfl⟩ := hw9) | intro y1
  go_wp2_with fail
  go_ret
  exact ⟨by rw [← HE.out]; rfl, Q.call HB.out y1.has⟩
end Go.Proofs.YtggnkkmlabhofaaDoor
