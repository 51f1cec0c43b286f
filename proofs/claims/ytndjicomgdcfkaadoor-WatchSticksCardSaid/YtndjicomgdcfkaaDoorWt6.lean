/- Alarms: watch.Text. (printed by gen/wt6.py) -/
import Derived.Test.YtndjicomgdcfkaaDoorWt5
namespace Go.Proofs.YtndjicomgdcfkaaDoor
set_option linter.unusedVariables false
set_option linter.unusedSimpArgs false
open Go.RowKit
attribute [local go_sem ↓] Go.wp_at_zero Go.wp_at_succ
attribute [local go_sem high] cat_ok

def ruleT (n : Nat) : By := if n = 1 then [97, 100, 100, 114] else if n = 2 then [98, 114, 97, 110, 99, 104] else if n = 3 then [105, 114, 113] else [115, 105, 110, 107]
/-- The rules' words are laid. -/
def WD (w : World) : Prop := ∀ n, 1 ≤ n → n ≤ 4 → w.cell? ⟨0, n, none⟩ = some (.string (str (ruleT n)))
theorem WD.on {w V : World} (h : WD w) (hb : Below w.heap.size w V) : WD V := fun n h1 h4 =>
  (hb.cell (p := ⟨0, n, none⟩) (World.block_lt_of_cell? w _ (h n h1 h4))).trans (h n h1 h4)
theorem rule_len (n : Nat) : (ruleT n).length ≤ 6 := by
  unfold ruleT
  split
  · simp
  split
  · simp
  split <;> simp
def alT (rn : Nat) (cy : Int) (an bn : Nat) : By := ruleT rn ++ [32] ++ Lib.itoa cy ++ (32 :: 36 :: hexA 4 an []) ++ (32 :: 36 :: hexA 2 bn [])
theorem sz_cat (a b : ByteArray) : (a ++ b).size = a.size + b.size := by simp
theorem sz_one (x : UInt8) : (ByteArray.mk #[x]).size = 1 := rfl
set_option maxRecDepth 100000 in
set_option maxHeartbeats 3200000 in
theorem atext_eq (w : World) (rn : Nat) (cy : Int) (an bn : Nat) (h1 : 1 ≤ rn) (h4 : rn ≤ 4) (hc0 : 0 ≤ cy) (hc1 : cy ≤ 9223372036854775807) (ha : an ≤ 65535) (hb : bn ≤ 255) (hT : TB w) (hZ : TZ w) (hW : WD w) :
    Calls Tryd.prog 27 #[.agg #[.int .i64 (rn : Int), .int .i64 cy, .int .i64 (an : Int), .int .u8 (bn : Int)]] w fun e w' => e = .returned (.tuple #[.string (str (alT rn cy an bn)), .int .i64 0]) ∧ Below w.heap.size w w' := by
  have FI := fun V => afits_eq V (rn : Int) cy (an : Int) (bn : Int) true (decide_eq_true (by omega)).symm
  have IT := fun V (hV : Below w.heap.size w V) => itoa_eq V cy (by omega) hc1 (hT.on hV)
  have X1 : ∀ V : World, Below w.heap.size w V → Calls Tryd.prog 39 #[.int .i64 (an : Int), .int .i64 4] V fun e w' => e = .returned (.string (str (32 :: 36 :: hexA 4 an []))) ∧ Below V.heap.size V w' := fun V hV => htext_eq V an 4 ha (by omega) (by decide) (by decide) (hZ.on hV)
  have X2 : ∀ V : World, Below w.heap.size w V → Calls Tryd.prog 39 #[.int .i64 (bn : Int), .int .i64 2] V fun e w' => e = .returned (.string (str (32 :: 36 :: hexA 2 bn []))) ∧ Below V.heap.size V w' := fun V hV => htext_eq V bn 2 (by omega) (by omega) (by decide) (by decide) (hZ.on hV)
  have HWD := Lib.hid hW
  clear hT hZ hW
  go_enter Tryd.func27, Tryd.ntmps27
  go_wp2_with (go_at_call 38; (with_reducible refine (FI _).mono ?_); rintro e w1 ⟨rfl, hb1⟩; refine Hid.out ?_)
  refine Lib.hid ?_
  have BA := Lib.hid ((Blk.new w 47 #[.int .i64 (rn : Int), .int .i64 cy, .int .i64 (an : Int), .int .u8 (bn : Int)]).call hb1)
  have hbw : Below w.heap.size w w1 := (by repeat' (first | with_reducible exact Below.refl _ _ | with_reducible assumption | with_reducible refine Q.alloc ?_ _ | with_reducible refine Q.drew ?_ | with_reducible refine Q.drewN ?_ _ | with_reducible refine Q.call ?_ (by assumption)))
  clear hb1
  have LB := fun (y : BW w1) => Q.call hbw y.has
  have L0 := fun y : BW w1 => (y.has.cell (p := ⟨w.heap.size, 0, none⟩) BA.out.lt).trans (BA.out.cell 0)
  have L1 := fun y : BW w1 => (y.has.cell (p := ⟨w.heap.size, 1, none⟩) BA.out.lt).trans (BA.out.cell 1)
  have L2 := fun y : BW w1 => (y.has.cell (p := ⟨w.heap.size, 2, none⟩) BA.out.lt).trans (BA.out.cell 2)
  have L3 := fun y : BW w1 => (y.has.cell (p := ⟨w.heap.size, 3, none⟩) BA.out.lt).trans (BA.out.cell 3)
  have L4 := fun y : BW w1 => (HWD.out.on (LB y)) rn h1 h4
  have I1 := fun y : BW w1 => IT y.val (LB y)
  have I2 := fun y : BW w1 => X1 y.val (LB y)
  have I3 := fun y : BW w1 => X2 y.val (LB y)
  have q1 := rule_len rn
  have q2 := Lib.itoa_length_le cy (by omega) hc1
  have q3 := hexA_len 4 an []
  have q4 := hexA_len 2 bn []
  simp only [List.length_nil] at q3 q4
  obtain ⟨S1, e1⟩ : ∃ S, S = str (ruleT rn) := ⟨_, rfl⟩
  obtain ⟨S2, e2⟩ : ∃ S, S = str (Lib.itoa cy) := ⟨_, rfl⟩
  obtain ⟨S3, e3⟩ : ∃ S, S = str (32 :: 36 :: hexA 4 an []) := ⟨_, rfl⟩
  obtain ⟨S4, e4⟩ : ∃ S, S = str (32 :: 36 :: hexA 2 bn []) := ⟨_, rfl⟩
  have HE := Lib.hid (show S1 ++ ByteArray.mk #[32] ++ S2 ++ S3 ++ S4 = str (alT rn cy an bn) from by rw [e1, e2, e3, e4, show ByteArray.mk #[32] = str [32] from rfl, str_app, str_app, str_app, str_app]; rfl)
  rw [← e1] at L4
  rw [← e2] at I1
  rw [← e3] at I2
  rw [← e4] at I3
  have z1 : S1.size ≤ 10 := by rw [e1, str_size]; omega
  have z2 : S2.size ≤ 30 := by rw [e2, str_size]; omega
  have z3 : S3.size ≤ 10 := by rw [e3, str_size]; simp only [List.length_cons]; omega
  have z4 : S4.size ≤ 10 := by rw [e4, str_size]; simp only [List.length_cons]; omega
  have s1 : S1.size ≤ 1000000 := by omega
  have s2 : (S1 ++ ByteArray.mk #[32]).size ≤ 1000000 := by rw [sz_cat]; simp only [sz_one]; omega
  have s3 : S2.size ≤ 1000000 := by omega
  have s4 : (S1 ++ ByteArray.mk #[32] ++ S2).size ≤ 1000000 := by rw [sz_cat, sz_cat]; simp only [sz_one]; omega
  have s5 : S3.size ≤ 1000000 := by omega
  have s6 : (S1 ++ ByteArray.mk #[32] ++ S2 ++ S3).size ≤ 1000000 := by rw [sz_cat, sz_cat, sz_cat]; simp only [sz_one]; omega
  have s7 : S4.size ≤ 1000000 := by omega
  have HHW := Lib.hid hbw
  have rni : (rn : Int) < 5 := by omega
  have rnn : rn < 5 := by omega
  obtain ⟨hx, hhx⟩ : ∃ hx, hx = w.heap.size := ⟨_, rfl⟩
  have hxl : hx < w1.heap.size := by rw [hhx]; exact BA.out.lt
  rw [← hhx] at L0 L1 L2 L3 ⊢
  clear q1 q2 q3 q4 z1 z2 z3 z4 e1 e2 e3 e4 IT X1 X2 FI LB BA hbw HWD hhx
  go_wp2_with fail
  refine wp_region_below (by kernel_rfl) (by kernel_rfl) ?_
  repeat (go_big_quiet_step ((first | (go_at_call 41; exact calls_bw (I1 _)) | (go_at_call 39; first | with_reducible exact calls_bw (I2 _) | with_reducible exact calls_bw (I3 _)))))
  refine wpQuiet_nil ?_
  intro w9 hw9
  obtain ⟨y9, rfl⟩ := hw9
  go_wp2_with fail
  go_ret2
  exact ⟨by rw [← HE.out]; rfl, Q.call HHW.out y9.has⟩
end Go.Proofs.YtndjicomgdcfkaaDoor
