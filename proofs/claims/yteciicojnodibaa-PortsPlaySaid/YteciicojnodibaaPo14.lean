/- Ports: two of them; what stays the same but for secrets. (printed by gen/po14.py) -/
import Derived.Test.YteciicojnodibaaPo13
namespace Go.Proofs.Yteciicojnodibaa
set_option linter.unusedVariables false
set_option linter.unusedSimpArgs false
open Go.RowKit

/-! ## Two ports -/
/-- Two ports, 1's and 2's, all of it made behind w0; what is in T is neither's. -/
def Two (w0 W : World) (g h : Nat) (s t : PS) (T : Nat → Prop) : Prop :=
  (s.ok ∧ t.ok) ∧ ∃ col v u, IsP W col 1 g v s ∧ IsP W col 2 h u t ∧ (∀ b, b < W.heap.size → T b → col b ≠ 1 ∧ col b ≠ 2) ∧ (∀ b, b < w0.heap.size → col b = 0) ∧ Below w0.heap.size w0 W
theorem Two.B {w0 W : World} {g h : Nat} {s t : PS} {T : Nat → Prop} (hm : Two w0 W g h s t T) : Below w0.heap.size w0 W := by
  obtain ⟨-, col, v, u, -, -, -, -, hb⟩ := hm
  exact hb
theorem Two.mono {w0 W : World} {g h : Nat} {s t : PS} {T T' : Nat → Prop} (hm : Two w0 W g h s t T) (ht : ∀ b, T' b → T b) : Two w0 W g h s t T' := by
  obtain ⟨h1, col, v, u, h2, h3, h4, h5, h6⟩ := hm
  exact ⟨h1, col, v, u, h2, h3, fun b hb hT => h4 b hb (ht b hT), h5, h6⟩
theorem Two.new {w0 W W' : World} {g h : Nat} {s t : PS} {T : Nat → Prop} (hm : Two w0 W g h s t T) (hb : Below W.heap.size W W') : Two w0 W' g h s t (fun b => T b ∨ W.heap.size ≤ b) := by
  obtain ⟨h1, col, v, u, h2, h3, h4, h5, h6⟩ := hm
  have h7 := h6.size
  refine ⟨h1, paint col W.heap.size 9, v, u, h2.new hb 9, h3.new hb 9, fun b hlt hT => ?_, fun b hlt => ?_, Q.call h6 hb⟩
  · by_cases hbw : b < W.heap.size
    · rw [paint_old hbw]
      rcases hT with hT | hT
      · exact h4 b hbw hT
      · omega
    · rw [paint_new (by omega)]
      decide
  · rw [paint_old (by omega)]
    exact h5 b hlt
/-- What an operation upon one of them leaves. -/
def After (w0 W W' : World) (g h : Nat) (s t : PS) (T : Nat → Prop) : Prop := Two w0 W' g h s t (fun b => T b ∧ b < W.heap.size) ∧ (∀ b, T b → b < W.heap.size → W'.heap[b]? = W.heap[b]?) ∧ W.heap.size ≤ W'.heap.size
theorem chg_below {w0 W W' : World} {col : Nat → Nat} {c : Nat} (hc : Chg (fun b => col b = c) W W') (h0 : c ≠ 0) (h5 : ∀ b, b < w0.heap.size → col b = 0) (h6 : Below w0.heap.size w0 W) : Below w0.heap.size w0 W' :=
  ⟨hc.os.trans h6.os, hc.tape.trans h6.tape, hc.output.trans h6.output, Nat.le_trans h6.size hc.size, fun k hk => (hc.block k (Nat.lt_of_lt_of_le hk h6.size) (fun e => h0 (e.symm.trans (h5 k hk)))).trans (h6.block k hk)⟩
theorem Two.op1 {w0 W W' : World} {g h : Nat} {t s' : PS} {T : Nat → Prop} {col : Nat → Nat} {u : PV} (hok : s'.ok ∧ t.ok) (h3 : IsP W col 2 h u t) (h4 : ∀ b, b < W.heap.size → T b → col b ≠ 1 ∧ col b ≠ 2) (h5 : ∀ b, b < w0.heap.size → col b = 0) (h6 : Below w0.heap.size w0 W)
    (hp : ∃ v', IsP W' (paint col W.heap.size 1) 1 g v' s') (hc : Chg (fun b => col b = 1) W W') : After w0 W W' g h s' t T := by
  obtain ⟨v', hp⟩ := hp
  have h7 := h6.size
  refine ⟨⟨hok, paint col W.heap.size 1, v', u, hp, h3.other hc (by decide) (by decide) 1, fun b hlt hT => ?_, fun b hlt => ?_, chg_below hc (by decide) h5 h6⟩, fun b hT hlt => hc.block b hlt (h4 b hlt hT).1, hc.size⟩
  · rw [paint_old hT.2]
    exact h4 b hT.2 hT.1
  · rw [paint_old (by omega)]
    exact h5 b hlt
theorem Two.op2 {w0 W W' : World} {g h : Nat} {s t' : PS} {T : Nat → Prop} {col : Nat → Nat} {v : PV} (hok : s.ok ∧ t'.ok) (h3 : IsP W col 1 g v s) (h4 : ∀ b, b < W.heap.size → T b → col b ≠ 1 ∧ col b ≠ 2) (h5 : ∀ b, b < w0.heap.size → col b = 0) (h6 : Below w0.heap.size w0 W)
    (hp : ∃ u', IsP W' (paint col W.heap.size 2) 2 h u' t') (hc : Chg (fun b => col b = 2) W W') : After w0 W W' g h s t' T := by
  obtain ⟨u', hp⟩ := hp
  have h7 := h6.size
  refine ⟨⟨hok, paint col W.heap.size 2, v, u', h3.other hc (by decide) (by decide) 2, hp, fun b hlt hT => ?_, fun b hlt => ?_, chg_below hc (by decide) h5 h6⟩, fun b hT hlt => hc.block b hlt (h4 b hlt hT).2, hc.size⟩
  · rw [paint_old hT.2]
    exact h4 b hT.2 hT.1
  · rw [paint_old (by omega)]
    exact h5 b hlt
theorem Two.rd1 {w0 W : World} {g h : Nat} {s t : PS} {T : Nat → Prop} (hm : Two w0 W g h s t T) (r : Int) :
    Calls Try.prog 14 #[.pointer (some ⟨g, 0, none⟩), .int .i64 r] W fun e w' => e = .returned (.tuple #[.agg #[.int .u8 (s.rd r).1, .int .u8 (s.rd r).2], .int .i64 (rErr r)]) ∧ After w0 W w' g h (s.took r) t T := by
  obtain ⟨h1, col, v, u, h2, h3, h4, h5, h6⟩ := hm
  exact (pread_calls W col 1 g v s r h2 h1.1 (by decide)).mono fun e w' ⟨he, v', hp, hc⟩ => ⟨he, Two.op1 ⟨PS.ok_took h1.1 r, h1.2⟩ h3 h4 h5 h6 ⟨v', hp⟩ hc⟩
theorem Two.rd2 {w0 W : World} {g h : Nat} {s t : PS} {T : Nat → Prop} (hm : Two w0 W g h s t T) (r : Int) :
    Calls Try.prog 14 #[.pointer (some ⟨h, 0, none⟩), .int .i64 r] W fun e w' => e = .returned (.tuple #[.agg #[.int .u8 (t.rd r).1, .int .u8 (t.rd r).2], .int .i64 (rErr r)]) ∧ After w0 W w' g h s (t.took r) T := by
  obtain ⟨h1, col, v, u, h2, h3, h4, h5, h6⟩ := hm
  exact (pread_calls W col 2 h u t r h3 h1.2 (by decide)).mono fun e w' ⟨he, v', hp, hc⟩ => ⟨he, Two.op2 ⟨h1.1, PS.ok_took h1.2 r⟩ h2 h4 h5 h6 ⟨v', hp⟩ hc⟩
theorem Two.wr1 {w0 W : World} {g h : Nat} {s t : PS} {T : Nat → Prop} (hm : Two w0 W g h s t T) (r b x cyc : Int) :
    Calls Try.prog 15 #[.pointer (some ⟨g, 0, none⟩), .int .i64 r, .agg #[.int .u8 b, .int .u8 x], .int .i64 cyc] W fun e w' => e = .returned (.tuple #[.int .i64 (wRule r x), .int .i64 (s.wErr r x)]) ∧ After w0 W w' g h (s.wrote r b x cyc) t T := by
  obtain ⟨h1, col, v, u, h2, h3, h4, h5, h6⟩ := hm
  exact (pwrite_calls W col 1 g v s r b x cyc h2 (by decide)).mono fun e w' ⟨he, v', hp, hc⟩ => ⟨he, Two.op1 ⟨PS.ok_wrote h1.1 r b x cyc, h1.2⟩ h3 h4 h5 h6 ⟨v', hp⟩ hc⟩
theorem Two.wr2 {w0 W : World} {g h : Nat} {s t : PS} {T : Nat → Prop} (hm : Two w0 W g h s t T) (r b x cyc : Int) :
    Calls Try.prog 15 #[.pointer (some ⟨h, 0, none⟩), .int .i64 r, .agg #[.int .u8 b, .int .u8 x], .int .i64 cyc] W fun e w' => e = .returned (.tuple #[.int .i64 (wRule r x), .int .i64 (t.wErr r x)]) ∧ After w0 W w' g h s (t.wrote r b x cyc) T := by
  obtain ⟨h1, col, v, u, h2, h3, h4, h5, h6⟩ := hm
  exact (pwrite_calls W col 2 h u t r b x cyc h3 (by decide)).mono fun e w' ⟨he, v', hp, hc⟩ => ⟨he, Two.op2 ⟨h1.1, PS.ok_wrote h1.2 r b x cyc⟩ h2 h4 h5 h6 ⟨v', hp⟩ hc⟩
theorem Two.low {w0 W : World} {g h : Nat} {s t : PS} {T : Nat → Prop} (hm : Two w0 W g h s t T) (hl : LowP s t) :
    Calls Try.prog 13 #[.pointer (some ⟨g, 0, none⟩), .pointer (some ⟨h, 0, none⟩)] W fun e w' => e = .returned (.bool true) ∧ Below W.heap.size W w' := by
  obtain ⟨h1, col, v, u, h2, h3, -⟩ := hm
  exact low_calls W col 1 2 g h v u s t h2 h3 h1.1 hl
theorem Two.low' {w0 W : World} {g h : Nat} {s t : PS} {T : Nat → Prop} (hm : Two w0 W g h s t T) (hl : LowP t s) :
    Calls Try.prog 13 #[.pointer (some ⟨h, 0, none⟩), .pointer (some ⟨g, 0, none⟩)] W fun e w' => e = .returned (.bool true) ∧ Below W.heap.size W w' := by
  obtain ⟨h1, col, v, u, h2, h3, -⟩ := hm
  exact low_calls W col 2 1 h g u v t s h3 h2 h1.2 hl
theorem Two.out1 {w0 W : World} {g h : Nat} {s t : PS} {T : Nat → Prop} (hm : Two w0 W g h s t T) :
    Calls Try.prog 17 #[.pointer (some ⟨g, 0, none⟩)] W fun e w' => ∃ sv, e = .returned sv ∧ w'.ownsRow W.heap.size 5 1 sv s.out.length (EU.row s.out) ∧ Below W.heap.size W w' := by
  obtain ⟨h1, col, v, u, h2, h3, -⟩ := hm
  exact pout_calls W col 1 g v s h2 h1.1
theorem Two.out2 {w0 W : World} {g h : Nat} {s t : PS} {T : Nat → Prop} (hm : Two w0 W g h s t T) :
    Calls Try.prog 17 #[.pointer (some ⟨h, 0, none⟩)] W fun e w' => ∃ sv, e = .returned sv ∧ w'.ownsRow W.heap.size 5 1 sv t.out.length (EU.row t.out) ∧ Below W.heap.size W w' := by
  obtain ⟨h1, col, v, u, h2, h3, -⟩ := hm
  exact pout_calls W col 2 h u t h3 h1.2
/-- Two new ones. -/
theorem two_new1 {w0 : World} (x y : Value) (xs ys : List Int) (R : Nat → Prop) (hx : Rd EU w0 R x xs) (hy : Rd EU w0 R y ys) (h1 : xs.length ≤ 65536) (h2 : ys.length ≤ 65536) :
    Calls Try.prog 8 #[x, y] w0 fun e w1 => ∃ g, e = .returned (.tuple #[.pointer (some ⟨g, 0, none⟩), .int .i64 0]) ∧ Below w0.heap.size w0 w1 ∧
      ∀ (x2 y2 : Value) (xs2 ys2 : List Int), Rd EU w0 R x2 xs2 → Rd EU w0 R y2 ys2 → xs2.length ≤ 65536 → ys2.length ≤ 65536 →
        Calls Try.prog 8 #[x2, y2] w1 fun e w2 => ∃ h, e = .returned (.tuple #[.pointer (some ⟨h, 0, none⟩), .int .i64 0]) ∧ Two w0 w2 g h ⟨xs, ys, [], [], []⟩ ⟨xs2, ys2, [], [], []⟩ (fun b => b < w0.heap.size) := by
  refine (new_calls x y xs ys R w0 hx hy h1 h2 1 (by decide) (fun _ => 0)).mono fun e w1 ⟨g, he, hg, hb, v, hp⟩ => ⟨g, he, hb, fun x2 y2 xs2 ys2 hx2 hy2 h3 h4 => ?_⟩
  refine (new_calls x2 y2 xs2 ys2 R w1 (hx2.below hb) (hy2.below hb) h3 h4 2 (by decide) (fun b => if b < w0.heap.size then 0 else if b = g then 1 else 0)).mono fun e w2 ⟨h, he, hh, hb2, u, hq⟩ => ?_
  have s1 := hb.size
  refine ⟨h, he, ⟨⟨h1, h2, Nat.zero_le _, Nat.zero_le _, Nat.zero_le _⟩, ⟨h3, h4, Nat.zero_le _, Nat.zero_le _, Nat.zero_le _⟩⟩, _, v, u, hp.keep (fun b hlt _ => ⟨hb2.block b hlt, if_pos hlt⟩) hb2.size, hq, fun b _ hT => ?_, fun b hlt => ?_, Q.call hb hb2⟩
  · have hT' : b < w0.heap.size := hT
    have e1 : b < w1.heap.size := by omega
    simp [e1, hT']
  · have e1 : b < w1.heap.size := by omega
    simp [e1, hlt]

/-! ## What stays the same but for secrets -/
theorem bor_255 (v : Int) : bits .or .u8 v 255 = 255 := by
  have h : BitVec.ofInt 8 v ||| BitVec.ofInt 8 255 = BitVec.ofInt 8 255 := by
    apply BitVec.eq_of_getLsbD_eq
    intro i hi
    rw [BitVec.getLsbD_or]
    have : (BitVec.ofInt 8 255).getLsbD i = true := by
      have : ∀ i, i < 8 → (BitVec.ofInt 8 255).getLsbD i = true := by decide
      exact this i hi
    rw [this, Bool.or_true]
  show IntKind.u8.wrap ((BitVec.ofInt 8 v ||| BitVec.ofInt 8 255).toNat : Int) = 255
  rw [h]
  decide
theorem ofInt_bits (x : BitVec 8) : BitVec.ofInt 8 (IntKind.u8.wrap (x.toNat : Int)) = x := by
  have h : IntKind.u8.wrap (x.toNat : Int) = (x.toNat : Int) := by
    rw [IntKind.wrap_u8]
    have := x.isLt
    omega
  rw [h]
  simp
theorem bor_same {a b t : Int} (h : bits .andNot .u8 (bits .xor .u8 a b) t = 0) : bits .or .u8 a t = bits .or .u8 b t := by
  have h1 : (BitVec.ofInt 8 a ^^^ BitVec.ofInt 8 b) &&& ~~~(BitVec.ofInt 8 t) = 0#8 := by
    have h2 : IntKind.u8.wrap (((BitVec.ofInt 8 (IntKind.u8.wrap ((BitVec.ofInt 8 a ^^^ BitVec.ofInt 8 b).toNat : Int)) &&& ~~~(BitVec.ofInt 8 t)).toNat : Nat) : Int) = 0 := h
    rw [ofInt_bits] at h2
    have h3 := congrArg (BitVec.ofInt 8) h2
    rw [ofInt_bits] at h3
    exact h3
  have h4 : BitVec.ofInt 8 a ||| BitVec.ofInt 8 t = BitVec.ofInt 8 b ||| BitVec.ofInt 8 t := by
    apply BitVec.eq_of_getLsbD_eq
    intro i hi
    have h5 := congrArg (fun z => BitVec.getLsbD z i) h1
    simp only [BitVec.getLsbD_and, BitVec.getLsbD_xor, BitVec.getLsbD_not, BitVec.getLsbD_zero] at h5
    rw [BitVec.getLsbD_or, BitVec.getLsbD_or]
    generalize (BitVec.ofInt 8 a).getLsbD i = p at *
    generalize (BitVec.ofInt 8 b).getLsbD i = q at *
    generalize (BitVec.ofInt 8 t).getLsbD i = r at *
    have h8 : decide (i < 8) = true := decide_eq_true hi
    rw [h8] at h5
    revert h5
    cases p <;> cases q <;> cases r <;> decide
  show IntKind.u8.wrap ((BitVec.ofInt 8 a ||| BitVec.ofInt 8 t).toNat : Int) = IntKind.u8.wrap ((BitVec.ofInt 8 b ||| BitVec.ofInt 8 t).toNat : Int)
  rw [h4]
/-- A byte whose secret bits are turned. -/
theorem sameB_turn (v t x : Int) : sameB (v, t) (bits .xor .u8 v (bits .and .u8 t x), t) = true := by
  unfold sameB
  rw [decide_eq_true rfl, Bool.true_and, beq_iff_eq]
  show IntKind.u8.wrap (((BitVec.ofInt 8 (IntKind.u8.wrap ((BitVec.ofInt 8 v ^^^ BitVec.ofInt 8 (IntKind.u8.wrap ((BitVec.ofInt 8 v ^^^ BitVec.ofInt 8 (IntKind.u8.wrap ((BitVec.ofInt 8 t &&& BitVec.ofInt 8 x).toNat : Int))).toNat : Int))).toNat : Int)) &&& ~~~(BitVec.ofInt 8 t)).toNat : Nat) : Int) = 0
  rw [ofInt_bits, ofInt_bits, ofInt_bits]
  have h : (BitVec.ofInt 8 v ^^^ (BitVec.ofInt 8 v ^^^ (BitVec.ofInt 8 t &&& BitVec.ofInt 8 x))) &&& ~~~(BitVec.ofInt 8 t) = 0#8 := by
    apply BitVec.eq_of_getLsbD_eq
    intro i hi
    simp only [BitVec.getLsbD_and, BitVec.getLsbD_xor, BitVec.getLsbD_not, BitVec.getLsbD_zero]
    generalize (BitVec.ofInt 8 v).getLsbD i = p at *
    generalize (BitVec.ofInt 8 t).getLsbD i = q at *
    generalize (BitVec.ofInt 8 x).getLsbD i = r at *
    rw [decide_eq_true hi]
    cases p <;> cases q <;> cases r <;> decide
  rw [h]
  decide
theorem turn_plain (v x : Int) (h0 : 0 ≤ v) (h1 : v ≤ 255) : bits .xor .u8 v (bits .and .u8 0 x) = v := by
  show IntKind.u8.wrap ((BitVec.ofInt 8 v ^^^ BitVec.ofInt 8 (IntKind.u8.wrap ((BitVec.ofInt 8 0 &&& BitVec.ofInt 8 x).toNat : Int))).toNat : Int) = v
  rw [ofInt_bits]
  have h : BitVec.ofInt 8 v ^^^ (BitVec.ofInt 8 0 &&& BitVec.ofInt 8 x) = BitVec.ofInt 8 v := by
    simp
  rw [h]
  have h2 : ((BitVec.ofInt 8 v).toNat : Int) = v := by
    rw [BitVec.toNat_ofInt]
    omega
  rw [h2, IntKind.wrap_u8]
  omega
theorem LowP.refl (s : PS) : LowP s s := ⟨rfl, rfl, rfl, ⟨rfl, fun k x y hx hy => by rw [hx] at hy; cases hy; exact sameB_self x⟩, rfl⟩
theorem alikeL.snoc {l m : List (Int × Int)} (h : alikeL l m) {x y : Int × Int} (hxy : sameB x y = true) : alikeL (l ++ [x]) (m ++ [y]) := by
  refine ⟨by simp [h.1], fun k u v hu hv => ?_⟩
  by_cases hk : k < l.length
  · rw [List.getElem?_append_left hk] at hu
    rw [List.getElem?_append_left (by rw [← h.1]; exact hk)] at hv
    exact h.2 k u v hu hv
  · rw [List.getElem?_append_right (by omega)] at hu
    rw [List.getElem?_append_right (by rw [← h.1]; omega)] at hv
    rw [← h.1] at hv
    have hk0 : k - l.length = 0 := by
      have := (List.getElem?_eq_some_iff.1 hu).1
      simpa using this
    rw [hk0] at hu hv
    simp at hu hv
    subst hu hv
    exact hxy
theorem LowP.took {s t : PS} (h : LowP s t) (r : Int) : LowP (s.took r) (t.took r) := by
  unfold PS.took
  split
  · exact ⟨by rw [h.pub], h.sec, h.out, h.kept, h.log⟩
  · split
    · exact ⟨h.pub, by simp only [List.length_tail]; rw [h.sec], h.out, h.kept, h.log⟩
    · exact h
/-- What is answered is the same but for secret bits, and never secret but where secrets are. -/
theorem LowP.rd {s t : PS} (h : LowP s t) (r : Int) : (s.rd r).2 = (t.rd r).2 ∧ bits .or .u8 (s.rd r).1 (s.rd r).2 = bits .or .u8 (t.rd r).1 (t.rd r).2 ∧ ((s.rd r).2 ≠ 0 → r = 1 ∨ r = 3) := by
  unfold PS.rd
  split
  · rw [h.pub]
    exact ⟨rfl, rfl, fun hh => absurd rfl hh⟩
  · split
    · rename_i h1
      exact ⟨rfl, by rw [bor_255, bor_255], fun _ => .inl h1⟩
    · split
      · rw [h.out]
        exact ⟨rfl, rfl, fun hh => absurd rfl hh⟩
      · split
        · rename_i h3
          have key : sameB (lastB s.kept) (lastB t.kept) = true := by
            obtain ⟨hl, ha⟩ := h.kept
            unfold lastB
            rw [List.getLastD_eq_getLast?, List.getLastD_eq_getLast?, List.getLast?_eq_getElem?, List.getLast?_eq_getElem?, ← hl]
            by_cases h0 : s.kept.length = 0
            · have e1 := List.eq_nil_of_length_eq_zero h0
              have e2 := List.eq_nil_of_length_eq_zero (hl.symm.trans h0)
              rw [e1, e2]
              exact sameB_self _
            · have h5 : s.kept.length - 1 < s.kept.length := by omega
              have h6 : s.kept.length - 1 < t.kept.length := by omega
              rw [List.getElem?_eq_getElem h5, List.getElem?_eq_getElem h6]
              exact ha _ _ _ (List.getElem?_eq_getElem h5) (List.getElem?_eq_getElem h6)
          unfold sameB at key
          rw [Bool.and_eq_true, decide_eq_true_eq, beq_iff_eq] at key
          exact ⟨key.1, by rw [← key.1]; exact bor_same key.2, fun _ => .inr h3⟩
        · split
          · rw [h.log]
            exact ⟨rfl, rfl, fun hh => absurd rfl hh⟩
          · exact ⟨rfl, rfl, fun hh => absurd rfl hh⟩
theorem LowP.err {s t : PS} (h : LowP s t) (r x : Int) : s.wErr r x = t.wErr r x := by
  unfold PS.wErr
  rw [h.out, h.kept.1, h.log]
theorem LowP.wrote {s t : PS} (h : LowP s t) (r b b' x cyc : Int) (hb : sameB (b, x) (b', x) = true) (h0 : x = 0 → b = b') (h4 : r = 4 → x = 0) : LowP (s.wrote r b x cyc) (t.wrote r b' x cyc) := by
  unfold PS.wrote
  rw [h.err r x]
  split
  · exact h
  · rename_i he
    split
    · rename_i h2
      have hx : x = 0 := by
        refine Classical.byContradiction fun hx => he ?_
        unfold PS.wErr
        rw [if_neg (by omega), if_pos ⟨by omega, hx⟩]
        decide
      exact ⟨h.pub, h.sec, by simp only; rw [h.out, h0 hx], h.kept, h.log⟩
    · split
      · exact ⟨h.pub, h.sec, h.out, h.kept.snoc hb, h.log⟩
      · split
        · rename_i h5
          exact ⟨h.pub, h.sec, h.out, h.kept, by simp only; rw [h.log, h0 (h4 h5)]⟩
        · exact h
theorem LowP.symm {s t : PS} (h : LowP s t) : LowP t s := by
  refine ⟨h.pub.symm, h.sec.symm, h.out.symm, ⟨h.kept.1.symm, fun k x y hx hy => ?_⟩, h.log.symm⟩
  have := h.kept.2 k y x hy hx
  unfold sameB at this ⊢
  rw [Bool.and_eq_true, decide_eq_true_eq, beq_iff_eq] at this ⊢
  refine ⟨this.1.symm, ?_⟩
  rw [← this.1, show bits .xor .u8 x.1 y.1 = bits .xor .u8 y.1 x.1 from ?_]
  · exact this.2
  · show IntKind.u8.wrap ((BitVec.ofInt 8 x.1 ^^^ BitVec.ofInt 8 y.1).toNat : Int) = IntKind.u8.wrap ((BitVec.ofInt 8 y.1 ^^^ BitVec.ofInt 8 x.1).toNat : Int)
    rw [BitVec.xor_comm]
end Go.Proofs.Yteciicojnodibaa
