/- The law LabelsLow: its plain part. (printed by gen/ll2.py) -/
import Derived.Test.YtggnkkmlabhofaaDoorLl1
import Derived.Test.YtggnkkmlabhofaaDoorLw1
import Derived.Test.YtggnkkmlabhofaaDoorLt1
namespace Go.Proofs.YtggnkkmlabhofaaDoor
set_option linter.unusedVariables false
set_option linter.unusedSimpArgs false
open Go.RowKit

/-- A byte that is another one. -/
structure TD where
  at_ : Int
  by_ : Int
/-- A slice that is read. -/
def ReadsX (w : World) (B : Nat) (a : Option Addr) (len : Nat) (ops : List TD) : Prop :=
  ops.length = len ∧ (0 < len → ∃ b off, a = some ⟨b, off, none⟩ ∧ b < B ∧ ∀ (k : Nat) (o : TD), ops[k]? = some o → w.cell? ⟨b, off + k * 2, none⟩ = some (.int .i64 o.at_) ∧ w.cell? ⟨b, off + k * 2 + 1, none⟩ = some (.int .u8 o.by_) ∧ 0 ≤ o.by_ ∧ o.by_ ≤ 255)
theorem ReadsX.keep {w w' : World} {B : Nat} {a : Option Addr} {len : Nat} {ops : List TD} (h : ReadsX w B a len ops) (hb : ∀ b off, b < B → w'.cell? ⟨b, off, none⟩ = w.cell? ⟨b, off, none⟩) : ReadsX w' B a len ops := by
  refine ⟨h.1, fun hl => ?_⟩
  obtain ⟨b, off, rfl, hlt, hc⟩ := h.2 hl
  refine ⟨b, off, rfl, hlt, fun k o hk => ?_⟩
  obtain ⟨c0, c1, cb⟩ := hc k o hk
  exact ⟨(hb b _ hlt).trans c0, (hb b _ hlt).trans c1, cb⟩
theorem ReadsX.below {w w' : World} {B : Nat} {a : Option Addr} {len : Nat} {ops : List TD} (h : ReadsX w B a len ops) (hb : Below B w w') : ReadsX w' B a len ops := h.keep fun b off hlt => hb.cell (p := ⟨b, off, none⟩) hlt
theorem ReadsX.wide {w : World} {B B' : Nat} {a : Option Addr} {len : Nat} {ops : List TD} (h : ReadsX w B a len ops) (hB : B ≤ B') : ReadsX w B' a len ops := by
  refine ⟨h.1, fun hl => ?_⟩
  obtain ⟨b, off, rfl, hlt, hc⟩ := h.2 hl
  exact ⟨b, off, rfl, by omega, hc⟩
theorem ReadsX.at_ {w : World} {B : Nat} {a : Option Addr} {len : Nat} {ops : List TD} (h : ReadsX w B a len ops) {k : Nat} (hk : k < len) :
    ∃ b off o, a = some ⟨b, off, none⟩ ∧ b < B ∧ ops[k]? = some o ∧ w.cell? ⟨b, off + k * 2, none⟩ = some (.int .i64 o.at_) ∧ w.cell? ⟨b, off + k * 2 + 1, none⟩ = some (.int .u8 o.by_) ∧ 0 ≤ o.by_ ∧ o.by_ ≤ 255 := by
  obtain ⟨b, off, rfl, hb, hc⟩ := h.2 (by omega)
  have hr : ops[k]? = some (ops[k]'(by rw [h.1]; exact hk)) := List.getElem?_eq_getElem _
  exact ⟨b, off, _, rfl, hb, hr, hc k _ hr⟩

theorem lowInt_bits (x : BitVec 8) : BitVec.ofInt 8 (IntKind.u8.wrap (x.toNat : Int)) = x := by
  have h : IntKind.u8.wrap (x.toNat : Int) = (x.toNat : Int) := by
    rw [IntKind.wrap_u8]
    have := x.isLt
    omega
  rw [h]
  simp
theorem wrap_bv (x : BitVec 8) : IntKind.u8.wrap (x.toNat : Int) = (x.toNat : Int) := by
  rw [IntKind.wrap_u8]
  have := x.isLt
  omega
theorem ofInt_rng (s : Int) (h0 : 0 ≤ s) (h1 : s ≤ 255) : ((BitVec.ofInt 8 s).toNat : Int) = s := by
  rw [BitVec.toNat_ofInt]
  omega
theorem bv_or (x s : BitVec 8) : x ||| s = s ↔ x &&& ~~~s = 0#8 := by
  constructor
  · intro h
    apply BitVec.eq_of_getLsbD_eq
    intro i hi
    have h5 := congrArg (fun z => BitVec.getLsbD z i) h
    simp only [BitVec.getLsbD_or] at h5
    simp only [BitVec.getLsbD_and, BitVec.getLsbD_not, BitVec.getLsbD_zero, hi, decide_true, Bool.true_and]
    generalize x.getLsbD i = p at *
    generalize s.getLsbD i = q at *
    revert h5
    cases p <;> cases q <;> decide
  · intro h
    apply BitVec.eq_of_getLsbD_eq
    intro i hi
    have h5 := congrArg (fun z => BitVec.getLsbD z i) h
    simp only [BitVec.getLsbD_and, BitVec.getLsbD_not, BitVec.getLsbD_zero, hi, decide_true, Bool.true_and] at h5
    simp only [BitVec.getLsbD_or]
    generalize x.getLsbD i = p at *
    generalize s.getLsbD i = q at *
    revert h5
    cases p <;> cases q <;> decide
theorem or_andNot (X s : Int) (h0 : 0 ≤ s) (h1 : s ≤ 255) : bits .or .u8 X s = s ↔ bits .andNot .u8 X s = 0 := by
  have e1 : bits .or .u8 X s = ((BitVec.ofInt 8 X ||| BitVec.ofInt 8 s).toNat : Int) := wrap_bv _
  have e2 : bits .andNot .u8 X s = ((BitVec.ofInt 8 X &&& ~~~(BitVec.ofInt 8 s)).toNat : Int) := wrap_bv _
  rw [e1, e2]
  have e3 := ofInt_rng s h0 h1
  rw [show (((BitVec.ofInt 8 X ||| BitVec.ofInt 8 s).toNat : Int) = s) ↔ BitVec.ofInt 8 X ||| BitVec.ofInt 8 s = BitVec.ofInt 8 s from ⟨fun h => BitVec.eq_of_toNat_eq (by omega), fun h => by rw [h]; exact e3⟩, bv_or]
  exact ⟨fun h => by rw [h]; rfl, fun h => BitVec.eq_of_toNat_eq (by simpa using h)⟩
theorem xor_rng (x y : Int) : 0 ≤ bits .xor .u8 x y ∧ bits .xor .u8 x y < 256 := by
  have e1 : bits .xor .u8 x y = ((BitVec.ofInt 8 x ^^^ BitVec.ofInt 8 y).toNat : Int) := wrap_bv _
  rw [e1]
  have := (BitVec.ofInt 8 x ^^^ BitVec.ofInt 8 y).isLt
  omega
theorem xor_comm (x y : Int) : bits .xor .u8 x y = bits .xor .u8 y x := by
  show IntKind.u8.wrap (((BitVec.ofInt 8 x ^^^ BitVec.ofInt 8 y).toNat : Nat) : Int) = IntKind.u8.wrap (((BitVec.ofInt 8 y ^^^ BitVec.ofInt 8 x).toNat : Nat) : Int)
  rw [BitVec.xor_comm]
theorem xor_self (x : Int) : bits .xor .u8 x x = 0 := by
  show IntKind.u8.wrap (((BitVec.ofInt 8 x ^^^ BitVec.ofInt 8 x).toNat : Nat) : Int) = 0
  rw [BitVec.xor_self]
  rfl
theorem andNot_zero (s : Int) : bits .andNot .u8 0 s = 0 := by
  have e2 : bits .andNot .u8 0 s = ((BitVec.ofInt 8 0 &&& ~~~(BitVec.ofInt 8 s)).toNat : Int) := wrap_bv _
  rw [e2]
  simp
theorem bitsL_rng : ∀ (l : List Sp) (x : Int), (∀ y ∈ l, 0 ≤ y.b ∧ y.b ≤ 255) → 0 ≤ bitsL l x ∧ bitsL l x ≤ 255
  | [], x, _ => ⟨Int.le_refl _, (by decide : (0 : Int) ≤ 255)⟩
  | y :: r, x, h => by
    unfold bitsL
    split
    · exact h y (List.mem_cons_self ..)
    · exact bitsL_rng r x (fun z hz => h z (List.mem_cons_of_mem _ hz))
/-- A byte turned, and many. -/
def tn1 (f : Nat → Int × Int) (o : TD) : Nat → Int × Int :=
  if errOf o.at_ = 0 then (if loadErr o.at_ 1 = 0 then loaded f o.at_ [bits .xor .u8 (readOf f o.at_).1 o.by_] 1 else f) else f
def tnAll (f : Nat → Int × Int) (ops : List TD) : Nat → Int × Int := ops.foldl tn1 f
theorem tnAll_snoc (f : Nat → Int × Int) (ops : List TD) (k : Nat) (o : TD) (h : ops[k]? = some o) : tnAll f (ops.take (k + 1)) = tn1 (tnAll f (ops.take k)) o := by
  obtain ⟨hk, rfl⟩ := List.getElem?_eq_some_iff.1 h
  unfold tnAll
  rw [List.take_succ_eq_append_getElem hk, List.foldl_append]
  rfl
theorem tn1_other (f : Nat → Int × Int) (o : TD) (k : Nat) (h : o.at_ ≠ (k : Int)) : tn1 f o k = f k := by
  unfold tn1
  split
  · split
    · show upd f (o.at_ + (0 : Nat)) _ k = f k
      unfold upd
      rw [if_neg (by simp; omega)]
    · rfl
  · rfl
theorem readOf_of {f f' : Nat → Int × Int} {k : Nat} (h : f' k = f k) : readOf f' (k : Int) = readOf f (k : Int) := by
  unfold readOf
  rw [Int.toNat_natCast, h]
theorem tnAll_other : ∀ (ops : List TD) (f : Nat → Int × Int) (k : Nat), (∀ o ∈ ops, o.at_ ≠ (k : Int)) → tnAll f ops k = f k
  | [], f, k, _ => rfl
  | o :: r, f, k, h => by
    show tnAll (tn1 f o) r k = f k
    rw [tnAll_other r (tn1 f o) k (fun p hp => h p (List.mem_cons_of_mem _ hp)), tn1_other f o k (h o (List.mem_cons_self ..))]
/-- Is a turned byte one that does not tell? -/
def quietT (F G : Nat → Int × Int) (S : Nat → Int) (o : TD) : Prop :=
  errOf o.at_ = 0 → bits .or .u8 (bits .xor .u8 (readOf F o.at_).1 (readOf G o.at_).1) (bitsAt S o.at_) = bitsAt S o.at_
theorem low_iff (F : Nat → Int × Int) (S : Nat → Int) (ops : List TD) (hS : ∀ x, 0 ≤ bitsAt S x ∧ bitsAt S x ≤ 255) : (∀ o ∈ ops, quietT F (tnAll F ops) S o) ↔ ∀ k, k < 65536 → lowV F (tnAll F ops) S k = 0 := by
  constructor
  · intro h k hk
    have hb : bitsAt S (k : Int) = S k := by unfold bitsAt; rw [if_pos (by omega)]; rfl
    unfold lowV
    by_cases he : errOf (k : Int) = 0
    · by_cases hx : ∃ o ∈ ops, o.at_ = (k : Int)
      · obtain ⟨o, ho, hat⟩ := hx
        have q := h o ho
        unfold quietT at q
        rw [hat] at q
        rw [← hb]
        exact (or_andNot _ _ (hS _).1 (hS _).2).1 (q he)
      · have hn := tnAll_other ops F k (fun o ho hat => hx ⟨o, ho, hat⟩)
        rw [readOf_of hn, xor_self]
        exact andNot_zero _
    · rw [show readOf F (k : Int) = (0, 0) by unfold readOf; rw [if_neg he], show readOf (tnAll F ops) (k : Int) = (0, 0) by unfold readOf; rw [if_neg he], xor_self]
      exact andNot_zero _
  · intro h o ho he
    obtain ⟨h0, h1, _⟩ := err_bounds he
    obtain ⟨k, hk⟩ := Int.eq_ofNat_of_zero_le h0
    have hb : bitsAt S (k : Int) = S k := by unfold bitsAt; rw [if_pos (by omega)]; rfl
    have q := h k (by omega)
    unfold lowV at q
    rw [← hb] at q
    rw [hk]
    exact (or_andNot _ _ (hS _).1 (hS _).2).2 q
theorem lowV_comm (F G : Nat → Int × Int) (S : Nat → Int) (k : Nat) : lowV F G S k = lowV G F S k := by
  unfold lowV
  rw [xor_comm]
theorem lowV_self (F : Nat → Int × Int) (S : Nat → Int) (k : Nat) : lowV F F S k = 0 := by
  unfold lowV
  rw [xor_self]
  exact andNot_zero _
theorem loadErr_one (x : Int) : loadErr x 1 = 0 ∨ loadErr x 1 = 10 := by
  unfold loadErr
  split
  · exact .inl rfl
  · exact .inr rfl
end Go.Proofs.YtggnkkmlabhofaaDoor
