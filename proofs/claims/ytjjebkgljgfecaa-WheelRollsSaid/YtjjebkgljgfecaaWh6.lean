/- The wheel: Same, same, awake. (printed by gen/wh6.py) -/
import Derived.Test.YtjjebkgljgfecaaWh5
namespace Go.Proofs.Ytjjebkgljgfecaa
set_option linter.unusedVariables false
set_option linter.unusedSimpArgs false
open Go.RowKit
attribute [local go_sem] run_store_complex run_store_float

def St.byteOf (s : St) (r : Int) : Int := if r = 0 then s.v else if r = 1 then s.X % 256 else if r = 2 then s.Y % 256 else 0
def readErr (r : Int) : Int := if r < 0 ∨ 2 < r then 10 else 0
theorem readS_calls (w : World) (g : Nat) (s : St) (r : Int) (hs : s.ok) (h : Blk w g 57 s.cells) :
    Calls Try.prog 17 #[.pointer (some ⟨g, 0, none⟩), .int .i64 r] w fun e w' => e = .returned (.tuple #[.agg #[.int .u8 (s.byteOf r), .int .u8 0], .int .i64 (readErr r)]) ∧ Below w.heap.size w w' :=
  read_calls w g _ _ _ _ s.v r s.X s.Y h (isF_ofInt _) (isF_ofInt _) (by have := hs.2.1; omega) (by have := hs.2.1; omega) (by have := hs.2.2.1; omega) (by have := hs.2.2.1; omega)
theorem atS_calls (w : World) (g : Nat) (s : St) (h : Blk w g 57 s.cells) :
    Calls Try.prog 13 #[.pointer (some ⟨g, 0, none⟩)] w fun e w' => e = .returned (.complex .f64 (fo s.X) (fo s.Y)) ∧ w' = w := at_calls w g _ _ _ h
theorem wayS_calls (w : World) (g : Nat) (s : St) (h : Blk w g 57 s.cells) :
    Calls Try.prog 14 #[.pointer (some ⟨g, 0, none⟩)] w fun e w' => e = .returned (.complex .f64 (fo (wx s.k)) (fo (wy s.k))) ∧ w' = w := way_calls w g _ _ _ h
theorem cloneS_calls (w : World) (g : Nat) (s : St) (h : Blk w g 57 s.cells) :
    Calls Try.prog 15 #[.pointer (some ⟨g, 0, none⟩)] w fun e w' => e = .returned (.pointer (some ⟨w.heap.size, 0, none⟩)) ∧ w' = w.alloc (.cells s.cells 57) := clone_calls w g _ _ _ _ _ h
def St.init : St := ⟨0, 0, 0, 0⟩
theorem St.ok_init : St.init.ok := ⟨by decide, by decide, by decide, by decide, by decide⟩
theorem newS_calls (w : World) :
    Calls Try.prog 11 #[] w fun e w' => e = .returned (.pointer (some ⟨w.heap.size, 0, none⟩)) ∧ w' = w.alloc (.cells St.init.cells 57) := new_calls w

theorem run_equalIn_complex {P : Program} (w : World) (d : Nat) (t : TypeId) (k k' : FloatKind) (a b c e : Nat) (h : P.underlying t = some (.complex k')) :
    (Op.equalIn (d + 1) t (.complex k a b) (.complex k c e)).run P w = .ok ((k.format.order a c == some .eq) && (k.format.order b e == some .eq)) w := by
  simp [Op.equalIn, run_underlying h, Op.floatEq]
attribute [local go_sem] run_equalIn_complex
theorem eql_wheel (w : World) (a1 a2 a3 a4 b1 b2 b3 b4 : Nat) (a5 b5 : Int) :
    (binOp .eql 57 (.agg #[.complex .f64 a1 a2, .complex .f64 a3 a4, .int .u8 a5]) (.agg #[.complex .f64 b1 b2, .complex .f64 b3 b4, .int .u8 b5])).run Try.prog w =
      .ok (.bool (((FloatKind.f64.format.order a1 b1 == some .eq) && (FloatKind.f64.format.order a2 b2 == some .eq)) && ((FloatKind.f64.format.order a3 b3 == some .eq) && (FloatKind.f64.format.order a4 b4 == some .eq)) && (a5 == b5))) w := by
  generalize h1 : (FloatKind.f64.format.order a1 b1 == some .eq) = c1
  generalize h2 : (FloatKind.f64.format.order a2 b2 == some .eq) = c2
  generalize h3 : (FloatKind.f64.format.order a3 b3 == some .eq) = c3
  generalize h4 : (FloatKind.f64.format.order a4 b4 == some .eq) = c4
  generalize h5 : (a5 == b5) = c5
  cases c1 <;> cases c2 <;> cases c3 <;> cases c4 <;> cases c5 <;> (go_simp; try simp [h1, h2, h3, h4, h5])
attribute [local go_sem high] eql_wheel
/-- The float's equality. -/
theorem fo_cmp (x y : Int) (hx : x.natAbs < 2 ^ 53) (hy : y.natAbs < 2 ^ 53) : (FloatKind.f64.format.order (floatOfInt .f64 x) (floatOfInt .f64 y) == some .eq) = decide (x = y) := by
  rw [(isF_ofInt x).order (isF_ofInt y) hx hy]
  rcases Int.lt_trichotomy x y with h | h | h
  · rw [cmp_lt h, decide_eq_false (by omega)]
    rfl
  · rw [h, cmp_eq, decide_eq_true rfl]
    rfl
  · rw [cmp_gt h, decide_eq_false (by omega)]
    rfl
def St.eqB (s t : St) : Bool := decide (s.X = t.X) && decide (s.Y = t.Y) && (decide (wx s.k = wx t.k) && decide (wy s.k = wy t.k)) && decide (s.v = t.v)
theorem St.eqB_iff {s t : St} (hs : s.ok) (ht : t.ok) : s.eqB t = true ↔ s = t := by
  obtain ⟨X, Y, k, v⟩ := s
  obtain ⟨X', Y', k', v'⟩ := t
  have key : ∀ k, k < 4 → ∀ k', k' < 4 → wx k = wx k' → wy k = wy k' → k = k' := by decide
  unfold St.eqB
  simp only [Bool.and_eq_true, decide_eq_true_eq, St.mk.injEq]
  constructor
  · rintro ⟨⟨⟨h1, h2⟩, h3, h4⟩, h5⟩
    exact ⟨h1, h2, key k hs.1 k' ht.1 h3 h4, h5⟩
  · rintro ⟨h1, h2, rfl, h5⟩
    exact ⟨⟨⟨h1, h2⟩, rfl, rfl⟩, h5⟩
set_option maxHeartbeats 1600000 in
theorem same_calls (w : World) (g x : Nat) (s t : St) (hs : s.ok) (ht : t.ok) (h : Blk w g 57 s.cells) (k : Blk w x 57 t.cells) :
    Calls Try.prog 16 #[.pointer (some ⟨g, 0, none⟩), .pointer (some ⟨x, 0, none⟩)] w fun e w' => e = .returned (.bool (s.eqB t)) ∧ ∃ n, w' = w.drewN n := by
  obtain ⟨hk1, hX, hY, hv⟩ := hs
  obtain ⟨hk2, hX2, hY2, hv2⟩ := ht
  have f1 := fo_cmp s.X t.X (by omega) (by omega)
  have f2 := fo_cmp s.Y t.Y (by omega) (by omega)
  have f3 := fo_cmp (wx s.k) (wx t.k) (by have := bnd_way s.k; omega) (by have := bnd_way t.k; omega)
  have f4 := fo_cmp (wy s.k) (wy t.k) (by have := bnd_way s.k; omega) (by have := bnd_way t.k; omega)
  have f5 : (s.v == t.v) = decide (s.v = t.v) := rfl
  have c0 : w.cell? ⟨g, 0, none⟩ = some (.complex .f64 (fo s.X) (fo s.Y)) := h.cell 0
  have c1 : w.cell? ⟨g, 1, none⟩ = some (.complex .f64 (fo (wx s.k)) (fo (wy s.k))) := h.cell 1
  have c2 : w.cell? ⟨g, 2, none⟩ = some (.int .u8 s.v) := h.cell 2
  have d0 : w.cell? ⟨x, 0, none⟩ = some (.complex .f64 (fo t.X) (fo t.Y)) := k.cell 0
  have d1 : w.cell? ⟨x, 1, none⟩ = some (.complex .f64 (fo (wx t.k)) (fo (wy t.k))) := k.cell 1
  have d2 : w.cell? ⟨x, 2, none⟩ = some (.int .u8 t.v) := k.cell 2
  unfold St.eqB
  rw [← f1, ← f2, ← f3, ← f4, ← f5]
  clear f1 f2 f3 f4 f5 h k hX hY hv hX2 hY2 hv2 hk1 hk2
  unfold fo at c0 c1 d0 d1
  generalize floatOfInt .f64 s.X = a1 at *
  generalize floatOfInt .f64 s.Y = a2 at *
  generalize floatOfInt .f64 (wx s.k) = a3 at *
  generalize floatOfInt .f64 (wy s.k) = a4 at *
  generalize floatOfInt .f64 t.X = b1 at *
  generalize floatOfInt .f64 t.Y = b2 at *
  generalize floatOfInt .f64 (wx t.k) = b3 at *
  generalize floatOfInt .f64 (wy t.k) = b4 at *
  generalize s.v = a5 at *
  generalize t.v = b5 at *
  go_enter Try.func16, Try.ntmps16
  go_wp2_with fail
  go_quiet (fail)
  go_wp2
  go_returns
  exact ⟨rfl, _, rfl⟩

end Go.Proofs.Ytjjebkgljgfecaa
