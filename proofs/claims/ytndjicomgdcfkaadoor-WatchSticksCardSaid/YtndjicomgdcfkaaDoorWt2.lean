/- Alarms: strconv.FormatInt at base 16. (printed by gen/wt2.py) -/
import Derived.Test.YtndjicomgdcfkaaDoorWt1
import Derived.Test.YtndjicomgdcfkaaDoorShz
namespace Go.Proofs.YtndjicomgdcfkaaDoor
set_option linter.unusedVariables false
set_option linter.unusedSimpArgs false
open Go.RowKit
attribute [local go_sem ↓] Go.wp_at_zero Go.wp_at_succ
attribute [local go_sem high] cat_ok

/-- A number's hexadecimal digits, put ahead of some. -/
def hexN : Nat → Nat → By → By
  | 0, u, out => hd (u % 16) :: out
  | k + 1, u, out => if u < 16 then hd u :: out else hexN k (u / 16) (hd (u % 16) :: out)
theorem and15 (u : Nat) (hu : u < 18446744073709551616) : bits BinOp.and IntKind.u64 (u : Int) 15 = ((u % 16 : Nat) : Int) := by
  have h := bits_and_u64_nat u 15 hu (by decide)
  rw [show u &&& 15 = u % 16 from Nat.and_two_pow_sub_one_eq_mod u 4] at h
  exact h
/-- The other table is laid. -/
def TZ (w : World) : Prop := TabAt 3 Lib.deBruijn64tab w
theorem TZ.on {w V : World} (h : TZ w) (hb : Below w.heap.size w V) : TZ V := fun j hj => by
  have hlt := World.block_lt_of_cell? w _ (h j hj)
  exact (hb.cell (p := ⟨3, j, none⟩) hlt).trans (h j hj)
theorem tz_eq (w : World) (hT : TZ w) : Calls Tryd.prog 64 #[.int .u64 16] w fun e w' => e = .returned (.int .i64 4) ∧ w' = w := by
  have h := Any7.bits_TrailingZeros Tryd.lays727 16 (by decide) w (fun _ => hT)
  rw [show Lib.ctz 64 16 = 4 by decide +kernel] at h
  exact h
theorem pow_eq (w : World) : Calls Tryd.prog 63 #[.int .i64 16] w fun e w' => e = .returned (.bool true) ∧ w = w' := by
  have h : bits BinOp.and IntKind.i64 16 15 = 0 := by decide
  go_enter Tryd.func63, Tryd.ntmps63
  go_wp2_with fail
  go_ret
  exact ⟨rfl, rfl⟩
theorem shr4 (w : World) (x : Int) : (binOp .shr 104 (.int .u64 x) (.int .u64 4)).run Tryd.prog w = .ok (.int .u64 (x / 16)) w := by
  simp [binOp, Op.shift, IntKind.bits, Int.fdiv_eq_ediv_of_nonneg]
attribute [local go_sem high] shr4
structure FbW (w : World) (u k i u' : Nat) (out : By) (cs : Array Value) (wr : World) : Prop where
  blk : Blk wr w.heap.size 119 cs
  size : cs.size = 65
  sum : i + k = 65
  cells : ∀ j, j < k → cs[i + j]? = some (.int .u8 ((out.getD j 0).toNat : Int))
  olen : out.length = k
  fut : hexN (3 - k) u' out = hexN 3 u []
  bnd : u' < 16 ^ (4 - k)
  klt : k ≤ 3
  blo : Below w.heap.size w wr
theorem FbW.push {w : World} {u k i u' j q d : Nat} {out : By} {cs : Array Value} {wr : World} (h : FbW w u k i u' out cs wr) (hj : i = j + 1) (h16 : 16 ≤ u') (hq : q = u' / 16) (hdd : d = u' % 16) (v : Value) (hv : v = .int .u8 ((hd d).toNat : Int)) :
    FbW w u (k + 1) j q (hd d :: out) (cs.setIfInBounds j v) (wr.setRow w.heap.size (cs.setIfInBounds j v)) := by
  have hs := h.sum
  have hz := h.size
  have hb := h.bnd
  have hk := h.klt
  have hk2 : k ≤ 2 := by
    rcases Nat.lt_or_ge k 3 with h1 | h1
    · omega
    · have : k = 3 := by omega
      subst this
      simp at hb
      omega
  refine ⟨h.blk.setRow _, by rw [Array.size_setIfInBounds]; exact hz, by omega, fun jj hjj => ?_, by simp [h.olen], ?_, ?_, by omega, below_setRow h.blo (Nat.le_refl _) _⟩
  · cases jj with
    | zero => rw [Nat.add_zero, Array.getElem?_setIfInBounds_self_of_lt (by omega), hv]; rfl
    | succ m =>
      rw [Array.getElem?_setIfInBounds_ne (by omega), show j + (m + 1) = i + m by omega]
      exact h.cells m (by omega)
  · have hf := h.fut
    rw [show 3 - k = (3 - (k + 1)) + 1 by omega, hexN, if_neg (by omega)] at hf
    rw [hq, hdd]
    exact hf
  · rw [hq, show 4 - k = (4 - (k + 1)) + 1 by omega, Nat.pow_succ] at *
    omega
theorem FbW.last {w : World} {u k i u' j : Nat} {out : By} {cs : Array Value} {wr : World} (h : FbW w u k i u' out cs wr) (hj : i = j + 1) (h16 : u' < 16) :
    (convert 107 9 (.slice (some ⟨w.heap.size, j, none⟩) (65 - j) (65 - j))).run Tryd.prog (wr.setCell ⟨w.heap.size, j, none⟩ (.int .u8 ((hd u').toNat : Int))) = .ok (.string (str (hexN 3 u []))) (wr.setCell ⟨w.heap.size, j, none⟩ (.int .u8 ((hd u').toNat : Int))) ∧ Below w.heap.size w (wr.setCell ⟨w.heap.size, j, none⟩ (.int .u8 ((hd u').toNat : Int))) := by
  have hs := h.sum
  have hz := h.size
  have hl : (hd u' :: out).length = 65 - j := by rw [List.length_cons, h.olen]; omega
  have hx : hexN 3 u [] = hd u' :: out := by
    rw [← h.fut]
    rcases Nat.lt_or_ge k 3 with h1 | h1
    · rw [show 3 - k = (3 - (k + 1)) + 1 by omega, hexN, if_pos h16]
    · rw [show 3 - k = 0 by omega, hexN, Nat.mod_eq_of_lt h16]
  rw [h.blk.setCell]
  refine ⟨?_, below_setRow h.blo (Nat.le_refl _) _⟩
  rw [hx, ← hl]
  have hb := h.blk.setRow (cs.setIfInBounds j (.int .u8 ((hd u').toNat : Int)))
  exact run_convert_bytes_back (P := Tryd.prog) _ 107 9 5 ⟨w.heap.size, j, none⟩ _ (hd u' :: out) Tryd.underlying107 Tryd.underlying5 Tryd.underlying9 (by
    intro m hm
    rw [add_of, hb.cell (j + m)]
    cases m with
    | zero => rw [Nat.add_zero, Array.getElem?_setIfInBounds_self_of_lt (by omega)]; rfl
    | succ m =>
      rw [Array.getElem?_setIfInBounds_ne (by omega), show j + (m + 1) = i + m by omega, h.cells m (by simp at hm; rw [h.olen] at hm; omega)]
      have : m < out.length := by simpa using hm
      simp [List.getD, List.getElem?_eq_getElem this])
theorem d36_hd (d : Nat) (h : d < 36) (h2 : d < 16) : (ByteArray.mk #[48, 49, 50, 51, 52, 53, 54, 55, 56, 57, 97, 98, 99, 100, 101, 102, 103, 104, 105, 106, 107, 108, 109, 110, 111, 112, 113, 114, 115, 116, 117, 118, 119, 120, 121, 122])[d]'h = hd d := by
  have key : ∀ d : Fin 16, (ByteArray.mk #[48, 49, 50, 51, 52, 53, 54, 55, 56, 57, 97, 98, 99, 100, 101, 102, 103, 104, 105, 106, 107, 108, 109, 110, 111, 112, 113, 114, 115, 116, 117, 118, 119, 120, 121, 122])[d.val]'(Nat.lt_trans d.isLt (by decide)) = hd d.val := by decide +kernel
  exact key ⟨d, h2⟩
abbrev d36 : ByteArray := ⟨#[48, 49, 50, 51, 52, 53, 54, 55, 56, 57, 97, 98, 99, 100, 101, 102, 103, 104, 105, 106, 107, 108, 109, 110, 111, 112, 113, 114, 115, 116, 117, 118, 119, 120, 121, 122]⟩
set_option maxRecDepth 100000 in
set_option maxHeartbeats 3200000 in
theorem fbits_eq (w : World) (u : Nat) (hu : u ≤ 65535) (hT : TZ w) : Calls Tryd.prog 53 #[.slice none 0 0, .int .u64 (u : Int), .int .i64 16, .bool false, .bool false] w fun e w' => e = .returned (.tuple #[.slice none 0 0, .string (str (hexN 3 u []))]) ∧ Below w.heap.size w w' := by
  have TZ1 := fun V (hV : Below w.heap.size w V) => tz_eq V (hT.on hV)
  go_enter Tryd.func53, Tryd.ntmps53
  go_wp2_with (first
    | (go_at_call 63; (with_reducible refine (pow_eq _).mono ?_); rintro e w1 ⟨rfl, rfl⟩)
    | (go_at_call 64; (with_reducible refine (TZ1 _ (Q.alloc (Below.refl _ _) _)).mono ?_); rintro e w1 ⟨rfl, rfl⟩))
  go_loopw [1, 13] (fun uv iv wr => ∃ (k i u' : Nat) (out : By) (cs : Array Value), uv = .int .u64 (u' : Int) ∧ iv = .int .i64 (i : Int) ∧ Hid (FbW w u k i u' out cs wr)) (fun uv _ _ => (intOf uv).toNat)
  case atStart => exact ⟨0, 65, u, [], _, rfl, rfl, Lib.hid ⟨Blk.new _ _ _, rfl, rfl, fun j hj => absurd hj (by omega), rfl, rfl, by simp; omega, by omega, Q.alloc (Below.refl _ _) _⟩⟩
  case round =>
    obtain ⟨k, i, u', out, cs, rfl, rfl, HF⟩ := hrel
    have hkl := HF.out.klt
    have hsum := HF.out.sum
    have hsz := HF.out.size
    have hub : u' ≤ 65535 := by
      have := HF.out.bnd
      have h2 : 16 ^ (4 - k) ≤ 16 ^ 4 := Nat.pow_le_pow_right (by decide) (by omega)
      omega
    obtain ⟨j, hj⟩ : ∃ j, i = j + 1 := ⟨i - 1, by omega⟩
    have hji : (i : Int) - 1 = (j : Int) := by omega
    have hj0 : j < cs.size := by omega
    have cj := HF.out.blk.cell j
    rw [Array.getElem?_eq_getElem hj0] at cj
    have fj := HF.out.blk.frozen j
    have hjz : (j : Int) < 65 := by omega
    have hjn : j < 65 := by omega
    by_cases h16 : 16 ≤ u'
    · have h16i : (16 : Int) ≤ (u' : Int) := by omega
      obtain ⟨d, hd0⟩ : ∃ d, d = u' % 16 := ⟨_, rfl⟩
      have hand := and15 u' (by omega)
      rw [← hd0] at hand
      have hdl : d < 16 := by omega
      have hdi : (d : Int) < 36 := by omega
      have hdn : d < 36 := by omega
      obtain ⟨q, hq0⟩ : ∃ q, q = u' / 16 := ⟨_, rfl⟩
      have e2 : (u' : Int) / 16 = (q : Int) := by omega
      have hu0 : (0 : Int) ≤ (u' : Int) := by omega
      have HD := Lib.hid hd0
      have HQ := Lib.hid hq0
      have HJ := Lib.hid hj
      clear hd0 hq0 hj hsum hsz
      go_wp2_with fail
      refine ⟨⟨k + 1, j, q, hd d :: out, cs.setIfInBounds j (.int .u8 ((hd d).toNat : Int)), rfl, rfl, ?_⟩, by have := HQ.out; simp [intOf]; omega⟩
      rw [d36_hd d hdn hdl, HF.out.blk.setCell]
      exact Lib.hid (HF.out.push HJ.out h16 HQ.out HD.out _ rfl)
    · have h16i : ¬ (16 : Int) ≤ (u' : Int) := by omega
      have hui : (u' : Int) < 36 := by omega
      have hun : u' < 36 := by omega
      have hal : Tryd.prog.arrayLen 119 = 65 := by kernel_rfl
      have hsl : ∀ W, (Instr.sliceAt 119 (.pointer (some ⟨w.heap.size, 0, none⟩)) (some (.int .i64 (j : Int))) none none).run Tryd.prog W = .ok (.slice (some ⟨w.heap.size, j, none⟩) (65 - j) (65 - j)) W := fun W => by
        rw [run_sliceAt_array_l W 119 ⟨w.heap.size, 0, none⟩ (by kernel_rfl) .i64 (j : Int) (by omega) (by rw [hal]; omega)]
        go_simp
        omega
      obtain ⟨hcv, hbel⟩ := HF.out.last hj (by omega)
      rw [← d36_hd u' hun (by omega)] at hcv hbel
      have HB := Lib.hid hbel
      clear hj hbel hsum hsz hal
      go_wp2_with fail
      go_ret2
      exact ⟨rfl, HB.out⟩
end Go.Proofs.YtndjicomgdcfkaaDoor
