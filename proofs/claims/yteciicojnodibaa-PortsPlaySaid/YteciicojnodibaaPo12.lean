/- Ports: both, from a world on; the walk of PortsFull. (printed by gen/po12.py) -/
import Derived.Test.YteciicojnodibaaPo11
import Derived.Laws.MakeOwn
import Derived.Laws.Entries
namespace Go.Proofs.Yteciicojnodibaa
set_option linter.unusedVariables false
set_option linter.unusedSimpArgs false
open Go.RowKit
attribute [local go_sem ↓] Go.wp_at_zero Go.wp_at_succ

/-- Both, all of it made behind w0. -/
def Mid (w0 W : World) (g x : Nat) (s : PS) : Prop := ∃ col, Both W col g x s ∧ (∀ b, b < w0.heap.size → col b = 0) ∧ Below w0.heap.size w0 W
theorem Mid.B {w0 W : World} {g x : Nat} {s : PS} (h : Mid w0 W g x s) : Below w0.heap.size w0 W := by
  obtain ⟨col, -, -, hb⟩ := h
  exact hb
theorem Mid.call {w0 W W' : World} {g x : Nat} {s : PS} (h : Mid w0 W g x s) (hb : Below W.heap.size W W') : Mid w0 W' g x s := by
  obtain ⟨col, ⟨hok, ⟨v, hp⟩, u, hr⟩, hc, hB⟩ := h
  exact ⟨col, ⟨hok, ⟨v, hp.call hb⟩, u, hr.call hb⟩, hc, Q.call hB hb⟩
theorem Mid.does {w0 W : World} {g x : Nat} {s : PS} (h : Mid w0 W g x s) (o : POp) (ht : 0 ≤ o.t) :
    Calls Try.prog 9 #[.pointer (some ⟨g, 0, none⟩), .pointer (some ⟨x, 0, none⟩), .agg o.cells] W fun e w' => e = .returned (.bool true) ∧ Mid w0 w' g x (s.step o) := by
  obtain ⟨col, hb, hc, hB⟩ := h
  refine (does_calls W col g x s o ht hb).mono fun e w' ⟨he, col', hs, hb', hch⟩ => ⟨he, col', hb', fun b hlt => ?_, ?_⟩
  · rw [hs b (Nat.lt_of_lt_of_le hlt hB.size)]
    exact hc b hlt
  · exact ⟨hch.os.trans hB.os, hch.tape.trans hB.tape, hch.output.trans hB.output, Nat.le_trans hB.size hch.size, fun k hk => (hch.block k (Nat.lt_of_lt_of_le hk hB.size) (by rintro (h | h) <;> (have := hc k hk; omega))).trans (hB.block k hk)⟩
theorem Mid.same {w0 W : World} {g x : Nat} {s : PS} (h : Mid w0 W g x s) :
    Calls Try.prog 10 #[.pointer (some ⟨g, 0, none⟩), .pointer (some ⟨x, 0, none⟩)] W fun e w' => e = .returned (.bool true) ∧ Below W.heap.size W w' := by
  obtain ⟨col, hb, hc, hB⟩ := h
  exact alike_calls W col g x s hb
/-- The start: ports made in w0, the document's ones of the same bytes. -/
theorem mid_new {w0 : World} (x y : Value) (xs ys : List Int) (R : Nat → Prop) (hx : Rd EU w0 R x xs) (hy : Rd EU w0 R y ys) (h1 : xs.length ≤ 65536) (h2 : ys.length ≤ 65536) :
    Calls Try.prog 8 #[x, y] w0 fun e w' => ∃ g, e = .returned (.tuple #[.pointer (some ⟨g, 0, none⟩), .int .i64 0]) ∧ Below w0.heap.size w0 w' ∧
      ∀ W, Below w'.heap.size w' W → Mid w0 (W.alloc (.cells #[x, y, .slice none 0 0, .slice none 0 0, .slice none 0 0, .slice none 0 0] 34)) g W.heap.size ⟨xs, ys, [], [], []⟩ := by
  refine (new_calls x y xs ys R w0 hx hy h1 h2 1 (by decide) (fun _ => 0)).mono fun e w' ⟨g, he, hg, hb, v, hp⟩ => ⟨g, he, hb, fun W hW => ?_⟩
  have s1 := hb.size
  have s2 := hW.size
  have hA : Below W.heap.size W (W.alloc (.cells #[x, y, .slice none 0 0, .slice none 0 0, .slice none 0 0, .slice none 0 0] 34)) := Q.alloc (Below.refl _ _) _
  have hBW : Below w0.heap.size w0 W := Q.call hb hW
  have hBA : Below w0.heap.size w0 (W.alloc (.cells #[x, y, .slice none 0 0, .slice none 0 0, .slice none 0 0, .slice none 0 0] 34)) := Q.call hBW hA
  have rd : ∀ {z : Value} {l : List Int}, Rd EU w0 R z l → Rd EU (W.alloc (.cells #[x, y, .slice none 0 0, .slice none 0 0, .slice none 0 0, .slice none 0 0] 34)) (fun b => paint (fun b => if b < w0.heap.size then 0 else if b = g then 1 else 0) W.heap.size 2 b = 0) z l := fun h =>
    h.keep (fun b hlt _ => ⟨hBA.block b hlt, by rw [paint_old (by omega), if_pos hlt]⟩) hBA.size
  refine ⟨paint (fun b => if b < w0.heap.size then 0 else if b = g then 1 else 0) W.heap.size 2, ⟨⟨h1, h2, Nat.zero_le _, Nat.zero_le _, Nat.zero_le _⟩, ⟨v, (hp.call hW).new hA 2⟩, ⟨x, y, .slice none 0 0, .slice none 0 0, .slice none 0 0, .slice none 0 0⟩, ⟨Blk.new _ _ _, paint_new (Nat.le_refl _), rd hx, rd hy, Ow.nil _ _ _ _, Ow.nil _ _ _ _, Ow.nil _ _ _ _, Ow.nil _ _ _ _, fun b hb => by simp [Value.ownBlock] at hb⟩⟩, fun b hb => ?_, hBA⟩
  rw [paint_old (by omega), if_pos hb]

theorem made (n : Nat) (hn : n ≤ 100000) : ∃ cs : Array Value, ∀ W : World, (Instr.makeSlice 29 (.int .i64 (n : Int)) (.int .i64 (n : Int))).run Try.prog W = .ok (.slice (some ⟨W.heap.size, 0, none⟩) n n) (W.alloc (.cells cs 5)) := by
  obtain ⟨i0, hi0, hz0, hz1, hz2⟩ := info_parts info_U
  refine ⟨madeCells (Value.int .u8 0).cells (n * i0.size), fun W => ?_⟩
  have hr := run_make (P := Try.prog) W 29 5 i0 _ Try.underlying29 hi0 hz0 .i64 .i64 n n (by omega) (by omega) (by rw [hz2]; omega) (by omega)
  simp only [Int.toNat_natCast] at hr
  exact hr
set_option maxRecDepth 100000 in
set_option maxHeartbeats 3200000 in
theorem portsFull_walk (r b t n : Int) (ht : 0 ≤ t) (w : World) :
    Calls Try.prog 3 #[.int .i64 r, .agg #[.int .u8 b, .int .u8 t], .int .i64 n] w fun e w' => e = .returned (.bool true) ∧ Below w.heap.size w w' := by
  by_cases hn : n < 0 ∨ 4100 < n
  · rcases hn with hn | hn
    · go_enter Try.func3, Try.ntmps3
      go_wp2_with (go_at_call 7; (with_reducible refine (awake11_calls _).mono ?_); rintro e w3 ⟨rfl, b3⟩)
      go_returns
      exact ⟨rfl, Q.call (Q.alloc (Below.refl _ _) _) b3⟩
    · have hn' : ¬ n < 0 := by omega
      go_enter Try.func3, Try.ntmps3
      go_wp2_with (go_at_call 7; (with_reducible refine (awake11_calls _).mono ?_); rintro e w3 ⟨rfl, b3⟩)
      go_returns
      exact ⟨rfl, Q.call (Q.alloc (Below.refl _ _) _) b3⟩
  · have hn1 : ¬ n < 0 := by omega
    have hn2 : ¬ 4100 < n := by omega
    obtain ⟨m, rfl⟩ : ∃ m : Nat, n = m := ⟨n.toNat, by omega⟩
    obtain ⟨cs, MK⟩ := made 65537 (by decide)
    rw [show ((65537 : Nat) : Int) = 65537 from rfl] at MK
    have NL1 := fun V a => new_long (.slice (some a) 65537 65537) (.slice none 0 0) 65537 0 65537 0 (some a) none V rfl rfl (.inl (by decide))
    have NL2 := fun V a => new_long (.slice none 0 0) (.slice (some a) 65537 65537) 0 65537 0 65537 none (some a) V rfl rfl (.inr (by decide))
    clear hn
    go_enter Try.func3, Try.ntmps3
    go_wp2_with fail
    have bx := Blk.new w 23 #[.int .u8 b, .int .u8 t]
    have B0 := Q.alloc (Below.refl _ w) (.cells #[.int .u8 b, .int .u8 t] 23)
    generalize hW0 : w.alloc (.cells #[.int .u8 b, .int .u8 t] 23) = w0 at *
    (with_reducible refine (mid_new (w0 := w0) _ _ [] [] (fun _ => True) (Rd.nil _ _ _) (Rd.nil _ _ _) (by decide) (by decide)).mono ?_)
    rintro e w1 ⟨g, rfl, hb1, hmid⟩
    have HW0 := Lib.hid hW0
    have HM := Lib.hid hmid
    clear hmid hW0
    go_wp2_with (first
      | (go_at_call 8; first | ((with_reducible refine (NL1 _ _).mono ?_); rintro e w2 ⟨rfl, rfl⟩) | ((with_reducible refine (NL2 _ _).mono ?_); rintro e w2 ⟨rfl, rfl⟩)))
    have hm0 := HM.out _ (Q.alloc (Q.alloc (Below.refl _ _) (.cells cs 5)) (.cells cs 5))
    simp only [World.size_alloc] at hm0
    have BX := Lib.hid bx
    have HB0 := Lib.hid B0
    clear HM NL1 NL2 MK hb1 bx B0 HW0
    generalize hW : (World.alloc _ (.cells #[.slice none 0 0, .slice none 0 0, .slice none 0 0, .slice none 0 0, .slice none 0 0, .slice none 0 0] 34)) = W at hm0 ⊢
    clear hW
    go_loopw [14] (fun v wr => ∃ (k : Nat) (s : PS), v = .int .i64 (k : Int) ∧ k ≤ m ∧ Mid w0 wr g (_ + 1 + 1) s) (fun v _ => m - (intOf v).toNat)
    case atStart => exact ⟨0, _, rfl, Nat.zero_le _, hm0⟩
    case round =>
      clear hm0
      obtain ⟨k, s, rfl, hk, hm⟩ := hrel
      have bx := (BX.out.below hm.B BX.out.lt)
      have c0 := bx.cell 0
      have c1 := bx.cell 1
      by_cases hkm : k < m
      · have hki : (k : Int) < (m : Int) := by omega
        have D := hm.does ⟨1, r, b, t, k⟩ ht
        have HMd := Lib.hid hm
        clear hm bx
        go_wp2_with (go_at_call 9; (with_reducible refine D.mono ?_); rintro e w5 ⟨rfl, hm5⟩)
        refine ⟨⟨k + 1, _, by simp, by omega, hm5⟩, by simp [intOf]; omega⟩
      · obtain rfl : m = k := by omega
        have D := hm.does ⟨1, r, b, t, m⟩ ht
        clear hm bx
        go_wp2_with (go_at_call 9; (with_reducible refine D.mono ?_); rintro e w5 ⟨rfl, hm5⟩; have D2 := hm5.does ⟨0, r, 0, 0, 0⟩ (Int.le_refl _); clear D hm5)
        (with_reducible refine D2.mono ?_)
        rintro e w6 ⟨rfl, hm6⟩
        have S6 := hm6.same
        have B6 := Lib.hid hm6.B
        clear D2 hm6
        go_wp2_with (go_at_call 10; (with_reducible refine S6.mono ?_); rintro e w7 ⟨rfl, b7⟩)
        (with_reducible refine (awake11_calls _).mono ?_)
        rintro e w8 ⟨rfl, b8⟩
        have B8 := Q.call (Q.call (Q.call HB0.out B6.out) b7) b8
        go_wp2
        go_returns
        exact ⟨rfl, B8⟩
end Go.Proofs.Yteciicojnodibaa
