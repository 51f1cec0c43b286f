/- The document's answer: bits of an address, what meets, where a span lies, one more. (printed by gen/rf3.py) -/
import Derived.Test.YtggnkkmlabhofaaRf1
import Derived.BigQuiet
namespace Go.Proofs.Ytggnkkmlabhofaa
set_option linter.unusedVariables false
set_option linter.unusedSimpArgs false
open Go.RowKit Go.Sort Go.Shelf Go.Lib
attribute [local go_sem ↓] Go.wp_at_zero Go.wp_at_succ

theorem RdN.cells {w : World} {R : Nat → Prop} {a : Option Addr} {m cap : Nat} {l : List Sp} (h : Rd EN w R (.slice a m cap) l) {i : Nat} (hi : i < l.length) : ∃ b off, a = some ⟨b, off, none⟩ ∧ b < w.heap.size ∧ R b ∧ ∀ k x, l[k]? = some x → ∀ j u, (EN.enc x)[j]? = some u → w.cell? ⟨b, off + k * 3 + j, none⟩ = some u := by
  obtain ⟨a', cap', e, _, _, hr⟩ := h
  cases e
  exact hr (by omega)
/-- Which bits spans tell, the first one that has the address. -/
def bitsL : List Sp → Int → Int
  | [], _ => 0
  | y :: r, x => if y.f ≤ x ∧ x ≤ y.t then y.b else bitsL r x
set_option maxHeartbeats 1600000 in
theorem Bits_eq (w : World) (R : Nat → Prop) (v : Value) (l : List Sp) (x : Int) (hr : Rd EN w R v l) (hl : l.length ≤ 1000) (hb : ∀ y ∈ l, 0 ≤ y.b ∧ y.b ≤ 255) :
    Calls Try.prog 15 #[v, .int .i64 x] w fun e w' => e = .returned (.int .u8 (bitsL l x)) ∧ Below w.heap.size w w' := by
  have HR := Lib.hid hr
  have HBB := Lib.hid hb
  obtain ⟨a, cap, rfl, hc, hn, -⟩ := hr
  clear hb
  go_enter Try.func15, Try.ntmps15
  go_wp2_with fail
  go_loopg [5] l.length (fun kx s5 wr => ∃ i : Nat, s5 = .int .i64 i ∧ i ≤ l.length ∧ l.length - i ≤ kx ∧ Aside (Below w.heap.size w wr) ∧ Aside (bitsL l x = bitsL (l.drop i) x))
  case atStart => exact ⟨0, rfl, Nat.zero_le _, Nat.le_refl _, Below.refl _ _, by show _ = _; rw [List.drop_zero]⟩
  case round =>
    obtain ⟨i, rfl, hil, hk, B1, I1⟩ := hrel
    by_cases hlt : i < l.length
    · have hltz : (i : Int) < (l.length : Int) := by omega
      obtain ⟨b0, off, ha, hb0, -, hcell⟩ := RdN.cells (HR.out.below B1.out) hlt
      subst ha
      obtain ⟨y, hy⟩ : ∃ y, l[i]? = some y := ⟨l[i], List.getElem?_eq_getElem hlt⟩
      have c0 : wr.cell? ⟨b0, off + i * 3, none⟩ = some (.int .i64 y.f) := hcell i y hy 0 _ rfl
      have c1 : wr.cell? ⟨b0, off + i * 3 + 1, none⟩ = some (.int .i64 y.t) := hcell i y hy 1 _ rfl
      have c2 : wr.cell? ⟨b0, off + i * 3 + 2, none⟩ = some (.int .i64 y.b) := hcell i y hy 2 _ rfl
      have hd : l.drop i = y :: l.drop (i + 1) := by
        rw [List.drop_eq_getElem_cons hlt]
        rw [List.getElem?_eq_getElem hlt] at hy
        rw [Option.some.inj hy]
      have HD : Aside (bitsL l x = if y.f ≤ x ∧ x ≤ y.t then y.b else bitsL (l.drop (i + 1)) x) := by show _ = _; rw [I1.out, hd]; rfl
      have HY := HBB.out y (List.mem_of_getElem? hy)
      have HW : Aside (y.b % 256 = y.b) := Int.emod_eq_of_lt HY.1 (by have := HY.2; omega)
      have w1h := B1.out.size
      clear hy hcell hd I1 HY
      by_cases h1 : y.f ≤ x
      · by_cases h2 : x ≤ y.t
        · go_wp2_with fail
          (try simp only [Exit.noGoto_ret])
          go_ret
          exact ⟨by rw [HD.out, if_pos ⟨h1, h2⟩]; show Ending.returned (.int .u8 (y.b % 256)) = _; rw [HW.out], B1.out⟩
        · go_wp2_with fail
          go_roundg (l.length - (i + 1))
          case measure => omega
          case rel => exact ⟨i + 1, by go_num, by omega, Nat.le_refl _, B1, by show _ = _; rw [HD.out, if_neg (by omega)]⟩
      · go_wp2_with fail
        go_roundg (l.length - (i + 1))
        case measure => omega
        case rel => exact ⟨i + 1, by go_num, by omega, Nat.le_refl _, B1, by show _ = _; rw [HD.out, if_neg (by omega)]⟩
    · have hltz : ¬ (i : Int) < (l.length : Int) := by omega
      go_wp2_with fail
      go_ret
      have h := I1.out
      rw [List.drop_eq_nil_of_le (by omega)] at h
      exact ⟨by rw [h]; rfl, B1.out⟩
set_option maxHeartbeats 3200000 in
theorem rmeets_eq (w : World) (R : Nat → Prop) (v : Value) (l : List Sp) (f t b : Int) (hr : Rd EN w R v l) (hl : l.length ≤ 1000) :
    Calls Try.prog 32 #[.agg #[.int .i64 f, .int .i64 t, .int .i64 b], v] w fun e w' => e = .returned (.bool (l.any (meetB ⟨f, t, b⟩))) ∧ Below w.heap.size w w' := by
  have HR := Lib.hid hr
  obtain ⟨a, cap, rfl, hc, hn, -⟩ := hr
  go_enter Try.func32, Try.ntmps32
  go_wp2_with fail
  obtain ⟨W, hW⟩ : ∃ W, W = w.alloc (.cells #[.int .i64 f, .int .i64 t, .int .i64 b] 41) := ⟨_, rfl⟩
  obtain ⟨hx, hhx⟩ : ∃ hx, hx = w.heap.size := ⟨_, rfl⟩
  have XB : Aside (Blk W hx 41 #[.int .i64 f, .int .i64 t, .int .i64 b]) := by rw [hW]; exact Blk.new' hhx
  have BW : Aside (Below w.heap.size w W) := by rw [hW]; exact Q.alloc (Below.refl _ _) _
  rw [← hhx, ← hW]
  clear hW hhx
  go_loopg [5] l.length (fun kx s5 wr => ∃ i : Nat, s5 = .int .i64 i ∧ i ≤ l.length ∧ l.length - i ≤ kx ∧ Aside (Below w.heap.size w wr) ∧ Aside (Blk wr hx 41 #[.int .i64 f, .int .i64 t, .int .i64 b]) ∧ Aside (l.any (meetB ⟨f, t, b⟩) = (l.drop i).any (meetB ⟨f, t, b⟩)))
  case atStart => exact ⟨0, rfl, Nat.zero_le _, Nat.le_refl _, BW, XB, by show _ = _; rw [List.drop_zero]⟩
  case round =>
    clear XB BW
    obtain ⟨i, rfl, hil, hk, B1, X1, I1⟩ := hrel
    by_cases hlt : i < l.length
    · have hltz : (i : Int) < (l.length : Int) := by omega
      obtain ⟨b0, off, ha, hb0, -, hcell⟩ := RdN.cells (HR.out.below B1.out) hlt
      subst ha
      obtain ⟨y, hy⟩ : ∃ y, l[i]? = some y := ⟨l[i], List.getElem?_eq_getElem hlt⟩
      have c0 : wr.cell? ⟨b0, off + i * 3, none⟩ = some (.int .i64 y.f) := hcell i y hy 0 _ rfl
      have c1 : wr.cell? ⟨b0, off + i * 3 + 1, none⟩ = some (.int .i64 y.t) := hcell i y hy 1 _ rfl
      have x0 : wr.cell? ⟨hx, 0, none⟩ = some (.int .i64 f) := X1.out.cell 0
      have x1 : wr.cell? ⟨hx, 1, none⟩ = some (.int .i64 t) := X1.out.cell 1
      have hd : l.drop i = y :: l.drop (i + 1) := by
        rw [List.drop_eq_getElem_cons hlt]
        rw [List.getElem?_eq_getElem hlt] at hy
        rw [Option.some.inj hy]
      have HD : Aside (l.any (meetB ⟨f, t, b⟩) = (decide (f ≤ y.t ∧ y.f ≤ t) || (l.drop (i + 1)).any (meetB ⟨f, t, b⟩))) := by show _ = _; rw [I1.out, hd]; rfl
      have hxl := X1.out.lt
      clear hy hcell hd I1
      by_cases h1 : f ≤ y.t
      · have d1 : decide (f ≤ y.t) = true := decide_eq_true h1
        by_cases h2 : y.f ≤ t
        · have d2 : decide (y.f ≤ t) = true := decide_eq_true h2
          have HE : Aside (l.any (meetB ⟨f, t, b⟩) = true) := by show _ = _; rw [HD.out, decide_eq_true ⟨h1, h2⟩]; rfl
          go_wp2_with fail
          go_quiet (fail)
          go_wp2_with fail
          (try simp only [Exit.noGoto_ret])
          go_ret
          exact ⟨boolE HE.out.symm, Q.call B1.out (Q.drewN (Below.refl _ _) _)⟩
        · have d2 : decide (y.f ≤ t) = false := decide_eq_false h2
          have HE : Aside (l.any (meetB ⟨f, t, b⟩) = (l.drop (i + 1)).any (meetB ⟨f, t, b⟩)) := by show _ = _; rw [HD.out, decide_eq_false (fun h => h2 h.2)]; rfl
          go_wp2_with fail
          go_quiet (fail)
          go_wp2_with fail
          go_roundg (l.length - (i + 1))
          case measure => omega
          case rel => exact ⟨i + 1, by go_num, by omega, Nat.le_refl _, (Q.call B1.out (Q.drewN (Below.refl _ _) _) : Below w.heap.size w _), X1.out.call (Q.drewN (Below.refl _ _) _), HE⟩
      · have d1 : decide (f ≤ y.t) = false := decide_eq_false h1
        have HE : Aside (l.any (meetB ⟨f, t, b⟩) = (l.drop (i + 1)).any (meetB ⟨f, t, b⟩)) := by show _ = _; rw [HD.out, decide_eq_false (fun h => h1 h.1)]; rfl
        go_wp2_with fail
        go_quiet (fail)
        go_wp2_with fail
        go_roundg (l.length - (i + 1))
        case measure => omega
        case rel => exact ⟨i + 1, by go_num, by omega, Nat.le_refl _, (Q.call B1.out (Q.drewN (Below.refl _ _) _) : Below w.heap.size w _), X1.out.call (Q.drewN (Below.refl _ _) _), HE⟩
    · have hltz : ¬ (i : Int) < (l.length : Int) := by omega
      go_wp2_with fail
      go_ret
      have h := I1.out
      rw [List.drop_eq_nil_of_le (by omega)] at h
      exact ⟨boolE (by rw [h]; rfl), B1.out⟩
end Go.Proofs.Ytggnkkmlabhofaa
