/- Policies as the document's answer has them. (printed by gen/rf1.py) -/
import Derived.Test.YtggnkkmlabhofaaLa3
namespace Go.Proofs.Ytggnkkmlabhofaa
set_option linter.unusedVariables false
set_option linter.unusedSimpArgs false
open Go.RowKit Go.Sort Go.Shelf Go.Lib
attribute [local go_sem ↓] Go.wp_at_zero Go.wp_at_succ

theorem few_eq (w : World) (sa ma : Option Addr) (s m sc mc : Nat) (dc tr : Int) (B : Bool) (hB : B = decide (s ≤ 80 ∧ m ≤ 80)) : Calls Try.prog 5 #[.agg #[.slice sa s sc, .slice ma m mc, .int .i64 dc, .int .i64 tr]] w fun e w' => e = .returned (.bool B) ∧ Below w.heap.size w w' := by
  have HB := Lib.hid hB
  clear hB
  by_cases h1 : s ≤ 80
  · have h1z : (s : Int) ≤ 80 := by omega
    by_cases h2 : m ≤ 80
    · have h2z : (m : Int) ≤ 80 := by omega
      have HE := Lib.hid (HB.out.trans (decide_eq_true ⟨h1, h2⟩))
      go_enter Try.func5, Try.ntmps5
      go_wp2_with fail
      go_ret
      exact ⟨boolE HE.out.symm, (by repeat' (first | with_reducible exact Below.refl _ _ | with_reducible assumption | with_reducible refine Q.alloc ?_ _ | with_reducible refine Q.drew ?_ | with_reducible refine Q.drewN ?_ _ | with_reducible refine Q.call ?_ (by assumption)))⟩
    · have h2z : ¬ (m : Int) ≤ 80 := by omega
      have HE := Lib.hid (HB.out.trans (decide_eq_false (fun h => h2 h.2)))
      go_enter Try.func5, Try.ntmps5
      go_wp2_with fail
      go_ret
      exact ⟨boolE HE.out.symm, (by repeat' (first | with_reducible exact Below.refl _ _ | with_reducible assumption | with_reducible refine Q.alloc ?_ _ | with_reducible refine Q.drew ?_ | with_reducible refine Q.drewN ?_ _ | with_reducible refine Q.call ?_ (by assumption)))⟩
  · have h1z : ¬ (s : Int) ≤ 80 := by omega
    have HE := Lib.hid (HB.out.trans (decide_eq_false (fun h => h1 h.1)))
    go_enter Try.func5, Try.ntmps5
    go_wp2_with fail
    go_ret
    exact ⟨boolE HE.out.symm, (by repeat' (first | with_reducible exact Below.refl _ _ | with_reducible assumption | with_reducible refine Q.alloc ?_ _ | with_reducible refine Q.drew ?_ | with_reducible refine Q.drewN ?_ _ | with_reducible refine Q.call ?_ (by assumption)))⟩
theorem wrap_u8 (b : Int) (h0 : 0 ≤ b) (h1 : b ≤ 255) : IntKind.i64.wrap b = b := by
  first | (apply IntKind.wrap_of_fits; simp [IntKind.fits, IntKind.min, IntKind.max, IntKind.signed, IntKind.bits]; omega) | (simp [IntKind.wrap, IntKind.signed, IntKind.bits]; omega)
/-- How a span of the document's answer lies. -/
def EN : Enc Sp 3 := ⟨fun x => [.int .i64 x.f, .int .i64 x.t, .int .i64 x.b], fun _ => rfl, fun _ v hv => by simp at hv; rcases hv with rfl | rfl | rfl <;> rfl, by decide⟩
theorem info_rs : ∃ i, Try.prog.info? 41 = some i ∧ i.zero = some (.agg #[.int .i64 0, .int .i64 0, .int .i64 0]) ∧ i.size = 3 ∧ i.bytes = 24 := by
  have h : (Try.prog.info? 41).map (fun i => (i.zero, i.size, i.bytes)) = some (some (.agg #[.int .i64 0, .int .i64 0, .int .i64 0]), 3, 24) := by kernel_rfl
  cases hi : Try.prog.info? 41 with
  | none => rw [hi] at h; cases h
  | some i =>
    rw [hi] at h
    simp only [Option.map_some, Option.some.injEq, Prod.mk.injEq] at h
    exact ⟨i, rfl, h⟩
def OwN (w : World) (B : Nat) (v : Value) (l : List Sp) : Prop := w.ownsRow B 41 3 v l.length (EN.row l)
theorem OwN.call {w w' : World} {B : Nat} {v : Value} {l : List Sp} (h : OwN w B v l) (hb : Below w.heap.size w w') : OwN w' B v l := own_keep h (fun b _ hlt => hb.block b hlt) hb.size
theorem below_grown {B : Nat} {w wr V w1 : World} {o : Option Nat} (h : Below B w wr) (hB : B ≤ wr.heap.size) (hV : Below wr.heap.size wr V) (hg : V.grownBy w1 o) (ho : ∀ b, o = some b → B ≤ b) : Below B w w1 :=
  ⟨hg.os.trans (hV.os.trans h.os), hg.tape.trans (hV.tape.trans h.tape), hg.output.trans (hV.output.trans h.output), Nat.le_trans h.size (Nat.le_trans hV.size hg.size), fun k hk => (hg.block k (by have := hV.size; omega) (fun e => by have := ho k e.symm; omega)).trans ((hV.block k (by omega)).trans (h.block k hk))⟩
set_option maxHeartbeats 3200000 in
set_option maxRecDepth 100000 in
theorem plain_eq (w : World) (R : Nat → Prop) (v : Value) (l : List Sp) (hr : Rd ES w R v l) (hl : l.length ≤ 80) (hb : ∀ x ∈ l, 0 ≤ x.b ∧ x.b ≤ 255) :
    Calls Try.prog 23 #[v] w fun e w' => ∃ a c, e = .returned (.slice a l.length c) ∧ OwN w' w.heap.size (.slice a l.length c) l ∧ Below w.heap.size w w' := by
  have HR := Lib.hid hr
  have HBB := Lib.hid hb
  obtain ⟨a, cap, rfl, hc, hn, -⟩ := hr
  obtain ⟨B, hB⟩ : ∃ B, B = w.heap.size := ⟨_, rfl⟩
  obtain ⟨i0, hi0, hz0, hz1, hz2⟩ := info_rs
  have B0 : Aside (Below B w w) := Below.refl _ _
  have O0 : Aside (OwN w B (.slice none 0 0) []) := World.ownsRow_nil _ _ _ _
  have z0 : B ≤ w.heap.size := by omega
  have HBW : Aside (∀ V, Below B w V → Below w.heap.size w V) := fun V h => by rw [← hB]; exact h
  have HG : Aside (∀ V V1 : World, Below B w V → B ≤ V.heap.size → Below V.heap.size V V1 → Below B w V1) := fun V V1 h hz h1 => by rw [hB] at h hz ⊢; exact Q.call h h1
  rw [← hB]
  clear hb hB
  go_enter Try.func23, Try.ntmps23
  go_wp2_with fail
  go_loopg [3, 4] l.length (fun kx s3 s4 wr => ∃ (i : Nat) (a3 : Option Addr) (c3 : Nat), s3 = .slice a3 i c3 ∧ s4 = .int .i64 i ∧ i ≤ l.length ∧ l.length - i ≤ kx ∧ i ≤ c3 ∧ B ≤ wr.heap.size ∧ Aside (Below B w wr) ∧ Aside (OwN wr B (.slice a3 i c3) (l.take i)))
  case atStart => exact ⟨0, none, 0, rfl, rfl, Nat.zero_le _, Nat.le_refl _, Nat.le_refl _, z0, B0, by show OwN _ _ _ _; rw [List.take_zero]; exact O0.out⟩
  case round =>
    clear B0 O0 z0
    obtain ⟨i, a3, c3, rfl, rfl, hil, hk, hc3, z1, B1, O1⟩ := hrel
    by_cases hlt : i < l.length
    · have hltz : (i : Int) < (l.length : Int) := by omega
      obtain ⟨b0, off, ha, hb0, -, hcell⟩ := (HR.out.below (HBW.out _ B1.out)).cells hlt
      subst ha
      obtain ⟨y, hy⟩ : ∃ y, l[i]? = some y := ⟨l[i], List.getElem?_eq_getElem hlt⟩
      have c0 : wr.cell? ⟨b0, off + i * 3, none⟩ = some (.int .i64 y.f) := hcell i y hy 0 _ rfl
      have c1 : wr.cell? ⟨b0, off + i * 3 + 1, none⟩ = some (.int .i64 y.t) := hcell i y hy 1 _ rfl
      have c2 : wr.cell? ⟨b0, off + i * 3 + 2, none⟩ = some (.int .u8 y.b) := hcell i y hy 2 _ rfl
      have htk : Aside (l.take (i + 1) = l.take i ++ [y]) := by show _ = _; rw [List.take_add_one, hy]; rfl
      obtain ⟨yb0, yb1⟩ := HBB.out y (List.mem_of_getElem? hy)
      have hlen : (l.take i).length = i := by rw [List.length_take]; omega
      have OW : wr.ownsRow B 41 3 (.slice a3 i c3) i (EN.row (l.take i)) := by
        have h := O1.out
        unfold OwN at h
        rw [hlen] at h
        exact h
      have HRW : Aside (EN.row (l.take i) ++ [.int .i64 y.f, .int .i64 y.t, .int .i64 (IntKind.i64.wrap y.b)] = EN.row (l.take (i + 1))) := by show _ = _; rw [htk.out, EN.row_append, wrap_u8 y.b yb0 yb1]; rfl
      have HLN : Aside ((l.take (i + 1)).length = i + 1) := by show _ = _; rw [List.length_take]; omega
      have HOW := Lib.hid OW
      clear hy hcell O1 OW hlen htk yb0 yb1
      go_wp2_with fail
      go_region_law (refine step_append_lies _ (by rfl) _ _ _ (by rfl) B 41 i0 _ 3 24 Try.underlying32 hi0 hz0 hz1 hz2 rfl (by omega) (.slice a3 i c3) i (EN.row (l.take i)) (by rfl) (by exact (own_keep HOW.out (fun b _ hlt => Below.heap_alloc wr _ b hlt) (by simp))) ⟨wr.heap.size, 0, none⟩ 1 1 [.int .i64 y.f, .int .i64 y.t, .int .i64 (IntKind.i64.wrap y.b)] (by rfl) (by rfl) (World.news_of_block (cs := #[.int .i64 y.f, .int .i64 y.t, .int .i64 (IntKind.i64.wrap y.b)]) (t := 41) (fr := (0, 0)) (Blk.new' (by simp))) (by simp [Value.oneCell']) (by omega) (by unfold maxLen; omega) (by omega) (by simp; omega) (wr.heap.size + 1) (by simp) ?_; intro gg cap1 w1 hown1 hgrow hat hlt1)
      all_goals
        go_wp2_with fail
        go_roundg (l.length - (i + 1))
        case measure => omega
        case rel =>
          refine ⟨i + 1, _, _, rfl, by go_num, by omega, Nat.le_refl _, ?_, ?_, ?_, ?_⟩
          · obtain ⟨a9, c9, e9, h9⟩ := own_slice hown1
            cases e9
            exact h9
          · have := hgrow.size
            simp at this
            omega
          · exact below_grown B1.out z1 (by repeat' (first | exact Below.refl _ _ | refine Q.drew ?_ | refine Q.alloc ?_ _)) hgrow (fun b h => (own_lt HOW.out h).2)
          · show OwN _ _ _ _
            unfold OwN
            rw [HLN.out, ← HRW.out]
            exact hown1
    · have hltz : ¬ (i : Int) < (l.length : Int) := by omega
      have hi : i = l.length := by omega
      subst hi
      go_wp2_with fail
      go_ret
      exact ⟨_, _, rfl, by have h := O1.out; rw [List.take_length] at h; exact h, B1.out⟩
end Go.Proofs.Ytggnkkmlabhofaa
