/- The lexer: a line's tokens, and one more. (printed by gen/lx7.py) -/
import Derived.Test.YtlmcdbegnjikdaaDoorLx6
namespace Go.Proofs.YtlmcdbegnjikdaaDoor
set_option linter.unusedVariables false
set_option linter.unusedSimpArgs false
open Go.RowKit
attribute [local go_sem ↓] Go.wp_at_zero Go.wp_at_succ

/-- A string of bytes. -/
def str (l : By) : ByteArray := ⟨l.toArray⟩
/-- How a token lies. -/
def ET : Enc Tok 5 := ⟨fun t => [.int .i64 t.kind, .string (str t.text), .int .i64 t.n, .int .i64 t.line, .int .i64 t.col], fun _ => rfl, fun _ v hv => by simp at hv; rcases hv with rfl | rfl | rfl | rfl | rfl <;> rfl, by decide⟩
theorem ET_snoc (l : List Tok) (t : Tok) : ET.row (l ++ [t]) = ET.row l ++ [.int .i64 t.kind, .string (str t.text), .int .i64 t.n, .int .i64 t.line, .int .i64 t.col] := by rw [ET.row_append]; simp [Enc.row, ET]
theorem tok_info : (Tryd.prog.info? 37).map (fun i => (i.zero, i.size, i.bytes)) = some (some (.agg #[.int .i64 0, .string ByteArray.empty, .int .i64 0, .int .i64 0, .int .i64 0]), 5, 48) := by kernel_rfl
/-- What scanning a line may turn: the line's block, and what is new. -/
def LnF (g B : Nat) : Nat → Prop := fun b => b = g ∨ B ≤ b
/-- A line, as far as it is scanned. -/
structure IsLn (w : World) (B g : Nat) (s : ByteArray) (n at_ : Int) (sv : Value) (l : List Tok) : Prop where
  blk : Blk w g 51 #[.string s, .int .i64 n, .int .i64 at_, sv]
  own : w.ownsRow B 37 5 sv l.length (ET.row l)
  lt : g < B
  le : B ≤ w.heap.size
theorem IsLn.below {w w' : World} {B g : Nat} {s : ByteArray} {n at_ : Int} {sv : Value} {l : List Tok} (h : IsLn w B g s n at_ sv l) (hb : Below w.heap.size w w') : IsLn w' B g s n at_ sv l :=
  ⟨h.blk.call hb, own_keep h.own (fun b _ hlt => hb.block b hlt) hb.size, h.lt, Nat.le_trans h.le hb.size⟩
theorem ln_push {w W3 w1 : World} {B g m : Nat} {cs cs' : Array Value} {v v' : Value} {xs : List Value} (hg1 : Blk w1 g 51 cs) (hown : w1.ownsRow B 37 5 v' m xs) (hgrow : W3.grownBy w1 v.ownBlock) (hW : Below w.heap.size w W3)
    (hv : ∀ b, v.ownBlock = some b → B ≤ b) (hgB : g < B) (hBw : B ≤ w.heap.size) :
    Blk (w1.setRow g cs') g 51 cs' ∧ (w1.setRow g cs').ownsRow B 37 5 v' m xs ∧ B ≤ (w1.setRow g cs').heap.size ∧ Chg (LnF g B) w (w1.setRow g cs') := by
  have h1 := hgrow.size
  have h2 := hW.size
  refine ⟨hg1.setRow _, own_keep hown (fun b hb _ => setRow_other w1 g b cs' (fun e => by have := (own_lt hown hb).2; omega)) (by simp), by simp; omega, ⟨hgrow.os.trans hW.os, hgrow.tape.trans hW.tape, hgrow.output.trans hW.output, by simp; omega, fun b hb hS => ?_⟩⟩
  have hS1 : b ≠ g := fun e => hS (.inl e)
  have hS2 : ¬ B ≤ b := fun e => hS (.inr e)
  rw [setRow_other w1 g b cs' hS1, hgrow.block b (by omega) (fun e => hS2 (hv b e.symm))]
  exact hW.block b hb
set_option maxHeartbeats 3200000 in
theorem add_ok (w : World) (B g : Nat) (s : ByteArray) (n : Int) (at_ to_ : Int) (sv : Value) (l : List Tok) (k v : Int) (x : By) (ha : 0 ≤ at_ ∧ at_ ≤ 1000) (hl : l.length ≤ 1000) (h : IsLn w B g s n at_ sv l) :
    Calls Tryd.prog 41 #[.pointer (some ⟨g, 0, none⟩), .agg #[.int .i64 k, .string (str x), .int .i64 v, .int .i64 0, .int .i64 0], .int .i64 to_] w fun e w' => e = .returned (.tuple #[]) ∧ ∃ sv', IsLn w' B g s n to_ sv' (l ++ [⟨k, x, v, n, at_ + 1⟩]) ∧ Chg (LnF g B) w w' := by
  obtain ⟨a, cap, rfl, hcap⟩ := own_slice h.own
  have c0 := h.blk.cell 0
  have c1 := h.blk.cell 1
  have c2 := h.blk.cell 2
  have c3 := h.blk.cell 3
  have f0 := h.blk.frozen 0
  have f2 := h.blk.frozen 2
  have f3 := h.blk.frozen 3
  have hlt := h.blk.lt
  have hgB := h.lt
  have hBw := h.le
  have NE : (Value.slice a l.length cap).ownBlock ≠ some g := fun e => by have := (own_lt h.own e).2; omega
  obtain ⟨ha1, ha2⟩ := ha
  have OWN := Lib.hid h.own
  have BLK := Lib.hid h.blk
  have CP := fun W (hb : Blk W g 51 #[.string s, .int .i64 n, .int .i64 at_, .slice a l.length cap]) => place_eq W g _ n at_ rfl ⟨ha1, by omega⟩ hb
  have HV := Lib.hid (fun b (e : (Value.slice a l.length cap).ownBlock = some b) => (own_lt h.own e).2)
  clear h
  obtain ⟨i0, hi0, hz0, hz1, hz2⟩ := info_parts tok_info
  go_enter Tryd.func41, Tryd.ntmps41
  go_wp2_with (go_at_call 29; (with_reducible refine (CP _ (BLK.out.alloc _)).mono ?_); rintro e w1 ⟨rfl, hb1⟩; obtain ⟨hc1, hf1, hz1'⟩ := bcell hb1; have z1 : w.heap.size < w1.heap.size := (by (try simp only [World.size_alloc] at hz1'); omega))
  have BT : Blk w1 w.heap.size 37 #[.int .i64 k, .string (str x), .int .i64 v, .int .i64 0, .int .i64 0] := (Blk.new w _ _).call hb1
  have BQ := Q.call (Q.alloc (Below.refl w.heap.size w) _) hb1
  have e2 : (w1.setCell ⟨w.heap.size, 3, none⟩ (.int .i64 n)).setCell ⟨w.heap.size, 4, none⟩ (.int .i64 (at_ + 1)) = w1.setRow w.heap.size #[.int .i64 k, .string (str x), .int .i64 v, .int .i64 n, .int .i64 (at_ + 1)] := by
    rw [BT.setCell, BT.setCell_setRow]; rfl
  rw [e2]
  have BT2 := BT.setRow #[.int .i64 k, .string (str x), .int .i64 v, .int .i64 n, .int .i64 (at_ + 1)]
  have BQ2 := below_setRow BQ (Nat.le_refl _) #[.int .i64 k, .string (str x), .int .i64 v, .int .i64 n, .int .i64 (at_ + 1)]
  clear e2 BT BQ hb1 hc1 hf1 hz1' CP
  generalize w1.setRow w.heap.size #[.int .i64 k, .string (str x), .int .i64 v, .int .i64 n, .int .i64 (at_ + 1)] = W2 at BT2 BQ2 ⊢
  have BK := BLK.out.call BQ2
  have OW := own_keep OWN.out (fun b _ hlt => BQ2.block b hlt) BQ2.size
  have z1 : w.heap.size < W2.heap.size := BT2.lt
  have hgW : g < W2.heap.size := by omega
  clear c0 c1 c2 c3 f0 f2 f3
  have c2 := BK.cell 2
  have c3 := BK.cell 3
  have f2 := BK.frozen 2
  have f3 := BK.frozen 3
  have q0 := BT2.cell 0
  have q1 := BT2.cell 1
  have q2 := BT2.cell 2
  have q3 := BT2.cell 3
  have q4 := BT2.cell 4
  replace BK := BK.alloc (.cells #[.int .i64 k, .string (str x), .int .i64 v, .int .i64 n, .int .i64 (at_ + 1)] 37)
  replace OW := own_keep OW (w' := W2.alloc (.cells #[.int .i64 k, .string (str x), .int .i64 v, .int .i64 n, .int .i64 (at_ + 1)] 37)) (fun b _ hlt => Below.heap_alloc W2 _ b hlt) (by simp)
  have HB := Lib.hid BQ2
  clear BQ2 BLK OWN BT2
  go_region_law (refine step_append_lies _ (by rfl) _ _ _ (by rfl) B 37 i0 _ 5 48 Tryd.underlying23 hi0 hz0 hz1 hz2 rfl (by omega) (.slice a l.length cap) l.length (ET.row l) (by rfl) (by exact OW) ⟨W2.heap.size, 0, none⟩ 1 1 [.int .i64 k, .string (str x), .int .i64 v, .int .i64 n, .int .i64 (at_ + 1)] (by rfl) (by rfl) (World.news_of_block (cs := #[.int .i64 k, .string (str x), .int .i64 v, .int .i64 n, .int .i64 (at_ + 1)]) (t := 37) (fr := (0, 0)) (Blk.new' (by simp))) (by simp [Value.oneCell']) (by omega) (by unfold maxLen; omega) (by omega) (by simp; omega) (W2.heap.size + 1) (by simp) ?_; intro gg cap1 w1 hown1 hgrow hat hlt1; have hg1 : Blk w1 g 51 #[.string s, .int .i64 n, .int .i64 at_, .slice a l.length cap] := (hgrow.block g (by simp; omega) (Ne.symm NE)).trans BK; have k0 := hg1.cell 3; have k1 := hg1.frozen 3; have k2 := hg1.cell 2; have k3 := hg1.frozen 2)
  all_goals
    go_wp2
    go_returns
    have e3 : (w1.setCell ⟨g, 3, none⟩ (.slice (some ⟨gg, 0, none⟩) (l.length + 1) cap1)).setCell ⟨g, 2, none⟩ (.int .i64 to_) = w1.setRow g #[.string s, .int .i64 n, .int .i64 to_, .slice (some ⟨gg, 0, none⟩) (l.length + 1) cap1] := by
      rw [hg1.setCell, hg1.setCell_setRow]; rfl
    rw [e3]
    obtain ⟨p1, p2, p3, p4⟩ := ln_push (cs' := #[.string s, .int .i64 n, .int .i64 to_, .slice (some ⟨gg, 0, none⟩) (l.length + 1) cap1]) hg1 hown1 hgrow (Q.drew (Q.alloc HB.out _)) HV.out hgB hBw
    exact ⟨rfl, _, ⟨p1, by rw [List.length_append, ET_snoc]; exact p2, hgB, p3⟩, p4⟩
end Go.Proofs.YtlmcdbegnjikdaaDoor
