/- The document's recorder; its Add; rows compared; Get out of bounds. -/
import Derived.Test.YtijlmdpcbclmaaaRec10
namespace Go.Proofs.Ytijlmdpcbclmaaa
set_option linter.unusedVariables false
set_option linter.unusedSimpArgs false
open Go.RowKit

/-- The document's recorder: its block g, the slice's value sv, its records, how many at most, and whether one was refused; all of it lies from block B on. -/
structure IsRR (w : World) (B g : Nat) (sv : Value) (l : List RD) (most : Int) (full : Bool) : Prop where
  blk : Blk w g 54 #[sv, .int .i64 most, .bool full]
  own : w.ownsRow B 35 4 sv l.length (rows l)
  ge : B ≤ g
  ne : sv.ownBlock ≠ some g

/-- Its blocks. -/
def RRF (g : Nat) (sv : Value) : Nat → Prop := fun b => b = g ∨ sv.ownBlock = some b

theorem IsRR.keep {w w' : World} {B g : Nat} {sv : Value} {l : List RD} {most : Int} {full : Bool} (h : IsRR w B g sv l most full) (hk : ∀ b, RRF g sv b → b < w.heap.size → w'.heap[b]? = w.heap[b]?) (hs : w.heap.size ≤ w'.heap.size) : IsRR w' B g sv l most full :=
  ⟨(hk g (.inl rfl) h.blk.lt).trans h.blk, own_keep h.own (fun b hb hlt => hk b (.inr hb) hlt) hs, h.ge, h.ne⟩
theorem IsRR.call {w w' : World} {B g : Nat} {sv : Value} {l : List RD} {most : Int} {full : Bool} (h : IsRR w B g sv l most full) (hb : Below w.heap.size w w') : IsRR w' B g sv l most full :=
  h.keep (fun b _ hlt => hb.block b hlt) hb.size
theorem IsRR.alloc {w : World} {B g : Nat} {sv : Value} {l : List RD} {most : Int} {full : Bool} (h : IsRR w B g sv l most full) (o : Obj) : IsRR (w.alloc o) B g sv l most full :=
  h.call ((Below.refl _ _).alloc (Nat.le_refl _) o)
theorem IsRR.drew {w : World} {B g : Nat} {sv : Value} {l : List RD} {most : Int} {full : Bool} (h : IsRR w B g sv l most full) : IsRR w.drew B g sv l most full :=
  h.call ((Below.refl _ _).drew)
theorem IsRR.chg {S : Nat → Prop} {w w' : World} {B g : Nat} {sv : Value} {l : List RD} {most : Int} {full : Bool} (h : IsRR w B g sv l most full) (hc : Chg S w w') (hd : ∀ b, RRF g sv b → ¬ S b) : IsRR w' B g sv l most full :=
  h.keep (fun b hb hlt => hc.block b hlt (hd b hb)) hc.size
theorem IsRR.lt {w : World} {B g : Nat} {sv : Value} {l : List RD} {most : Int} {full : Bool} (h : IsRR w B g sv l most full) {b : Nat} (hb : RRF g sv b) : b < w.heap.size ∧ B ≤ b := by
  rcases hb with rfl | hb
  · exact ⟨h.blk.lt, h.ge⟩
  · exact own_lt h.own hb
theorem IsRR.reads {w : World} {B g : Nat} {sv : Value} {l : List RD} {most : Int} {full : Bool} (h : IsRR w B g sv l most full) : ∃ a cap, sv = .slice a l.length cap ∧ l.length ≤ cap ∧ Reads w w.heap.size a l.length l :=
  own_reads h.own

set_option maxHeartbeats 1600000 in
theorem xadd_ok (B g : Nat) (sv : Value) (l : List RD) (most : Int) (full : Bool) (r : RD) (h0 : 0 ≤ r.addr) (h1 : r.addr ≤ 65535) (w : World) (hr : IsRR w B g sv l most full) (hB : B ≤ w.heap.size) (hl : (l.length : Int) < most) (hm : most ≤ 4096) :
    Calls Try.prog 29 #[.pointer (some ⟨g, 0, none⟩), .agg r.cells] w fun e w' => e = .returned (.int .i64 0) ∧ ∃ sv', IsRR w' B g sv' (l ++ [r]) most full ∧ Chg (RRF g sv) w w' ∧ (∀ b, RRF g sv' b → RRF g sv b ∨ w.heap.size ≤ b) := by
  obtain ⟨a, cap, rfl, hcap, hrd⟩ := hr.reads
  have c0 := hr.blk.cell 0
  have c1 := hr.blk.cell 1
  have f0 := hr.blk.frozen 0
  have hlt := hr.blk.lt
  obtain ⟨i0, hi0, hz0, hz1, hz2⟩ := info_parts rec_info
  obtain ⟨x, b, v, t⟩ := r
  simp only [RD.cells] at h0 h1 ⊢
  go_enter Try.func29, Try.ntmps29
  go_wp2
  go_quiet (fail)
  go_wp2
  go_region_law (refine step_append_lies _ (by rfl) _ _ _ (by rfl) B 35 i0 _ 4 16 Try.underlying22 hi0 hz0 hz1 hz2 rfl (by omega) (.slice a l.length cap) l.length (rows l) (by rfl) (by exact (hr.own.alloc _).alloc _) ⟨w.heap.size + 1, 0, none⟩ 1 1 [.int .i64 x, .bool b, .int .u8 v, .int .u8 t] (by rfl) (by rfl) (World.news_of_block (cs := #[.int .i64 x, .bool b, .int .u8 v, .int .u8 t]) (t := 35) (fr := (0, 0)) (Blk.new' (by simp))) (by simp [Value.oneCell']) (by omega) (by unfold maxLen; omega) (by omega) (by simp; omega) (w.heap.size + 2) (by simp) ?_; intro gg cap1 w1 hown1 hgrow hat hlt1; have hg1 : Blk w1 g 54 #[.slice a l.length cap, .int .i64 most, .bool full] := (hgrow.block g (by simp; omega) (Ne.symm hr.ne)).trans ((hr.blk.alloc _).alloc _); have k0 := hg1.cell 0; have k1 := hg1.frozen 0)
  all_goals
    go_wp2
    go_returns
    have hgg : gg ≠ g := by
      rcases hat with h | h
      · exact fun e => hr.ne (by rw [h, e])
      · omega
    refine ⟨rfl, .slice (some ⟨gg, 0, none⟩) (l.length + 1) cap1, ⟨?_, ?_, hr.ge, ?_⟩, ⟨hgrow.os, hgrow.tape, hgrow.output, ?_, ?_⟩, ?_⟩
    · rw [hg1.setCell]
      exact hg1.setRow _
    · rw [List.length_append, rows_snoc]
      exact own_keep hown1 (fun k hk _ => Below.heap_setCell _ _ _ k (by
        have : gg = k := by simpa [Value.ownBlock] using hk
        rw [← this]; exact hgg)) (by simp)
    · simp [Value.ownBlock, hgg]
    · have := hgrow.size
      simp at this ⊢
      omega
    · intro k hk hS
      have h1 : k ≠ g := fun h => hS (.inl h)
      have h2 : some k ≠ (Value.slice a l.length cap).ownBlock := fun h => hS (.inr h.symm)
      rw [Below.heap_setCell _ _ _ k h1, hgrow.block k (by simp; omega) h2]
      exact (Below.heap_alloc _ _ k (by simp; omega)).trans (Below.heap_alloc w _ k hk)
    · rintro k (h | h)
      · exact .inl (.inl h)
      · have h : gg = k := by simpa [Value.ownBlock] using h
        subst h
        rcases hat with h | h
        · exact .inl (.inr h)
        · exact .inr (by omega)

set_option maxHeartbeats 800000 in
theorem xadd_out (g : Nat) (r : RD) (h : r.addr < 0 ∨ 65535 < r.addr) (w : World) :
    Calls Try.prog 29 #[.pointer (some ⟨g, 0, none⟩), .agg r.cells] w fun e w' => e = .returned (.int .i64 10) ∧ Below w.heap.size w w' := by
  obtain ⟨x, b, v, t⟩ := r
  simp only [RD.cells] at h ⊢
  rcases h with h | h
  all_goals
    go_enter Try.func29, Try.ntmps29
    go_wp2
    go_returns
    exact ⟨rfl, (Below.refl _ _).alloc (Nat.le_refl _) _⟩
set_option maxHeartbeats 800000 in
theorem xadd_full (B g : Nat) (sv : Value) (l : List RD) (most : Int) (full : Bool) (r : RD) (h0 : 0 ≤ r.addr) (h1 : r.addr ≤ 65535) (w : World) (hr : IsRR w B g sv l most full) (hl : (l.length : Int) = most) :
    Calls Try.prog 29 #[.pointer (some ⟨g, 0, none⟩), .agg r.cells] w fun e w' => e = .returned (.int .i64 18) ∧ IsRR w' B g sv l most true ∧ Chg (· = g) w w' := by
  obtain ⟨a, cap, rfl, hcap, hrd⟩ := hr.reads
  have c0 := hr.blk.cell 0
  have c1 := hr.blk.cell 1
  have c2 := hr.blk.cell 2
  have f2 := hr.blk.frozen 2
  have hlt := hr.blk.lt
  subst hl
  obtain ⟨x, b, v, t⟩ := r
  simp only [RD.cells] at h0 h1 ⊢
  go_enter Try.func29, Try.ntmps29
  go_wp2
  go_quiet (fail)
  go_wp2
  go_returns
  have hch : Chg (· = g) w (((w.alloc (.cells #[.int .i64 x, .bool b, .int .u8 v, .int .u8 t] 35)).drewN nq).setCell ⟨g, 2, none⟩ (.bool true)) :=
    ⟨rfl, rfl, rfl, by simp, fun k hk hne => (Below.heap_setCell _ _ _ k (fun h => hne h)).trans (Below.heap_alloc w _ k hk)⟩
  refine ⟨rfl, ⟨?_, ?_, hr.ge, hr.ne⟩, hch⟩
  · have hb := (hr.blk.alloc (.cells #[.int .i64 x, .bool b, .int .u8 v, .int .u8 t] 35)).drewN nq
    rw [hb.setCell]
    exact hb.setRow _
  · exact own_keep hr.own (fun k hk hlt => hch.block k hlt (fun h => hr.ne (h ▸ hk))) hch.size

set_option maxHeartbeats 1600000 in
theorem rget_out (B g : Nat) (sv : Value) (l : List RD) (most : Int) (full : Bool) (i : Int) (w : World) (hr : IsRec w B g sv l most full) (hl : l.length ≤ 4096) (hi : i < 0 ∨ (l.length : Int) ≤ i) :
    Calls Try.prog 31 #[.pointer (some ⟨g, 0, none⟩), .int .i64 i] w fun e w' => e = .returned (.tuple #[.agg #[.int .i64 0, .bool false, .int .u8 0, .int .u8 0], .int .i64 10]) ∧ Below w.heap.size w w' := by
  have HP := Lib.hid (hr.prec hl)
  clear hr
  by_cases h0 : i < 0
  · go_enter Try.func31, Try.ntmps31
    go_wp2
    go_returns
    exact ⟨rfl, Q.alloc (Below.refl _ _) _⟩
  · have h1 : (l.length : Int) ≤ i := by omega
    go_enter Try.func31, Try.ntmps31
    go_wp2_with (go_at_call 34; (with_reducible refine (len_any _ _ _ (HP.out.call (Q.alloc (Below.refl _ _) _))).mono ?_); rintro e w' ⟨rfl, n3, rfl⟩)
    go_returns
    exact ⟨rfl, ((((Q.drewN (Q.alloc (Below.refl w.heap.size w) _) _).setCell (p := ⟨w.heap.size, 0, none⟩) (Nat.le_refl _) _).setCell (p := ⟨w.heap.size, 1, none⟩) (Nat.le_refl _) _).setCell (p := ⟨w.heap.size, 2, none⟩) (Nat.le_refl _) _).setCell (p := ⟨w.heap.size, 3, none⟩) (Nat.le_refl _) _⟩

set_option maxHeartbeats 1600000 in
theorem records_eq (a b : Option Addr) (ca cb : Nat) (l : List RD) (w : World) (hl : l.length ≤ 4096) (ha : Reads w w.heap.size a l.length l) (hb : Reads w w.heap.size b l.length l) :
    Calls Try.prog 43 #[.slice a l.length ca, .slice b l.length cb] w fun e w' => e = .returned (.bool true) ∧ Below w.heap.size w w' := by
  have HA := Lib.hid ha
  have HB := Lib.hid hb
  clear ha hb
  go_enter Try.func43, Try.ntmps43
  go_wp2
  go_loopw [5] (fun v wr => ∃ k : Nat, v = .int .i64 (k : Int) ∧ k ≤ l.length ∧ Below w.heap.size w wr) (fun v _ => l.length - (intOf v).toNat)
  case atStart => exact ⟨0, rfl, Nat.zero_le _, Below.refl _ _⟩
  case round =>
    obtain ⟨k, rfl, hk, hbw⟩ := hrel
    by_cases hlt : k < l.length
    · obtain ⟨b1, o1, r, rfl, hbl, hget, c0, c1, c2, c3⟩ := (HA.out.below hbw).at_ hlt
      obtain ⟨b2, o2, r2, rfl, hbl2, hget2, d0, d1, d2, d3⟩ := (HB.out.below hbw).at_ hlt
      rw [hget] at hget2
      cases hget2
      have hki : (k : Int) < (l.length : Int) := by omega
      clear hget
      obtain ⟨ad, bb, vv, tt⟩ := r
      simp only at c0 c1 c2 c3 d0 d1 d2 d3
      go_wp2
      go_quiet (fail)
      go_wp2
      exact ⟨⟨k + 1, by simp, by omega, Q.drewN hbw _⟩, by simp [intOf]; omega⟩
    · obtain rfl : k = l.length := by omega
      go_wp2
      go_returns
      exact ⟨rfl, hbw⟩
end Go.Proofs.Ytijlmdpcbclmaaa
