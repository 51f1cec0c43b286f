/- Ports as they lie in memory; put into them. (printed by gen/po3.py) -/
import Derived.Test.YteciicojnodibaaPo2
namespace Go.Proofs.Yteciicojnodibaa
set_option linter.unusedVariables false
set_option linter.unusedSimpArgs false
open Go.RowKit

/-- What ports have. -/
structure PS where
  pub : List Int
  sec : List Int
  out : List Int
  kept : List (Int × Int)
  log : List (Int × Int)
/-- Nothing is too long. -/
structure PS.ok (s : PS) : Prop where
  pub : s.pub.length ≤ 65536
  sec : s.sec.length ≤ 65536
  out : s.out.length ≤ 4096
  kept : s.kept.length ≤ 4096
  log : s.log.length ≤ 4096
/-- The values in its cells. -/
structure PV where
  pub : Value
  sec : Value
  out : Value
  kept : Value
  log : Value
@[reducible] def PV.cells (v : PV) : Array Value := #[v.pub, v.sec, v.out, v.kept, v.log]
/-- Ports at block g; what may be turned is c's, what is read lies in blocks that are nobody's. -/
structure IsP (w : World) (col : Nat → Nat) (c g : Nat) (v : PV) (s : PS) : Prop where
  blk : Blk w g 64 v.cells
  mine : col g = c
  pub : Rd EU w (fun b => col b = 0) v.pub s.pub
  sec : Rd EU w (fun b => col b = 0) v.sec s.sec
  out : Ow EU 5 w (fun b => col b = c) v.out s.out
  kept : Ow EB 23 w (fun b => col b = c) v.kept s.kept
  log : Ow EE 58 w (fun b => col b = c) v.log s.log
theorem IsP.keep {w w' : World} {col col' : Nat → Nat} {c g : Nat} {v : PV} {s : PS} (h : IsP w col c g v s) (hk : ∀ b, b < w.heap.size → col b = 0 ∨ col b = c → w'.heap[b]? = w.heap[b]? ∧ col' b = col b) (hs : w.heap.size ≤ w'.heap.size) : IsP w' col' c g v s :=
  ⟨((hk g h.blk.lt (.inr h.mine)).1).trans h.blk, ((hk g h.blk.lt (.inr h.mine)).2).trans h.mine,
    h.pub.keep (fun b hb hR => ⟨(hk b hb (.inl hR)).1, (hk b hb (.inl hR)).2.trans hR⟩) hs, h.sec.keep (fun b hb hR => ⟨(hk b hb (.inl hR)).1, (hk b hb (.inl hR)).2.trans hR⟩) hs,
    h.out.keep (fun b hb _ hS => ⟨(hk b hb (.inr hS)).1, (hk b hb (.inr hS)).2.trans hS⟩) hs, h.kept.keep (fun b hb _ hS => ⟨(hk b hb (.inr hS)).1, (hk b hb (.inr hS)).2.trans hS⟩) hs, h.log.keep (fun b hb _ hS => ⟨(hk b hb (.inr hS)).1, (hk b hb (.inr hS)).2.trans hS⟩) hs⟩
theorem IsP.call {w w' : World} {col : Nat → Nat} {c g : Nat} {v : PV} {s : PS} (h : IsP w col c g v s) (hb : Below w.heap.size w w') : IsP w' col c g v s := h.keep (fun b hlt _ => ⟨hb.block b hlt, rfl⟩) hb.size
theorem IsP.new {w w' : World} {col : Nat → Nat} {c g : Nat} {v : PV} {s : PS} (h : IsP w col c g v s) (hb : Below w.heap.size w w') (d : Nat) : IsP w' (paint col w.heap.size d) c g v s := h.keep (fun b hlt _ => ⟨hb.block b hlt, paint_old hlt⟩) hb.size
theorem IsP.other {w w' : World} {col : Nat → Nat} {c d g : Nat} {v : PV} {s : PS} (h : IsP w col c g v s) (hb : Chg (fun b => col b = d) w w') (h0 : d ≠ 0) (hc : c ≠ d) (e : Nat) : IsP w' (paint col w.heap.size e) c g v s :=
  h.keep (fun b hlt hcol => ⟨hb.block b hlt (fun hd => by rcases hcol with h | h <;> omega), paint_old hlt⟩) hb.size
theorem Below.to_chg {S : Nat → Prop} {w V w' : World} (hB : Below w.heap.size w V) (h : Chg S V w') : Chg S w w' := (Chg.of hB).trans h

theorem p_put_U (w V : World) (col : Nat → Nat) (c g : Nat) (v : PV) (s : PS) (x : Int) (hp : IsP w col c g v s) (h0 : c ≠ 0) (hB : Below w.heap.size w V) (hl : s.out.length < 4096) :
    Calls Try.prog 32 #[.pointer (some ⟨g, 2, none⟩), .int .u8 x] V fun e w' => e = .returned (.tuple #[.int .i64 0, .int .i64 0]) ∧ ∃ v', IsP w' (paint col w.heap.size c) c g v' { s with out := s.out ++ [x] } ∧ Chg (fun b => col b = c) w w' := by
  have hV := hp.call hB
  refine (put_ok_U g 2 v.cells v.out s.out x V hV.blk rfl hV.out.1 hl).mono fun e w' ⟨he, v', hblk, hown, hch, hnew⟩ => ⟨he, { v with out := v' }, ?_, ?_⟩
  · have hC := Below.to_chg hB hch
    refine ⟨hblk, (paint_old hp.blk.lt).trans hp.mine, ?_, ?_, ?_, ?_, ?_⟩
    · exact hp.pub.keep (fun b hb hR => ⟨hC.block b hb (by rintro (rfl | h1); exact h0 (hp.mine.symm.trans hR); exact h0 ((hp.out.2 b h1).symm.trans hR)), (paint_old hb).trans hR⟩) hC.size
    · exact hp.sec.keep (fun b hb hR => ⟨hC.block b hb (by rintro (rfl | h1); exact h0 (hp.mine.symm.trans hR); exact h0 ((hp.out.2 b h1).symm.trans hR)), (paint_old hb).trans hR⟩) hC.size
    · exact ⟨hown, fun b hb => by
        rcases hnew b hb with h1 | h1
        · exact (paint_old (own_lt hp.out.1 h1).1).trans (hp.out.2 b h1)
        · exact paint_new (Nat.le_trans hB.size h1)⟩
    · exact hp.kept.keep (fun b hb hv hS => ⟨hC.block b hb (by rintro (rfl | h1); exact own_ne hp.kept.1 hp.blk (by decide) hv; exact own_ne2 hp.out.1 hp.kept.1 (by decide) b h1 hv), (paint_old hb).trans hS⟩) hC.size
    · exact hp.log.keep (fun b hb hv hS => ⟨hC.block b hb (by rintro (rfl | h1); exact own_ne hp.log.1 hp.blk (by decide) hv; exact own_ne2 hp.out.1 hp.log.1 (by decide) b h1 hv), (paint_old hb).trans hS⟩) hC.size
  · exact (Below.to_chg hB hch).mono (by rintro b (rfl | h1); exact hp.mine; exact hp.out.2 b h1)
theorem p_put_B (w V : World) (col : Nat → Nat) (c g : Nat) (v : PV) (s : PS) (x : Int × Int) (hp : IsP w col c g v s) (h0 : c ≠ 0) (hB : Below w.heap.size w V) (hl : s.kept.length < 4096) :
    Calls Try.prog 33 #[.pointer (some ⟨g, 3, none⟩), .agg #[.int .u8 x.1, .int .u8 x.2]] V fun e w' => e = .returned (.tuple #[.int .i64 0, .int .i64 0]) ∧ ∃ v', IsP w' (paint col w.heap.size c) c g v' { s with kept := s.kept ++ [x] } ∧ Chg (fun b => col b = c) w w' := by
  have hV := hp.call hB
  refine (put_ok_B g 3 v.cells v.kept s.kept x V hV.blk rfl hV.kept.1 hl).mono fun e w' ⟨he, v', hblk, hown, hch, hnew⟩ => ⟨he, { v with kept := v' }, ?_, ?_⟩
  · have hC := Below.to_chg hB hch
    refine ⟨hblk, (paint_old hp.blk.lt).trans hp.mine, ?_, ?_, ?_, ?_, ?_⟩
    · exact hp.pub.keep (fun b hb hR => ⟨hC.block b hb (by rintro (rfl | h1); exact h0 (hp.mine.symm.trans hR); exact h0 ((hp.kept.2 b h1).symm.trans hR)), (paint_old hb).trans hR⟩) hC.size
    · exact hp.sec.keep (fun b hb hR => ⟨hC.block b hb (by rintro (rfl | h1); exact h0 (hp.mine.symm.trans hR); exact h0 ((hp.kept.2 b h1).symm.trans hR)), (paint_old hb).trans hR⟩) hC.size
    · exact hp.out.keep (fun b hb hv hS => ⟨hC.block b hb (by rintro (rfl | h1); exact own_ne hp.out.1 hp.blk (by decide) hv; exact own_ne2 hp.kept.1 hp.out.1 (by decide) b h1 hv), (paint_old hb).trans hS⟩) hC.size
    · exact ⟨hown, fun b hb => by
        rcases hnew b hb with h1 | h1
        · exact (paint_old (own_lt hp.kept.1 h1).1).trans (hp.kept.2 b h1)
        · exact paint_new (Nat.le_trans hB.size h1)⟩
    · exact hp.log.keep (fun b hb hv hS => ⟨hC.block b hb (by rintro (rfl | h1); exact own_ne hp.log.1 hp.blk (by decide) hv; exact own_ne2 hp.kept.1 hp.log.1 (by decide) b h1 hv), (paint_old hb).trans hS⟩) hC.size
  · exact (Below.to_chg hB hch).mono (by rintro b (rfl | h1); exact hp.mine; exact hp.kept.2 b h1)
theorem p_put_E (w V : World) (col : Nat → Nat) (c g : Nat) (v : PV) (s : PS) (x : Int × Int) (hp : IsP w col c g v s) (h0 : c ≠ 0) (hB : Below w.heap.size w V) (hl : s.log.length < 4096) :
    Calls Try.prog 34 #[.pointer (some ⟨g, 4, none⟩), .agg #[.int .i64 x.1, .int .u8 x.2]] V fun e w' => e = .returned (.tuple #[.int .i64 0, .int .i64 0]) ∧ ∃ v', IsP w' (paint col w.heap.size c) c g v' { s with log := s.log ++ [x] } ∧ Chg (fun b => col b = c) w w' := by
  have hV := hp.call hB
  refine (put_ok_E g 4 v.cells v.log s.log x V hV.blk rfl hV.log.1 hl).mono fun e w' ⟨he, v', hblk, hown, hch, hnew⟩ => ⟨he, { v with log := v' }, ?_, ?_⟩
  · have hC := Below.to_chg hB hch
    refine ⟨hblk, (paint_old hp.blk.lt).trans hp.mine, ?_, ?_, ?_, ?_, ?_⟩
    · exact hp.pub.keep (fun b hb hR => ⟨hC.block b hb (by rintro (rfl | h1); exact h0 (hp.mine.symm.trans hR); exact h0 ((hp.log.2 b h1).symm.trans hR)), (paint_old hb).trans hR⟩) hC.size
    · exact hp.sec.keep (fun b hb hR => ⟨hC.block b hb (by rintro (rfl | h1); exact h0 (hp.mine.symm.trans hR); exact h0 ((hp.log.2 b h1).symm.trans hR)), (paint_old hb).trans hR⟩) hC.size
    · exact hp.out.keep (fun b hb hv hS => ⟨hC.block b hb (by rintro (rfl | h1); exact own_ne hp.out.1 hp.blk (by decide) hv; exact own_ne2 hp.log.1 hp.out.1 (by decide) b h1 hv), (paint_old hb).trans hS⟩) hC.size
    · exact hp.kept.keep (fun b hb hv hS => ⟨hC.block b hb (by rintro (rfl | h1); exact own_ne hp.kept.1 hp.blk (by decide) hv; exact own_ne2 hp.log.1 hp.kept.1 (by decide) b h1 hv), (paint_old hb).trans hS⟩) hC.size
    · exact ⟨hown, fun b hb => by
        rcases hnew b hb with h1 | h1
        · exact (paint_old (own_lt hp.log.1 h1).1).trans (hp.log.2 b h1)
        · exact paint_new (Nat.le_trans hB.size h1)⟩
  · exact (Below.to_chg hB hch).mono (by rintro b (rfl | h1); exact hp.mine; exact hp.log.2 b h1)
/-- What comes next of pub. -/
theorem p_next_pub (w V : World) (col : Nat → Nat) (c g : Nat) (v : PV) (s : PS) (hp : IsP w col c g v s) (hs : s.ok) (h0 : c ≠ 0) (d : Nat) (hB : Below w.heap.size w V) :
    Calls Try.prog 28 #[.pointer (some ⟨g, 0, none⟩)] V fun e w' => e = .returned (.int .u8 (s.pub.headD 0)) ∧ ∃ v', IsP w' (paint col w.heap.size d) c g v' { s with pub := s.pub.tail } ∧ Chg (fun b => b = g) V w' := by
  have hV := hp.call hB
  have hlen := hs.pub
  have hR0 : Rd EU V (fun b => col b = 0 ∧ b < w.heap.size) v.pub s.pub := hp.pub.keep (fun b hlt hR => ⟨hB.block b hlt, hR, hlt⟩) hB.size
  obtain ⟨pub, sec, out, kept, log⟩ := s
  cases pub with
  | nil =>
    exact (next_none g 0 v.cells v.pub _ V hV.blk rfl hV.pub).mono fun e w' ⟨he, hw⟩ => ⟨he, v, by rw [hw]; exact hp.new hB d, by rw [hw]; exact Chg.refl _ _⟩
  | cons x l =>
    refine (next_some g 0 v.cells v.pub _ x l V hV.blk rfl (by simp at hlen; omega) hR0).mono fun e w' ⟨he, v', hr, hw⟩ => ⟨he, { v with pub := v' }, ?_, ?_⟩
    · have hC : Chg (fun b => b = g) V w' := by rw [hw]; exact ⟨rfl, rfl, rfl, by simp, fun b _ hb => setRow_other V g b _ hb⟩
      have hC2 := Below.to_chg hB hC
      have hr' : Rd EU w' (fun b => paint col w.heap.size d b = 0) v' l := hr.keep (fun b hb hR => ⟨hC.block b hb (by rintro rfl; exact h0 (hp.mine.symm.trans hR.1)), (paint_old hR.2).trans hR.1⟩) hC.size
      refine ⟨?_, (paint_old hp.blk.lt).trans hp.mine, ?_, ?_, ?_, ?_, ?_⟩
      · rw [hw]
        exact hV.blk.setRow _
      · exact hr'
      · exact hp.sec.keep (fun b hb hR => ⟨hC2.block b hb (by rintro rfl; exact h0 (hp.mine.symm.trans hR)), (paint_old hb).trans hR⟩) hC2.size
      · exact hp.out.keep (fun b hb hv hS => ⟨hC2.block b hb (by rintro rfl; exact own_ne hp.out.1 hp.blk (by decide) hv), (paint_old hb).trans hS⟩) hC2.size
      · exact hp.kept.keep (fun b hb hv hS => ⟨hC2.block b hb (by rintro rfl; exact own_ne hp.kept.1 hp.blk (by decide) hv), (paint_old hb).trans hS⟩) hC2.size
      · exact hp.log.keep (fun b hb hv hS => ⟨hC2.block b hb (by rintro rfl; exact own_ne hp.log.1 hp.blk (by decide) hv), (paint_old hb).trans hS⟩) hC2.size
    · rw [hw]
      exact ⟨rfl, rfl, rfl, by simp, fun b _ hb => setRow_other V g b _ hb⟩
/-- What comes next of sec. -/
theorem p_next_sec (w V : World) (col : Nat → Nat) (c g : Nat) (v : PV) (s : PS) (hp : IsP w col c g v s) (hs : s.ok) (h0 : c ≠ 0) (d : Nat) (hB : Below w.heap.size w V) :
    Calls Try.prog 28 #[.pointer (some ⟨g, 1, none⟩)] V fun e w' => e = .returned (.int .u8 (s.sec.headD 0)) ∧ ∃ v', IsP w' (paint col w.heap.size d) c g v' { s with sec := s.sec.tail } ∧ Chg (fun b => b = g) V w' := by
  have hV := hp.call hB
  have hlen := hs.sec
  have hR0 : Rd EU V (fun b => col b = 0 ∧ b < w.heap.size) v.sec s.sec := hp.sec.keep (fun b hlt hR => ⟨hB.block b hlt, hR, hlt⟩) hB.size
  obtain ⟨pub, sec, out, kept, log⟩ := s
  cases sec with
  | nil =>
    exact (next_none g 1 v.cells v.sec _ V hV.blk rfl hV.sec).mono fun e w' ⟨he, hw⟩ => ⟨he, v, by rw [hw]; exact hp.new hB d, by rw [hw]; exact Chg.refl _ _⟩
  | cons x l =>
    refine (next_some g 1 v.cells v.sec _ x l V hV.blk rfl (by simp at hlen; omega) hR0).mono fun e w' ⟨he, v', hr, hw⟩ => ⟨he, { v with sec := v' }, ?_, ?_⟩
    · have hC : Chg (fun b => b = g) V w' := by rw [hw]; exact ⟨rfl, rfl, rfl, by simp, fun b _ hb => setRow_other V g b _ hb⟩
      have hC2 := Below.to_chg hB hC
      have hr' : Rd EU w' (fun b => paint col w.heap.size d b = 0) v' l := hr.keep (fun b hb hR => ⟨hC.block b hb (by rintro rfl; exact h0 (hp.mine.symm.trans hR.1)), (paint_old hR.2).trans hR.1⟩) hC.size
      refine ⟨?_, (paint_old hp.blk.lt).trans hp.mine, ?_, ?_, ?_, ?_, ?_⟩
      · rw [hw]
        exact hV.blk.setRow _
      · exact hp.pub.keep (fun b hb hR => ⟨hC2.block b hb (by rintro rfl; exact h0 (hp.mine.symm.trans hR)), (paint_old hb).trans hR⟩) hC2.size
      · exact hr'
      · exact hp.out.keep (fun b hb hv hS => ⟨hC2.block b hb (by rintro rfl; exact own_ne hp.out.1 hp.blk (by decide) hv), (paint_old hb).trans hS⟩) hC2.size
      · exact hp.kept.keep (fun b hb hv hS => ⟨hC2.block b hb (by rintro rfl; exact own_ne hp.kept.1 hp.blk (by decide) hv), (paint_old hb).trans hS⟩) hC2.size
      · exact hp.log.keep (fun b hb hv hS => ⟨hC2.block b hb (by rintro rfl; exact own_ne hp.log.1 hp.blk (by decide) hv), (paint_old hb).trans hS⟩) hC2.size
    · rw [hw]
      exact ⟨rfl, rfl, rfl, by simp, fun b _ hb => setRow_other V g b _ hb⟩
theorem IsP.fin {w1 W : World} {col : Nat → Nat} {n c g : Nat} {v : PV} {s : PS} (h : IsP w1 (paint col n (c + 1)) c g v s) (hk : ∀ b, b < n → W.heap[b]? = w1.heap[b]?) (hs : w1.heap.size ≤ W.heap.size) : IsP W (paint col n c) c g v s :=
  h.keep (fun b hb hcol => by
    have hlt : b < n := by
      rcases Nat.lt_or_ge b n with h1 | h1
      · exact h1
      · rw [paint_new h1] at hcol
        omega
    exact ⟨hk b hlt, by rw [paint_old hlt, paint_old hlt]⟩) hs
theorem Chg.fresh {S : Nat → Prop} {w w1 : World} (h : Chg S w w1) {A : Nat} (hA : w.heap.size ≤ A) (cs : Array Value) : Chg S w (w1.setRow A cs) :=
  ⟨h.os, h.tape, h.output, by simpa using h.size, fun b hb hS => (setRow_other w1 A b cs (by omega)).trans (h.block b hb hS)⟩
end Go.Proofs.Yteciicojnodibaa
