/- The document's ports as they lie in memory; Read. (printed by gen/po6.py) -/
import Derived.Test.YteciicojnodibaaPo3
import Derived.Test.YteciicojnodibaaPo5
import Derived.Test.YteciicojnodibaaPo4
import Derived.IntWalk
namespace Go.Proofs.Yteciicojnodibaa
set_option linter.unusedVariables false
set_option linter.unusedSimpArgs false
open Go.RowKit

structure RV where
  pub : Value
  sec : Value
  out : Value
  kept : Value
  cyc : Value
  told : Value
@[reducible] def RV.cells (v : RV) : Array Value := #[v.pub, v.sec, v.out, v.kept, v.cyc, v.told]
structure IsR (w : World) (col : Nat → Nat) (c g : Nat) (v : RV) (s : PS) : Prop where
  blk : Blk w g 34 v.cells
  mine : col g = c
  pub : Rd EU w (fun b => col b = 0) v.pub s.pub
  sec : Rd EU w (fun b => col b = 0) v.sec s.sec
  out : Ow EU 5 w (fun b => col b = c) v.out s.out
  kept : Ow EB 23 w (fun b => col b = c) v.kept s.kept
  cyc : Ow EI 3 w (fun b => col b = c) v.cyc (s.log.map (·.1))
  told : Ow EU 5 w (fun b => col b = c) v.told (s.log.map (·.2))
  apart : ∀ b, v.out.ownBlock = some b → v.told.ownBlock ≠ some b
theorem IsR.keep {w w' : World} {col col' : Nat → Nat} {c g : Nat} {v : RV} {s : PS} (h : IsR w col c g v s) (hk : ∀ b, b < w.heap.size → col b = 0 ∨ col b = c → w'.heap[b]? = w.heap[b]? ∧ col' b = col b) (hs : w.heap.size ≤ w'.heap.size) : IsR w' col' c g v s :=
  ⟨((hk g h.blk.lt (.inr h.mine)).1).trans h.blk, ((hk g h.blk.lt (.inr h.mine)).2).trans h.mine,
    h.pub.keep (fun b hb hR => ⟨(hk b hb (.inl hR)).1, (hk b hb (.inl hR)).2.trans hR⟩) hs, h.sec.keep (fun b hb hR => ⟨(hk b hb (.inl hR)).1, (hk b hb (.inl hR)).2.trans hR⟩) hs,
    h.out.keep (fun b hb _ hS => ⟨(hk b hb (.inr hS)).1, (hk b hb (.inr hS)).2.trans hS⟩) hs, h.kept.keep (fun b hb _ hS => ⟨(hk b hb (.inr hS)).1, (hk b hb (.inr hS)).2.trans hS⟩) hs,
    h.cyc.keep (fun b hb _ hS => ⟨(hk b hb (.inr hS)).1, (hk b hb (.inr hS)).2.trans hS⟩) hs, h.told.keep (fun b hb _ hS => ⟨(hk b hb (.inr hS)).1, (hk b hb (.inr hS)).2.trans hS⟩) hs, h.apart⟩
theorem IsR.call {w w' : World} {col : Nat → Nat} {c g : Nat} {v : RV} {s : PS} (h : IsR w col c g v s) (hb : Below w.heap.size w w') : IsR w' col c g v s := h.keep (fun b hlt _ => ⟨hb.block b hlt, rfl⟩) hb.size
theorem IsR.new {w w' : World} {col : Nat → Nat} {c g : Nat} {v : RV} {s : PS} (h : IsR w col c g v s) (hb : Below w.heap.size w w') (d : Nat) : IsR w' (paint col w.heap.size d) c g v s := h.keep (fun b hlt _ => ⟨hb.block b hlt, paint_old hlt⟩) hb.size
theorem IsR.other {w w' : World} {col : Nat → Nat} {c d g : Nat} {v : RV} {s : PS} (h : IsR w col c g v s) (hb : Chg (fun b => col b = d) w w') (h0 : d ≠ 0) (hc : c ≠ d) (e : Nat) : IsR w' (paint col w.heap.size e) c g v s :=
  h.keep (fun b hlt hcol => ⟨hb.block b hlt (fun hd => by rcases hcol with h | h <;> omega), paint_old hlt⟩) hb.size
/-- One cell of g has turned, and new blocks. -/
theorem IsR.one {w w' : World} {col : Nat → Nat} {c g : Nat} {v v' : RV} {s s' : PS} (h : IsR w col c g v s) (h0 : c ≠ 0) (d : Nat) (hC : Chg (fun b => b = g) w w') (hb : Blk w' g 34 v'.cells)
    (hv : v'.out = v.out ∧ v'.kept = v.kept ∧ v'.cyc = v.cyc ∧ v'.told = v.told) (hs : s'.out = s.out ∧ s'.kept = s.kept ∧ s'.log = s.log)
    (hp : Rd EU w' (fun b => paint col w.heap.size d b = 0) v'.pub s'.pub) (hq : Rd EU w' (fun b => paint col w.heap.size d b = 0) v'.sec s'.sec) : IsR w' (paint col w.heap.size d) c g v' s' := by
  obtain ⟨a1, a2, a3, a4⟩ := hv
  obtain ⟨b1, b2, b3⟩ := hs
  refine ⟨hb, (paint_old h.blk.lt).trans h.mine, hp, hq, ?_, ?_, ?_, ?_, ?_⟩
  · rw [a1, b1]
    exact h.out.keep (fun b hb hv hS => ⟨hC.block b hb (by rintro rfl; exact own_ne h.out.1 h.blk (by decide) hv), (paint_old hb).trans hS⟩) hC.size
  · rw [a2, b2]
    exact h.kept.keep (fun b hb hv hS => ⟨hC.block b hb (by rintro rfl; exact own_ne h.kept.1 h.blk (by decide) hv), (paint_old hb).trans hS⟩) hC.size
  · rw [a3, b3]
    exact h.cyc.keep (fun b hb hv hS => ⟨hC.block b hb (by rintro rfl; exact own_ne h.cyc.1 h.blk (by decide) hv), (paint_old hb).trans hS⟩) hC.size
  · rw [a4, b3]
    exact h.told.keep (fun b hb hv hS => ⟨hC.block b hb (by rintro rfl; exact own_ne h.told.1 h.blk (by decide) hv), (paint_old hb).trans hS⟩) hC.size
  · rw [a1, a4]
    exact h.apart

theorem rr_bad (w : World) (g : Nat) (r : Int) (h : r < 0 ∨ 4 < r) :
    Calls Try.prog 22 #[.pointer (some ⟨g, 0, none⟩), .int .i64 r] w fun e w' => e = .returned (.tuple #[.agg #[.int .u8 0, .int .u8 0], .int .i64 10]) ∧ Below w.heap.size w w' := by
  have e0 : (r == 0) = false := beq_eq_false_iff_ne.2 (by omega)
  have e1 : (r == 1) = false := beq_eq_false_iff_ne.2 (by omega)
  have e2 : (r == 2) = false := beq_eq_false_iff_ne.2 (by omega)
  have e3 : (r == 3) = false := beq_eq_false_iff_ne.2 (by omega)
  have e4 : (r == 4) = false := beq_eq_false_iff_ne.2 (by omega)
  clear h
  go_enter Try.func22, Try.ntmps22
  go_wp2_with fail
  go_returns
  exact ⟨rfl, by repeat' (first | exact Below.refl _ _ | refine Q.alloc ?_ _)⟩

/-- What Read leaves behind. -/
def RPost (w : World) (col : Nat → Nat) (c g : Nat) (s' : PS) (x t er : Int) (e : Ending) (w' : World) : Prop := e = .returned (.tuple #[.agg #[.int .u8 x, .int .u8 t], .int .i64 er]) ∧ ∃ v', IsR w' (paint col w.heap.size c) c g v' s' ∧ Chg (fun b => col b = c) w w'
theorem rr_fin0 {w : World} {col : Nat → Nat} {c g : Nat} {v : RV} {s : PS} (hp : IsR w col c g v s) (h0 : c ≠ 0) (V : Value) (o1 o2 : Obj) (l : List Int) (hr : Rd EU w (fun b => col b = 0) V l) :
    ∃ v', IsR (((w.setCell ⟨g, 0, none⟩ V).alloc o1).alloc o2) (paint col w.heap.size c) c g v' { s with pub := l } ∧ Chg (fun b => col b = c) w (((w.setCell ⟨g, 0, none⟩ V).alloc o1).alloc o2) := by
  rw [hp.blk.setCell]
  have hC : Chg (· = g) w (((w.setRow g (v.cells.setIfInBounds 0 V)).alloc o1).alloc o2) := ((Chg.setRow _ _ _).alloc _).alloc _
  refine ⟨{ v with pub := V }, hp.one h0 c hC (((hp.blk.setRow _).alloc _).alloc _) ⟨rfl, rfl, rfl, rfl⟩ ⟨rfl, rfl, rfl⟩ (hr.keep (fun b hb hR => ⟨hC.block b hb (by rintro rfl; exact h0 (hp.mine.symm.trans hR)), (paint_old hb).trans hR⟩) hC.size) (hp.sec.keep (fun b hb hR => ⟨hC.block b hb (by rintro rfl; exact h0 (hp.mine.symm.trans hR)), (paint_old hb).trans hR⟩) hC.size), hC.mono (by rintro b rfl; exact hp.mine)⟩
set_option maxHeartbeats 1600000 in
theorem rr_none0 (w : World) (col : Nat → Nat) (c g : Nat) (v : RV) (s : PS) (hp : IsR w col c g v s) (hn : s.pub = []) :
    Calls Try.prog 22 #[.pointer (some ⟨g, 0, none⟩), .int .i64 0] w fun e w' => e = .returned (.tuple #[.agg #[.int .u8 0, .int .u8 0], .int .i64 0]) ∧ Below w.heap.size w w' := by
  have c0 : w.cell? ⟨g, 0, none⟩ = some v.pub := hp.blk.cell 0
  have hlt := hp.blk.lt
  have hR := hp.pub
  rw [hn] at hR
  obtain ⟨a, cap, hv, -⟩ := hR
  rw [hv] at c0
  clear hp hn hv
  go_enter Try.func22, Try.ntmps22
  go_wp2_with fail
  go_returns
  exact ⟨rfl, by repeat' (first | exact Below.refl _ _ | refine Q.alloc ?_ _)⟩
set_option maxHeartbeats 1600000 in
theorem rr_some0 (w : World) (col : Nat → Nat) (c g : Nat) (v : RV) (s : PS) (x : Int) (l : List Int) (hp : IsR w col c g v s) (hs : s.ok) (h0 : c ≠ 0) (hn : s.pub = x :: l) :
    Calls Try.prog 22 #[.pointer (some ⟨g, 0, none⟩), .int .i64 0] w (RPost w col c g { s with pub := l } x 0 0) := by
  have c0 : w.cell? ⟨g, 0, none⟩ = some v.pub := hp.blk.cell 0
  have f0 := hp.blk.frozen 0
  have hlt := hp.blk.lt
  have hR := hp.pub
  have hlen := hs.pub
  rw [hn] at hR hlen
  have hR' := hR
  obtain ⟨a, cap, hv, -⟩ := hR
  rw [hv] at c0 hR'
  obtain ⟨b, off, rfl, hm, hcap, hlb, hcolb, hx, hrest⟩ := hR'.cut
  have d0 := hx 0 _ rfl
  rw [Nat.add_zero] at d0
  have hcap' : (((x :: l).length : Nat) : Int) ≤ (cap : Int) := by omega
  have HP := Lib.hid hp
  have HRest := Lib.hid hrest
  have hln : (1 : Int) ≤ (((x :: l).length : Nat) : Int) := by simp only [List.length_cons]; omega
  have hl0 : (0 : Int) < (((x :: l).length : Nat) : Int) := by simp only [List.length_cons]; omega
  have HL := Lib.hid (show (x :: l).length - 1 = l.length by simp)
  have hne : b ≠ g := by
    rintro rfl
    exact h0 (hp.mine.symm.trans hcolb)
  have H0 := Lib.hid h0
  generalize (x :: l).length = m at *
  clear hp hx hrest hR' hm hcap hs hn hlen hv hcolb h0
  by_cases hc1 : cap = 1
  · subst hc1
    simp only [if_true] at HRest
    go_enter Try.func22, Try.ntmps22
    go_wp2_with fail
    go_returns
    unfold RPost
    exact ⟨rfl, rr_fin0 HP.out H0.out _ _ _ l (by rw [HL.out]; exact HRest.out)⟩
  · simp only [if_neg hc1] at HRest
    go_enter Try.func22, Try.ntmps22
    go_wp2_with fail
    go_returns
    unfold RPost
    exact ⟨rfl, rr_fin0 HP.out H0.out _ _ _ l (by rw [HL.out]; exact HRest.out)⟩
theorem rr_fin1 {w : World} {col : Nat → Nat} {c g : Nat} {v : RV} {s : PS} (hp : IsR w col c g v s) (h0 : c ≠ 0) (V : Value) (o1 o2 : Obj) (l : List Int) (hr : Rd EU w (fun b => col b = 0) V l) :
    ∃ v', IsR (((w.setCell ⟨g, 1, none⟩ V).alloc o1).alloc o2) (paint col w.heap.size c) c g v' { s with sec := l } ∧ Chg (fun b => col b = c) w (((w.setCell ⟨g, 1, none⟩ V).alloc o1).alloc o2) := by
  rw [hp.blk.setCell]
  have hC : Chg (· = g) w (((w.setRow g (v.cells.setIfInBounds 1 V)).alloc o1).alloc o2) := ((Chg.setRow _ _ _).alloc _).alloc _
  refine ⟨{ v with sec := V }, hp.one h0 c hC (((hp.blk.setRow _).alloc _).alloc _) ⟨rfl, rfl, rfl, rfl⟩ ⟨rfl, rfl, rfl⟩ (hp.pub.keep (fun b hb hR => ⟨hC.block b hb (by rintro rfl; exact h0 (hp.mine.symm.trans hR)), (paint_old hb).trans hR⟩) hC.size) (hr.keep (fun b hb hR => ⟨hC.block b hb (by rintro rfl; exact h0 (hp.mine.symm.trans hR)), (paint_old hb).trans hR⟩) hC.size), hC.mono (by rintro b rfl; exact hp.mine)⟩
set_option maxHeartbeats 1600000 in
theorem rr_none1 (w : World) (col : Nat → Nat) (c g : Nat) (v : RV) (s : PS) (hp : IsR w col c g v s) (hn : s.sec = []) :
    Calls Try.prog 22 #[.pointer (some ⟨g, 0, none⟩), .int .i64 1] w fun e w' => e = .returned (.tuple #[.agg #[.int .u8 0, .int .u8 255], .int .i64 0]) ∧ Below w.heap.size w w' := by
  have c0 : w.cell? ⟨g, 1, none⟩ = some v.sec := hp.blk.cell 1
  have hlt := hp.blk.lt
  have hR := hp.sec
  rw [hn] at hR
  obtain ⟨a, cap, hv, -⟩ := hR
  rw [hv] at c0
  clear hp hn hv
  go_enter Try.func22, Try.ntmps22
  go_wp2_with fail
  go_returns
  exact ⟨rfl, by repeat' (first | exact Below.refl _ _ | refine Q.alloc ?_ _)⟩
set_option maxHeartbeats 1600000 in
theorem rr_some1 (w : World) (col : Nat → Nat) (c g : Nat) (v : RV) (s : PS) (x : Int) (l : List Int) (hp : IsR w col c g v s) (hs : s.ok) (h0 : c ≠ 0) (hn : s.sec = x :: l) :
    Calls Try.prog 22 #[.pointer (some ⟨g, 0, none⟩), .int .i64 1] w (RPost w col c g { s with sec := l } x 255 0) := by
  have c0 : w.cell? ⟨g, 1, none⟩ = some v.sec := hp.blk.cell 1
  have f0 := hp.blk.frozen 1
  have hlt := hp.blk.lt
  have hR := hp.sec
  have hlen := hs.sec
  rw [hn] at hR hlen
  have hR' := hR
  obtain ⟨a, cap, hv, -⟩ := hR
  rw [hv] at c0 hR'
  obtain ⟨b, off, rfl, hm, hcap, hlb, hcolb, hx, hrest⟩ := hR'.cut
  have d0 := hx 0 _ rfl
  rw [Nat.add_zero] at d0
  have hcap' : (((x :: l).length : Nat) : Int) ≤ (cap : Int) := by omega
  have HP := Lib.hid hp
  have HRest := Lib.hid hrest
  have hln : (1 : Int) ≤ (((x :: l).length : Nat) : Int) := by simp only [List.length_cons]; omega
  have hl0 : (0 : Int) < (((x :: l).length : Nat) : Int) := by simp only [List.length_cons]; omega
  have HL := Lib.hid (show (x :: l).length - 1 = l.length by simp)
  have hne : b ≠ g := by
    rintro rfl
    exact h0 (hp.mine.symm.trans hcolb)
  have H0 := Lib.hid h0
  generalize (x :: l).length = m at *
  clear hp hx hrest hR' hm hcap hs hn hlen hv hcolb h0
  by_cases hc1 : cap = 1
  · subst hc1
    simp only [if_true] at HRest
    go_enter Try.func22, Try.ntmps22
    go_wp2_with fail
    go_returns
    unfold RPost
    exact ⟨rfl, rr_fin1 HP.out H0.out _ _ _ l (by rw [HL.out]; exact HRest.out)⟩
  · simp only [if_neg hc1] at HRest
    go_enter Try.func22, Try.ntmps22
    go_wp2_with fail
    go_returns
    unfold RPost
    exact ⟨rfl, rr_fin1 HP.out H0.out _ _ _ l (by rw [HL.out]; exact HRest.out)⟩
set_option maxHeartbeats 1600000 in
theorem rr_last2 (w : World) (col : Nat → Nat) (c g : Nat) (v : RV) (s : PS) (hp : IsR w col c g v s) (hs : s.ok) :
    Calls Try.prog 22 #[.pointer (some ⟨g, 0, none⟩), .int .i64 2] w fun e w' => e = .returned (.tuple #[.agg #[.int .u8 (lastU s.out), .int .u8 0], .int .i64 0]) ∧ Below w.heap.size w w' := by
  have c0 : w.cell? ⟨g, 2, none⟩ = some v.out := hp.blk.cell 2
  have hlt := hp.blk.lt
  have hR := hp.out.rd
  have hlen := hs.out
  clear hp hs
  generalize s.out = l at *
  obtain ⟨a, cap, hv, hc, hn, hR⟩ := hR
  rw [hv] at c0
  clear hv
  by_cases hl0 : l.length = 0
  · obtain rfl := List.eq_nil_of_length_eq_zero hl0
    go_enter Try.func22, Try.ntmps22
    go_wp2_with fail
    go_returns
    exact ⟨rfl, by repeat' (first | exact Below.refl _ _ | refine Q.alloc ?_ _)⟩
  · obtain ⟨b, off, rfl, hb, -, hcell⟩ := hR (by omega)
    obtain ⟨x, hx⟩ : ∃ x, l[l.length - 1]? = some x := ⟨l[l.length - 1], List.getElem?_eq_getElem (by omega)⟩
    have hlast : lastU l = x := by
      unfold lastU
      rw [List.getLastD_eq_getLast?, List.getLast?_eq_getElem?, hx]
      rfl
    have d0 := hcell (l.length - 1) x hx 0 _ rfl
    rw [hlast]
    obtain ⟨m, hm⟩ : ∃ m, l.length = m + 1 := ⟨l.length - 1, by omega⟩
    have e0 : (((m + 1 : Nat) : Int) - 1) = (m : Int) := by omega
    have hm2 : m < 70000 := by omega
    have e1 : IntKind.i64.wrap (m : Int) = (m : Int) := IntWalk.i64_in _ ⟨by omega, by omega⟩
    have e2 : (m : Int) < (m : Int) + 1 := by omega
    rw [hm, show m + 1 - 1 = m by omega] at d0
    simp only [Nat.mul_one, Nat.add_zero] at d0
    rw [hm] at c0
    clear hlast hcell hx hl0 hlen hm hn hc
    go_enter Try.func22, Try.ntmps22
    go_wp2_with fail
    go_region_with (fail)
    all_goals
      go_wp2
      go_returns
      exact ⟨rfl, by repeat' (first | exact Below.refl _ _ | refine Q.alloc ?_ _ | refine Q.drew ?_)⟩
set_option maxHeartbeats 1600000 in
theorem rr_last3 (w : World) (col : Nat → Nat) (c g : Nat) (v : RV) (s : PS) (hp : IsR w col c g v s) (hs : s.ok) :
    Calls Try.prog 22 #[.pointer (some ⟨g, 0, none⟩), .int .i64 3] w fun e w' => e = .returned (.tuple #[.agg #[.int .u8 (lastB s.kept).1, .int .u8 (lastB s.kept).2], .int .i64 0]) ∧ Below w.heap.size w w' := by
  have c0 : w.cell? ⟨g, 3, none⟩ = some v.kept := hp.blk.cell 3
  have hlt := hp.blk.lt
  have hR := hp.kept.rd
  have hlen := hs.kept
  clear hp hs
  generalize s.kept = l at *
  obtain ⟨a, cap, hv, hc, hn, hR⟩ := hR
  rw [hv] at c0
  clear hv
  by_cases hl0 : l.length = 0
  · obtain rfl := List.eq_nil_of_length_eq_zero hl0
    go_enter Try.func22, Try.ntmps22
    go_wp2_with fail
    go_returns
    exact ⟨rfl, by repeat' (first | exact Below.refl _ _ | refine Q.alloc ?_ _)⟩
  · obtain ⟨b, off, rfl, hb, -, hcell⟩ := hR (by omega)
    obtain ⟨x, hx⟩ : ∃ x, l[l.length - 1]? = some x := ⟨l[l.length - 1], List.getElem?_eq_getElem (by omega)⟩
    have hlast : lastB l = x := by
      unfold lastB
      rw [List.getLastD_eq_getLast?, List.getLast?_eq_getElem?, hx]
      rfl
    have d0 := hcell (l.length - 1) x hx 0 _ rfl
    have d1 := hcell (l.length - 1) x hx 1 _ rfl
    rw [hlast]
    obtain ⟨m, hm⟩ : ∃ m, l.length = m + 1 := ⟨l.length - 1, by omega⟩
    have e0 : (((m + 1 : Nat) : Int) - 1) = (m : Int) := by omega
    have hm2 : m < 70000 := by omega
    have e1 : IntKind.i64.wrap (m : Int) = (m : Int) := IntWalk.i64_in _ ⟨by omega, by omega⟩
    have e2 : (m : Int) < (m : Int) + 1 := by omega
    rw [hm, show m + 1 - 1 = m by omega] at d0
    simp only [Nat.mul_one, Nat.add_zero] at d0
    rw [hm, show m + 1 - 1 = m by omega] at d1
    rw [hm] at c0
    clear hlast hcell hx hl0 hlen hm hn hc
    go_enter Try.func22, Try.ntmps22
    go_wp2_with fail
    go_region_with (fail)
    all_goals
      go_wp2
      go_returns
      exact ⟨rfl, by repeat' (first | exact Below.refl _ _ | refine Q.alloc ?_ _ | refine Q.drew ?_)⟩
set_option maxHeartbeats 1600000 in
theorem rr_last4 (w : World) (col : Nat → Nat) (c g : Nat) (v : RV) (s : PS) (hp : IsR w col c g v s) (hs : s.ok) :
    Calls Try.prog 22 #[.pointer (some ⟨g, 0, none⟩), .int .i64 4] w fun e w' => e = .returned (.tuple #[.agg #[.int .u8 (lastU (s.log.map (·.2))), .int .u8 0], .int .i64 0]) ∧ Below w.heap.size w w' := by
  have c0 : w.cell? ⟨g, 5, none⟩ = some v.told := hp.blk.cell 5
  have hlt := hp.blk.lt
  have hR := hp.told.rd
  have hlen := (show (s.log.map (·.2)).length ≤ 4096 by rw [List.length_map]; exact hs.log)
  clear hp hs
  generalize (s.log.map (·.2)) = l at *
  obtain ⟨a, cap, hv, hc, hn, hR⟩ := hR
  rw [hv] at c0
  clear hv
  by_cases hl0 : l.length = 0
  · obtain rfl := List.eq_nil_of_length_eq_zero hl0
    go_enter Try.func22, Try.ntmps22
    go_wp2_with fail
    go_returns
    exact ⟨rfl, by repeat' (first | exact Below.refl _ _ | refine Q.alloc ?_ _)⟩
  · obtain ⟨b, off, rfl, hb, -, hcell⟩ := hR (by omega)
    obtain ⟨x, hx⟩ : ∃ x, l[l.length - 1]? = some x := ⟨l[l.length - 1], List.getElem?_eq_getElem (by omega)⟩
    have hlast : lastU l = x := by
      unfold lastU
      rw [List.getLastD_eq_getLast?, List.getLast?_eq_getElem?, hx]
      rfl
    have d0 := hcell (l.length - 1) x hx 0 _ rfl
    rw [hlast]
    obtain ⟨m, hm⟩ : ∃ m, l.length = m + 1 := ⟨l.length - 1, by omega⟩
    have e0 : (((m + 1 : Nat) : Int) - 1) = (m : Int) := by omega
    have hm2 : m < 70000 := by omega
    have e1 : IntKind.i64.wrap (m : Int) = (m : Int) := IntWalk.i64_in _ ⟨by omega, by omega⟩
    have e2 : (m : Int) < (m : Int) + 1 := by omega
    rw [hm, show m + 1 - 1 = m by omega] at d0
    simp only [Nat.mul_one, Nat.add_zero] at d0
    rw [hm] at c0
    clear hlast hcell hx hl0 hlen hm hn hc
    go_enter Try.func22, Try.ntmps22
    go_wp2_with fail
    go_region_with (fail)
    all_goals
      go_wp2
      go_returns
      exact ⟨rfl, by repeat' (first | exact Below.refl _ _ | refine Q.alloc ?_ _ | refine Q.drew ?_)⟩
theorem last_snd (l : List (Int × Int)) : lastU (l.map (·.2)) = (lastE l).2 := by
  unfold lastU lastE
  rw [List.getLastD_eq_getLast?, List.getLastD_eq_getLast?, List.getLast?_map]
  cases l.getLast? <;> rfl
theorem rread_calls (w : World) (col : Nat → Nat) (c g : Nat) (v : RV) (s : PS) (r : Int) (hp : IsR w col c g v s) (hs : s.ok) (h0 : c ≠ 0) :
    Calls Try.prog 22 #[.pointer (some ⟨g, 0, none⟩), .int .i64 r] w (RPost w col c g (s.took r) (s.rd r).1 (s.rd r).2 (rErr r)) := by
  by_cases hbad : r < 0 ∨ 4 < r
  · have e1 : s.rd r = (0, 0) := by unfold PS.rd; rw [if_neg (by omega), if_neg (by omega), if_neg (by omega), if_neg (by omega), if_neg (by omega)]
    have e2 : s.took r = s := by unfold PS.took; rw [if_neg (by omega), if_neg (by omega)]
    rw [e1, e2, show rErr r = 10 from if_pos hbad]
    exact (rr_bad w g r hbad).mono fun e w' ⟨he, hb⟩ => ⟨he, v, hp.new hb c, .of hb⟩
  rw [show rErr r = 0 from if_neg hbad]
  rcases (by omega : r = 0 ∨ r = 1 ∨ r = 2 ∨ r = 3 ∨ r = 4) with rfl | rfl | rfl | rfl | rfl
  · cases hn : s.pub with
    | nil =>
      have e1 : s.rd 0 = (0, 0) := by unfold PS.rd; rw [if_pos rfl, hn]; rfl
      have e2 : s.took 0 = s := by obtain ⟨pub, sec, out, kept, log⟩ := s; cases hn; rfl
      rw [e1, e2]
      exact (rr_none0 w col c g v s hp hn).mono fun e w' ⟨he, hb⟩ => ⟨he, v, hp.new hb c, .of hb⟩
    | cons x l =>
      have e1 : s.rd 0 = (x, 0) := by unfold PS.rd; rw [if_pos rfl, hn]; rfl
      have e2 : s.took 0 = { s with pub := l } := by unfold PS.took; rw [if_pos rfl, hn]; rfl
      rw [e1, e2]
      exact rr_some0 w col c g v s x l hp hs h0 hn
  · cases hn : s.sec with
    | nil =>
      have e1 : s.rd 1 = (0, 255) := by unfold PS.rd; rw [if_neg (by decide), if_pos rfl, hn]; rfl
      have e2 : s.took 1 = s := by obtain ⟨pub, sec, out, kept, log⟩ := s; cases hn; rfl
      rw [e1, e2]
      exact (rr_none1 w col c g v s hp hn).mono fun e w' ⟨he, hb⟩ => ⟨he, v, hp.new hb c, .of hb⟩
    | cons x l =>
      have e1 : s.rd 1 = (x, 255) := by unfold PS.rd; rw [if_neg (by decide), if_pos rfl, hn]; rfl
      have e2 : s.took 1 = { s with sec := l } := by unfold PS.took; rw [if_neg (by decide), if_pos rfl, hn]; rfl
      rw [e1, e2]
      exact rr_some1 w col c g v s x l hp hs h0 hn
  · exact (rr_last2 w col c g v s hp hs).mono fun e w' ⟨he, hb⟩ => ⟨he, v, hp.new hb c, .of hb⟩
  · exact (rr_last3 w col c g v s hp hs).mono fun e w' ⟨he, hb⟩ => ⟨he, v, hp.new hb c, .of hb⟩
  · refine (rr_last4 w col c g v s hp hs).mono fun e w' ⟨he, hb⟩ => ⟨?_, v, hp.new hb c, .of hb⟩
    rw [he, last_snd]
    rfl
end Go.Proofs.Yteciicojnodibaa
