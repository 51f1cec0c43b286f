/- Ports: Read. (printed by gen/po5.py) -/
import Derived.Test.YteciicojnodibaaPo3
import Derived.Deep.RegionWith
namespace Go.Proofs.Yteciicojnodibaa
set_option linter.unusedVariables false
set_option linter.unusedSimpArgs false
open Go.RowKit
attribute [local go_sem ↓] Go.wp_at_zero Go.wp_at_succ

theorem field_ev (a b : Int) (w : World) : (Instr.field 58 (.agg #[.int .i64 a, .int .u8 b]) 1).run Try.prog w = .ok (.int .u8 b) w := by
  simp [Instr.field, asAgg, run_underlying Try.underlying58, go_sem]
attribute [local go_sem] field_ev
theorem r_bad (w : World) (g : Nat) (r : Int) (h : r < 0 ∨ 4 < r) :
    Calls Try.prog 14 #[.pointer (some ⟨g, 0, none⟩), .int .i64 r] w fun e w' => e = .returned (.tuple #[.agg #[.int .u8 0, .int .u8 0], .int .i64 10]) ∧ Below w.heap.size w w' := by
  have e0 : (r == 0) = false := beq_eq_false_iff_ne.2 (by omega)
  have e1 : (r == 1) = false := beq_eq_false_iff_ne.2 (by omega)
  have e2 : (r == 2) = false := beq_eq_false_iff_ne.2 (by omega)
  have e3 : (r == 3) = false := beq_eq_false_iff_ne.2 (by omega)
  have e4 : (r == 4) = false := beq_eq_false_iff_ne.2 (by omega)
  clear h
  go_enter Try.func14, Try.ntmps14
  go_wp2_with fail
  go_returns
  exact ⟨rfl, by repeat' (first | exact Below.refl _ _ | refine Q.alloc ?_ _)⟩
set_option maxHeartbeats 1600000 in
theorem r_next0 (w : World) (col : Nat → Nat) (c g : Nat) (v : PV) (s : PS) (hp : IsP w col c g v s) (hs : s.ok) (h0 : c ≠ 0) :
    Calls Try.prog 14 #[.pointer (some ⟨g, 0, none⟩), .int .i64 0] w fun e w' => e = .returned (.tuple #[.agg #[.int .u8 (s.pub.headD 0), .int .u8 0], .int .i64 0]) ∧ ∃ v', IsP w' (paint col w.heap.size c) c g v' { s with pub := s.pub.tail } ∧ Chg (fun b => col b = c) w w' := by
  have C := fun V (hB : Below w.heap.size w V) => p_next_pub w V col c g v s hp hs h0 (c + 1) hB
  have HB0 : Below w.heap.size w ((w.alloc (.cells #[.int .u8 0, .int .u8 0] 23)).alloc (.cells #[.int .u8 0, .int .u8 0] 23)) := Q.alloc (Q.alloc (Below.refl _ _) _) _
  have kA : Blk ((w.alloc (.cells #[.int .u8 0, .int .u8 0] 23)).alloc (.cells #[.int .u8 0, .int .u8 0] 23)) w.heap.size 23 #[.int .u8 0, .int .u8 0] := (Blk.new _ _ _).alloc _
  have kB : Blk ((w.alloc (.cells #[.int .u8 0, .int .u8 0] 23)).alloc (.cells #[.int .u8 0, .int .u8 0] 23)) (w.heap.size + 1) 23 #[.int .u8 0, .int .u8 0] := Blk.new' (by simp)
  have hlt := hp.blk.lt
  have hmine := Lib.hid hp.mine
  generalize s.pub.headD 0 = x at C ⊢
  clear hp hs
  go_enter Try.func14, Try.ntmps14
  go_wp2_with fail
  (with_reducible refine (C _ HB0).mono ?_)
  rintro e w1 ⟨rfl, v1, hp1, hc1⟩
  have jA := kA.chg hc1 (by omega)
  have jB := kB.chg hc1 (by omega)
  have hB1 : Chg (fun b => col b = c) w w1 := (Below.to_chg HB0 hc1).mono (by rintro b rfl; exact hmine.out)
  have H1 := Lib.hid hp1
  have J1 := Lib.hid hB1
  have z0 := jA.cell 0
  have z1 := jA.cell 1
  have z2 := jA.frozen 0
  have z3 := jA.frozen 1
  have y0 := jB.cell 0
  have y1 := jB.cell 1
  have y2 := jB.frozen 0
  have y3 := jB.frozen 1
  clear hp1 hB1 hc1 C kA kB HB0
  go_wp2_with fail
  have E : ((w1.setCell ⟨w.heap.size + 1, 0, none⟩ (.int .u8 x)).setCell ⟨w.heap.size, 0, none⟩ (.int .u8 x)).setCell ⟨w.heap.size, 1, none⟩ (.int .u8 0) = (w1.setRow (w.heap.size + 1) #[.int .u8 x, .int .u8 0]).setRow w.heap.size #[.int .u8 x, .int .u8 0] := by
    rw [jB.setCell, (jA.other (k := w.heap.size + 1) (by omega) _).setCell, (jA.other (k := w.heap.size + 1) (by omega) _).setCell_setRow]
    rfl
  rw [E]
  have nA := (jA.other (k := w.heap.size + 1) (by omega) #[.int .u8 x, .int .u8 0]).setRow #[.int .u8 x, .int .u8 0]
  have n0 := nA.cell 0
  have n1 := nA.cell 1
  refine bodyPost_ret (v := .tuple #[.agg #[.int .u8 x, .int .u8 0], .int .i64 0]) (by simp [results, Try.results14, go_sem, n0, n1]) rfl ?_
  exact ⟨rfl, v1, H1.out.fin (fun b hb => (setRow_other _ _ b _ (by omega)).trans (setRow_other _ _ b _ (by omega))) (by simp), (J1.out.fresh (by omega) _).fresh (Nat.le_refl _) _⟩
set_option maxHeartbeats 1600000 in
theorem r_next1 (w : World) (col : Nat → Nat) (c g : Nat) (v : PV) (s : PS) (hp : IsP w col c g v s) (hs : s.ok) (h0 : c ≠ 0) :
    Calls Try.prog 14 #[.pointer (some ⟨g, 0, none⟩), .int .i64 1] w fun e w' => e = .returned (.tuple #[.agg #[.int .u8 (s.sec.headD 0), .int .u8 255], .int .i64 0]) ∧ ∃ v', IsP w' (paint col w.heap.size c) c g v' { s with sec := s.sec.tail } ∧ Chg (fun b => col b = c) w w' := by
  have C := fun V (hB : Below w.heap.size w V) => p_next_sec w V col c g v s hp hs h0 (c + 1) hB
  have HB0 : Below w.heap.size w ((w.alloc (.cells #[.int .u8 0, .int .u8 0] 23)).alloc (.cells #[.int .u8 0, .int .u8 0] 23)) := Q.alloc (Q.alloc (Below.refl _ _) _) _
  have kA : Blk ((w.alloc (.cells #[.int .u8 0, .int .u8 0] 23)).alloc (.cells #[.int .u8 0, .int .u8 0] 23)) w.heap.size 23 #[.int .u8 0, .int .u8 0] := (Blk.new _ _ _).alloc _
  have kB : Blk ((w.alloc (.cells #[.int .u8 0, .int .u8 0] 23)).alloc (.cells #[.int .u8 0, .int .u8 0] 23)) (w.heap.size + 1) 23 #[.int .u8 0, .int .u8 0] := Blk.new' (by simp)
  have hlt := hp.blk.lt
  have hmine := Lib.hid hp.mine
  generalize s.sec.headD 0 = x at C ⊢
  clear hp hs
  go_enter Try.func14, Try.ntmps14
  go_wp2_with fail
  (with_reducible refine (C _ HB0).mono ?_)
  rintro e w1 ⟨rfl, v1, hp1, hc1⟩
  have jA := kA.chg hc1 (by omega)
  have jB := kB.chg hc1 (by omega)
  have hB1 : Chg (fun b => col b = c) w w1 := (Below.to_chg HB0 hc1).mono (by rintro b rfl; exact hmine.out)
  have H1 := Lib.hid hp1
  have J1 := Lib.hid hB1
  have z0 := jA.cell 0
  have z1 := jA.cell 1
  have z2 := jA.frozen 0
  have z3 := jA.frozen 1
  have y0 := jB.cell 0
  have y1 := jB.cell 1
  have y2 := jB.frozen 0
  have y3 := jB.frozen 1
  clear hp1 hB1 hc1 C kA kB HB0
  go_wp2_with fail
  have E : (((w1.setCell ⟨w.heap.size + 1, 0, none⟩ (.int .u8 x)).setCell ⟨w.heap.size + 1, 1, none⟩ (.int .u8 255)).setCell ⟨w.heap.size, 0, none⟩ (.int .u8 x)).setCell ⟨w.heap.size, 1, none⟩ (.int .u8 255) = (w1.setRow (w.heap.size + 1) #[.int .u8 x, .int .u8 255]).setRow w.heap.size #[.int .u8 x, .int .u8 255] := by
    rw [jB.setCell, jB.setCell_setRow, (jA.other (k := w.heap.size + 1) (by omega) _).setCell, (jA.other (k := w.heap.size + 1) (by omega) _).setCell_setRow]
    rfl
  rw [E]
  have nA := (jA.other (k := w.heap.size + 1) (by omega) #[.int .u8 x, .int .u8 255]).setRow #[.int .u8 x, .int .u8 255]
  have n0 := nA.cell 0
  have n1 := nA.cell 1
  refine bodyPost_ret (v := .tuple #[.agg #[.int .u8 x, .int .u8 255], .int .i64 0]) (by simp [results, Try.results14, go_sem, n0, n1]) rfl ?_
  exact ⟨rfl, v1, H1.out.fin (fun b hb => (setRow_other _ _ b _ (by omega)).trans (setRow_other _ _ b _ (by omega))) (by simp), (J1.out.fresh (by omega) _).fresh (Nat.le_refl _) _⟩
set_option maxHeartbeats 1600000 in
theorem r_last2 (w : World) (col : Nat → Nat) (c g : Nat) (v : PV) (s : PS) (hp : IsP w col c g v s) (hs : s.ok) :
    Calls Try.prog 14 #[.pointer (some ⟨g, 0, none⟩), .int .i64 2] w fun e w' => e = .returned (.tuple #[.agg #[.int .u8 (lastU s.out), .int .u8 0], .int .i64 0]) ∧ Below w.heap.size w w' := by
  have C := fun V (hB : Below w.heap.size w V) => last_U v.out s.out _ V (by have := hs.out; omega) (hp.call hB).out.rd
  have c0 : w.cell? ⟨g, 2, none⟩ = some v.out := hp.blk.cell 2
  have HB0 : Below w.heap.size w ((w.alloc (.cells #[.int .u8 0, .int .u8 0] 23)).alloc (.cells #[.int .u8 0, .int .u8 0] 23)) := Q.alloc (Q.alloc (Below.refl _ _) _) _
  have kA : Blk ((w.alloc (.cells #[.int .u8 0, .int .u8 0] 23)).alloc (.cells #[.int .u8 0, .int .u8 0] 23)) w.heap.size 23 #[.int .u8 0, .int .u8 0] := (Blk.new _ _ _).alloc _
  have kB : Blk ((w.alloc (.cells #[.int .u8 0, .int .u8 0] 23)).alloc (.cells #[.int .u8 0, .int .u8 0] 23)) (w.heap.size + 1) 23 #[.int .u8 0, .int .u8 0] := Blk.new' (by simp)
  have hlt := hp.blk.lt
  obtain ⟨a9, c9, hv9⟩ := own_slice hp.out.1
  rw [hv9.1] at c0 C
  clear hp hs hv9
  generalize lastU s.out = x at C ⊢
  go_enter Try.func14, Try.ntmps14
  go_wp2_with fail
  (with_reducible refine (C _ HB0).mono ?_)
  rintro e w1 ⟨x', hx', rfl, hb1⟩
  obtain rfl := hx'.symm
  have jA := kA.call hb1
  have jB := kB.call hb1
  have H1 := Lib.hid (Q.call HB0 hb1)
  have z0 := jA.cell 0
  have z1 := jA.cell 1
  have z2 := jA.frozen 0
  have z3 := jA.frozen 1
  have y0 := jB.cell 0
  have y1 := jB.cell 1
  have y2 := jB.frozen 0
  have y3 := jB.frozen 1
  clear hb1 C kA kB HB0
  go_wp2_with fail
  have E : ((w1.setCell ⟨w.heap.size + 1, 0, none⟩ (.int .u8 x)).setCell ⟨w.heap.size, 0, none⟩ (.int .u8 x)).setCell ⟨w.heap.size, 1, none⟩ (.int .u8 0) = (w1.setRow (w.heap.size + 1) #[.int .u8 x, .int .u8 0]).setRow w.heap.size #[.int .u8 x, .int .u8 0] := by
    rw [jB.setCell, (jA.other (k := w.heap.size + 1) (by omega) _).setCell, (jA.other (k := w.heap.size + 1) (by omega) _).setCell_setRow]
    rfl
  rw [E]
  have nA := (jA.other (k := w.heap.size + 1) (by omega) #[.int .u8 x, .int .u8 0]).setRow #[.int .u8 x, .int .u8 0]
  have n0 := nA.cell 0
  have n1 := nA.cell 1
  refine bodyPost_ret (v := .tuple #[.agg #[.int .u8 x, .int .u8 0], .int .i64 0]) (by simp [results, Try.results14, go_sem, n0, n1]) rfl ?_
  exact ⟨rfl, below_setRow (below_setRow H1.out (by omega) _) (Nat.le_refl _) _⟩
set_option maxHeartbeats 1600000 in
theorem r_last3 (w : World) (col : Nat → Nat) (c g : Nat) (v : PV) (s : PS) (hp : IsP w col c g v s) (hs : s.ok) :
    Calls Try.prog 14 #[.pointer (some ⟨g, 0, none⟩), .int .i64 3] w fun e w' => e = .returned (.tuple #[.agg #[.int .u8 (lastB s.kept).1, .int .u8 (lastB s.kept).2], .int .i64 0]) ∧ Below w.heap.size w w' := by
  have C := fun V (hB : Below w.heap.size w V) => last_B v.kept s.kept _ V (by have := hs.kept; omega) (hp.call hB).kept.rd
  have c0 : w.cell? ⟨g, 3, none⟩ = some v.kept := hp.blk.cell 3
  have HB0 : Below w.heap.size w ((w.alloc (.cells #[.int .u8 0, .int .u8 0] 23)).alloc (.cells #[.int .u8 0, .int .u8 0] 23)) := Q.alloc (Q.alloc (Below.refl _ _) _) _
  have kA : Blk ((w.alloc (.cells #[.int .u8 0, .int .u8 0] 23)).alloc (.cells #[.int .u8 0, .int .u8 0] 23)) w.heap.size 23 #[.int .u8 0, .int .u8 0] := (Blk.new _ _ _).alloc _
  have kB : Blk ((w.alloc (.cells #[.int .u8 0, .int .u8 0] 23)).alloc (.cells #[.int .u8 0, .int .u8 0] 23)) (w.heap.size + 1) 23 #[.int .u8 0, .int .u8 0] := Blk.new' (by simp)
  have hlt := hp.blk.lt
  obtain ⟨a9, c9, hv9⟩ := own_slice hp.kept.1
  rw [hv9.1] at c0 C
  clear hp hs hv9
  generalize lastB s.kept = x at C ⊢
  go_enter Try.func14, Try.ntmps14
  go_wp2_with fail
  (with_reducible refine (C _ HB0).mono ?_)
  rintro e w1 ⟨x', hx', rfl, hb1⟩
  obtain rfl := hx'.symm
  have jA := kA.call hb1
  have jB := kB.call hb1
  have H1 := Lib.hid (Q.call HB0 hb1)
  have z0 := jA.cell 0
  have z1 := jA.cell 1
  have z2 := jA.frozen 0
  have z3 := jA.frozen 1
  have y0 := jB.cell 0
  have y1 := jB.cell 1
  have y2 := jB.frozen 0
  have y3 := jB.frozen 1
  clear hb1 C kA kB HB0
  go_wp2_with fail
  have E : (((w1.setCell ⟨w.heap.size + 1, 0, none⟩ (.int .u8 x.1)).setCell ⟨w.heap.size + 1, 1, none⟩ (.int .u8 x.2)).setCell ⟨w.heap.size, 0, none⟩ (.int .u8 x.1)).setCell ⟨w.heap.size, 1, none⟩ (.int .u8 x.2) = (w1.setRow (w.heap.size + 1) #[.int .u8 x.1, .int .u8 x.2]).setRow w.heap.size #[.int .u8 x.1, .int .u8 x.2] := by
    rw [jB.setCell, jB.setCell_setRow, (jA.other (k := w.heap.size + 1) (by omega) _).setCell, (jA.other (k := w.heap.size + 1) (by omega) _).setCell_setRow]
    rfl
  rw [E]
  have nA := (jA.other (k := w.heap.size + 1) (by omega) #[.int .u8 x.1, .int .u8 x.2]).setRow #[.int .u8 x.1, .int .u8 x.2]
  have n0 := nA.cell 0
  have n1 := nA.cell 1
  refine bodyPost_ret (v := .tuple #[.agg #[.int .u8 x.1, .int .u8 x.2], .int .i64 0]) (by simp [results, Try.results14, go_sem, n0, n1]) rfl ?_
  exact ⟨rfl, below_setRow (below_setRow H1.out (by omega) _) (Nat.le_refl _) _⟩
set_option maxHeartbeats 1600000 in
theorem r_last4 (w : World) (col : Nat → Nat) (c g : Nat) (v : PV) (s : PS) (hp : IsP w col c g v s) (hs : s.ok) :
    Calls Try.prog 14 #[.pointer (some ⟨g, 0, none⟩), .int .i64 4] w fun e w' => e = .returned (.tuple #[.agg #[.int .u8 (lastE s.log).2, .int .u8 0], .int .i64 0]) ∧ Below w.heap.size w w' := by
  have C := fun V (hB : Below w.heap.size w V) => last_E v.log s.log _ V (by have := hs.log; omega) (hp.call hB).log.rd
  have c0 : w.cell? ⟨g, 4, none⟩ = some v.log := hp.blk.cell 4
  have HB0 : Below w.heap.size w ((w.alloc (.cells #[.int .u8 0, .int .u8 0] 23)).alloc (.cells #[.int .u8 0, .int .u8 0] 23)) := Q.alloc (Q.alloc (Below.refl _ _) _) _
  have kA : Blk ((w.alloc (.cells #[.int .u8 0, .int .u8 0] 23)).alloc (.cells #[.int .u8 0, .int .u8 0] 23)) w.heap.size 23 #[.int .u8 0, .int .u8 0] := (Blk.new _ _ _).alloc _
  have kB : Blk ((w.alloc (.cells #[.int .u8 0, .int .u8 0] 23)).alloc (.cells #[.int .u8 0, .int .u8 0] 23)) (w.heap.size + 1) 23 #[.int .u8 0, .int .u8 0] := Blk.new' (by simp)
  have hlt := hp.blk.lt
  obtain ⟨a9, c9, hv9⟩ := own_slice hp.log.1
  rw [hv9.1] at c0 C
  clear hp hs hv9
  generalize lastE s.log = x at C ⊢
  go_enter Try.func14, Try.ntmps14
  go_wp2_with fail
  (with_reducible refine (C _ HB0).mono ?_)
  rintro e w1 ⟨x', hx', rfl, hb1⟩
  obtain rfl := hx'.symm
  have jA := kA.call hb1
  have jB := kB.call hb1
  have H1 := Lib.hid (Q.call HB0 hb1)
  have z0 := jA.cell 0
  have z1 := jA.cell 1
  have z2 := jA.frozen 0
  have z3 := jA.frozen 1
  have y0 := jB.cell 0
  have y1 := jB.cell 1
  have y2 := jB.frozen 0
  have y3 := jB.frozen 1
  clear hb1 C kA kB HB0
  go_wp2_with fail
  have E : ((w1.setCell ⟨w.heap.size + 1, 0, none⟩ (.int .u8 x.2)).setCell ⟨w.heap.size, 0, none⟩ (.int .u8 x.2)).setCell ⟨w.heap.size, 1, none⟩ (.int .u8 0) = (w1.setRow (w.heap.size + 1) #[.int .u8 x.2, .int .u8 0]).setRow w.heap.size #[.int .u8 x.2, .int .u8 0] := by
    rw [jB.setCell, (jA.other (k := w.heap.size + 1) (by omega) _).setCell, (jA.other (k := w.heap.size + 1) (by omega) _).setCell_setRow]
    rfl
  rw [E]
  have nA := (jA.other (k := w.heap.size + 1) (by omega) #[.int .u8 x.2, .int .u8 0]).setRow #[.int .u8 x.2, .int .u8 0]
  have n0 := nA.cell 0
  have n1 := nA.cell 1
  refine bodyPost_ret (v := .tuple #[.agg #[.int .u8 x.2, .int .u8 0], .int .i64 0]) (by simp [results, Try.results14, go_sem, n0, n1]) rfl ?_
  exact ⟨rfl, below_setRow (below_setRow H1.out (by omega) _) (Nat.le_refl _) _⟩
/-- What a register answers; what becomes of ports. -/
def PS.rd (s : PS) (r : Int) : Int × Int := if r = 0 then (s.pub.headD 0, 0) else if r = 1 then (s.sec.headD 0, 255) else if r = 2 then (lastU s.out, 0) else if r = 3 then lastB s.kept else if r = 4 then ((lastE s.log).2, 0) else (0, 0)
def rErr (r : Int) : Int := if r < 0 ∨ 4 < r then 10 else 0
def PS.took (s : PS) (r : Int) : PS := if r = 0 then { s with pub := s.pub.tail } else if r = 1 then { s with sec := s.sec.tail } else s
theorem pread_calls (w : World) (col : Nat → Nat) (c g : Nat) (v : PV) (s : PS) (r : Int) (hp : IsP w col c g v s) (hs : s.ok) (h0 : c ≠ 0) :
    Calls Try.prog 14 #[.pointer (some ⟨g, 0, none⟩), .int .i64 r] w fun e w' => e = .returned (.tuple #[.agg #[.int .u8 (s.rd r).1, .int .u8 (s.rd r).2], .int .i64 (rErr r)]) ∧ ∃ v', IsP w' (paint col w.heap.size c) c g v' (s.took r) ∧ Chg (fun b => col b = c) w w' := by
  by_cases hbad : r < 0 ∨ 4 < r
  · have e1 : s.rd r = (0, 0) := by unfold PS.rd; rw [if_neg (by omega), if_neg (by omega), if_neg (by omega), if_neg (by omega), if_neg (by omega)]
    have e2 : s.took r = s := by unfold PS.took; rw [if_neg (by omega), if_neg (by omega)]
    rw [e1, e2, show rErr r = 10 from if_pos hbad]
    exact (r_bad w g r hbad).mono fun e w' ⟨he, hb⟩ => ⟨he, v, hp.new hb c, .of hb⟩
  rw [show rErr r = 0 from if_neg hbad]
  rcases (by omega : r = 0 ∨ r = 1 ∨ r = 2 ∨ r = 3 ∨ r = 4) with rfl | rfl | rfl | rfl | rfl
  · exact r_next0 w col c g v s hp hs h0
  · exact r_next1 w col c g v s hp hs h0
  · exact (r_last2 w col c g v s hp hs).mono fun e w' ⟨he, hb⟩ => ⟨he, v, hp.new hb c, .of hb⟩
  · exact (r_last3 w col c g v s hp hs).mono fun e w' ⟨he, hb⟩ => ⟨he, v, hp.new hb c, .of hb⟩
  · exact (r_last4 w col c g v s hp hs).mono fun e w' ⟨he, hb⟩ => ⟨he, v, hp.new hb c, .of hb⟩
end Go.Proofs.Yteciicojnodibaa
