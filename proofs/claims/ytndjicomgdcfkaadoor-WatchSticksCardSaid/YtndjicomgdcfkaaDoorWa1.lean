/- A watch as it lies in memory: what goes on, what is told in. (printed by gen/wa1.py) -/
import Derived.Test.YtndjicomgdcfkaaDoorWa0
import Derived.ScopeJumps
namespace Go.Proofs.YtndjicomgdcfkaaDoor
set_option linter.unusedVariables false
set_option linter.unusedSimpArgs false
open Go.RowKit
attribute [local go_sem ↓] Go.wp_at_zero Go.wp_at_succ

/-- A scope whose label is jumped to from above alone. -/
theorem wp_scope_fwd {P : Program} {a : Act} {w : World} {Q : Exit → Act → World → Prop} {c rest : Code} (l : Nat) (hf : findLabel c l = some rest)
    (first : c.wp P (Exit.jump l (fun a' w' => rest.wp P (Exit.noGoto Q) a' w') Q) a w) : (Code.scope c).wp P Q a w :=
  wp_scope_jumps l _ (fun _ _ => 0) hf first (fun a w h => Code.wp_mono (fun e a' w' hq => by
    cases e with
    | goto l' => exact hq.elim
    | normal => exact hq
    | exit id => exact hq
    | ret => exact hq
    | panic ch => exact hq
    | outgrown => exact hq) h)
theorem Exit.jump_ret' {l : Nat} {J : Act → World → Prop} {Q : Exit → Act → World → Prop} {a : Act} {w : World} : Exit.jump l J Q .ret a w = Q .ret a w := rfl
theorem goes_yes (w : World) (g : Nat) (p : Value) (st ru cy ad bi la se : Int) (hB : Blk w g 68 #[p, .int .i64 st, .int .i64 ru, .int .i64 cy, .int .i64 ad, .int .u8 bi, .int .i64 la, .int .i64 se]) (h0 : st = 0) : Calls Tryd.prog 36 #[.pointer (some ⟨g, 0, none⟩)] w fun e w' => e = .returned (.int .i64 0) ∧ w = w' := by
  have c1 := hB.cell 1
  have hlt := hB.lt
  subst h0
  clear hB
  go_enter Tryd.func36, Tryd.ntmps36
  go_wp2
  go_ret
  exact ⟨rfl, rfl⟩
theorem goes_not (w : World) (g : Nat) (p : Value) (st ru cy ad bi la se : Int) (hB : Blk w g 68 #[p, .int .i64 st, .int .i64 ru, .int .i64 cy, .int .i64 ad, .int .u8 bi, .int .i64 la, .int .i64 se]) (h0 : ¬ st = 0) : Calls Tryd.prog 36 #[.pointer (some ⟨g, 0, none⟩)] w fun e w' => e = .returned (.int .i64 19) ∧ w = w' := by
  have c1 := hB.cell 1
  have hlt := hB.lt
  have e1 : (st == 0) = false := beq_eq_false_iff_ne.2 h0
  clear hB
  go_enter Tryd.func36, Tryd.ntmps36
  go_wp2
  go_ret
  exact ⟨rfl, rfl⟩
theorem goes_nil (w : World) : Calls Tryd.prog 36 #[.pointer none] w fun e w' => e = .returned (.int .i64 2) ∧ w = w' := by
  go_enter Tryd.func36, Tryd.ntmps36
  go_wp2
  go_ret
  exact ⟨rfl, rfl⟩
theorem in_nil (w : World) (r c a b : Int) : Calls Tryd.prog 33 #[.pointer none, .agg #[.int .i64 r, .int .i64 c, .int .i64 a, .int .u8 b]] w fun e w' => e = .returned (.int .i64 2) ∧ Below w.heap.size w w' := by
  go_enter Tryd.func33, Tryd.ntmps33
  go_wp2
  refine wp_scope_fwd 0 rfl ?_
  go_wp2_with (go_at_call 36; (with_reducible refine (goes_nil _).mono ?_); rintro e w1 ⟨rfl, rfl⟩)
  go_step3
  refine ⟨rfl, ?_⟩
  go_wp2
  (try simp only [Exit.noGoto_ret])
  go_ret
  exact ⟨rfl, (by repeat' (first | with_reducible exact Below.refl _ _ | with_reducible assumption | with_reducible refine Q.alloc ?_ _ | with_reducible refine Q.drew ?_ | with_reducible refine Q.drewN ?_ _ | with_reducible refine Q.call ?_ (by assumption)))⟩
set_option maxHeartbeats 1600000 in
theorem in_halt (w : World) (g : Nat) (p : Value) (st ru cy ad bi la se : Int) (hB : Blk w g 68 #[p, .int .i64 st, .int .i64 ru, .int .i64 cy, .int .i64 ad, .int .u8 bi, .int .i64 la, .int .i64 se]) (r c a b : Int) (h0 : ¬ st = 0) : Calls Tryd.prog 33 #[.pointer (some ⟨g, 0, none⟩), .agg #[.int .i64 r, .int .i64 c, .int .i64 a, .int .u8 b]] w fun e w' => e = .returned (.int .i64 19) ∧ Below w.heap.size w w' := by
  have GO := fun V (hV : Below w.heap.size w V) => goes_not V g p st ru cy ad bi la se (hB.call hV) h0
  have e19 : h0 = h0 := rfl
  clear hB e19
  go_enter Tryd.func33, Tryd.ntmps33
  go_wp2
  refine wp_scope_fwd 0 rfl ?_
  go_wp2_with (first
    | (go_at_call 36; (with_reducible refine (GO _ (by repeat' (first | with_reducible exact Below.refl _ _ | with_reducible assumption | with_reducible refine Q.alloc ?_ _ | with_reducible refine Q.drew ?_ | with_reducible refine Q.drewN ?_ _ | with_reducible refine Q.call ?_ (by assumption)))).mono ?_); rintro e w1 ⟨rfl, rfl⟩))
  go_step3
  refine ⟨rfl, ?_⟩
  go_wp2
  (try simp only [Exit.noGoto_ret])
  go_ret
  exact ⟨rfl, (by repeat' (first | with_reducible exact Below.refl _ _ | with_reducible assumption | with_reducible refine Q.alloc ?_ _ | with_reducible refine Q.drew ?_ | with_reducible refine Q.drewN ?_ _ | with_reducible refine Q.call ?_ (by assumption)))⟩
set_option maxHeartbeats 1600000 in
theorem in_bad (w : World) (g : Nat) (p : Value) (st ru cy ad bi la se : Int) (hB : Blk w g 68 #[p, .int .i64 st, .int .i64 ru, .int .i64 cy, .int .i64 ad, .int .u8 bi, .int .i64 la, .int .i64 se]) (r c a b : Int) (h0 : st = 0) (hF : alF r c a = false) : Calls Tryd.prog 33 #[.pointer (some ⟨g, 0, none⟩), .agg #[.int .i64 r, .int .i64 c, .int .i64 a, .int .u8 b]] w fun e w' => e = .returned (.int .i64 10) ∧ Below w.heap.size w w' := by
  have GO := fun V (hV : Below w.heap.size w V) => goes_yes V g p st ru cy ad bi la se (hB.call hV) h0
  have FI := fun V => afits_eq V r c a b false hF.symm
  clear hB hF h0
  go_enter Tryd.func33, Tryd.ntmps33
  go_wp2
  refine wp_scope_fwd 0 rfl ?_
  go_wp2_with (first
    | (go_at_call 36; (with_reducible refine (GO _ (by repeat' (first | with_reducible exact Below.refl _ _ | with_reducible assumption | with_reducible refine Q.alloc ?_ _ | with_reducible refine Q.drew ?_ | with_reducible refine Q.drewN ?_ _ | with_reducible refine Q.call ?_ (by assumption)))).mono ?_); rintro e w1 ⟨rfl, rfl⟩)
    | (go_at_call 38; (with_reducible refine (FI _).mono ?_); rintro e w2 ⟨rfl, hb2⟩; obtain ⟨hc2, hf2, hz2⟩ := bcell hb2; have z2 : w.heap.size < w2.heap.size := (by (try simp only [World.size_alloc] at hz2); omega)))
  go_step3
  refine ⟨rfl, ?_⟩
  go_wp2
  (try simp only [Exit.noGoto_ret])
  go_ret
  exact ⟨rfl, (by repeat' (first | with_reducible exact Below.refl _ _ | with_reducible assumption | with_reducible refine Q.alloc ?_ _ | with_reducible refine Q.drew ?_ | with_reducible refine Q.drewN ?_ _ | with_reducible refine Q.call ?_ (by assumption)))⟩
set_option maxHeartbeats 1600000 in
theorem in_old (w : World) (g : Nat) (p : Value) (st ru cy ad bi la se : Int) (hB : Blk w g 68 #[p, .int .i64 st, .int .i64 ru, .int .i64 cy, .int .i64 ad, .int .u8 bi, .int .i64 la, .int .i64 se]) (r c a b : Int) (h0 : st = 0) (hF : alF r c a = true) (hc : c < la) : Calls Tryd.prog 33 #[.pointer (some ⟨g, 0, none⟩), .agg #[.int .i64 r, .int .i64 c, .int .i64 a, .int .u8 b]] w fun e w' => e = .returned (.int .i64 21) ∧ Below w.heap.size w w' := by
  have GO := fun V (hV : Below w.heap.size w V) => goes_yes V g p st ru cy ad bi la se (hB.call hV) h0
  have FI := fun V => afits_eq V r c a b true hF.symm
  have hlt := hB.lt
  have HB := Lib.hid hB
  have d1 : decide (c < la) = true := decide_eq_true hc
  clear hB hF h0
  go_enter Tryd.func33, Tryd.ntmps33
  go_wp2
  refine wp_scope_fwd 0 rfl ?_
  go_wp2_with (first
    | (go_at_call 36; (with_reducible refine (GO _ (by repeat' (first | with_reducible exact Below.refl _ _ | with_reducible assumption | with_reducible refine Q.alloc ?_ _ | with_reducible refine Q.drew ?_ | with_reducible refine Q.drewN ?_ _ | with_reducible refine Q.call ?_ (by assumption)))).mono ?_); rintro e w1 ⟨rfl, rfl⟩)
    | (go_at_call 38; (with_reducible refine (FI _).mono ?_); rintro e w2 ⟨rfl, hb2⟩; obtain ⟨hc2, hf2, hz2⟩ := bcell hb2; have z2 : w.heap.size < w2.heap.size := (by (try simp only [World.size_alloc] at hz2); omega); have k1 : w2.cell? ⟨w.heap.size, 1, none⟩ = some (.int .i64 c) := (Blk.call (Blk.new w 47 #[.int .i64 r, .int .i64 c, .int .i64 a, .int .u8 b]) hb2).cell 1; have kl : w.heap.size < w2.heap.size := z2; have k6 : w2.cell? ⟨g, 6, none⟩ = some (.int .i64 la) := ((HB.out.alloc _).call hb2).cell 6; have f6 : w2.frozen? ⟨g, 6, none⟩ = false := ((HB.out.alloc _).call hb2).frozen 6; have kg : g < w2.heap.size := (by omega); clear hc2 hf2 hz2))
  go_quiet (fail)
  go_wp2_with fail
  go_step3
  refine ⟨rfl, ?_⟩
  go_wp2
  (try simp only [Exit.noGoto_ret])
  go_ret
  exact ⟨rfl, (by repeat' (first | with_reducible exact Below.refl _ _ | with_reducible assumption | with_reducible refine Q.alloc ?_ _ | with_reducible refine Q.drew ?_ | with_reducible refine Q.drewN ?_ _ | with_reducible refine Q.call ?_ (by assumption)))⟩
/-- One cell of a block has turned, beside new blocks. -/
theorem set_one {w V : World} {g j : Nat} {t : TypeId} {cs : Array Value} {v : Value} (hB : Blk w g t cs) (hV : Below w.heap.size w V) : Chg (fun b => b = g) w (V.setCell ⟨g, j, none⟩ v) ∧ Blk (V.setCell ⟨g, j, none⟩ v) g t (cs.setIfInBounds j v) := by
  have hb := hB.call hV
  rw [hb.setCell]
  exact ⟨(Chg.of hV).trans ⟨rfl, rfl, rfl, by simp, fun k _ hk => setRow_other _ g k _ hk⟩, hb.setRow _⟩
set_option maxHeartbeats 1600000 in
theorem in_ok (w : World) (g : Nat) (p : Value) (st ru cy ad bi la se : Int) (hB : Blk w g 68 #[p, .int .i64 st, .int .i64 ru, .int .i64 cy, .int .i64 ad, .int .u8 bi, .int .i64 la, .int .i64 se]) (r c a b : Int) (h0 : st = 0) (hF : alF r c a = true) (hc : ¬ c < la) : Calls Tryd.prog 33 #[.pointer (some ⟨g, 0, none⟩), .agg #[.int .i64 r, .int .i64 c, .int .i64 a, .int .u8 b]] w fun e w' => e = .returned (.int .i64 0) ∧ Chg (fun b => b = g) w w' ∧ Blk w' g 68 #[p, .int .i64 st, .int .i64 ru, .int .i64 cy, .int .i64 ad, .int .u8 bi, .int .i64 c, .int .i64 se] := by
  have GO := fun V (hV : Below w.heap.size w V) => goes_yes V g p st ru cy ad bi la se (hB.call hV) h0
  have FI := fun V => afits_eq V r c a b true hF.symm
  have hlt := hB.lt
  have HB := Lib.hid hB
  have d1 : decide (c < la) = false := decide_eq_false hc
  clear hB hF h0
  go_enter Tryd.func33, Tryd.ntmps33
  go_wp2
  refine wp_scope_fwd 0 rfl ?_
  go_wp2_with (first
    | (go_at_call 36; (with_reducible refine (GO _ (by repeat' (first | with_reducible exact Below.refl _ _ | with_reducible assumption | with_reducible refine Q.alloc ?_ _ | with_reducible refine Q.drew ?_ | with_reducible refine Q.drewN ?_ _ | with_reducible refine Q.call ?_ (by assumption)))).mono ?_); rintro e w1 ⟨rfl, rfl⟩)
    | (go_at_call 38; (with_reducible refine (FI _).mono ?_); rintro e w2 ⟨rfl, hb2⟩; obtain ⟨hc2, hf2, hz2⟩ := bcell hb2; have z2 : w.heap.size < w2.heap.size := (by (try simp only [World.size_alloc] at hz2); omega); have k1 : w2.cell? ⟨w.heap.size, 1, none⟩ = some (.int .i64 c) := (Blk.call (Blk.new w 47 #[.int .i64 r, .int .i64 c, .int .i64 a, .int .u8 b]) hb2).cell 1; have kl : w.heap.size < w2.heap.size := z2; have k6 : w2.cell? ⟨g, 6, none⟩ = some (.int .i64 la) := ((HB.out.alloc _).call hb2).cell 6; have f6 : w2.frozen? ⟨g, 6, none⟩ = false := ((HB.out.alloc _).call hb2).frozen 6; have kg : g < w2.heap.size := (by omega); clear hc2 hf2 hz2))
  go_quiet (fail)
  go_wp2_with fail
  go_step3
  go_wp2_with fail
  simp only [Exit.jump_ret']
  go_ret
  exact ⟨rfl, set_one HB.out (by repeat' (first | with_reducible exact Below.refl _ _ | with_reducible assumption | with_reducible refine Q.alloc ?_ _ | with_reducible refine Q.drew ?_ | with_reducible refine Q.drewN ?_ _ | with_reducible refine Q.call ?_ (by assumption)))⟩
end Go.Proofs.YtndjicomgdcfkaaDoor
