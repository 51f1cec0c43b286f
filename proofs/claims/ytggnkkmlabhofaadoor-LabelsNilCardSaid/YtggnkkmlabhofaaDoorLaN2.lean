/- The walk of LabelsNil. (printed by gen/lan2.py) -/
import Derived.Test.YtggnkkmlabhofaaDoorLaN
namespace Go.Proofs.YtggnkkmlabhofaaDoor
set_option linter.unusedVariables false
set_option linter.unusedSimpArgs false
open Go.RowKit Go.Shelf
attribute [local go_sem ↓] Go.wp_at_zero Go.wp_at_succ
attribute [local go_sem] Oper.semAt_some eql_seq_nil

theorem or_zero : bits .or .u8 0 0 = 0 := by
  simp [bits]
  rfl
theorem rd_nil (V : World) : Rd ES V (fun _ => True) (.slice none 0 0) [] := ⟨none, 0, rfl, Nat.le_refl _, fun _ => rfl, fun h => absurd h (by simp)⟩
set_option maxRecDepth 100000 in
set_option maxHeartbeats 3200000 in
theorem labelsNil_long (w : World) (R : Nat → Prop) (sa ma : Option Addr) (sc mc : Nat) (s m : List Sp) (dc tr x bv bt : Int) (hs : Rd ES w R (.slice sa s.length sc) s) (hm : Rd ES w R (.slice ma m.length mc) m) (hf : ¬ (s.length ≤ 80 ∧ m.length ≤ 80)) : Calls Tryd.prog 6 #[.agg #[.slice sa s.length sc, .slice ma m.length mc, .int .i64 dc, .int .i64 tr], .int .i64 x, .agg #[.int .u8 bv, .int .u8 bt]] w fun e w' => e = .returned (.bool true) ∧ Below w.heap.size w w' := by
  have FW := fun V => few_eq V sa ma s.length m.length sc mc dc tr false (decide_eq_false hf).symm
  clear hs hm
  go_enter Tryd.func6, Tryd.ntmps6
  go_wp2_with (go_at_call 24; (with_reducible refine (FW _).mono ?_); rintro e w1 ⟨rfl, hb1⟩; refine Hid.out ?_)
  refine Lib.hid ?_
  have RB : Blk w1 (w.heap.size + 2) 4 #[.bool false] := (Blk.new' (by simp)).call hb1
  have hB1 : Below w.heap.size w w1 := (by repeat' (first | with_reducible exact Below.refl _ _ | with_reducible assumption | with_reducible refine Q.alloc ?_ _ | with_reducible refine Q.drew ?_ | with_reducible refine Q.drewN ?_ _ | with_reducible refine Q.call ?_ (by assumption)))
  have hz1 : w.heap.size ≤ w1.heap.size := hB1.size
  go_wp2_with (go_at_call 26; (with_reducible refine (lawake_eq _).mono ?_); rintro e w2 ⟨rfl, hb2⟩; refine Hid.out ?_)
  refine Lib.hid ?_
  have RB2 := RB.call hb2
  have hB2 : Below w.heap.size w w2 := Q.call hB1 hb2
  have z0 := RB2.cell 0
  have z1 := RB2.frozen 0
  clear hb1 hb2 RB
  go_wp2_with fail
  have hc5 := World.cell?_setCell_same' w2 ⟨w.heap.size + 2, 0, none⟩ (.bool true) (by rw [z0]; rfl)
  refine bodyPost_ret (show _ = Result.ok (Value.bool true) _ by simp [results, Tryd.f6, go_sem, hc5]) rfl ?_
  exact ⟨rfl, hB2.setCell (p := ⟨w.heap.size + 2, 0, none⟩) (by simp only; omega) _⟩
set_option maxRecDepth 1000000 in
set_option maxHeartbeats 12800000 in
theorem labelsNil_few (w : World) (R : Nat → Prop) (sa ma : Option Addr) (sc mc : Nat) (s m : List Sp) (dc tr x bv bt : Int) (hs : Rd ES w R (.slice sa s.length sc) s) (hm : Rd ES w R (.slice ma m.length mc) m) (hf : s.length ≤ 80 ∧ m.length ≤ 80) : Calls Tryd.prog 6 #[.agg #[.slice sa s.length sc, .slice ma m.length mc, .int .i64 dc, .int .i64 tr], .int .i64 x, .agg #[.int .u8 bv, .int .u8 bt]] w fun e w' => e = .returned (.bool true) ∧ Below w.heap.size w w' := by
  have FW := fun V => few_eq V sa ma s.length m.length sc mc dc tr true (decide_eq_true hf).symm
  have HS := Lib.hid hs
  have HM := Lib.hid hm
  clear hs hm
  refine (callsIn_wide (n := 3)).1 ?_
  refine callsIn_of_wp_marks Tryd.func6 rfl trivial ?_
  simp only [Tryd.ntmps6, List.size_toArray, List.length_cons, List.length_nil, Nat.reduceAdd, Nat.reduceSub, Array.replicate_succ, Array.replicate_zero, List.push_toArray, List.append_toArray, List.nil_append, List.cons_append]
  refine wpIn_wide.2 ?_
  go_wp2_with (go_at_call 24; (with_reducible refine (FW _).mono ?_); rintro e w1 ⟨rfl, hb1⟩; refine Hid.out ?_)
  refine Lib.hid ?_
  have PB : Blk w1 w.heap.size 44 #[.slice sa s.length sc, .slice ma m.length mc, .int .i64 dc, .int .i64 tr] := (Blk.alloc (Blk.alloc (Blk.new w _ _) _) _).call hb1
  have XB : Blk w1 (w.heap.size + 1) 57 #[.int .u8 bv, .int .u8 bt] := (Blk.alloc (Blk.new' (by simp)) _).call hb1
  have RB : Blk w1 (w.heap.size + 2) 4 #[.bool false] := (Blk.new' (by simp)).call hb1
  have hB1 : Below w.heap.size w w1 := (by repeat' (first | with_reducible exact Below.refl _ _ | with_reducible assumption | with_reducible refine Q.alloc ?_ _ | with_reducible refine Q.drew ?_ | with_reducible refine Q.drewN ?_ _ | with_reducible refine Q.call ?_ (by assumption)))
  clear hb1 FW
  obtain ⟨hp, hhp⟩ : ∃ hp, hp = w.heap.size := ⟨_, rfl⟩
  obtain ⟨hx, hhx⟩ : ∃ hx, hx = w.heap.size + 1 := ⟨_, rfl⟩
  obtain ⟨hr, hhr⟩ : ∃ hr, hr = w.heap.size + 2 := ⟨_, rfl⟩
  rw [← hhp] at PB
  rw [← hhx] at XB
  rw [← hhr] at RB
  rw [← hhr, ← hhx]
  have hwp : w.heap.size ≤ hp := by omega
  have hwr : w.heap.size ≤ hr := by omega
  have hPE : (Value.pointer (some ⟨w.heap.size, 0, none⟩)) = Value.pointer (some ⟨hp, 0, none⟩) := by rw [hhp]
  rw [hPE]
  clear hhp hhx hhr hPE
  go_wp2_with (first
    | (go_at_call 34; (with_reducible refine (mnew_eq _).mono ?_); rintro e w2 ⟨rfl, hb2⟩)
    | (go_at_call 35; (with_reducible refine (all_nil _).mono ?_); rintro e w3 ⟨rfl, rfl⟩; refine Hid.out ?_))
  refine Lib.hid ?_
  obtain ⟨mm, hmm⟩ : ∃ mm, mm = w1.heap.size := ⟨_, rfl⟩
  obtain ⟨gb, hgb⟩ : ∃ gb, gb = w2.heap.size := ⟨_, rfl⟩
  obtain ⟨w3, hw3⟩ : ∃ w3, w3 = w2.alloc (.cells #[.pointer none] 49) := ⟨_, rfl⟩
  have b13 : Below w1.heap.size w1 w3 := by rw [hw3]; exact Q.alloc hb2 _
  have q3 : Blk w3 gb 49 #[.pointer none] := by rw [hw3]; exact Blk.new' hgb
  have hcb : w3.cell? ⟨gb, 0, none⟩ = some (.pointer none) := q3.cell 0
  have hgb3 := q3.lt
  have PB3 := PB.call b13
  have XB3 := XB.call b13
  have RB3 := RB.call b13
  have hB3 : Below w.heap.size w w3 := Q.call hB1 b13
  rw [← hw3, ← hgb, ← hmm]
  clear hw3 hgb hmm b13 hb2 q3 PB XB RB hB1
  go_wp2_with fail
  refine (wpIn_wide (n := 3)).1 ?_
  refine wpIn_rangeFunc_ownF rfl (by decide) (gf := 61) (lb := #[.pointer (some ⟨gb, 0, none⟩)]) rfl trivial (enters_of Tryd.func61 (by kernel_rfl) rfl)
    (all_stops_nil 2 gb w3.heap.size w3 hgb3 hcb) belowK_t (belowK_b (Nat.le_refl _)) (Below.refl _ _) (fun _ => rfl)
    (fun _ W => Below w3.heap.size w3 W) (fun _ _ _ => False) (ownFrom_below (Nat.le_refl _) (Nat.le_refl _)) (fun _ _ _ _ _ hs _ _ => hs) (Below.refl _ _) ?a1 ?assign ?body ?done ?stop
  case assign =>
    intro l x W K hK
    gi_wp2
    exact hK
  case body =>
    intro l pre x W _ hl
    exact absurd hl (Nat.not_lt_zero _)
  case stop =>
    rintro D c pre W _ _ h _
    exact h.elim
  case done =>
    rintro D ys W hD _ hb4 hKD
    have PB4 := PB3.call hb4
    have XB4 := XB3.call hb4
    have RB4 := RB3.call hb4
    have hB4 : Below w.heap.size w W := Q.call hB3 hb4
    have hD' : w.heap.size ≤ D := Nat.le_trans hB3.size hD
    have POL := fun y : BW W => policy_nil y.val
    have SAM := fun y : BW W => same_true y.val (fun _ => True) (fun _ => True) (.slice none 0 0) (.slice none 0 0) (.slice none 0 0) (.slice none 0 0) [] [] [] [] 0 0 (rd_nil _) (rd_nil _) (rd_nil _) (rd_nil _) (by decide) (by decide) (by decide) (by decide) rfl rfl
    have CSE : ∀ y : BW W, Calls Tryd.prog 33 #[.pointer none, .int .i64 x] y.val fun e w' => e = .returned (.int .u8 0) ∧ w' = y.val := fun y => (secret_nil y.val x).mono fun e w' h => ⟨h.1, h.2.symm⟩
    have CSI : ∀ y : BW W, Calls Tryd.prog 38 #[.pointer none, .int .i64 x] y.val fun e w' => e = .returned (.int .u8 0) ∧ w' = y.val := fun y => (sink_nil y.val x).mono fun e w' h => ⟨h.1, h.2.symm⟩
    have CLE := fun y : BW W => leaks_nil y.val x bv bt
    have CLA : ∀ y : BW W, Calls Tryd.prog 40 #[.pointer none, .pointer (some ⟨mm, 0, none⟩)] y.val fun e w' => e = .returned (.int .i64 2) ∧ w' = y.val := fun y => (lay_nil1 y.val _).mono fun e w' h => ⟨h.1, h.2.symm⟩
    have CLO : ∀ y : BW W, Calls Tryd.prog 30 #[.pointer none, .pointer (some ⟨mm, 0, none⟩), .pointer (some ⟨mm, 0, none⟩)] y.val fun e w' => e = .returned (.bool false) ∧ w' = y.val := fun y => (low_nil1 y.val _ _).mono fun e w' h => ⟨h.1, h.2.symm⟩
    have L0 : ∀ y : BW W, y.val.cell? ⟨hx, 0, none⟩ = some (.int .u8 bv) := fun y => (XB4.call y.has).cell 0
    have L1 : ∀ y : BW W, y.val.cell? ⟨hx, 1, none⟩ = some (.int .u8 bt) := fun y => (XB4.call y.has).cell 1
    have OR0 := or_zero
    have hK1 := Lib.hid hKD
    clear PB3 XB3 RB3 hB3 hD hb4 hcb hgb3 hKD
    go_wp2_with fail
    refine wp_region_below (by kernel_rfl) (by kernel_rfl) ?_
    repeat (go_big_quiet_step ((first
      | (go_at_call 37; exact calls_bw (POL _))
      | (go_at_call 36; exact calls_bw (SAM _))
      | (go_at_call 33; exact calls_bw' (CSE _))
      | (go_at_call 38; exact calls_bw' (CSI _))
      | (go_at_call 39; exact calls_bw (CLE _))
      | (go_at_call 40; exact calls_bw' (CLA _))
      | (go_at_call 30; exact calls_bw' (CLO _)))))
    refine wpQuiet_nil ?_
    first | (intro w9 hw9; obtain ⟨y1, rfl⟩ := hw9) | intro y1
    obtain ⟨w5, hw5⟩ : ∃ w5, w5 = y1.val := ⟨_, rfl⟩
    have hb5 : Below W.heap.size W w5 := by rw [hw5]; exact y1.has
    rw [← hw5]
    have PB5 := PB4.call hb5
    have RB5 := RB4.call hb5
    have hB5 := Q.call hB4 hb5
    have hK5 := Lib.hid (heap_call9 hK1.out hb5)
    clear hw5 POL SAM CSE CSI CLE CLA CLO L0 L1 hb5 PB4 RB4 hB4 XB4 hK1
    have p0 : w5.cell? ⟨hp, 0, none⟩ = some (.slice sa s.length sc) := PB5.cell 0
    have p1 : w5.cell? ⟨hp, 1, none⟩ = some (.slice ma m.length mc) := PB5.cell 1
    have p2 : w5.cell? ⟨hp, 2, none⟩ = some (.int .i64 dc) := PB5.cell 2
    have p3 : w5.cell? ⟨hp, 3, none⟩ = some (.int .i64 tr) := PB5.cell 3
    have HRB := Lib.hid RB5
    have HB5 := Lib.hid hB5
    have FIN : ∀ w6 : World, Below w5.heap.size w5 w6 → (Blk w6 hr 4 #[.bool false] ∧ w6.heap[D]? = some (.deferred (some [])) ∧ Below w.heap.size w w6) := fun w6 h => ⟨HRB.out.call h, heap_call9 hK5.out h, Q.call HB5.out h⟩
    have HFIN := Lib.hid FIN
    by_cases hC : chk s m dc tr = 0
    · have NW := new_ok w5 R _ _ s m dc tr (HS.out.below hB5) (HM.out.below hB5) (by omega) (by omega) hC
      clear PB5 RB5 hB5 FIN
      go_wp2_with (first
        | (go_at_call 27; (with_reducible refine NW.mono ?_); rintro e w6 ⟨gt, v1, v2, rfl, hgt, hN, hT⟩; have hb6 : Below w5.heap.size w5 w6 := hN.bel; clear hN hT)
        | (go_at_call 40; (with_reducible refine (lay_nil2 _ _).mono ?_); rintro e w7 ⟨rfl, rfl⟩)
        | (go_at_call 30; (with_reducible refine (low_nil2 _ _ _).mono ?_); rintro e w7 ⟨rfl, rfl⟩)
        | (go_at_call 30; (with_reducible refine (low_nil3 _ _ _).mono ?_); rintro e w7 ⟨rfl, rfl⟩)
        | (go_at_call 26; (with_reducible refine (lawake_eq _).mono ?_); rintro e w8 ⟨rfl, hb8⟩; refine Hid.out ?_))
      refine Lib.hid ?_
      obtain ⟨r6, hK6, hB6⟩ := HFIN.out w8 (Q.call hb6 hb8)
      have z0 := r6.cell 0
      have z1 := r6.frozen 0
      go_wp2_with fail
      have hK' := (KeepsOthers.setCell w8 ⟨hr, 0, none⟩ (.bool true)).same D _ hK6 rfl
      refine ⟨by simp, .inl ⟨_, _, rfl, run_takeDeferred hK', ?_⟩⟩
      have hc5 := cell_kept (World.cell?_setCell_same' w8 ⟨hr, 0, none⟩ (.bool true) (by rw [z0]; rfl)) (grownBy_putObj' _ D (.deferred none)) (fun r e => by cases e; exact ⟨_, hK', rfl⟩)
      refine ⟨.bool true, ?_, rfl, (hB6.setCell (p := ⟨hr, 0, none⟩) hwr _).trans (belowK_b (w := w) (Nat.le_refl _) _ D _ _ hD' hK' rfl rfl)⟩
      simp [results, Tryd.f6, go_sem, hc5]
    · have NW := new_bad w5 R _ _ s m dc tr (HS.out.below hB5) (HM.out.below hB5) (by omega) (by omega) _ rfl hC
      obtain ⟨C, hC'⟩ : ∃ C, C = chk s m dc tr := ⟨_, rfl⟩
      rw [← hC'] at NW hC
      have hcb : (C == 0) = false := by simp [hC]
      clear PB5 RB5 hB5 FIN hC'
      go_wp2_with (first
        | (go_at_call 27; (with_reducible refine NW.mono ?_); rintro e w6 ⟨rfl, hb6⟩)
        | (go_at_call 26; (with_reducible refine (lawake_eq _).mono ?_); rintro e w8 ⟨rfl, hb8⟩; refine Hid.out ?_))
      refine Lib.hid ?_
      obtain ⟨r6, hK6, hB6⟩ := HFIN.out w8 (Q.call hb6 hb8)
      have z0 := r6.cell 0
      have z1 := r6.frozen 0
      go_wp2_with fail
      have hK' := (KeepsOthers.setCell w8 ⟨hr, 0, none⟩ (.bool true)).same D _ hK6 rfl
      refine ⟨by simp, .inl ⟨_, _, rfl, run_takeDeferred hK', ?_⟩⟩
      have hc5 := cell_kept (World.cell?_setCell_same' w8 ⟨hr, 0, none⟩ (.bool true) (by rw [z0]; rfl)) (grownBy_putObj' _ D (.deferred none)) (fun r e => by cases e; exact ⟨_, hK', rfl⟩)
      refine ⟨.bool true, ?_, rfl, (hB6.setCell (p := ⟨hr, 0, none⟩) hwr _).trans (belowK_b (w := w) (Nat.le_refl _) _ D _ _ hD' hK' rfl rfl)⟩
      simp [results, Tryd.f6, go_sem, hc5]
theorem labelsNil_all (w : World) (R : Nat → Prop) (sa ma : Option Addr) (sc mc : Nat) (s m : List Sp) (dc tr x bv bt : Int) (hs : Rd ES w R (.slice sa s.length sc) s) (hm : Rd ES w R (.slice ma m.length mc) m) : Calls Tryd.prog 6 #[.agg #[.slice sa s.length sc, .slice ma m.length mc, .int .i64 dc, .int .i64 tr], .int .i64 x, .agg #[.int .u8 bv, .int .u8 bt]] w fun e w' => e = .returned (.bool true) ∧ Below w.heap.size w w' := by
  by_cases hf : s.length ≤ 80 ∧ m.length ≤ 80
  · exact labelsNil_few w R sa ma sc mc s m dc tr x bv bt hs hm hf
  · exact labelsNil_long w R sa ma sc mc s m dc tr x bv bt hs hm hf
end Go.Proofs.YtggnkkmlabhofaaDoor
