/- Policies: one more span taken. (printed by gen/la2.py) -/
import Derived.Test.YtggnkkmlabhofaaDoorLa1

namespace Go.Proofs.YtggnkkmlabhofaaDoor
set_option linter.unusedVariables false
set_option linter.unusedSimpArgs false
open Go.RowKit Go.Sort Go.Shelf Go.Lib
attribute [local go_sem ↓] Go.wp_at_zero Go.wp_at_succ

def addE (l1 l2 : List Sp) (x : Sp) : Int := if l1.length + l2.length = 64 then 18 else if l1.any (meetB x) then 16 else if l2.any (meetB x) then 15 else 0
/-- What was taken: its two rows, of one's own, apart. -/
structure Tk (w : World) (B g : Nat) (o1 o2 : Value) (l1 l2 : List Sp) : Prop where
  blk : Blk w g 99 #[o1, o2]
  own1 : w.ownsRow B 91 3 o1 l1.length (ES.row l1)
  own2 : w.ownsRow B 91 3 o2 l2.length (ES.row l2)
  apart : ∀ b, o1.ownBlock = some b → o2.ownBlock ≠ some b
theorem own_below {w w' : World} {B T n m : Nat} {v : Value} {xs : List Value} (h : w.ownsRow B T n v m xs) (hb : Below w.heap.size w w') : w'.ownsRow B T n v m xs := own_keep h (fun b _ hlt => hb.block b hlt) hb.size
theorem Tk.call {w w' : World} {B g : Nat} {o1 o2 : Value} {l1 l2 : List Sp} (h : Tk w B g o1 o2 l1 l2) (hb : Below w.heap.size w w') : Tk w' B g o1 o2 l1 l2 :=
  ⟨h.blk.call hb, own_below h.own1 hb, own_below h.own2 hb, h.apart⟩
theorem own_rd {w : World} {B T : Nat} {v : Value} {l : List Sp} (h : w.ownsRow B T 3 v l.length (ES.row l)) : Rd ES w (fun _ => True) v l := Ow.rd (T := T) ⟨own_lower h (Nat.zero_le _), fun _ _ => trivial⟩
theorem quiet_load_row {P : Program} {o : Oper} {a : Act} {C : World → Prop} {K : Act → Prop} (ty : TypeId) (x : Operand) (ho : o.op = .load ty x) (g : Nat) (hx : a.eval x = .pointer (some ⟨g, 0, none⟩)) (t : TypeId) (cs : Array Value) (fr : Nat × Nat) (d : TypeDesc)
    (hC : ∀ w, C w → w.heap[g]? = some (.cells cs t fr)) (hu : P.underlying ty = some d) (hd : (match d with | .struct _ | .array _ _ => true | _ => false) = true) (hi : (P.info? ty).map (·.size) = some cs.size)
    (hk : K (a.put o.dst (.agg cs))) : o.quiet P a C K :=
  ⟨.agg cs, fun w hw => by
    unfold Oper.quietAt execOp
    simp only [ho, hx, Instr.loadAt, Instr.sureAddr, Sem.run_bind, Sem.run_pure, Result.andThen_ok, run_loadVar_row w g t ty cs fr d (hC w hw) hu hd hi]
    exact ⟨rfl, rfl⟩, hk⟩
set_option maxHeartbeats 1600000 in
set_option maxRecDepth 100000 in
theorem add_full (w : World) (B g : Nat) (o1 o2 : Value) (l1 l2 : List Sp) (x : Sp) (hK : Tk w B g o1 o2 l1 l2) (hl : l1.length + l2.length = 64) :
    Calls Tryd.prog 53 #[.pointer (some ⟨g, 0, none⟩), .agg #[.int .i64 x.f, .int .i64 x.t, .int .u8 x.b]] w fun e w' => e = .returned (.int .i64 18) ∧ Below w.heap.size w w' := by
  have hnI : ((l1.length : Int) + (l2.length : Int) == 64) = true := by simp; omega
  have hl1 : l1.length + l2.length ≤ 64 := by omega
  obtain ⟨a1, cap1, ho1, hc1⟩ := own_slice hK.own1
  obtain ⟨a2, cap2, ho2, hc2⟩ := own_slice hK.own2
  obtain ⟨W, hW⟩ : ∃ W, W = w.alloc (.cells #[.int .i64 x.f, .int .i64 x.t, .int .u8 x.b] 91) := ⟨_, rfl⟩
  have bW : Below w.heap.size w W := by rw [hW]; exact Q.alloc (Below.refl _ _) _
  have HX := Lib.hid (show Blk W w.heap.size 91 #[.int .i64 x.f, .int .i64 x.t, .int .u8 x.b] from by rw [hW]; exact Blk.new _ _ _)
  have HK := Lib.hid (hK.call bW)
  obtain ⟨hx, hhx⟩ : ∃ hx, hx = w.heap.size := ⟨_, rfl⟩
  have HBW := Lib.hid bW
  rw [← hhx] at HX
  have hWs : W.heap.size = hx + 1 := by rw [hW, hhx]; simp
  have CM := fun (V : World) (v : Value) (l : List Sp) (h : Rd ES V (fun _ => True) v l) (hl : l.length ≤ 64) => containsM_eq V (fun _ => True) v l x.f x.t x.b h (by omega)
  have HO1 := Lib.hid ho1
  have HO2 := Lib.hid ho2
  subst ho1
  subst ho2
  clear hK bW
  go_enter Tryd.func53, Tryd.ntmps53
  go_wp2_with fail
  rw [← hhx, ← hW]
  clear hW hhx
  clear CM hl
  have GB := HK.out.blk
  have La := fun y : BW W => (y.has.cell (p := ⟨g, 0, none⟩) GB.lt).trans (GB.cell 0)
  have Lb := fun y : BW W => (y.has.cell (p := ⟨g, 1, none⟩) GB.lt).trans (GB.cell 1)
  have Lx0 : ∀ y : BW W, y.val.cell? ⟨hx, 0, none⟩ = some (.int .i64 x.f) := fun y => (y.has.cell (p := ⟨hx, 0, none⟩) HX.out.lt).trans (HX.out.cell 0)
  have Lx1 : ∀ y : BW W, y.val.cell? ⟨hx, 1, none⟩ = some (.int .i64 x.t) := fun y => (y.has.cell (p := ⟨hx, 1, none⟩) HX.out.lt).trans (HX.out.cell 1)
  have Lx2 : ∀ y : BW W, y.val.cell? ⟨hx, 2, none⟩ = some (.int .u8 x.b) := fun y => (y.has.cell (p := ⟨hx, 2, none⟩) HX.out.lt).trans (HX.out.cell 2)
  clear GB
  refine wp_region_below (by kernel_rfl) (by kernel_rfl) ?_
  repeat (go_big_quiet_step (fail))
  refine wpQuiet_nil ?_
  intro w9 hw9
  obtain ⟨y1, rfl⟩ := hw9
  clear La Lb Lx0 Lx1 Lx2
  replace HK := Lib.hid (HK.out.call y1.has)
  replace HX := Lib.hid (HX.out.call y1.has)
  replace HBW := Lib.hid (Q.call HBW.out y1.has)
  go_wp2_with fail
  go_ret
  exact ⟨rfl, HBW.out⟩
set_option maxHeartbeats 1600000 in
set_option maxRecDepth 100000 in
theorem add_there (w : World) (B g : Nat) (o1 o2 : Value) (l1 l2 : List Sp) (x : Sp) (hK : Tk w B g o1 o2 l1 l2) (hl : l1.length + l2.length < 64) (hany1 : l1.any (meetB x) = true) :
    Calls Tryd.prog 53 #[.pointer (some ⟨g, 0, none⟩), .agg #[.int .i64 x.f, .int .i64 x.t, .int .u8 x.b]] w fun e w' => e = .returned (.int .i64 16) ∧ Below w.heap.size w w' := by
  have hnI : ((l1.length : Int) + (l2.length : Int) == 64) = false := by simp; omega
  obtain ⟨a1, cap1, ho1, hc1⟩ := own_slice hK.own1
  obtain ⟨a2, cap2, ho2, hc2⟩ := own_slice hK.own2
  obtain ⟨W, hW⟩ : ∃ W, W = w.alloc (.cells #[.int .i64 x.f, .int .i64 x.t, .int .u8 x.b] 91) := ⟨_, rfl⟩
  have bW : Below w.heap.size w W := by rw [hW]; exact Q.alloc (Below.refl _ _) _
  have HX := Lib.hid (show Blk W w.heap.size 91 #[.int .i64 x.f, .int .i64 x.t, .int .u8 x.b] from by rw [hW]; exact Blk.new _ _ _)
  have HK := Lib.hid (hK.call bW)
  obtain ⟨hx, hhx⟩ : ∃ hx, hx = w.heap.size := ⟨_, rfl⟩
  have HBW := Lib.hid bW
  rw [← hhx] at HX
  have hWs : W.heap.size = hx + 1 := by rw [hW, hhx]; simp
  have CM := fun (V : World) (v : Value) (l : List Sp) (h : Rd ES V (fun _ => True) v l) (hl : l.length ≤ 64) => containsM_eq V (fun _ => True) v l x.f x.t x.b h (by omega)
  have HO1 := Lib.hid ho1
  have HO2 := Lib.hid ho2
  subst ho1
  subst ho2
  clear hK bW
  go_enter Tryd.func53, Tryd.ntmps53
  go_wp2_with fail
  rw [← hhx, ← hW]
  clear hW hhx
  have GB := HK.out.blk
  have La := fun y : BW W => (y.has.cell (p := ⟨g, 0, none⟩) GB.lt).trans (GB.cell 0)
  have Lb := fun y : BW W => (y.has.cell (p := ⟨g, 1, none⟩) GB.lt).trans (GB.cell 1)
  have Lx0 : ∀ y : BW W, y.val.cell? ⟨hx, 0, none⟩ = some (.int .i64 x.f) := fun y => (y.has.cell (p := ⟨hx, 0, none⟩) HX.out.lt).trans (HX.out.cell 0)
  have Lx1 : ∀ y : BW W, y.val.cell? ⟨hx, 1, none⟩ = some (.int .i64 x.t) := fun y => (y.has.cell (p := ⟨hx, 1, none⟩) HX.out.lt).trans (HX.out.cell 1)
  have Lx2 : ∀ y : BW W, y.val.cell? ⟨hx, 2, none⟩ = some (.int .u8 x.b) := fun y => (y.has.cell (p := ⟨hx, 2, none⟩) HX.out.lt).trans (HX.out.cell 2)
  clear GB
  refine wp_region_below (by kernel_rfl) (by kernel_rfl) ?_
  repeat (go_big_quiet_step (fail))
  refine wpQuiet_nil ?_
  intro w9 hw9
  obtain ⟨y1, rfl⟩ := hw9
  clear La Lb Lx0 Lx1 Lx2
  replace HK := Lib.hid (HK.out.call y1.has)
  replace HX := Lib.hid (HX.out.call y1.has)
  replace HBW := Lib.hid (Q.call HBW.out y1.has)
  go_wp2_with fail
  have GB := HK.out.blk
  have La := fun y : BW y1.val => (y.has.cell (p := ⟨g, 0, none⟩) GB.lt).trans (GB.cell 0)
  have Lb := fun y : BW y1.val => (y.has.cell (p := ⟨g, 1, none⟩) GB.lt).trans (GB.cell 1)
  have Lx0 : ∀ y : BW y1.val, y.val.cell? ⟨hx, 0, none⟩ = some (.int .i64 x.f) := fun y => (y.has.cell (p := ⟨hx, 0, none⟩) HX.out.lt).trans (HX.out.cell 0)
  have Lx1 : ∀ y : BW y1.val, y.val.cell? ⟨hx, 1, none⟩ = some (.int .i64 x.t) := fun y => (y.has.cell (p := ⟨hx, 1, none⟩) HX.out.lt).trans (HX.out.cell 1)
  have Lx2 : ∀ y : BW y1.val, y.val.cell? ⟨hx, 2, none⟩ = some (.int .u8 x.b) := fun y => (y.has.cell (p := ⟨hx, 2, none⟩) HX.out.lt).trans (HX.out.cell 2)
  have CC1 := fun y : BW y1.val => CM y.val _ _ (own_rd (own_below HK.out.own1 y.has)) (by omega)
  simp only [hany1] at CC1
  clear GB
  refine wp_region_below (by kernel_rfl) (by kernel_rfl) ?_
  repeat (go_big_quiet_step ((go_at_call 73; exact calls_bw (CC1 _))))
  refine wpQuiet_nil ?_
  first | (intro w9 hw9; obtain ⟨y2, rfl⟩ := hw9) | intro y2
  clear La Lb Lx0 Lx1 Lx2
  replace HK := Lib.hid (HK.out.call y2.has)
  replace HX := Lib.hid (HX.out.call y2.has)
  replace HBW := Lib.hid (Q.call HBW.out y2.has)
  go_wp2_with fail
  go_ret
  exact ⟨rfl, HBW.out⟩
set_option maxHeartbeats 1600000 in
set_option maxRecDepth 100000 in
theorem add_kind (w : World) (B g : Nat) (o1 o2 : Value) (l1 l2 : List Sp) (x : Sp) (hK : Tk w B g o1 o2 l1 l2) (hl : l1.length + l2.length < 64) (hany1 : l1.any (meetB x) = false) (hany2 : l2.any (meetB x) = true) :
    Calls Tryd.prog 53 #[.pointer (some ⟨g, 0, none⟩), .agg #[.int .i64 x.f, .int .i64 x.t, .int .u8 x.b]] w fun e w' => e = .returned (.int .i64 15) ∧ Below w.heap.size w w' := by
  have hnI : ((l1.length : Int) + (l2.length : Int) == 64) = false := by simp; omega
  obtain ⟨a1, cap1, ho1, hc1⟩ := own_slice hK.own1
  obtain ⟨a2, cap2, ho2, hc2⟩ := own_slice hK.own2
  obtain ⟨W, hW⟩ : ∃ W, W = w.alloc (.cells #[.int .i64 x.f, .int .i64 x.t, .int .u8 x.b] 91) := ⟨_, rfl⟩
  have bW : Below w.heap.size w W := by rw [hW]; exact Q.alloc (Below.refl _ _) _
  have HX := Lib.hid (show Blk W w.heap.size 91 #[.int .i64 x.f, .int .i64 x.t, .int .u8 x.b] from by rw [hW]; exact Blk.new _ _ _)
  have HK := Lib.hid (hK.call bW)
  obtain ⟨hx, hhx⟩ : ∃ hx, hx = w.heap.size := ⟨_, rfl⟩
  have HBW := Lib.hid bW
  rw [← hhx] at HX
  have hWs : W.heap.size = hx + 1 := by rw [hW, hhx]; simp
  have CM := fun (V : World) (v : Value) (l : List Sp) (h : Rd ES V (fun _ => True) v l) (hl : l.length ≤ 64) => containsM_eq V (fun _ => True) v l x.f x.t x.b h (by omega)
  have HO1 := Lib.hid ho1
  have HO2 := Lib.hid ho2
  subst ho1
  subst ho2
  clear hK bW
  go_enter Tryd.func53, Tryd.ntmps53
  go_wp2_with fail
  rw [← hhx, ← hW]
  clear hW hhx
  have GB := HK.out.blk
  have La := fun y : BW W => (y.has.cell (p := ⟨g, 0, none⟩) GB.lt).trans (GB.cell 0)
  have Lb := fun y : BW W => (y.has.cell (p := ⟨g, 1, none⟩) GB.lt).trans (GB.cell 1)
  have Lx0 : ∀ y : BW W, y.val.cell? ⟨hx, 0, none⟩ = some (.int .i64 x.f) := fun y => (y.has.cell (p := ⟨hx, 0, none⟩) HX.out.lt).trans (HX.out.cell 0)
  have Lx1 : ∀ y : BW W, y.val.cell? ⟨hx, 1, none⟩ = some (.int .i64 x.t) := fun y => (y.has.cell (p := ⟨hx, 1, none⟩) HX.out.lt).trans (HX.out.cell 1)
  have Lx2 : ∀ y : BW W, y.val.cell? ⟨hx, 2, none⟩ = some (.int .u8 x.b) := fun y => (y.has.cell (p := ⟨hx, 2, none⟩) HX.out.lt).trans (HX.out.cell 2)
  clear GB
  refine wp_region_below (by kernel_rfl) (by kernel_rfl) ?_
  repeat (go_big_quiet_step (fail))
  refine wpQuiet_nil ?_
  intro w9 hw9
  obtain ⟨y1, rfl⟩ := hw9
  clear La Lb Lx0 Lx1 Lx2
  replace HK := Lib.hid (HK.out.call y1.has)
  replace HX := Lib.hid (HX.out.call y1.has)
  replace HBW := Lib.hid (Q.call HBW.out y1.has)
  go_wp2_with fail
  have GB := HK.out.blk
  have La := fun y : BW y1.val => (y.has.cell (p := ⟨g, 0, none⟩) GB.lt).trans (GB.cell 0)
  have Lb := fun y : BW y1.val => (y.has.cell (p := ⟨g, 1, none⟩) GB.lt).trans (GB.cell 1)
  have Lx0 : ∀ y : BW y1.val, y.val.cell? ⟨hx, 0, none⟩ = some (.int .i64 x.f) := fun y => (y.has.cell (p := ⟨hx, 0, none⟩) HX.out.lt).trans (HX.out.cell 0)
  have Lx1 : ∀ y : BW y1.val, y.val.cell? ⟨hx, 1, none⟩ = some (.int .i64 x.t) := fun y => (y.has.cell (p := ⟨hx, 1, none⟩) HX.out.lt).trans (HX.out.cell 1)
  have Lx2 : ∀ y : BW y1.val, y.val.cell? ⟨hx, 2, none⟩ = some (.int .u8 x.b) := fun y => (y.has.cell (p := ⟨hx, 2, none⟩) HX.out.lt).trans (HX.out.cell 2)
  have CC1 := fun y : BW y1.val => CM y.val _ _ (own_rd (own_below HK.out.own1 y.has)) (by omega)
  simp only [hany1] at CC1
  clear GB
  refine wp_region_below (by kernel_rfl) (by kernel_rfl) ?_
  repeat (go_big_quiet_step ((go_at_call 73; exact calls_bw (CC1 _))))
  refine wpQuiet_nil ?_
  first | (intro w9 hw9; obtain ⟨y2, rfl⟩ := hw9) | intro y2
  clear La Lb Lx0 Lx1 Lx2
  replace HK := Lib.hid (HK.out.call y2.has)
  replace HX := Lib.hid (HX.out.call y2.has)
  replace HBW := Lib.hid (Q.call HBW.out y2.has)
  go_wp2_with fail
  have GB := HK.out.blk
  have La := fun y : BW y2.val => (y.has.cell (p := ⟨g, 0, none⟩) GB.lt).trans (GB.cell 0)
  have Lb := fun y : BW y2.val => (y.has.cell (p := ⟨g, 1, none⟩) GB.lt).trans (GB.cell 1)
  have Lx0 : ∀ y : BW y2.val, y.val.cell? ⟨hx, 0, none⟩ = some (.int .i64 x.f) := fun y => (y.has.cell (p := ⟨hx, 0, none⟩) HX.out.lt).trans (HX.out.cell 0)
  have Lx1 : ∀ y : BW y2.val, y.val.cell? ⟨hx, 1, none⟩ = some (.int .i64 x.t) := fun y => (y.has.cell (p := ⟨hx, 1, none⟩) HX.out.lt).trans (HX.out.cell 1)
  have Lx2 : ∀ y : BW y2.val, y.val.cell? ⟨hx, 2, none⟩ = some (.int .u8 x.b) := fun y => (y.has.cell (p := ⟨hx, 2, none⟩) HX.out.lt).trans (HX.out.cell 2)
  have CC1 := fun y : BW y2.val => CM y.val _ _ (own_rd (own_below HK.out.own2 y.has)) (by omega)
  simp only [hany2] at CC1
  clear GB
  refine wp_region_below (by kernel_rfl) (by kernel_rfl) ?_
  repeat (go_big_quiet_step ((go_at_call 73; exact calls_bw (CC1 _))))
  refine wpQuiet_nil ?_
  first | (intro w9 hw9; obtain ⟨y3, rfl⟩ := hw9) | intro y3
  clear La Lb Lx0 Lx1 Lx2
  replace HK := Lib.hid (HK.out.call y3.has)
  replace HX := Lib.hid (HX.out.call y3.has)
  replace HBW := Lib.hid (Q.call HBW.out y3.has)
  go_wp2_with fail
  go_ret
  exact ⟨rfl, HBW.out⟩
/-- Cell j of block g has another row of its own; new blocks. -/
structure SetRow (w : World) (g : Nat) (T : TypeId) (cs : Array Value) (j : Nat) (B : Nat) (v : Value) (l : List Sp) (w' : World) (v' : Value) : Prop where
  blk : Blk w' g T (cs.setIfInBounds j v')
  own : w'.ownsRow B 91 3 v' l.length (ES.row l)
  chg : Chg (fun b => b = g ∨ v.ownBlock = some b) w w'
  new : ∀ b, v'.ownBlock = some b → v.ownBlock = some b ∨ w.heap.size ≤ b
theorem setRow_of {w w1 : World} {g j gg cap1 H B : Nat} {cs : Array Value} {T : TypeId} {v : Value} {l : List Sp} {m : Nat} {W : World} (hm : m = l.length) (hB : Below w.heap.size w W) (hH : W.heap.size = H) (hne : v.ownBlock ≠ some g) (hg : g < w.heap.size)
    (hown : w1.ownsRow B 91 3 (.slice (some ⟨gg, 0, none⟩) m cap1) m (ES.row l)) (hgrow : W.grownBy w1 v.ownBlock) (hat : v.ownBlock = some gg ∨ gg = H) (hg1 : Blk w1 g T cs) :
    SetRow w g T cs j B v l (w1.setCell ⟨g, j, none⟩ (.slice (some ⟨gg, 0, none⟩) m cap1)) (.slice (some ⟨gg, 0, none⟩) m cap1) := by
  subst hm
  have hsz := hB.size
  have hgg : gg ≠ g := by
    rcases hat with h | h
    · exact fun e => hne (by rw [h, e])
    · omega
  refine ⟨?_, ?_, ⟨hgrow.os.trans hB.os, hgrow.tape.trans hB.tape, hgrow.output.trans hB.output, ?_, ?_⟩, ?_⟩
  · rw [hg1.setCell]
    exact hg1.setRow _
  · exact own_keep hown (fun k hk _ => Below.heap_setCell _ _ _ k (by
      have : gg = k := by simpa [Value.ownBlock] using hk
      rw [← this]; exact hgg)) (by simp)
  · have := hgrow.size
    simp at this ⊢
    omega
  · intro k hk hS
    have h1 : k ≠ g := fun h => hS (.inl h)
    have h2 : some k ≠ v.ownBlock := fun h => hS (.inr h.symm)
    rw [Below.heap_setCell _ _ _ k h1, hgrow.block k (by omega) h2]
    exact hB.block k hk
  · intro k h
    have h : gg = k := by simpa [Value.ownBlock] using h
    subst h
    rcases hat with h | h
    · exact .inl h
    · exact .inr (by omega)
theorem Tk.grown {w w' : World} {B g : Nat} {o1 o2 v' : Value} {l1 l2 l : List Sp} (h : Tk w B g o1 o2 l1 l2) (hB : B ≤ w.heap.size) (hS : SetRow w g 99 #[o1, o2] 0 B o1 l w' v') : Tk w' B g v' o2 l l2 := by
  have hn2 : o2.ownBlock ≠ some g := own_ne h.own2 h.blk (by decide)
  refine ⟨hS.blk, hS.own, own_keep h.own2 (fun b hb hlt => hS.chg.block b hlt ?_) hS.chg.size, ?_⟩
  · rintro (rfl | h1)
    · exact hn2 hb
    · exact h.apart b h1 hb
  · intro b hb h2
    rcases hS.new b hb with h1 | h1
    · exact h.apart b h1 h2
    · have := (own_lt h.own2 h2).1
      omega
set_option maxHeartbeats 1600000 in
set_option maxRecDepth 100000 in
theorem add_ok (w : World) (B g : Nat) (o1 o2 : Value) (l1 l2 : List Sp) (x : Sp) (hK : Tk w B g o1 o2 l1 l2) (hBw : B ≤ w.heap.size) (hl : l1.length + l2.length < 64) (hany1 : l1.any (meetB x) = false) (hany2 : l2.any (meetB x) = false) :
    Calls Tryd.prog 53 #[.pointer (some ⟨g, 0, none⟩), .agg #[.int .i64 x.f, .int .i64 x.t, .int .u8 x.b]] w fun e w' => e = .returned (.int .i64 0) ∧ ∃ o1', Tk w' B g o1' o2 (l1 ++ [x]) l2 ∧ Chg (fun b => b = g ∨ B ≤ b) w w' := by
  have hnI : ((l1.length : Int) + (l2.length : Int) == 64) = false := by simp; omega
  obtain ⟨a1, cap1, ho1, hc1⟩ := own_slice hK.own1
  obtain ⟨a2, cap2, ho2, hc2⟩ := own_slice hK.own2
  obtain ⟨W, hW⟩ : ∃ W, W = w.alloc (.cells #[.int .i64 x.f, .int .i64 x.t, .int .u8 x.b] 91) := ⟨_, rfl⟩
  have bW : Below w.heap.size w W := by rw [hW]; exact Q.alloc (Below.refl _ _) _
  have HX := Lib.hid (show Blk W w.heap.size 91 #[.int .i64 x.f, .int .i64 x.t, .int .u8 x.b] from by rw [hW]; exact Blk.new _ _ _)
  have HK := Lib.hid (hK.call bW)
  obtain ⟨hx, hhx⟩ : ∃ hx, hx = w.heap.size := ⟨_, rfl⟩
  have HBW := Lib.hid bW
  rw [← hhx] at HX
  have hWs : W.heap.size = hx + 1 := by rw [hW, hhx]; simp
  have CM := fun (V : World) (v : Value) (l : List Sp) (h : Rd ES V (fun _ => True) v l) (hl : l.length ≤ 64) => containsM_eq V (fun _ => True) v l x.f x.t x.b h (by omega)
  have HO1 := Lib.hid ho1
  have HO2 := Lib.hid ho2
  subst ho1
  subst ho2
  have HKW := Lib.hid hK
  clear hK bW
  go_enter Tryd.func53, Tryd.ntmps53
  go_wp2_with fail
  rw [← hhx, ← hW]
  clear hW hhx
  have GB := HK.out.blk
  have La := fun y : BW W => (y.has.cell (p := ⟨g, 0, none⟩) GB.lt).trans (GB.cell 0)
  have Lb := fun y : BW W => (y.has.cell (p := ⟨g, 1, none⟩) GB.lt).trans (GB.cell 1)
  have Lx0 : ∀ y : BW W, y.val.cell? ⟨hx, 0, none⟩ = some (.int .i64 x.f) := fun y => (y.has.cell (p := ⟨hx, 0, none⟩) HX.out.lt).trans (HX.out.cell 0)
  have Lx1 : ∀ y : BW W, y.val.cell? ⟨hx, 1, none⟩ = some (.int .i64 x.t) := fun y => (y.has.cell (p := ⟨hx, 1, none⟩) HX.out.lt).trans (HX.out.cell 1)
  have Lx2 : ∀ y : BW W, y.val.cell? ⟨hx, 2, none⟩ = some (.int .u8 x.b) := fun y => (y.has.cell (p := ⟨hx, 2, none⟩) HX.out.lt).trans (HX.out.cell 2)
  clear GB
  refine wp_region_below (by kernel_rfl) (by kernel_rfl) ?_
  repeat (go_big_quiet_step (fail))
  refine wpQuiet_nil ?_
  intro w9 hw9
  obtain ⟨y1, rfl⟩ := hw9
  clear La Lb Lx0 Lx1 Lx2
  replace HK := Lib.hid (HK.out.call y1.has)
  replace HX := Lib.hid (HX.out.call y1.has)
  replace HBW := Lib.hid (Q.call HBW.out y1.has)
  go_wp2_with fail
  have GB := HK.out.blk
  have La := fun y : BW y1.val => (y.has.cell (p := ⟨g, 0, none⟩) GB.lt).trans (GB.cell 0)
  have Lb := fun y : BW y1.val => (y.has.cell (p := ⟨g, 1, none⟩) GB.lt).trans (GB.cell 1)
  have Lx0 : ∀ y : BW y1.val, y.val.cell? ⟨hx, 0, none⟩ = some (.int .i64 x.f) := fun y => (y.has.cell (p := ⟨hx, 0, none⟩) HX.out.lt).trans (HX.out.cell 0)
  have Lx1 : ∀ y : BW y1.val, y.val.cell? ⟨hx, 1, none⟩ = some (.int .i64 x.t) := fun y => (y.has.cell (p := ⟨hx, 1, none⟩) HX.out.lt).trans (HX.out.cell 1)
  have Lx2 : ∀ y : BW y1.val, y.val.cell? ⟨hx, 2, none⟩ = some (.int .u8 x.b) := fun y => (y.has.cell (p := ⟨hx, 2, none⟩) HX.out.lt).trans (HX.out.cell 2)
  have CC1 := fun y : BW y1.val => CM y.val _ _ (own_rd (own_below HK.out.own1 y.has)) (by omega)
  simp only [hany1] at CC1
  clear GB
  refine wp_region_below (by kernel_rfl) (by kernel_rfl) ?_
  repeat (go_big_quiet_step ((go_at_call 73; exact calls_bw (CC1 _))))
  refine wpQuiet_nil ?_
  first | (intro w9 hw9; obtain ⟨y2, rfl⟩ := hw9) | intro y2
  clear La Lb Lx0 Lx1 Lx2
  replace HK := Lib.hid (HK.out.call y2.has)
  replace HX := Lib.hid (HX.out.call y2.has)
  replace HBW := Lib.hid (Q.call HBW.out y2.has)
  go_wp2_with fail
  have GB := HK.out.blk
  have La := fun y : BW y2.val => (y.has.cell (p := ⟨g, 0, none⟩) GB.lt).trans (GB.cell 0)
  have Lb := fun y : BW y2.val => (y.has.cell (p := ⟨g, 1, none⟩) GB.lt).trans (GB.cell 1)
  have Lx0 : ∀ y : BW y2.val, y.val.cell? ⟨hx, 0, none⟩ = some (.int .i64 x.f) := fun y => (y.has.cell (p := ⟨hx, 0, none⟩) HX.out.lt).trans (HX.out.cell 0)
  have Lx1 : ∀ y : BW y2.val, y.val.cell? ⟨hx, 1, none⟩ = some (.int .i64 x.t) := fun y => (y.has.cell (p := ⟨hx, 1, none⟩) HX.out.lt).trans (HX.out.cell 1)
  have Lx2 : ∀ y : BW y2.val, y.val.cell? ⟨hx, 2, none⟩ = some (.int .u8 x.b) := fun y => (y.has.cell (p := ⟨hx, 2, none⟩) HX.out.lt).trans (HX.out.cell 2)
  have CC1 := fun y : BW y2.val => CM y.val _ _ (own_rd (own_below HK.out.own2 y.has)) (by omega)
  simp only [hany2] at CC1
  clear GB
  refine wp_region_below (by kernel_rfl) (by kernel_rfl) ?_
  repeat (go_big_quiet_step ((go_at_call 73; exact calls_bw (CC1 _))))
  refine wpQuiet_nil ?_
  first | (intro w9 hw9; obtain ⟨y3, rfl⟩ := hw9) | intro y3
  clear La Lb Lx0 Lx1 Lx2
  replace HK := Lib.hid (HK.out.call y3.has)
  replace HX := Lib.hid (HX.out.call y3.has)
  replace HBW := Lib.hid (Q.call HBW.out y3.has)
  go_wp2_with fail
  obtain ⟨i0, hi0, hz0, hz1, hz2⟩ := info_sp info_Sp
  have GB := HK.out.blk
  have c0 : y3.val.cell? ⟨g, 0, none⟩ = some (.slice a1 l1.length cap1) := GB.cell 0
  have x0 : y3.val.cell? ⟨hx, 0, none⟩ = some (.int .i64 x.f) := HX.out.cell 0
  have x1 : y3.val.cell? ⟨hx, 1, none⟩ = some (.int .i64 x.t) := HX.out.cell 1
  have x2 : y3.val.cell? ⟨hx, 2, none⟩ = some (.int .u8 x.b) := HX.out.cell 2
  have hlt := GB.lt
  have hltx := HX.out.lt
  have hr := HK.out.own1
  have HNE := Lib.hid (show (Value.slice a1 l1.length cap1).ownBlock ≠ some g from own_ne hr GB (by decide))
  have HGB := Lib.hid GB
  have HRL := Lib.hid (show ES.row l1 ++ [.int .i64 x.f, .int .i64 x.t, .int .u8 x.b] = ES.row (l1 ++ [x]) from by rw [ES.row_append]; rfl)
  have HLL := Lib.hid (show l1.length + 1 = (l1 ++ [x]).length from by simp)
  have HBS := Lib.hid hBw
  have hBs : B ≤ y3.val.heap.size := Nat.le_trans hBw HBW.out.size
  obtain ⟨V, hV⟩ : ∃ V, V = y3.val := ⟨_, rfl⟩
  rw [← hV] at c0 x0 x1 x2 hlt hltx hr HGB HBW HK hBs ⊢
  clear GB hV CM HX
  have hll : l1.length < 64 := by omega
  go_wp2_with fail
  go_region_law (refine step_append_lies _ (by rfl) _ _ _ (by rfl) B 91 i0 _ 3 24 Tryd.underlying42 hi0 hz0 hz1 hz2 rfl (by omega) (.slice a1 l1.length cap1) l1.length (ES.row l1) (by rfl) (by exact (own_keep hr (fun b _ hlt => Below.heap_alloc V _ b hlt) (by simp))) ⟨V.heap.size, 0, none⟩ 1 1 [.int .i64 x.f, .int .i64 x.t, .int .u8 x.b] (by rfl) (by rfl) (World.news_of_block (cs := #[.int .i64 x.f, .int .i64 x.t, .int .u8 x.b]) (t := 91) (fr := (0, 0)) (Blk.new' (by simp))) (by simp [Value.oneCell']) (by omega) (by unfold maxLen; omega) (by omega) (by simp; omega) (V.heap.size + 1) (by simp) ?_; intro gg cap1' w1 hown1 hgrow hat hlt1; have hg1 : Blk w1 g 99 #[.slice a1 l1.length cap1, .slice a2 l2.length cap2] := (hgrow.block g (by simp; omega) (Ne.symm HNE.out)).trans (HGB.out.alloc _); have k1 := hg1.frozen 0; have k0 := hg1.cell 0)
  all_goals
    go_wp2_with fail
    go_ret
    rw [HRL.out] at hown1
    have hSR := setRow_of (j := 0) HLL.out (Q.drew (Q.alloc (Below.refl V.heap.size V) _)) (by simp) HNE.out hlt hown1 hgrow hat hg1
    exact ⟨rfl, _, HK.out.grown hBs hSR, Chg.trans (.of HBW.out) (hSR.chg.mono (by
      rintro b (rfl | h)
      · exact .inl rfl
      · exact .inr (own_lt hr h).2))⟩
set_option maxHeartbeats 1600000 in
set_option maxRecDepth 100000 in
theorem swap_eq (w : World) (B g : Nat) (o1 o2 : Value) (l1 l2 : List Sp) (hK : Tk w B g o1 o2 l1 l2) :
    Calls Tryd.prog 54 #[.pointer (some ⟨g, 0, none⟩)] w fun e w' => e = .returned (.tuple #[]) ∧ Tk w' B g o2 o1 l2 l1 ∧ Chg (fun b => b = g) w w' := by
  obtain ⟨a1, cap1, ho1, hc1⟩ := own_slice hK.own1
  obtain ⟨a2, cap2, ho2, hc2⟩ := own_slice hK.own2
  have GB := hK.blk
  have c0 : w.cell? ⟨g, 0, none⟩ = some o1 := GB.cell 0
  have c1 : w.cell? ⟨g, 1, none⟩ = some o2 := GB.cell 1
  have f0 : w.frozen? ⟨g, 0, none⟩ = false := GB.frozen 0
  have f1 : w.frozen? ⟨g, 1, none⟩ = false := GB.frozen 1
  have hlt := GB.lt
  have HK := Lib.hid hK
  have HG := Lib.hid GB
  have e : (w.setCell ⟨g, 0, none⟩ o2).setCell ⟨g, 1, none⟩ o1 = w.setRow g #[o2, o1] := by
    rw [GB.setCell 0, GB.setCell_setRow]
    rfl
  have HE := Lib.hid e
  have HO1 := Lib.hid ho1
  have HO2 := Lib.hid ho2
  subst ho1
  subst ho2
  clear hK GB e
  go_enter Tryd.func54, Tryd.ntmps54
  go_wp2_with fail
  go_big_region
  all_goals
    go_wp2_with fail
    go_end0
    have n1 := own_ne HK.out.own1 HG.out (by decide)
    have n2 := own_ne HK.out.own2 HG.out (by decide)
    have hT : Tk (w.setRow g #[.slice a2 l2.length cap2, .slice a1 l1.length cap1]) B g (.slice a2 l2.length cap2) (.slice a1 l1.length cap1) l2 l1 := ⟨HG.out.setRow _, own_keep HK.out.own2 (fun b hb _ => setRow_other _ _ _ _ (fun h => n2 (h ▸ hb))) (by simp), own_keep HK.out.own1 (fun b hb _ => setRow_other _ _ _ _ (fun h => n1 (h ▸ hb))) (by simp), fun b h2 h1 => HK.out.apart b h1 h2⟩
    have hC : Chg (fun b => b = g) w (w.setRow g #[.slice a2 l2.length cap2, .slice a1 l1.length cap1]) := Chg.setRow _ _ _
    rw [← HE.out] at hT hC
    first
      | exact ⟨rfl, hT, hC⟩
      | exact ⟨rfl, hT.call (Q.drew (Below.refl _ _)), hC.drew⟩
end Go.Proofs.YtggnkkmlabhofaaDoor
