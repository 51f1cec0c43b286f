/- Ports: the walk of PortsLow. (printed by gen/po15.py) -/
import Derived.Test.YteciicojnodibaaPo14
import Derived.StillTailTactics
namespace Go.Proofs.Yteciicojnodibaa
set_option linter.unusedVariables false
set_option linter.unusedSimpArgs false
open Go.RowKit
attribute [local go_sem ↓] Go.wp_at_zero Go.wp_at_succ

/-- A slice that is read. -/
def ReadsP (w : World) (B : Nat) (a : Option Addr) (len : Nat) (ops : List POp) : Prop :=
  ops.length = len ∧ (0 < len → ∃ b off, a = some ⟨b, off, none⟩ ∧ b < B ∧ ∀ (k : Nat) (o : POp), ops[k]? = some o → w.cell? ⟨b, off + k * 5, none⟩ = some (.int .i64 o.ask) ∧ w.cell? ⟨b, off + k * 5 + 1, none⟩ = some (.int .i64 o.reg) ∧ w.cell? ⟨b, off + k * 5 + 2, none⟩ = some (.int .u8 o.v) ∧ w.cell? ⟨b, off + k * 5 + 3, none⟩ = some (.int .u8 o.t) ∧ w.cell? ⟨b, off + k * 5 + 4, none⟩ = some (.int .i64 o.cyc) ∧ 0 ≤ o.v ∧ o.v ≤ 255 ∧ 0 ≤ o.t ∧ o.t ≤ 255)
theorem ReadsP.keep {w w' : World} {B : Nat} {a : Option Addr} {len : Nat} {ops : List POp} (h : ReadsP w B a len ops) (hb : ∀ b off, b < B → w'.cell? ⟨b, off, none⟩ = w.cell? ⟨b, off, none⟩) : ReadsP w' B a len ops := by
  refine ⟨h.1, fun hl => ?_⟩
  obtain ⟨b, off, rfl, hlt, hc⟩ := h.2 hl
  refine ⟨b, off, rfl, hlt, fun k o hk => ?_⟩
  obtain ⟨c0, c1, c2, c3, c4, cb⟩ := hc k o hk
  exact ⟨(hb b _ hlt).trans c0, (hb b _ hlt).trans c1, (hb b _ hlt).trans c2, (hb b _ hlt).trans c3, (hb b _ hlt).trans c4, cb⟩
theorem ReadsP.below {w w' : World} {B : Nat} {a : Option Addr} {len : Nat} {ops : List POp} (h : ReadsP w B a len ops) (hb : Below B w w') : ReadsP w' B a len ops := h.keep fun b off hlt => hb.cell (p := ⟨b, off, none⟩) hlt
theorem ReadsP.wide {w : World} {B B' : Nat} {a : Option Addr} {len : Nat} {ops : List POp} (h : ReadsP w B a len ops) (hB : B ≤ B') : ReadsP w B' a len ops := by
  refine ⟨h.1, fun hl => ?_⟩
  obtain ⟨b, off, rfl, hlt, hc⟩ := h.2 hl
  exact ⟨b, off, rfl, by omega, hc⟩
theorem ReadsP.at_ {w : World} {B : Nat} {a : Option Addr} {len : Nat} {ops : List POp} (h : ReadsP w B a len ops) {k : Nat} (hk : k < len) :
    ∃ b off o, a = some ⟨b, off, none⟩ ∧ b < B ∧ ops[k]? = some o ∧ w.cell? ⟨b, off + k * 5, none⟩ = some (.int .i64 o.ask) ∧ w.cell? ⟨b, off + k * 5 + 1, none⟩ = some (.int .i64 o.reg) ∧ w.cell? ⟨b, off + k * 5 + 2, none⟩ = some (.int .u8 o.v) ∧ w.cell? ⟨b, off + k * 5 + 3, none⟩ = some (.int .u8 o.t) ∧ w.cell? ⟨b, off + k * 5 + 4, none⟩ = some (.int .i64 o.cyc) ∧ 0 ≤ o.v ∧ o.v ≤ 255 ∧ 0 ≤ o.t ∧ o.t ≤ 255 := by
  obtain ⟨b, off, rfl, hb, hc⟩ := h.2 (by omega)
  have hr : ops[k]? = some (ops[k]'(by rw [h.1]; exact hk)) := List.getElem?_eq_getElem _
  exact ⟨b, off, _, rfl, hb, hr, hc k _ hr⟩

theorem alikeL_nil : alikeL [] [] := ⟨rfl, fun k x y h => by simp at h⟩
/-- The rounds' state. -/
def LowMid (w0 : World) (g h : Nat) (s t : PS) (W : World) : Prop := Two w0 W g h s t (fun b => b < w0.heap.size) ∧ LowP s t
set_option maxRecDepth 100000 in
set_option maxHeartbeats 6400000 in
theorem portsLow_ok (x1 x2 y1 y2 : Value) (xs ys us zs : List Int) (a : Option Addr) (len cap : Nat) (ops : List POp) (w : World) (hx1 : Rd EU w (fun _ => True) x1 xs) (hx2 : Rd EU w (fun _ => True) x2 ys) (hy1 : Rd EU w (fun _ => True) y1 us) (hy2 : Rd EU w (fun _ => True) y2 zs)
    (hr : ReadsP w w.heap.size a len ops) (h1 : xs.length ≤ 300) (h2 : ys.length ≤ 300) (h3 : us.length ≤ 300) (h4 : zs.length ≤ 300) (h5 : len ≤ 200) (h6 : ys.length = zs.length) :
    Calls Try.prog 5 #[.agg #[x1, x2], .agg #[y1, y2], .slice a len cap] w fun e w' => e = .returned (.bool true) ∧ Below w.heap.size w w' := by
  obtain ⟨a1, c1, hv1⟩ := hx1.len
  obtain ⟨a2, c2, hv2⟩ := hx2.len
  obtain ⟨a3, c3, hv3⟩ := hy1.len
  obtain ⟨a4, c4, hv4⟩ := hy2.len
  subst hv1 hv2 hv3 hv4
  have HR := Lib.hid hr
  have X1 := Lib.hid hx1
  have X2 := Lib.hid hx2
  have Y1 := Lib.hid hy1
  have Y2 := Lib.hid hy2
  have H6 := Lib.hid h6
  clear hr hx1 hx2 hy1 hy2
  have i1 : (xs.length : Int) ≤ 300 := by omega
  have i6 : ((ys.length : Int) != (zs.length : Int)) = false := by rw [h6]; simp
  have F1 := fun V => few_yes a1 a2 xs.length ys.length c1 c2 a len cap V h1 h2 h5
  have F2 := fun V => few_yes a3 a4 us.length zs.length c3 c4 a len cap V h3 h4 h5
  clear h6
  go_enter Try.func5, Try.ntmps5
  go_wp2_with fail
  have kA := (Blk.new w 41 #[.slice a1 xs.length c1, .slice a2 ys.length c2]).alloc (.cells #[.slice a3 us.length c3, .slice a4 zs.length c4] 41)
  have kB : Blk ((w.alloc (.cells #[.slice a1 xs.length c1, .slice a2 ys.length c2] 41)).alloc (.cells #[.slice a3 us.length c3, .slice a4 zs.length c4] 41)) (w.heap.size + 1) 41 #[.slice a3 us.length c3, .slice a4 zs.length c4] := Blk.new' (by simp)
  have bA : Below w.heap.size w ((w.alloc (.cells #[.slice a1 xs.length c1, .slice a2 ys.length c2] 41)).alloc (.cells #[.slice a3 us.length c3, .slice a4 zs.length c4] 41)) := Q.alloc (Q.alloc (Below.refl _ _) _) _
  generalize hWA : (w.alloc (.cells #[.slice a1 xs.length c1, .slice a2 ys.length c2] 41)).alloc (.cells #[.slice a3 us.length c3, .slice a4 zs.length c4] 41) = WA at *
  (with_reducible refine (F1 _).mono ?_)
  rintro e w1 ⟨rfl, b1⟩
  have kA1 := kA.call b1
  have kB1 := kB.call b1
  have bA1 := Q.call bA b1
  have d0 := kB1.cell 0
  have d1 := kB1.cell 1
  have d2 := kA1.cell 0
  have d3 := kA1.cell 1
  have l1 := kB1.lt
  have HWA := Lib.hid hWA
  clear kA kB bA b1 hWA
  go_wp2_with fail
  (with_reducible refine (F2 _).mono ?_)
  rintro e w0 ⟨rfl, b2⟩
  have kA0 := kA1.call b2
  have kB0 := kB1.call b2
  have bA0 := Q.call bA1 b2
  have q0 := kB0.cell 0
  have q1 := kB0.cell 1
  have q2 := kA0.cell 0
  have q3 := kA0.cell 1
  have lB := kB0.lt
  clear d0 d1 d2 d3 kA1 kB1 bA1 b2 F1 F2 l1
  have N1 := two_new1 (w0 := w0) _ _ xs ys (fun _ => True) (X1.out.keep (fun b hb hR => ⟨bA0.block b hb, hR⟩) bA0.size) (X2.out.keep (fun b hb hR => ⟨bA0.block b hb, hR⟩) bA0.size) (by omega) (by omega)
  have X1' := Lib.hid (X1.out.keep (R' := fun _ => True) (fun b hb hR => ⟨bA0.block b hb, hR⟩) bA0.size)
  have Y2' := Lib.hid (Y2.out.keep (R' := fun _ => True) (fun b hb hR => ⟨bA0.block b hb, hR⟩) bA0.size)
  have KA0 := Lib.hid kA0
  have KB0 := Lib.hid kB0
  have BA0 := Lib.hid bA0
  clear kA0 kB0 bA0
  go_wp2_with fail
  (with_reducible refine N1.mono ?_)
  rintro e w3 ⟨g, rfl, hb3, N2⟩
  have N2' := N2 _ _ _ _ X1'.out Y2'.out (by omega) (by omega)
  have kA3 := KA0.out.call hb3
  have kB3 := KB0.out.call hb3
  have r0 := kA3.cell 0
  have r1 := kB3.cell 1
  clear N1 N2 q0 q1 q2 q3 kA3 kB3 hb3
  go_wp2_with fail
  (with_reducible refine N2'.mono ?_)
  rintro e w4 ⟨h, rfl, htwo⟩
  have hlow : LowP ⟨xs, ys, [], [], []⟩ ⟨xs, zs, [], [], []⟩ := ⟨rfl, H6.out, rfl, alikeL_nil, rfl⟩
  have LW := htwo.low hlow
  have HTWO := Lib.hid htwo
  have HLOW := Lib.hid hlow
  clear N2' htwo hlow r0 r1
  go_wp2_with fail
  (with_reducible refine LW.mono ?_)
  rintro e w5 ⟨rfl, b5⟩
  have hmid : LowMid w0 g h ⟨xs, ys, [], [], []⟩ ⟨xs, zs, [], [], []⟩ w5 := ⟨(HTWO.out.new b5).mono (fun b hb => .inl hb), HLOW.out⟩
  have HMID := Lib.hid hmid
  clear LW HTWO HLOW b5 hmid
  go_wp2_with fail
  clear i6
  go_loopw [11] (fun v wr => ∃ (k : Nat) (s t : PS), v = .int .i64 (k : Int) ∧ k ≤ len ∧ LowMid w0 g h s t wr) (fun v _ => len - (intOf v).toNat)
  case atStart => exact ⟨0, _, _, rfl, Nat.zero_le _, HMID.out⟩
  case round =>
    clear HMID
    obtain ⟨k, s, t, rfl, hk, hm⟩ := hrel
    have hBr := hm.1.B
    by_cases hkn : k < len
    · obtain ⟨b, off, o, rfl, hbl, hget, c0, c1, c2, c3, c4, cv1, cv2, ct1, ct2⟩ := (HR.out.below (Q.call BA0.out hBr)).at_ hkn
      obtain ⟨ask, r, v, tt, cyc⟩ := o
      simp only at c0 c1 c2 c3 c4 cv1 cv2 ct1 ct2
      have hki : (k : Int) < (len : Int) := by omega
      have hk0 : (0 : Int) ≤ (k : Int) := by omega
      have hbw : b < wr.heap.size := Nat.lt_of_lt_of_le hbl (Nat.le_trans BA0.out.size hBr.size)
      have hszr := hBr.size
      have HM := Lib.hid hm
      clear hget hm
      by_cases hask : ask = 0
      · subst hask
        have A0 := HM.out.1.new (Q.alloc (Below.refl _ _) (.cells #[.int .i64 0, .int .i64 r, .int .u8 v, .int .u8 tt, .int .i64 cyc] 37))
        have ko := Blk.new wr 37 #[.int .i64 0, .int .i64 r, .int .u8 v, .int .u8 tt, .int .i64 cyc]
        obtain ⟨hT, hor, hwho⟩ := HM.out.2.rd r
        have R1 := A0.rd1 r
        obtain ⟨x1, hx1⟩ : ∃ z, (s.rd r).1 = z := ⟨_, rfl⟩
        obtain ⟨x2, hx2⟩ : ∃ z, (t.rd r).1 = z := ⟨_, rfl⟩
        obtain ⟨x3, hx3⟩ : ∃ z, (s.rd r).2 = z := ⟨_, rfl⟩
        have hx4 := hT.symm.trans hx3
        rw [hx1, hx2, hx3, hx4] at hor
        rw [hx3] at hwho
        rw [hx1, hx3] at R1
        have HX2 := Lib.hid hx2
        have HX4 := Lib.hid hx4
        have HWH := Lib.hid hwho
        have HOR := Lib.hid hor
        clear A0 hT hx1 hx2 hx3 hx4 hwho hor
        go_wp2_with fail
        generalize hWo : wr.alloc (.cells #[.int .i64 0, .int .i64 r, .int .u8 v, .int .u8 tt, .int .i64 cyc] 37) = Wo at *
        (with_reducible refine R1.mono ?_)
        rintro e u1 ⟨rfl, A1, hk1, hz1⟩
        have ko1 := ko.hold hk1 (.inr (Nat.le_refl _))
        have A1' := A1.new (Q.alloc (Below.refl _ _) (.cells #[.int .u8 x1, .int .u8 x3] 23))
        have ja := Blk.new u1 23 #[.int .u8 x1, .int .u8 x3]
        have kol := ko.lt
        have ko1l := ko1.lt
        have ko2 := ko1.alloc (.cells #[.int .u8 x1, .int .u8 x3] 23)
        have R2 := A1'.rd2 r
        rw [HX2.out, HX4.out] at R2
        have o1 := ko1.cell 1
        have HWo := Lib.hid hWo
        clear R1 A1 A1' hk1 ko ko1 c0 c1 c2 c3 c4 hWo
        go_wp2_with fail
        generalize hW2 : u1.alloc (.cells #[.int .u8 x1, .int .u8 x3] 23) = U2 at *
        (with_reducible refine R2.mono ?_)
        rintro e u3 ⟨rfl, A3, hk3, hz3⟩
        have hU2 : u1.heap.size < U2.heap.size := ja.lt
        have ko3 := ko2.hold hk3 (.inl ⟨.inr (Nat.le_refl _), kol⟩)
        have ja3 := ja.hold hk3 (.inr (Nat.le_refl _))
        have A3' := A3.new (Q.alloc (Below.refl _ _) (.cells #[.int .u8 x2, .int .u8 x3] 23))
        have p0 := ko3.cell 1
        have p1 := ja3.cell 0
        have p2 := ja3.cell 1
        have p3 := ko3.lt
        have p4 := ja3.lt
        have HN := Lib.hid (show LowMid w0 g h (s.took r) (t.took r) (u3.alloc (.cells #[.int .u8 x2, .int .u8 x3] 23)) from ⟨A3'.mono (fun b hb => .inl ⟨.inl ⟨.inl hb, by omega⟩, by omega⟩), HM.out.2.took r⟩)
        have ho := HOR.out
        clear R2 A3 A3' hk3 ko2 ko3 ja ja3 o1 hW2 HOR HX2 HX4
        by_cases hx30 : x3 = 0
        · subst hx30
          go_wp2
          refine ⟨⟨k + 1, _, _, by simp, by omega, HN.out⟩, by simp [intOf]; omega⟩
        · have z1 : (x3 == 0) = false := beq_eq_false_iff_ne.2 hx30
          have z2 : (x3 != 0) = true := by simp [bne, z1]
          have hw := HWH.out hx30
          clear HWH hx30
          rcases hw with rfl | rfl
          · go_wp2
            refine ⟨⟨k + 1, _, _, by simp, by omega, HN.out⟩, by simp [intOf]; omega⟩
          · go_wp2
            refine ⟨⟨k + 1, _, _, by simp, by omega, HN.out⟩, by simp [intOf]; omega⟩
      · have e0 : (ask == 0) = false := beq_eq_false_iff_ne.2 hask
        clear hask
        have kB := KB0.out.below hBr lB
        have ob0 := kB.cell 0
        have lb : w.heap.size + 1 < wr.heap.size := kB.lt
        have lb2 : w.heap.size + 1 ≠ wr.heap.size := by omega
        have lb3 : w.heap.size ≠ wr.heap.size := by omega
        have lb4 : w.heap.size < wr.heap.size := by omega
        clear kB
        obtain ⟨nu, hnu⟩ : ∃ n, us.length = n := ⟨_, rfl⟩
        rw [hnu] at ob0
        have HNU := Lib.hid hnu
        clear hnu
        by_cases hskip : r = 4 ∧ tt ≠ 0
        · obtain ⟨rfl, htt⟩ := hskip
          have z1 : (tt == 0) = false := beq_eq_false_iff_ne.2 htt
          have z2 : (tt != 0) = true := by simp [bne, z1]
          have HN := Lib.hid (show LowMid w0 g h s t (wr.alloc (.cells #[.int .i64 ask, .int .i64 4, .int .u8 v, .int .u8 tt, .int .i64 cyc] 37)) from ⟨(HM.out.1.new (Q.alloc (Below.refl _ _) _)).mono (fun b hb => .inl hb), HM.out.2⟩)
          clear htt
          go_wp2
          refine ⟨⟨k + 1, _, _, by simp, by omega, HN.out⟩, by simp [intOf]; omega⟩
        · by_cases hus : nu = 0
          · have hl0 : ¬ (0 : Int) < (nu : Int) := by omega
            clear hus
            by_cases h4 : r = 4
            · subst h4
              obtain rfl : tt = 0 := by omega
              clear hskip
              have R1 := fun V (hV : Below wr.heap.size wr V) => (HM.out.1.new hV).wr1 4 v 0 cyc
              have HS : Hid (sameB (v, 0) (v, 0) = true ∧ ((0 : Int) = 0 → v = v)) := Lib.hid ⟨sameB_self _, fun _ => rfl⟩
              go_wp2_with fail
              (with_reducible refine (R1 _ (by repeat' (first | exact Below.refl _ _ | refine Q.alloc ?_ _ | refine Q.drew ?_ | refine Q.drewN ?_ _))).mono ?_)
              rintro e u1 ⟨rfl, hA1⟩
              have HA1 := Lib.hid hA1
              have ko1 : Blk u1 wr.heap.size 37 #[.int .i64 ask, .int .i64 4, .int .u8 v, .int .u8 0, .int .i64 cyc] := Blk.hold (by repeat' (first | exact Blk.new _ _ _ | refine Blk.alloc ?_ _ | refine Blk.drew ?_ | refine Blk.drewN ?_ _)) hA1.2.1 (.inr (Nat.le_refl _))
              have jt1 : Blk u1 (wr.heap.size + 1) 23 #[.int .u8 v, .int .u8 0] := Blk.hold (by repeat' (first | exact Blk.new' (by simp) | refine Blk.alloc ?_ _ | refine Blk.drew ?_ | refine Blk.drewN ?_ _)) hA1.2.1 (.inr (Nat.le_succ _))
              have o1 := ko1.cell 1
              have o2 := ko1.cell 2
              have o3 := ko1.cell 3
              have o4 := ko1.cell 4
              have t0 := jt1.cell 0
              have t1 := jt1.cell 1
              have R2 := hA1.1.wr2 4 v 0 cyc
              rw [← HM.out.2.err 4 0] at R2
              clear R1 hA1 ko1 jt1
              go_wp2_with fail
              (with_reducible refine R2.mono ?_)
              rintro e u2 ⟨rfl, hA2⟩
              have HN := Lib.hid (show LowMid w0 g h (s.wrote 4 v 0 cyc) (t.wrote 4 v 0 cyc) u2 from ⟨hA2.1.mono (fun b hb => ⟨⟨.inl hb, by simp only [World.size_alloc, World.size_drew]; omega⟩, by have h9 := HA1.out.2.2; simp only [World.size_alloc, World.size_drew] at h9; omega⟩), HM.out.2.wrote 4 v v 0 cyc (sameB_self _) (fun _ => rfl) (fun _ => rfl)⟩)
              clear R2 hA2 HA1 o1 o2 o3 o4 t0 t1
              go_wp2
              refine ⟨⟨k + 1, _, _, by simp, by omega, HN.out⟩, by simp [intOf]; omega⟩
            · have e4 : (r == 4) = false := beq_eq_false_iff_ne.2 h4
              have H4n := h4
              clear hskip h4
              have R1 := fun V (hV : Below wr.heap.size wr V) => (HM.out.1.new hV).wr1 r v tt cyc
              have HS : Hid (sameB (v, tt) (v, tt) = true ∧ (tt = 0 → v = v)) := Lib.hid ⟨sameB_self _, fun _ => rfl⟩
              go_wp2_with fail
              (with_reducible refine (R1 _ (by repeat' (first | exact Below.refl _ _ | refine Q.alloc ?_ _ | refine Q.drew ?_ | refine Q.drewN ?_ _))).mono ?_)
              rintro e u1 ⟨rfl, hA1⟩
              have HA1 := Lib.hid hA1
              have ko1 : Blk u1 wr.heap.size 37 #[.int .i64 ask, .int .i64 r, .int .u8 v, .int .u8 tt, .int .i64 cyc] := Blk.hold (by repeat' (first | exact Blk.new _ _ _ | refine Blk.alloc ?_ _ | refine Blk.drew ?_ | refine Blk.drewN ?_ _)) hA1.2.1 (.inr (Nat.le_refl _))
              have jt1 : Blk u1 (wr.heap.size + 1) 23 #[.int .u8 v, .int .u8 tt] := Blk.hold (by repeat' (first | exact Blk.new' (by simp) | refine Blk.alloc ?_ _ | refine Blk.drew ?_ | refine Blk.drewN ?_ _)) hA1.2.1 (.inr (Nat.le_succ _))
              have o1 := ko1.cell 1
              have o2 := ko1.cell 2
              have o3 := ko1.cell 3
              have o4 := ko1.cell 4
              have t0 := jt1.cell 0
              have t1 := jt1.cell 1
              have R2 := hA1.1.wr2 r v tt cyc
              rw [← HM.out.2.err r tt] at R2
              clear R1 hA1 ko1 jt1
              go_wp2_with fail
              (with_reducible refine R2.mono ?_)
              rintro e u2 ⟨rfl, hA2⟩
              have HN := Lib.hid (show LowMid w0 g h (s.wrote r v tt cyc) (t.wrote r v tt cyc) u2 from ⟨hA2.1.mono (fun b hb => ⟨⟨.inl hb, by simp only [World.size_alloc, World.size_drew]; omega⟩, by have h9 := HA1.out.2.2; simp only [World.size_alloc, World.size_drew] at h9; omega⟩), HM.out.2.wrote r v v tt cyc (sameB_self _) (fun _ => rfl) (fun hh => absurd hh H4n)⟩)
              clear R2 hA2 HA1 o1 o2 o3 o4 t0 t1
              go_wp2
              refine ⟨⟨k + 1, _, _, by simp, by omega, HN.out⟩, by simp [intOf]; omega⟩
          · obtain ⟨j, hj, hjn⟩ : ∃ j : Nat, k % nu = j ∧ j < nu := ⟨_, rfl, Nat.mod_lt _ (by omega)⟩
            obtain ⟨b3, off3, z, hz3, hlb3, -, -, hcz⟩ := Y1.out.at_ (k := j) (by rw [HNU.out]; exact hjn)
            subst hz3
            have f0 := ((Q.call BA0.out hBr).cell (p := ⟨b3, _, none⟩) hlb3).trans (hcz 0 _ rfl)
            simp only [Nat.mul_one, Nat.add_zero] at f0
            have l3 : b3 < wr.heap.size := Nat.lt_of_lt_of_le hlb3 (Nat.le_trans BA0.out.size hBr.size)
            have hm2 : (k : Int) % (nu : Int) = (j : Int) := by rw [← hj]; exact (Int.natCast_emod k nu).symm
            have hm1 : (k : Int).tmod (nu : Int) = (j : Int) := by rw [Int.tmod_eq_emod_of_nonneg (by omega)]; exact hm2
            have hj0 : (0 : Int) ≤ (j : Int) := by omega
            have hj1 : (j : Int) < (nu : Int) := by omega
            have hl0 : (0 : Int) < (nu : Int) := by omega
            have hl2 : ¬ (nu : Int) = 0 := by omega
            have hl3 : ¬ nu = 0 := hus
            have hl1 : ((nu : Int) == 0) = false := beq_eq_false_iff_ne.2 (by omega)
            obtain ⟨v', hbx⟩ : ∃ q, bits .xor .u8 v (bits .and .u8 tt z) = q := ⟨_, rfl⟩
            have HSB : Hid (sameB (v, tt) (v', tt) = true ∧ ((tt : Int) = 0 → v = v')) := Lib.hid ⟨by rw [← hbx]; exact sameB_turn v tt z, fun h0 => by rw [← hbx, h0, turn_plain v z cv1 cv2]⟩
            clear hcz hj hus
            by_cases h4 : r = 4
            · subst h4
              obtain rfl : tt = 0 := by omega
              clear hskip
              have R1 := fun V (hV : Below wr.heap.size wr V) => (HM.out.1.new hV).wr1 4 v 0 cyc
              have HS : Hid (sameB (v, 0) (v', 0) = true ∧ ((0 : Int) = 0 → v = v')) := HSB
              go_wp2_with fail
              have koW := (Blk.new wr 37 #[.int .i64 ask, .int .i64 4, .int .u8 v, .int .u8 0, .int .i64 cyc]).alloc (.cells #[.int .u8 v, .int .u8 0] 23)
              have jtW : Blk ((wr.alloc (.cells #[.int .i64 ask, .int .i64 4, .int .u8 v, .int .u8 0, .int .i64 cyc] 37)).alloc (.cells #[.int .u8 v, .int .u8 0] 23)) (wr.heap.size + 1) 23 #[.int .u8 v, .int .u8 0] := Blk.new' (by simp)
              have hBW : Below wr.heap.size wr ((wr.alloc (.cells #[.int .i64 ask, .int .i64 4, .int .u8 v, .int .u8 0, .int .i64 cyc] 37)).alloc (.cells #[.int .u8 v, .int .u8 0] 23)) := Q.alloc (Q.alloc (Below.refl _ _) _) _
              have obW := (hBW.cell (p := ⟨w.heap.size + 1, 0, none⟩) lb).trans ob0
              have fW := (hBW.cell (p := ⟨b3, _, none⟩) l3).trans f0
              generalize hWt : (wr.alloc (.cells #[.int .i64 ask, .int .i64 4, .int .u8 v, .int .u8 0, .int .i64 cyc] 37)).alloc (.cells #[.int .u8 v, .int .u8 0] 23) = Wt at koW jtW hBW obW fW ⊢
              have HWt := Lib.hid hWt
              have jt0 := jtW.cell 0
              have jt1 := jtW.cell 1
              have jf0 := jtW.frozen 0
              have kw1 := koW.cell 1
              have kw2 := koW.cell 2
              have kw3 := koW.cell 3
              have kw4 := koW.cell 4
              clear hWt
              go_still_tail 15, (by kernel_rfl)
              change wpList _ _ _ _ _ (World.drew _)
              have hd0 : Wt.drew.frozen? ⟨wr.heap.size + 1, 0, none⟩ = false := jf0
              go_wp2_with fail
              have E : Wt.setCell ⟨wr.heap.size + 1, 0, none⟩ (.int .u8 v') = Wt.setRow (wr.heap.size + 1) #[.int .u8 v', .int .u8 0] := by
                rw [jtW.setCell]
                rfl
              rw [E]
              have koX := (koW.other (k := wr.heap.size + 1) (by omega) #[.int .u8 v', .int .u8 0]).drew
              have jtX := (jtW.setRow #[.int .u8 v', .int .u8 0]).drew
              have hBX := Q.drew (below_setRow hBW (by omega) (g := wr.heap.size + 1) #[.int .u8 v', .int .u8 0])
              generalize (Wt.setRow (wr.heap.size + 1) #[.int .u8 v', .int .u8 0]).drew = Wx at koX jtX hBX ⊢
              clear E koW jtW hBW obW fW jt0 jt1 jf0 hd0 kw1 kw2 kw3 kw4
              (with_reducible refine (R1 _ hBX).mono ?_)
              rintro e u1 ⟨rfl, hA1⟩
              have HA1 := Lib.hid hA1
              have hszX := hBX.size
              have ko1 := koX.hold hA1.2.1 (.inr (Nat.le_refl _))
              have jt1 := jtX.hold hA1.2.1 (.inr (Nat.le_succ _))
              have o1 := ko1.cell 1
              have o2 := ko1.cell 2
              have o3 := ko1.cell 3
              have o4 := ko1.cell 4
              have t0 := jt1.cell 0
              have t1 := jt1.cell 1
              have R2 := hA1.1.wr2 4 v' 0 cyc
              rw [← HM.out.2.err 4 0] at R2
              clear R1 hA1 ko1 jt1
              go_wp2_with fail
              (with_reducible refine R2.mono ?_)
              rintro e u2 ⟨rfl, hA2⟩
              have HN := Lib.hid (show LowMid w0 g h (s.wrote 4 v 0 cyc) (t.wrote 4 v' 0 cyc) u2 from ⟨hA2.1.mono (fun b hb => ⟨⟨.inl hb, by omega⟩, by have h9 := HA1.out.2.2; omega⟩), HM.out.2.wrote 4 v v' 0 cyc HS.out.1 (fun h9 => by have h8 := HS.out.2; first | exact h8 h9 | exact h8 trivial) (fun _ => rfl)⟩)
              clear R2 hA2 HA1 o1 o2 o3 o4 t0 t1
              go_wp2
              refine ⟨⟨k + 1, _, _, by simp, by omega, HN.out⟩, by simp [intOf]; omega⟩
            · have e4 : (r == 4) = false := beq_eq_false_iff_ne.2 h4
              have H4n := h4
              clear hskip h4
              have R1 := fun V (hV : Below wr.heap.size wr V) => (HM.out.1.new hV).wr1 r v tt cyc
              have HS : Hid (sameB (v, tt) (v', tt) = true ∧ (tt = 0 → v = v')) := HSB
              go_wp2_with fail
              have koW := (Blk.new wr 37 #[.int .i64 ask, .int .i64 r, .int .u8 v, .int .u8 tt, .int .i64 cyc]).alloc (.cells #[.int .u8 v, .int .u8 tt] 23)
              have jtW : Blk ((wr.alloc (.cells #[.int .i64 ask, .int .i64 r, .int .u8 v, .int .u8 tt, .int .i64 cyc] 37)).alloc (.cells #[.int .u8 v, .int .u8 tt] 23)) (wr.heap.size + 1) 23 #[.int .u8 v, .int .u8 tt] := Blk.new' (by simp)
              have hBW : Below wr.heap.size wr ((wr.alloc (.cells #[.int .i64 ask, .int .i64 r, .int .u8 v, .int .u8 tt, .int .i64 cyc] 37)).alloc (.cells #[.int .u8 v, .int .u8 tt] 23)) := Q.alloc (Q.alloc (Below.refl _ _) _) _
              have obW := (hBW.cell (p := ⟨w.heap.size + 1, 0, none⟩) lb).trans ob0
              have fW := (hBW.cell (p := ⟨b3, _, none⟩) l3).trans f0
              generalize hWt : (wr.alloc (.cells #[.int .i64 ask, .int .i64 r, .int .u8 v, .int .u8 tt, .int .i64 cyc] 37)).alloc (.cells #[.int .u8 v, .int .u8 tt] 23) = Wt at koW jtW hBW obW fW ⊢
              have HWt := Lib.hid hWt
              have jt0 := jtW.cell 0
              have jt1 := jtW.cell 1
              have jf0 := jtW.frozen 0
              have kw1 := koW.cell 1
              have kw2 := koW.cell 2
              have kw3 := koW.cell 3
              have kw4 := koW.cell 4
              clear hWt
              go_still_tail 15, (by kernel_rfl)
              change wpList _ _ _ _ _ (World.drew _)
              have hd0 : Wt.drew.frozen? ⟨wr.heap.size + 1, 0, none⟩ = false := jf0
              go_wp2_with fail
              have E : Wt.setCell ⟨wr.heap.size + 1, 0, none⟩ (.int .u8 v') = Wt.setRow (wr.heap.size + 1) #[.int .u8 v', .int .u8 tt] := by
                rw [jtW.setCell]
                rfl
              rw [E]
              have koX := (koW.other (k := wr.heap.size + 1) (by omega) #[.int .u8 v', .int .u8 tt]).drew
              have jtX := (jtW.setRow #[.int .u8 v', .int .u8 tt]).drew
              have hBX := Q.drew (below_setRow hBW (by omega) (g := wr.heap.size + 1) #[.int .u8 v', .int .u8 tt])
              generalize (Wt.setRow (wr.heap.size + 1) #[.int .u8 v', .int .u8 tt]).drew = Wx at koX jtX hBX ⊢
              clear E koW jtW hBW obW fW jt0 jt1 jf0 hd0 kw1 kw2 kw3 kw4
              (with_reducible refine (R1 _ hBX).mono ?_)
              rintro e u1 ⟨rfl, hA1⟩
              have HA1 := Lib.hid hA1
              have hszX := hBX.size
              have ko1 := koX.hold hA1.2.1 (.inr (Nat.le_refl _))
              have jt1 := jtX.hold hA1.2.1 (.inr (Nat.le_succ _))
              have o1 := ko1.cell 1
              have o2 := ko1.cell 2
              have o3 := ko1.cell 3
              have o4 := ko1.cell 4
              have t0 := jt1.cell 0
              have t1 := jt1.cell 1
              have R2 := hA1.1.wr2 r v' tt cyc
              rw [← HM.out.2.err r tt] at R2
              clear R1 hA1 ko1 jt1
              go_wp2_with fail
              (with_reducible refine R2.mono ?_)
              rintro e u2 ⟨rfl, hA2⟩
              have HN := Lib.hid (show LowMid w0 g h (s.wrote r v tt cyc) (t.wrote r v' tt cyc) u2 from ⟨hA2.1.mono (fun b hb => ⟨⟨.inl hb, by omega⟩, by have h9 := HA1.out.2.2; omega⟩), HM.out.2.wrote r v v' tt cyc HS.out.1 (fun h9 => by have h8 := HS.out.2; first | exact h8 h9 | exact h8 trivial) (fun hh => absurd hh H4n)⟩)
              clear R2 hA2 HA1 o1 o2 o3 o4 t0 t1
              go_wp2
              refine ⟨⟨k + 1, _, _, by simp, by omega, HN.out⟩, by simp [intOf]; omega⟩
    · obtain rfl : len = k := by omega
      have L1 := hm.1.low hm.2
      have HM := Lib.hid hm
      clear hm
      go_wp2_with fail
      (with_reducible refine L1.mono ?_)
      rintro e u1 ⟨rfl, b1⟩
      have L2 := (HM.out.1.new b1).low' HM.out.2.symm
      clear L1
      go_wp2_with fail
      (with_reducible refine L2.mono ?_)
      rintro e u2 ⟨rfl, b2⟩
      have A2 := (HM.out.1.new b1).new b2
      have O1 := A2.out1
      have HA2 := Lib.hid A2
      have B2 := Lib.hid A2.B
      clear L2 A2 b1 b2
      go_wp2_with fail
      (with_reducible refine O1.mono ?_)
      rintro e u3 ⟨sv1, rfl, ho1, b3⟩
      have A3 := HA2.out.new b3
      have O2 := A3.out2
      have HO1 := Lib.hid ho1
      have HB3 := Lib.hid b3
      clear O1 ho1 A3 HA2 b3
      go_wp2_with fail
      (with_reducible refine O2.mono ?_)
      rintro e u4 ⟨sv2, rfl, ho2, b4⟩
      have r1 : Rd EU u4 (fun _ => True) sv1 s.out := Ow.rd (T := 5) ⟨own_lower (own_keep HO1.out (fun b _ hlt => b4.block b hlt) b4.size) (Nat.zero_le _), fun _ _ => trivial⟩
      have r2 : Rd EU u4 (fun _ => True) sv2 t.out := Ow.rd (T := 5) ⟨own_lower ho2 (Nat.zero_le _), fun _ _ => trivial⟩
      rw [← HM.out.2.out] at r2
      have BY := bytes_calls sv1 sv2 s.out _ _ u4 r1 r2 (by have := HM.out.1.1.1.out; omega)
      have HB4 := Lib.hid b4
      clear O2 ho2 r1 r2 b4
      go_wp2_with fail
      (with_reducible refine BY.mono ?_)
      rintro e u5 ⟨rfl, b5⟩
      clear BY
      go_wp2_with fail
      (with_reducible refine (awake11_calls _).mono ?_)
      rintro e u6 ⟨rfl, b6⟩
      have BF := Q.call (Q.call (Q.call (Q.call (Q.call BA0.out B2.out) HB3.out) HB4.out) b5) b6
      go_wp2
      go_returns
      exact ⟨rfl, BF⟩
set_option maxRecDepth 100000 in
set_option maxHeartbeats 3200000 in
theorem portsLow_walk (x1 x2 y1 y2 : Value) (xs ys us zs : List Int) (a : Option Addr) (len cap : Nat) (ops : List POp) (w : World) (hx1 : Rd EU w (fun _ => True) x1 xs) (hx2 : Rd EU w (fun _ => True) x2 ys) (hy1 : Rd EU w (fun _ => True) y1 us) (hy2 : Rd EU w (fun _ => True) y2 zs)
    (hr : ReadsP w w.heap.size a len ops) :
    Calls Try.prog 5 #[.agg #[x1, x2], .agg #[y1, y2], .slice a len cap] w fun e w' => e = .returned (.bool true) ∧ Below w.heap.size w w' := by
  by_cases hA : xs.length ≤ 300 ∧ ys.length ≤ 300 ∧ len ≤ 200
  · by_cases hB : us.length ≤ 300 ∧ zs.length ≤ 300 ∧ len ≤ 200
    · by_cases hC : ys.length = zs.length
      · exact portsLow_ok x1 x2 y1 y2 xs ys us zs a len cap ops w hx1 hx2 hy1 hy2 hr hA.1 hA.2.1 hB.1 hB.2.1 hA.2.2 hC
      · obtain ⟨a1, c1, hv1⟩ := hx1.len
        obtain ⟨a2, c2, hv2⟩ := hx2.len
        obtain ⟨a3, c3, hv3⟩ := hy1.len
        obtain ⟨a4, c4, hv4⟩ := hy2.len
        subst hv1 hv2 hv3 hv4
        have F1 := fun V => few_yes a1 a2 xs.length ys.length c1 c2 a len cap V hA.1 hA.2.1 hA.2.2
        have F2 := fun V => few_yes a3 a4 us.length zs.length c3 c4 a len cap V hB.1 hB.2.1 hB.2.2
        have i6 : ((ys.length : Int) == (zs.length : Int)) = false := beq_eq_false_iff_ne.2 (by omega)
        have i7 : ((ys.length : Int) != (zs.length : Int)) = true := by simp [bne, i6]
        have i8 : (ys.length == zs.length) = false := beq_eq_false_iff_ne.2 hC
        generalize ys.length = ny at *
        generalize zs.length = nz at *
        clear hx1 hx2 hy1 hy2 hr hA hB
        go_enter Try.func5, Try.ntmps5
        go_wp2_with fail
        have kA := (Blk.new w 41 #[.slice a1 xs.length c1, .slice a2 ny c2]).alloc (.cells #[.slice a3 us.length c3, .slice a4 nz c4] 41)
        have kB : Blk ((w.alloc (.cells #[.slice a1 xs.length c1, .slice a2 ny c2] 41)).alloc (.cells #[.slice a3 us.length c3, .slice a4 nz c4] 41)) (w.heap.size + 1) 41 #[.slice a3 us.length c3, .slice a4 nz c4] := Blk.new' (by simp)
        have bA : Below w.heap.size w ((w.alloc (.cells #[.slice a1 xs.length c1, .slice a2 ny c2] 41)).alloc (.cells #[.slice a3 us.length c3, .slice a4 nz c4] 41)) := Q.alloc (Q.alloc (Below.refl _ _) _) _
        generalize (w.alloc (.cells #[.slice a1 xs.length c1, .slice a2 ny c2] 41)).alloc (.cells #[.slice a3 us.length c3, .slice a4 nz c4] 41) = WA at *
        (with_reducible refine (F1 _).mono ?_)
        rintro e w1 ⟨rfl, b1⟩
        have kA1 := kA.call b1
        have kB1 := kB.call b1
        have bA1 := Q.call bA b1
        have d0 := kB1.cell 0
        have d1 := kB1.cell 1
        go_wp2_with fail
        (with_reducible refine (F2 _).mono ?_)
        rintro e w0 ⟨rfl, b2⟩
        have kA0 := kA1.call b2
        have kB0 := kB1.call b2
        have bA0 := Q.call bA1 b2
        have q1 := kB0.cell 1
        have q3 := kA0.cell 1
        clear d0 d1 kA1 kB1 b2 F1 F2 kA kB kA0 kB0
        go_wp2_with (go_at_call 7; (with_reducible refine (awake11_calls _).mono ?_); rintro e w9 ⟨rfl, b9⟩)
        go_returns
        exact ⟨rfl, Q.call bA0 b9⟩
    · obtain ⟨a1, c1, hv1⟩ := hx1.len
      obtain ⟨a2, c2, hv2⟩ := hx2.len
      obtain ⟨a3, c3, hv3⟩ := hy1.len
      obtain ⟨a4, c4, hv4⟩ := hy2.len
      subst hv1 hv2 hv3 hv4
      have F1 := fun V => few_yes a1 a2 xs.length ys.length c1 c2 a len cap V hA.1 hA.2.1 hA.2.2
      have F2 := fun V => few_no a3 a4 us.length zs.length c3 c4 a len cap V hB
      clear hx1 hx2 hy1 hy2 hr hA hB
      go_enter Try.func5, Try.ntmps5
      go_wp2_with fail
      have kB : Blk ((w.alloc (.cells #[.slice a1 xs.length c1, .slice a2 ys.length c2] 41)).alloc (.cells #[.slice a3 us.length c3, .slice a4 zs.length c4] 41)) (w.heap.size + 1) 41 #[.slice a3 us.length c3, .slice a4 zs.length c4] := Blk.new' (by simp)
      have bA : Below w.heap.size w ((w.alloc (.cells #[.slice a1 xs.length c1, .slice a2 ys.length c2] 41)).alloc (.cells #[.slice a3 us.length c3, .slice a4 zs.length c4] 41)) := Q.alloc (Q.alloc (Below.refl _ _) _) _
      generalize (w.alloc (.cells #[.slice a1 xs.length c1, .slice a2 ys.length c2] 41)).alloc (.cells #[.slice a3 us.length c3, .slice a4 zs.length c4] 41) = WA at *
      (with_reducible refine (F1 _).mono ?_)
      rintro e w1 ⟨rfl, b1⟩
      have kB1 := kB.call b1
      have bA1 := Q.call bA b1
      have d0 := kB1.cell 0
      have d1 := kB1.cell 1
      go_wp2_with fail
      (with_reducible refine (F2 _).mono ?_)
      rintro e w0 ⟨rfl, b2⟩
      have bA0 := Q.call bA1 b2
      clear d0 d1 kB1 b2 F1 F2 kB
      go_wp2_with (go_at_call 7; (with_reducible refine (awake11_calls _).mono ?_); rintro e w9 ⟨rfl, b9⟩)
      go_returns
      exact ⟨rfl, Q.call bA0 b9⟩
  · obtain ⟨a1, c1, hv1⟩ := hx1.len
    obtain ⟨a2, c2, hv2⟩ := hx2.len
    obtain ⟨a3, c3, hv3⟩ := hy1.len
    obtain ⟨a4, c4, hv4⟩ := hy2.len
    subst hv1 hv2 hv3 hv4
    have F1 := fun V => few_no a1 a2 xs.length ys.length c1 c2 a len cap V hA
    clear hx1 hx2 hy1 hy2 hr hA
    go_enter Try.func5, Try.ntmps5
    go_wp2_with fail
    have bA : Below w.heap.size w ((w.alloc (.cells #[.slice a1 xs.length c1, .slice a2 ys.length c2] 41)).alloc (.cells #[.slice a3 us.length c3, .slice a4 zs.length c4] 41)) := Q.alloc (Q.alloc (Below.refl _ _) _) _
    generalize (w.alloc (.cells #[.slice a1 xs.length c1, .slice a2 ys.length c2] 41)).alloc (.cells #[.slice a3 us.length c3, .slice a4 zs.length c4] 41) = WA at *
    (with_reducible refine (F1 _).mono ?_)
    rintro e w1 ⟨rfl, b1⟩
    have bA1 := Q.call bA b1
    clear F1 b1
    go_wp2_with (go_at_call 7; (with_reducible refine (awake11_calls _).mono ?_); rintro e w9 ⟨rfl, b9⟩)
    go_returns
    exact ⟨rfl, Q.call bA1 b9⟩
end Go.Proofs.Yteciicojnodibaa
