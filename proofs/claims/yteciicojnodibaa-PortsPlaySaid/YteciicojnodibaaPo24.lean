/- Ports: Clone makes ports of one's own; the state of PortsPlay's loop. (printed by gen/po24.py) -/
import Derived.Test.YteciicojnodibaaPo23
import Derived.Test.YteciicojnodibaaPo12
namespace Go.Proofs.Yteciicojnodibaa
set_option linter.unusedVariables false
set_option linter.unusedSimpArgs false
open Go.RowKit
attribute [local go_sem ↓] Go.wp_at_zero Go.wp_at_succ

theorem own_keepsN {α : Type} {n : Nat} {E : Enc α n} {T : TypeId} {V W : World} {B m : Nat} {v : Value} {l : List α} (h : V.ownsRow B T n v m (E.row l)) (hm : m = l.length) (hV : Below V.heap.size V W) : Rd E W (fun b => B ≤ b ∧ b < V.heap.size) v l := by
  subst hm
  have h1 : Ow E T V (fun b => B ≤ b ∧ b < V.heap.size) v l := ⟨own_lower h (Nat.zero_le _), fun b hb => ⟨(own_lt h hb).2, (own_lt h hb).1⟩⟩
  exact h1.rd.keep (fun b hb hR => ⟨hV.block b hb, hR⟩) hV.size
theorem own_keepsO {α : Type} {n : Nat} {E : Enc α n} {T : TypeId} {V W : World} {B m : Nat} {v : Value} {l : List α} (h : V.ownsRow B T n v m (E.row l)) (hm : m = l.length) (hV : Below V.heap.size V W) : Ow E T W (fun b => B ≤ b) v l := by
  subst hm
  have h1 : Ow E T V (fun b => B ≤ b) v l := ⟨own_lower h (Nat.zero_le _), fun b hb => (own_lt h hb).2⟩
  exact h1.keep (fun b hb _ hS => ⟨hV.block b hb, hS⟩) hV.size
theorem IsP.rdP {w : World} {col : Nat → Nat} {c g : Nat} {v : PV} {s : PS} (h : IsP w col c g v s) : RdP w g v s :=
  ⟨h.blk, h.pub.keep (fun _ _ _ => ⟨rfl, trivial⟩) (Nat.le_refl _), h.sec.keep (fun _ _ _ => ⟨rfl, trivial⟩) (Nat.le_refl _), h.out.rd.keep (fun _ _ _ => ⟨rfl, trivial⟩) (Nat.le_refl _), h.kept.rd.keep (fun _ _ _ => ⟨rfl, trivial⟩) (Nat.le_refl _), h.log.rd.keep (fun _ _ _ => ⟨rfl, trivial⟩) (Nat.le_refl _)⟩
set_option maxRecDepth 100000 in
set_option maxHeartbeats 6400000 in
theorem clone_own (w : World) (g : Nat) (v : PV) (s : PS) (hp : RdP w g v s) (hok : s.ok) :
    Calls Try.prog 12 #[.pointer (some ⟨g, 0, none⟩)] w fun e w' => ∃ h u, e = .returned (.pointer (some ⟨h, 0, none⟩)) ∧ Below w.heap.size w w' ∧ ∃ m, w.heap.size ≤ m ∧ ∀ (col : Nat → Nat) (c : Nat), IsP w' (paint (paint col w.heap.size 0) m c) c h u s := by
  obtain ⟨a1, c1, hv1⟩ := hp.pub.len
  obtain ⟨a2, c2, hv2⟩ := hp.sec.len
  have x0 : w.cell? ⟨g, 0, none⟩ = some (.slice a1 s.pub.length c1) := by rw [← hv1]; exact hp.blk.cell 0
  have x1 : w.cell? ⟨g, 1, none⟩ = some (.slice a2 s.sec.length c2) := by rw [← hv2]; exact hp.blk.cell 1
  have hgl := hp.blk.lt
  have ST : ∀ w' : World, Below w.heap.size w w' → (w'.cell? ⟨g, 0, none⟩ = some (.slice a1 s.pub.length c1) ∧ w'.cell? ⟨g, 1, none⟩ = some (.slice a2 s.sec.length c2) ∧ Below w.heap.size w w') := fun w' h => ⟨(h.cell (p := ⟨g, 0, none⟩) hgl).trans x0, (h.cell (p := ⟨g, 1, none⟩) hgl).trans x1, h⟩
  have U0 := fun V (h : Below w.heap.size w V) => clone_U (.slice a1 s.pub.length c1) s.pub (fun _ => True) V (by have := hok.pub; omega) (by rw [← hv1]; exact hp.pub.below h)
  have U1 := fun V (h : Below w.heap.size w V) => clone_U (.slice a2 s.sec.length c2) s.sec (fun _ => True) V (by have := hok.sec; omega) (by rw [← hv2]; exact hp.sec.below h)
  have O := fun V (h : Below w.heap.size w V) => pout_rd V g v s (hp.call h) hok
  have K := fun V (h : Below w.heap.size w V) => pkept_rd V g v s (hp.call h) hok
  have L := fun V (h : Below w.heap.size w V) => plog_rd V g v s (hp.call h) hok
  clear hp hok hv1 hv2
  go_enter Try.func12, Try.ntmps12
  go_wp2_with fail
  go_region_held3 (fun w' : World => w'.cell? ⟨g, 0, none⟩ = some (.slice a1 s.pub.length c1) ∧ w'.cell? ⟨g, 1, none⟩ = some (.slice a2 s.sec.length c2) ∧ Below w.heap.size w w') (exact ST _ (by repeat' (first | with_reducible exact Below.refl _ _ | with_reducible assumption | with_reducible refine Q.alloc ?_ _ | with_reducible refine Q.drew ?_ | with_reducible refine Q.drewN ?_ _ | with_reducible refine Q.call ?_ (by assumption)))) (first
    | (go_at_call 21; first | ((with_reducible refine (U0 _ (by repeat' (first | with_reducible exact Below.refl _ _ | with_reducible assumption | with_reducible refine Q.alloc ?_ _ | with_reducible refine Q.drew ?_ | with_reducible refine Q.drewN ?_ _ | with_reducible refine Q.call ?_ (by assumption)))).mono ?_); rintro e w3 ⟨sv3, rfl, ho3, hb3⟩; obtain ⟨b3, d3, rfl, -⟩ := own_slice ho3) | ((with_reducible refine (U1 _ (by repeat' (first | with_reducible exact Below.refl _ _ | with_reducible assumption | with_reducible refine Q.alloc ?_ _ | with_reducible refine Q.drew ?_ | with_reducible refine Q.drewN ?_ _ | with_reducible refine Q.call ?_ (by assumption)))).mono ?_); rintro e w4 ⟨sv4, rfl, ho4, hb4⟩; obtain ⟨b4, d4, rfl, -⟩ := own_slice ho4))
    | (go_at_call 17; first | ((with_reducible refine (O _ (by repeat' (first | with_reducible exact Below.refl _ _ | with_reducible assumption | with_reducible refine Q.alloc ?_ _ | with_reducible refine Q.drew ?_ | with_reducible refine Q.drewN ?_ _ | with_reducible refine Q.call ?_ (by assumption)))).mono ?_); rintro e w5 ⟨sv5, rfl, ho5, hb5⟩; obtain ⟨b5, d5, rfl, -⟩ := own_slice ho5))
    | (go_at_call 18; first | ((with_reducible refine (K _ (by repeat' (first | with_reducible exact Below.refl _ _ | with_reducible assumption | with_reducible refine Q.alloc ?_ _ | with_reducible refine Q.drew ?_ | with_reducible refine Q.drewN ?_ _ | with_reducible refine Q.call ?_ (by assumption)))).mono ?_); rintro e w6 ⟨sv6, rfl, ho6, hb6⟩; obtain ⟨b6, d6, rfl, -⟩ := own_slice ho6))
    | (go_at_call 19; first | ((with_reducible refine (L _ (by repeat' (first | with_reducible exact Below.refl _ _ | with_reducible assumption | with_reducible refine Q.alloc ?_ _ | with_reducible refine Q.drew ?_ | with_reducible refine Q.drewN ?_ _ | with_reducible refine Q.call ?_ (by assumption)))).mono ?_); rintro e w7 ⟨sv7, rfl, ho7, hb7⟩; obtain ⟨b7, d7, rfl, -⟩ := own_slice ho7)))
  clear ST U0 U1 O K L x0 x1
  have HA := Q.alloc (Below.refl w7.heap.size w7) (.cells #[.slice b3 s.pub.length d3, .slice b4 s.sec.length d4, .slice b5 s.out.length d5, .slice b6 s.kept.length d6, .slice b7 s.log.length d7] 64)
  have B7 := HA
  have B6 := Q.call hb7 HA
  have B5 := Q.call hb6 B6
  have B4 := Q.call hb5 B5
  have B3 := Q.call hb4 B4
  have z3 : w.heap.size ≤ w3.heap.size := by have := hb3.size; simp only [World.size_drew] at this; omega
  have z4 : w3.heap.size ≤ w4.heap.size := hb4.size
  have z5 : w4.heap.size ≤ w5.heap.size := hb5.size
  have z6 : w5.heap.size ≤ w6.heap.size := hb6.size
  have z7 : w6.heap.size ≤ w7.heap.size := hb7.size
  have k3 := own_keepsN (T := 5) ho3 rfl B3
  have k4 := own_keepsN (T := 5) ho4 rfl B4
  have k5 := own_keepsO (T := 5) ho5 rfl B5
  have k6 := own_keepsO (T := 23) ho6 rfl B6
  have k7 := own_keepsO (T := 58) ho7 rfl B7
  simp only [World.size_drew] at k3 k4 k5 k6 k7
  have HB := Lib.hid (Q.call (Q.call (Q.drew (Below.refl w.heap.size w)) hb3) B3)
  have HR := Lib.hid (show ∀ (col : Nat → Nat) (c : Nat), IsP (w7.alloc (.cells #[.slice b3 s.pub.length d3, .slice b4 s.sec.length d4, .slice b5 s.out.length d5, .slice b6 s.kept.length d6, .slice b7 s.log.length d7] 64)) (paint (paint col w.heap.size 0) w4.heap.size c) c w7.heap.size ⟨.slice b3 s.pub.length d3, .slice b4 s.sec.length d4, .slice b5 s.out.length d5, .slice b6 s.kept.length d6, .slice b7 s.log.length d7⟩ s from fun col c =>
    ⟨Blk.new w7 64 #[.slice b3 s.pub.length d3, .slice b4 s.sec.length d4, .slice b5 s.out.length d5, .slice b6 s.kept.length d6, .slice b7 s.log.length d7], paint_new (by omega),
      k3.keep (fun b _ hR => ⟨rfl, by rw [paint_old (by omega), paint_new (by omega)]⟩) (Nat.le_refl _), k4.keep (fun b _ hR => ⟨rfl, by rw [paint_old (by omega), paint_new (by omega)]⟩) (Nat.le_refl _),
      k5.keep (fun b _ _ hR => ⟨rfl, paint_new (by omega)⟩) (Nat.le_refl _), k6.keep (fun b _ _ hR => ⟨rfl, paint_new (by omega)⟩) (Nat.le_refl _), k7.keep (fun b _ _ hR => ⟨rfl, paint_new (by omega)⟩) (Nat.le_refl _)⟩)
  have HZ := Lib.hid (show w.heap.size ≤ w4.heap.size by omega)
  clear HA B7 B6 B5 B4 B3 k3 k4 k5 k6 k7 ho3 ho4 ho5 ho6 ho7 hb3 hb4 hb5 hb6 hb7 z3 z4 z5 z6 z7
  go_wp2
  go_returns
  exact ⟨_, _, rfl, HB.out, _, HZ.out, HR.out⟩

/-- A slice all of whose cells are F's. -/
def RdF {α : Type} {n : Nat} (E : Enc α n) (F : Nat → Nat → Prop) (w : World) (v : Value) (l : List α) : Prop :=
  ∃ a cap, v = .slice a l.length cap ∧ l.length ≤ cap ∧ (a = none → cap = 0) ∧ (0 < l.length → ∃ b off, a = some ⟨b, off, none⟩ ∧ b < w.heap.size ∧ ∀ k x, l[k]? = some x → ∀ j u, (E.enc x)[j]? = some u → F b (off + k * n + j) ∧ w.cell? ⟨b, off + k * n + j, none⟩ = some u)
theorem RdF.rd {α : Type} {n : Nat} {E : Enc α n} {F : Nat → Nat → Prop} {w : World} {v : Value} {l : List α} (h : RdF E F w v l) : Rd E w (fun _ => True) v l := by
  obtain ⟨a, cap, rfl, hc, hn, hr⟩ := h
  refine ⟨a, cap, rfl, hc, hn, fun hl => ?_⟩
  obtain ⟨b, off, rfl, hb, hcell⟩ := hr hl
  exact ⟨b, off, rfl, hb, trivial, fun k x hx j u hu => (hcell k x hx j u hu).2⟩
theorem RdF.keep {α : Type} {n : Nat} {E : Enc α n} {F : Nat → Nat → Prop} {w w' : World} {v : Value} {l : List α} (h : RdF E F w v l) (hk : KeepsF F w w') (hs : w.heap.size ≤ w'.heap.size) : RdF E F w' v l := by
  obtain ⟨a, cap, rfl, hc, hn, hr⟩ := h
  refine ⟨a, cap, rfl, hc, hn, fun hl => ?_⟩
  obtain ⟨b, off, rfl, hb, hcell⟩ := hr hl
  refine ⟨b, off, rfl, by omega, fun k x hx j u hu => ?_⟩
  obtain ⟨h1, h2⟩ := hcell k x hx j u hu
  exact ⟨h1, (hk _ _ h1).trans h2⟩
theorem Ow.rdF {α : Type} {n : Nat} {E : Enc α n} {T : TypeId} {F : Nat → Nat → Prop} {w : World} {S : Nat → Prop} {v : Value} {l : List α} (h : Ow E T w S v l) (hF : ∀ b o, v.ownBlock = some b → o < l.length * n → F b o) : RdF E F w v l := by
  obtain ⟨a, cap, e, hc, hn, hr⟩ := h.rd
  refine ⟨a, cap, e, hc, hn, fun hl => ?_⟩
  obtain ⟨b, off, rfl, hb, _, hcell⟩ := hr hl
  refine ⟨b, off, rfl, hb, fun k x hx j u hu => ⟨?_, hcell k x hx j u hu⟩⟩
  have hoff : off = 0 := by
    rcases h.1.2 with ⟨h1, _⟩ | ⟨g, cap', cur, h1, _⟩
    · rw [e] at h1; cases h1
    · rw [e] at h1; cases h1; rfl
  subst hoff
  have hk := (List.getElem?_eq_some_iff.1 hx).1
  have hj : j < n := by have := (List.getElem?_eq_some_iff.1 hu).1; rw [E.len] at this; exact this
  refine hF b _ (by rw [e]; rfl) ?_
  have : (k + 1) * n ≤ l.length * n := Nat.mul_le_mul_right n hk
  rw [Nat.succ_mul] at this
  omega
/-- A copy of the document's ports. -/
structure KeptR (F : Nat → Nat → Prop) (w : World) (col : Nat → Nat) (g : Nat) (v : RV) (s : PS) : Prop where
  blk : Blk w g 34 v.cells
  mine : col g = 9
  pub : Rd EU w (fun b => col b = 0) v.pub s.pub
  sec : Rd EU w (fun b => col b = 0) v.sec s.sec
  out : RdF EU F w v.out s.out
  kept : RdF EB F w v.kept s.kept
  cyc : RdF EI F w v.cyc (s.log.map (·.1))
  told : RdF EU F w v.told (s.log.map (·.2))
theorem KeptR.rd {F : Nat → Nat → Prop} {w : World} {col : Nat → Nat} {g : Nat} {v : RV} {s : PS} (h : KeptR F w col g v s) : RdR w g v s :=
  ⟨h.blk, h.pub.keep (fun _ _ _ => ⟨rfl, trivial⟩) (Nat.le_refl _), h.sec.keep (fun _ _ _ => ⟨rfl, trivial⟩) (Nat.le_refl _), h.out.rd, h.kept.rd, h.cyc.rd, h.told.rd⟩
theorem KeptR.keep {F : Nat → Nat → Prop} {S : Nat → Prop} {w w' : World} {col col' : Nat → Nat} {g : Nat} {v : RV} {s : PS} (h : KeptR F w col g v s) (hC : Chg S w w') (hS : ∀ b, b < w.heap.size → col b = 0 ∨ col b = 9 → ¬ S b) (hk : KeepsF F w w') (hc : Same w.heap.size col col') : KeptR F w' col' g v s :=
  ⟨(hC.block g h.blk.lt (hS g h.blk.lt (.inr h.mine))).trans h.blk, (hc g h.blk.lt).trans h.mine,
    h.pub.keep (fun b hb hR => ⟨hC.block b hb (hS b hb (.inl hR)), (hc b hb).trans hR⟩) hC.size, h.sec.keep (fun b hb hR => ⟨hC.block b hb (hS b hb (.inl hR)), (hc b hb).trans hR⟩) hC.size,
    h.out.keep hk hC.size, h.kept.keep hk hC.size, h.cyc.keep hk hC.size, h.told.keep hk hC.size⟩
/-- The cells of the document's ports' four rows. -/
def rowsF (v : RV) (s : PS) : Nat → Nat → Prop := fun b o => (v.out.ownBlock = some b ∧ o < s.out.length) ∨ (v.kept.ownBlock = some b ∧ o < s.kept.length * 2) ∨ (v.cyc.ownBlock = some b ∧ o < s.log.length) ∨ (v.told.ownBlock = some b ∧ o < s.log.length)
theorem IsR.frz {w : World} {col : Nat → Nat} {x : Nat} {v : RV} {s : PS} (h : IsR w col 2 x v s) : Frz (rowsF v s) w col x v s := by
  have n2 : ∀ b, col b = 2 → col b ≠ 1 := fun b hb e => by omega
  rintro b o (⟨hv, ho⟩ | ⟨hv, ho⟩ | ⟨hv, ho⟩ | ⟨hv, ho⟩)
  · refine ⟨(own_lt h.out.1 hv).1, (fun e => ?_), n2 b (h.out.2 b hv), fun _ => ho, fun e => (own_ne2 h.out.1 h.kept.1 (by decide) b hv e).elim, fun e => (own_ne2 h.out.1 h.cyc.1 (by decide) b hv e).elim, fun e => (h.apart b hv e).elim⟩
    subst e; exact own_ne h.out.1 h.blk (by decide) hv
  · refine ⟨(own_lt h.kept.1 hv).1, (fun e => ?_), n2 b (h.kept.2 b hv), fun e => (own_ne2 h.kept.1 h.out.1 (by decide) b hv e).elim, fun _ => ho, fun e => (own_ne2 h.kept.1 h.cyc.1 (by decide) b hv e).elim, fun e => (own_ne2 h.kept.1 h.told.1 (by decide) b hv e).elim⟩
    subst e; exact own_ne h.kept.1 h.blk (by decide) hv
  · refine ⟨(own_lt h.cyc.1 hv).1, (fun e => ?_), n2 b (h.cyc.2 b hv), fun e => (own_ne2 h.cyc.1 h.out.1 (by decide) b hv e).elim, fun e => (own_ne2 h.cyc.1 h.kept.1 (by decide) b hv e).elim, fun _ => ho, fun e => (own_ne2 h.cyc.1 h.told.1 (by decide) b hv e).elim⟩
    subst e; exact own_ne h.cyc.1 h.blk (by decide) hv
  · refine ⟨(own_lt h.told.1 hv).1, (fun e => ?_), n2 b (h.told.2 b hv), fun e => (h.apart b e hv).elim, fun e => (own_ne2 h.told.1 h.kept.1 (by decide) b hv e).elim, fun e => (own_ne2 h.told.1 h.cyc.1 (by decide) b hv e).elim, fun _ => ho⟩
    subst e; exact own_ne h.told.1 h.blk (by decide) hv
/-- The copy, made where the ports stand. -/
theorem IsR.copy {w : World} {col : Nat → Nat} {x k : Nat} {v : RV} {s : PS} (h : IsR w col 2 x v s) (hk : Blk w k 34 v.cells) (hc : col k = 9) : KeptR (rowsF v s) w col k v s :=
  ⟨hk, hc, h.pub, h.sec, h.out.rdF (fun b o hb ho => .inl ⟨hb, by rwa [Nat.mul_one] at ho⟩), h.kept.rdF (fun b o hb ho => .inr (.inl ⟨hb, ho⟩)),
    h.cyc.rdF (fun b o hb ho => .inr (.inr (.inl ⟨hb, by rwa [Nat.mul_one, List.length_map] at ho⟩))), h.told.rdF (fun b o hb ho => .inr (.inr (.inr ⟨hb, by rwa [Nat.mul_one, List.length_map] at ho⟩)))⟩

/-- What a round begins with. -/
def PlaySt (w0 : World) (g x K : Nat) (at_ : Int) (k : Nat) (v : Value) (s : PS) (W : World) : Prop :=
  ∃ F col, BothF F W col g x s ∧ (∀ b, b < w0.heap.size → col b = 0) ∧ Below w0.heap.size w0 W ∧
    ((v = .pointer none ∧ F = (fun _ _ => False) ∧ (at_ < 0 ∨ (k : Int) ≤ at_) ∧ col K = 9 ∧ w0.heap.size ≤ K ∧ Blk W K 34 #[.slice none 0 0, .slice none 0 0, .slice none 0 0, .slice none 0 0, .slice none 0 0, .slice none 0 0]) ∨
      (∃ h c0 k0 s0, v = .pointer (some ⟨h, 0, none⟩) ∧ at_ < (k : Int) ∧ s0.ok ∧ IsP W col 8 h c0 s0 ∧ KeptR F W col K k0 s0))
theorem PlaySt.B {w0 W : World} {g x K k : Nat} {at_ : Int} {v : Value} {s : PS} (h : PlaySt w0 g x K at_ k v s W) : Below w0.heap.size w0 W := by
  obtain ⟨F, col, -, -, hb, -⟩ := h
  exact hb
theorem PlaySt.cases {w0 W : World} {g x K k : Nat} {at_ : Int} {v : Value} {s : PS} (h : PlaySt w0 g x K at_ k v s W) : (v = .pointer none ∧ (at_ < 0 ∨ (k : Int) ≤ at_)) ∨ ∃ h : Nat, v = .pointer (some ⟨h, 0, none⟩) ∧ at_ < (k : Int) := by
  obtain ⟨F, col, -, -, -, hx⟩ := h
  rcases hx with ⟨h1, h2, h3, -⟩ | ⟨h, c0, k0, s0, h1, h2, -⟩
  · exact .inl ⟨h1, h3⟩
  · exact .inr ⟨h, h1, h2⟩
theorem IsP.chg {S : Nat → Prop} {w w' : World} {col col' : Nat → Nat} {c g : Nat} {v : PV} {s : PS} (h : IsP w col c g v s) (hC : Chg S w w') (hS : ∀ b, b < w.heap.size → col b = 0 ∨ col b = c → ¬ S b) (hc : Same w.heap.size col col') : IsP w' col' c g v s :=
  h.keep (fun b hb h1 => ⟨hC.block b hb (hS b hb h1), hc b hb⟩) hC.size
theorem IsR.chg {S : Nat → Prop} {w w' : World} {col col' : Nat → Nat} {c g : Nat} {v : RV} {s : PS} (h : IsR w col c g v s) (hC : Chg S w w') (hS : ∀ b, b < w.heap.size → col b = 0 ∨ col b = c → ¬ S b) (hc : Same w.heap.size col col') : IsR w' col' c g v s :=
  h.keep (fun b hb h1 => ⟨hC.block b hb (hS b hb h1), hc b hb⟩) hC.size
/-- Behind what only makes new blocks. -/
theorem PlaySt.call {w0 W W' : World} {g x K k : Nat} {at_ : Int} {v : Value} {s : PS} (h : PlaySt w0 g x K at_ k v s W) (hb : Below W.heap.size W W') : PlaySt w0 g x K at_ k v s W' := by
  obtain ⟨F, col, ⟨hok, ⟨pv, hp⟩, u, hr, hf⟩, hc, hB, hx⟩ := h
  obtain ⟨f1, k1⟩ := hf.below hb (col' := col) (fun _ _ => rfl)
  refine ⟨F, col, ⟨hok, ⟨pv, hp.call hb⟩, u, hr.call hb, f1⟩, hc, Q.call hB hb, ?_⟩
  rcases hx with ⟨h1, h2, h3, h4, h5, h7⟩ | ⟨h, c0, k0, s0, h1, h2, h3, h4, h5⟩
  · exact .inl ⟨h1, h2, h3, h4, h5, h7.call hb⟩
  · exact .inr ⟨h, c0, k0, s0, h1, h2, h3, h4.call hb, h5.keep (S := fun _ => False) (.of hb) (fun _ _ _ h => h) k1 (fun _ _ => rfl)⟩
theorem PlaySt.same {w0 W : World} {g x K k : Nat} {at_ : Int} {v : Value} {s : PS} (h : PlaySt w0 g x K at_ k v s W) :
    Calls Try.prog 10 #[.pointer (some ⟨g, 0, none⟩), .pointer (some ⟨x, 0, none⟩)] W fun e w' => e = .returned (.bool true) ∧ Below W.heap.size W w' := by
  obtain ⟨F, col, ⟨hok, hp, u, hr, hf⟩, hc, hB, hx⟩ := h
  exact alike_calls W col g x s ⟨hok, hp, u, hr⟩
theorem PlaySt.does {w0 W : World} {g x K k : Nat} {at_ : Int} {v : Value} {s : PS} (h : PlaySt w0 g x K at_ k v s W) (k' : Nat) (hkk : k ≤ k') (hk : v = .pointer none → at_ < 0 ∨ (k' : Int) ≤ at_) (o : POp) (ht : 0 ≤ o.t) :
    Calls Try.prog 9 #[.pointer (some ⟨g, 0, none⟩), .pointer (some ⟨x, 0, none⟩), .agg o.cells] W fun e w' => e = .returned (.bool true) ∧ PlaySt w0 g x K at_ k' v (s.step o) w' := by
  obtain ⟨F, col, hbo, hc, hB, hx⟩ := h
  refine (does_callsF F W col g x s o ht hbo).mono fun e w' ⟨he, col', hs, hb', hch, hkp⟩ => ⟨he, F, col', hb', fun b hlt => ?_, ?_, ?_⟩
  · rw [hs b (Nat.lt_of_lt_of_le hlt hB.size)]
    exact hc b hlt
  · exact ⟨hch.os.trans hB.os, hch.tape.trans hB.tape, hch.output.trans hB.output, Nat.le_trans hB.size hch.size, fun k hk => (hch.block k (Nat.lt_of_lt_of_le hk hB.size) (by rintro (h | h) <;> (have := hc k hk; omega))).trans (hB.block k hk)⟩
  · rcases hx with ⟨h1, h2, h3, h4, h5, h7⟩ | ⟨h, c0, k0, s0, h1, h2, h3, h4, h5⟩
    · refine .inl ⟨h1, h2, ?_, (hs K h7.lt).trans h4, h5, (hch.block K h7.lt (by rintro (h | h) <;> omega)).trans h7⟩
      exact hk h1
    · refine .inr ⟨h, c0, k0, s0, h1, by omega, h3, h4.chg hch (fun b _ h8 h9 => ?_) hs, h5.keep hch (fun b _ h8 h9 => ?_) hkp hs⟩
      · rcases h8 with h8 | h8 <;> rcases h9 with h9 | h9 <;> omega
      · rcases h8 with h8 | h8 <;> rcases h9 with h9 | h9 <;> omega
/-- The end: the clone and the copy. -/
theorem PlaySt.last {w0 W : World} {g x K k h : Nat} {at_ : Int} {s : PS} (hst : PlaySt w0 g x K at_ k (.pointer (some ⟨h, 0, none⟩)) s W) :
    Calls Try.prog 10 #[.pointer (some ⟨h, 0, none⟩), .pointer (some ⟨K, 0, none⟩)] W fun e w' => e = .returned (.bool true) ∧ Below W.heap.size W w' := by
  obtain ⟨F, col, -, hc, hB, hx⟩ := hst
  rcases hx with ⟨h1, -⟩ | ⟨h', c0, k0, s0, h1, h2, h3, h4, h5⟩
  · cases h1
  · cases h1
    exact alike_rd W h K s0 c0 k0 h3 h4.rdP h5.rd
/-- The round in which the clone is made: Clone. -/
def CloneP (w0 : World) (g x K k : Nat) (at_ : Int) (s : PS) (W w' : World) (h : Nat) (u : Array Value) : Prop :=
  Below W.heap.size W w' ∧ Blk w' x 34 u ∧ x ≠ K ∧ Blk w' K 34 #[.slice none 0 0, .slice none 0 0, .slice none 0 0, .slice none 0 0, .slice none 0 0, .slice none 0 0] ∧ PlaySt w0 g x K at_ (k + 1) (.pointer (some ⟨h, 0, none⟩)) s (w'.setRow K u)
theorem PlaySt.clone {w0 W : World} {g x K k : Nat} {at_ : Int} {s : PS} (hst : PlaySt w0 g x K at_ k (.pointer none) s W) (hat : at_ = (k : Int)) :
    Calls Try.prog 12 #[.pointer (some ⟨g, 0, none⟩)] W fun e w' => ∃ h a0 a1 a2 a3 a4 a5 c0 c1 c2 c3 c4 c5, e = .returned (.pointer (some ⟨h, 0, none⟩)) ∧
      CloneP w0 g x K k at_ s W w' h #[.slice a0 s.pub.length c0, .slice a1 s.sec.length c1, .slice a2 s.out.length c2, .slice a3 s.kept.length c3, .slice a4 s.log.length c4, .slice a5 s.log.length c5] := by
  obtain ⟨F, col, ⟨hok, ⟨pv, hp⟩, u, hr, hf⟩, hc, hB, hx⟩ := hst
  rcases hx with ⟨_, rfl, h3, h4, h5, h7⟩ | ⟨_, _, _, _, h1, _⟩
  · obtain ⟨a0, c0, e0⟩ := hr.pub.len
    obtain ⟨a1, c1, e1⟩ := hr.sec.len
    obtain ⟨a2, c2, e2⟩ := hr.out.rd.len
    obtain ⟨a3, c3, e3⟩ := hr.kept.rd.len
    obtain ⟨a4, c4, e4⟩ := hr.cyc.rd.len
    obtain ⟨a5, c5, e5⟩ := hr.told.rd.len
    rw [List.length_map] at e4 e5
    have eu : u.cells = #[.slice a0 s.pub.length c0, .slice a1 s.sec.length c1, .slice a2 s.out.length c2, .slice a3 s.kept.length c3, .slice a4 s.log.length c4, .slice a5 s.log.length c5] := by
      unfold RV.cells
      rw [e0, e1, e2, e3, e4, e5]
    refine (clone_own W g pv s hp.rdP hok).mono fun e w' ⟨h, cu, he, hb, m, hm, hP⟩ => ⟨h, a0, a1, a2, a3, a4, a5, c0, c1, c2, c3, c4, c5, he, ?_⟩
    rw [← eu]
    have hbK := h7.call hb
    refine ⟨hb, hr.blk.call hb, ?_, ?_, ?_⟩
    · rintro rfl
      have := hr.mine
      omega
    · exact hbK
    · have hxk : x ≠ K := by rintro rfl; have := hr.mine; omega
      have hsame : Same W.heap.size col (paint (paint col W.heap.size 0) m 8) := fun b hb' => by rw [paint_old (by omega), paint_old hb']
      have hC : Chg (· = K) w' (w'.setRow K u.cells) := Chg.setRow _ _ _
      have hcK : paint (paint col W.heap.size 0) m 8 K = 9 := (hsame K h7.lt).trans h4
      have hp' : IsP w' (paint (paint col W.heap.size 0) m 8) 1 g pv s := hp.keep (fun b hb' _ => ⟨hb.block b hb', hsame b hb'⟩) hb.size
      have hr' : IsR w' (paint (paint col W.heap.size 0) m 8) 2 x u s := hr.keep (fun b hb' _ => ⟨hb.block b hb', hsame b hb'⟩) hb.size
      have hp2 := hp'.chg hC (fun b _ h8 e => by subst e; omega) (fun _ _ => rfl)
      have hr2 := hr'.chg hC (fun b _ h8 e => by subst e; omega) (fun _ _ => rfl)
      have hK2 : Blk (w'.setRow K u.cells) K 34 u.cells := hbK.setRow _
      refine ⟨rowsF u s, paint (paint col W.heap.size 0) m 8, ⟨hok, ⟨pv, hp2⟩, u, hr2, hr2.frz⟩, fun b hb' => ?_, ?_, .inr ⟨h, cu, u, s, rfl, by omega, hok, ?_, hr2.copy hK2 hcK⟩⟩
      · rw [hsame b (Nat.lt_of_lt_of_le hb' hB.size)]
        exact hc b hb'
      · exact Chg.below hC (Q.call hB hb) (Nat.le_trans hB.size hb.size) (fun b e => by subst e; exact h5)
      · refine IsP.keep (hP col 8) (fun b hb' h8 => ⟨hC.block b hb' (fun e => ?_), rfl⟩) hC.size
        subst e
        omega
  · cases h1
theorem play_new {w0 W : World} {g x : Nat} {s : PS} (h : Mid w0 W g x s) (at_ : Int) (t : TypeId) (ht : t = 34) : PlaySt w0 g x W.heap.size at_ 0 (.pointer none) s (W.alloc (.cells #[.slice none 0 0, .slice none 0 0, .slice none 0 0, .slice none 0 0, .slice none 0 0, .slice none 0 0] t)) := by
  subst ht
  obtain ⟨col, ⟨hok, ⟨v, hp⟩, u, hr⟩, hc, hB⟩ := h
  have hA : Below W.heap.size W (W.alloc (.cells #[.slice none 0 0, .slice none 0 0, .slice none 0 0, .slice none 0 0, .slice none 0 0, .slice none 0 0] 34)) := Q.alloc (Below.refl _ _) _
  refine ⟨fun _ _ => False, paint col W.heap.size 9, ⟨hok, ⟨v, hp.new hA 9⟩, u, hr.new hA 9, fun b o hF => hF.elim⟩, fun b hb => ?_, Q.call hB hA, .inl ⟨rfl, rfl, by omega, paint_new (Nat.le_refl _), hB.size, Blk.new _ _ _⟩⟩
  rw [paint_old (Nat.lt_of_lt_of_le hb hB.size)]
  exact hc b hb
end Go.Proofs.Yteciicojnodibaa
