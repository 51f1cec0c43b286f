/- The walk of does: a read; and does as a whole. -/
import Derived.Test.YtjjebkgljgfecaaDoorRef6
namespace Go.Proofs.YtjjebkgljgfecaaDoor
set_option linter.unusedVariables false
set_option linter.unusedSimpArgs false
open Go.RowKit

set_option maxRecDepth 100000 in
set_option maxHeartbeats 3200000 in
theorem does3 (B g x : Nat) (sv : Value) (f : Nat → Int × Int) (l : List PD) (ask at_ to v t : Int) (a : Option Addr) (n ca : Nat) (w : World) (hk : KIN w) (hm : Mem w g f) (hx : IsRef w B x sv l) (hl : l.length ≤ 1000000) (hR : Rel f l)
    (h0 : ask ≠ 0) (h1 : ask ≠ 1) (h2 : ask ≠ 2) :
    Calls Tryd.prog 15 #[.pointer (some ⟨g, 0, none⟩), .pointer (some ⟨x, 0, none⟩), .agg #[.int .i64 ask, .int .i64 at_, .int .i64 to, .int .u8 v, .int .u8 t, .slice a n ca]] w fun e w' => e = .returned (.bool true) ∧ Below w.heap.size w w' := by
  have e0 : (ask == 0) = false := by simpa using h0
  have e1 : (ask == 1) = false := by simpa using h1
  have e2 : (ask == 2) = false := by simpa using h2
  have CX := fun V h => refRead_calls B x sv l at_ V h hl
  have CM : ∀ V, KIN V → Mem V g f → Calls Tryd.prog 10 #[.pointer (some ⟨g, 0, none⟩), .int .i64 at_] V fun e w' => e = .returned (.tuple #[.agg #[.int .u8 (refRead l at_).1, .int .u8 (refRead l at_).2], .int .i64 (refErr at_)]) ∧ Below V.heap.size V w' := fun V h h2 => by
    rw [← read_same hR, ← err_same]
    exact read_calls g f at_ V h h2
  generalize refRead l at_ = r at *
  generalize refErr at_ = c at *
  have HM := Lib.hid hm
  have HX := Lib.hid hx
  clear hm hx hR
  go_enter Tryd.func15, Tryd.ntmps15
  go_wp2_with fail
  have b0 := Q.alloc (Below.refl _ w) (.cells #[.int .i64 ask, .int .i64 at_, .int .i64 to, .int .u8 v, .int .u8 t, .slice a n ca] 43)
  (with_reducible refine (CM _ (hk.q b0) (HM.out.call b0)).mono ?_)
  rintro e w1 ⟨rfl, hb1⟩
  have k1 := (Blk.new w 43 #[.int .i64 ask, .int .i64 at_, .int .i64 to, .int .u8 v, .int .u8 t, .slice a n ca]).call hb1
  have c1 := k1.cell 1
  have l1 := k1.lt
  have b1 := Q.call b0 hb1
  clear CM b0
  go_wp2_with fail
  (with_reducible refine (CX _ (HX.out.call (Q.alloc b1 _))).mono ?_)
  rintro e w2 ⟨rfl, hb2⟩
  have k2 := (Blk.new w1 24 #[.int .u8 r.1, .int .u8 r.2]).call hb2
  have d0 := k2.cell 0
  have d1 := k2.cell 1
  have l2 := k2.lt
  have b2 := Q.call (Q.alloc b1 _) hb2
  clear CX
  go_wp2
  go_returns
  exact ⟨rfl, Q.alloc b2 _⟩

/-- One call. -/
structure OpD where
  ask : Int
  at_ : Int
  to : Int
  v : Int
  t : Int
  a : Option Addr
  n : Nat
  ca : Nat
  bs : List Int
@[reducible] def OpD.cells (o : OpD) : Array Value := #[.int .i64 o.ask, .int .i64 o.at_, .int .i64 o.to, .int .u8 o.v, .int .u8 o.t, .slice o.a o.n o.ca]
/-- A call's bytes lie below B. -/
def OpD.lies (w : World) (B : Nat) (o : OpD) : Prop := ReadsU w B o.a o.n o.bs
/-- A call that is not too much. -/
def OpD.small (o : OpD) : Prop := o.n ≤ 40 ∧ ¬ (o.ask = 1 ∧ isOne o.at_ o.to = true ∧ 60 < o.to - o.at_)
def memStep (f : Nat → Int × Int) (o : OpD) : Nat → Int × Int :=
  if o.ask = 0 then (if loadErr o.at_ o.n = 0 then loaded f o.at_ o.bs o.n else f)
  else if o.ask = 1 then (if spanOf o.at_ o.to = 0 then labelled f o.at_ o.t (o.to - o.at_ + 1).toNat else f)
  else if o.ask = 2 then wrote f o.at_ (o.v, o.t) else f
def refStep (l : List PD) (o : OpD) : List PD :=
  if o.ask = 0 then (if refLoadErr o.at_ o.n = 0 then refLoaded l o.at_ o.bs o.n else l)
  else if o.ask = 1 then (if refLabelErr o.at_ o.to = 0 then refLabelled l o.at_ o.t (o.to - o.at_ + 1).toNat else l)
  else if o.ask = 2 then (if isRAM o.at_ = true then l ++ [⟨o.at_, o.v, o.t⟩] else l) else l
theorem refStep_length (l : List PD) (o : OpD) (h : o.small) : (refStep l o).length ≤ l.length + 61 := by
  unfold refStep
  have h1 := h.1
  split
  · split
    · rw [refLoaded_length]; omega
    · omega
  · split
    · rename_i hask
      split
      · rename_i he
        rw [refLabelled_length]
        rw [← span_same, span_iff] at he
        have := h.2
        have : ¬ 60 < o.to - o.at_ := fun hc => this ⟨hask, he.2, hc⟩
        omega
      · omega
    · split
      · split
        · simp
        · omega
      · omega
theorem rel_step {f : Nat → Int × Int} {l : List PD} (h : Rel f l) (o : OpD) (hs : o.small) : Rel (memStep f o) (refStep l o) := by
  unfold memStep refStep
  split
  · rw [load_same _ _ (by have := hs.1; omega)]
    split
    · rename_i he
      refine rel_loaded h _ _ ?_ _
      rw [← load_same _ _ (by have := hs.1; omega)] at he
      have hl : loadsOf o.at_ = true := by
        unfold loadErr at he
        split at he
        · rename_i hc; exact hc.1
        · exact absurd he (by decide)
      rw [loads_iff, isRAM_iff, isROM_iff] at hl
      omega
    · exact h
  · split
    · rw [span_same]
      split
      · rename_i he
        rw [← span_same, span_iff] at he
        have h1 := (isOne_iff _ _).1 he.2
        refine rel_labelled h _ _ (o.to - o.at_ + 1).toNat (fun k hk => ?_) _ (Nat.le_refl _)
        rw [isRAM_iff, isROM_iff]
        omega
      · exact h
    · split
      · exact rel_wrote h _ _ _
      · exact h

theorem does_calls (B g x : Nat) (sv : Value) (f : Nat → Int × Int) (l : List PD) (o : OpD) (w : World) (hk : KIN w) (hm : Mem w g f) (hx : IsRef w B x sv l) (hB0 : 0 < B) (hBw : B ≤ w.heap.size) (hgB : B ≤ g) (hgx : ¬ RefF x sv g)
    (hl : l.length ≤ 10000) (hR : Rel f l) (hs : o.small) (ho : o.lies w B) :
    Calls Tryd.prog 15 #[.pointer (some ⟨g, 0, none⟩), .pointer (some ⟨x, 0, none⟩), .agg o.cells] w fun e w' => e = .returned (.bool true) ∧ ∃ sv', Mem w' g (memStep f o) ∧ IsRef w' B x sv' (refStep l o) ∧ Chg (BothF g x sv) w w' ∧ (∀ b, RefF x sv' b → RefF x sv b ∨ w.heap.size ≤ b) := by
  have hkV : ∀ V, Below B w V → KIN V := fun V h => hk.below h hB0
  have hoV : ∀ V, Below B w V → ReadsU V B o.a o.n o.bs := fun V h => ho.keep (fun b off hb => h.cell (p := ⟨b, off, none⟩) hb)
  obtain ⟨ask, at_, to, v, t, a, n, ca, bs⟩ := o
  simp only at hoV
  have hn := hs.1
  simp only at hn
  obtain rfl : n = bs.length := (hoV w (Below.refl _ _)).1.symm
  by_cases h0 : ask = 0
  · subst h0
    have := does0 B g x sv f (memStep f ⟨0, at_, to, v, t, a, bs.length, ca, bs⟩) l (refStep l ⟨0, at_, to, v, t, a, bs.length, ca, bs⟩) at_ to v t (refLoadErr at_ bs.length) a bs.length ca w hm hx hgB hgx
      (fun V hV hmV => by
        unfold memStep
        rw [if_pos rfl, ← load_same _ _ (by omega)]
        exact load_calls g f at_ B a ca bs V (hkV V hV) hmV (hoV V hV) hgB)
      (fun V hV hxV => by
        unfold refStep
        rw [if_pos rfl]
        exact refLoad_calls B x sv l at_ a ca bs V hxV (Nat.le_trans (by exact hBw) hV.size) (by omega) (hoV V hV))
    exact this
  · by_cases h1 : ask = 1
    · subst h1
      have := does1 B g x sv f (memStep f ⟨1, at_, to, v, t, a, bs.length, ca, bs⟩) l (refStep l ⟨1, at_, to, v, t, a, bs.length, ca, bs⟩) at_ to v t (refLabelErr at_ to) a bs.length ca w hm hx hgB hgx
        (fun V hV hmV => by
          unfold memStep
          rw [if_neg (show ¬ (1 : Int) = 0 by decide), if_pos rfl, ← span_same]
          exact label_calls g f at_ to t V (hkV V hV) hmV)
        (fun V hV hxV => by
          unfold refStep
          rw [if_neg (show ¬ (1 : Int) = 0 by decide), if_pos rfl]
          refine refLabel_calls B x sv l at_ to t V hxV (Nat.le_trans (by exact hBw) hV.size) (fun he => ?_)
          rw [← span_same, span_iff] at he
          have : ¬ 60 < to - at_ := fun hc => hs.2 ⟨rfl, he.2, hc⟩
          omega)
      exact this
    · by_cases h2 : ask = 2
      · subst h2
        have := does2 B g x sv f (memStep f ⟨2, at_, to, v, t, a, bs.length, ca, bs⟩) l (refStep l ⟨2, at_, to, v, t, a, bs.length, ca, bs⟩) at_ to v t (refErr at_) a bs.length ca w hm hx hgB hgx
          (fun V hV hmV => by
            unfold memStep
            rw [if_neg (show ¬ (2 : Int) = 0 by decide), if_neg (show ¬ (2 : Int) = 1 by decide), if_pos rfl, ← err_same]
            exact write_calls g f at_ (v, t) V (hkV V hV) hmV)
          (fun V hV hxV => by
            unfold refStep
            rw [if_neg (show ¬ (2 : Int) = 0 by decide), if_neg (show ¬ (2 : Int) = 1 by decide), if_pos rfl]
            exact refWrite_calls B x sv l at_ v t V hxV (Nat.le_trans (by exact hBw) hV.size) (by omega))
        exact this
      · unfold memStep refStep
        rw [if_neg h0, if_neg h1, if_neg h2, if_neg h0, if_neg h1, if_neg h2]
        exact (does3 B g x sv f l ask at_ to v t a bs.length ca w hk hm hx (by omega) hR h0 h1 h2).mono fun e w' ⟨he, hb⟩ => ⟨he, sv, hm.call hb, hx.call hb, .of hb, fun b h => .inl h⟩
end Go.Proofs.YtjjebkgljgfecaaDoor
