/- The document's ports: what a copy of them reads stays. (printed by gen/po22.py) -/
import Derived.Test.YteciicojnodibaaPo21
namespace Go.Proofs.Yteciicojnodibaa
set_option linter.unusedVariables false
set_option linter.unusedSimpArgs false
open Go.RowKit
attribute [local go_sem ↓] Go.wp_at_zero Go.wp_at_succ

/-- Cells that are not turned: in old blocks, not the object's own, and in rows only where something stands. -/
def Frz (F : Nat → Nat → Prop) (w : World) (col : Nat → Nat) (x : Nat) (v : RV) (s : PS) : Prop :=
  ∀ b o, F b o → b < w.heap.size ∧ b ≠ x ∧ col b ≠ 1 ∧ (v.out.ownBlock = some b → o < s.out.length) ∧ (v.kept.ownBlock = some b → o < s.kept.length * 2) ∧ (v.cyc.ownBlock = some b → o < s.log.length) ∧ (v.told.ownBlock = some b → o < s.log.length)
def KeepsF (F : Nat → Nat → Prop) (w w' : World) : Prop := ∀ b o, F b o → w'.cell? ⟨b, o, none⟩ = w.cell? ⟨b, o, none⟩
theorem KeepsF.trans {F : Nat → Nat → Prop} {w1 w2 w3 : World} (h : KeepsF F w1 w2) (k : KeepsF F w2 w3) : KeepsF F w1 w3 := fun b o hF => (k b o hF).trans (h b o hF)
theorem Frz.chg {F : Nat → Nat → Prop} {S : Nat → Prop} {w w' : World} {col col' : Nat → Nat} {x : Nat} {v : RV} {s : PS} (h : Frz F w col x v s) (hC : Chg S w w') (hS : ∀ b, b < w.heap.size → b ≠ x → col b ≠ 1 → ¬ S b) (hc : Same w.heap.size col col') : Frz F w' col' x v s ∧ KeepsF F w w' := by
  refine ⟨fun b o hF => ?_, fun b o hF => ?_⟩
  · obtain ⟨h1, h2, h3, h4⟩ := h b o hF
    exact ⟨Nat.lt_of_lt_of_le h1 hC.size, h2, by rw [hc b h1]; exact h3, h4⟩
  · obtain ⟨h1, h2, h3, h4⟩ := h b o hF
    exact World.cell?_of_block (hC.block b h1 (hS b h1 h2 h3))
theorem Frz.below {F : Nat → Nat → Prop} {w w' : World} {col col' : Nat → Nat} {x : Nat} {v : RV} {s : PS} (h : Frz F w col x v s) (hB : Below w.heap.size w w') (hc : Same w.heap.size col col') : Frz F w' col' x v s ∧ KeepsF F w w' :=
  h.chg (S := fun _ => False) (.of hB) (fun _ _ _ _ h => h) hc
/-- What is not a row's alone: the four rows and their lengths stay. -/
theorem Frz.rows {F : Nat → Nat → Prop} {w w' : World} {col : Nat → Nat} {x c : Nat} {v v' : RV} {s s' : PS} (h : Frz F w col x v s) (hC : Chg (· = x) w w') (hv : v'.out = v.out ∧ v'.kept = v.kept ∧ v'.cyc = v.cyc ∧ v'.told = v.told) (hs : s'.out = s.out ∧ s'.kept = s.kept ∧ s'.log = s.log) :
    Frz F w' (paint col w.heap.size c) x v' s' ∧ KeepsF F w w' := by
  obtain ⟨a1, a2, a3, a4⟩ := hv
  obtain ⟨b1, b2, b3⟩ := hs
  obtain ⟨h1, h2⟩ := h.chg (col' := paint col w.heap.size c) hC (fun b _ hb _ e => hb e) (fun b hb => paint_old hb)
  refine ⟨fun b o hF => ?_, h2⟩
  rw [a1, a2, a3, a4, b1, b2, b3]
  exact h1 b o hF
theorem own_cell {w : World} {B e size n b : Nat} {v : Value} {xs : List Value} (h : w.ownsRow B e size v n xs) (hv : v.ownBlock = some b) {i : Nat} {u : Value} (hu : xs[i]? = some u) : w.cell? ⟨b, i, none⟩ = some u := by
  rcases h.2 with ⟨rfl, hx⟩ | ⟨g, cap, cur, rfl, hB, hg, hrest⟩
  · simp [Value.ownBlock] at hv
  · have e : g = b := by simpa [Value.ownBlock] using hv
    subst e
    have := h.cells (g := g) rfl i u hu
    rwa [add_of, Nat.zero_add] at this
theorem row_keeps {w w' : World} {B e size n B' e' size' n' b o : Nat} {v v' : Value} {xs ys : List Value} (h : w.ownsRow B e size v n xs) (hv : v.ownBlock = some b) (h' : w'.ownsRow B' e' size' v' n' (xs ++ ys)) (hv' : v'.ownBlock = some b) (ho : o < xs.length) : w'.cell? ⟨b, o, none⟩ = w.cell? ⟨b, o, none⟩ := by
  have e : xs[o]? = some (xs[o]'ho) := List.getElem?_eq_getElem ho
  rw [own_cell h hv e, own_cell h' hv' (by rw [List.getElem?_append_left ho]; exact e)]
theorem apostk_keeps {w w' : World} {g j n m m0 b o : Nat} {cs : Array Value} {T : TypeId} {v : Value} {xs0 ys : List Value} (hr : w.ownsRow 0 T n v m0 xs0) (h : APostK w g cs j T n v m (xs0 ++ ys) w') (hb : b < w.heap.size) (hg : b ≠ g) (ho : v.ownBlock = some b → o < xs0.length) : w'.cell? ⟨b, o, none⟩ = w.cell? ⟨b, o, none⟩ := by
  obtain ⟨v', _, hown, hC, hnew, hk⟩ := h
  by_cases hv : v.ownBlock = some b
  · rcases hk with ⟨b', h1, h2⟩ | hc
    · have e : b' = b := by rw [h1] at hv; exact Option.some.inj hv
      subst e
      exact row_keeps hr hv hown h2 (ho hv)
    · exact World.cell?_of_block (hc.block b hb hg)
  · exact World.cell?_of_block (hC.block b hb (by rintro (e | e); exact hg e; exact hv e))
/-- What Read leaves behind. -/
def RPostF (w : World) (col : Nat → Nat) (c g : Nat) (v : RV) (s s' : PS) (x t er : Int) (e : Ending) (w' : World) : Prop := e = .returned (.tuple #[.agg #[.int .u8 x, .int .u8 t], .int .i64 er]) ∧ ∃ v', IsR w' (paint col w.heap.size c) c g v' s' ∧ Chg (fun b => col b = c) w w' ∧ (∀ F, Frz F w col g v s → Frz F w' (paint col w.heap.size c) g v' s' ∧ KeepsF F w w')
theorem rr_finF0 {w : World} {col : Nat → Nat} {c g : Nat} {v : RV} {s : PS} (hp : IsR w col c g v s) (h0 : c ≠ 0) (V : Value) (o1 o2 : Obj) (l : List Int) (hr : Rd EU w (fun b => col b = 0) V l) :
    ∃ v', IsR (((w.setCell ⟨g, 0, none⟩ V).alloc o1).alloc o2) (paint col w.heap.size c) c g v' { s with pub := l } ∧ Chg (fun b => col b = c) w (((w.setCell ⟨g, 0, none⟩ V).alloc o1).alloc o2) ∧ (∀ F, Frz F w col g v s → Frz F (((w.setCell ⟨g, 0, none⟩ V).alloc o1).alloc o2) (paint col w.heap.size c) g v' { s with pub := l } ∧ KeepsF F w (((w.setCell ⟨g, 0, none⟩ V).alloc o1).alloc o2)) := by
  rw [hp.blk.setCell]
  have hC : Chg (· = g) w (((w.setRow g (v.cells.setIfInBounds 0 V)).alloc o1).alloc o2) := ((Chg.setRow _ _ _).alloc _).alloc _
  refine ⟨{ v with pub := V }, hp.one h0 c hC (((hp.blk.setRow _).alloc _).alloc _) ⟨rfl, rfl, rfl, rfl⟩ ⟨rfl, rfl, rfl⟩ (hr.keep (fun b hb hR => ⟨hC.block b hb (by rintro rfl; exact h0 (hp.mine.symm.trans hR)), (paint_old hb).trans hR⟩) hC.size) (hp.sec.keep (fun b hb hR => ⟨hC.block b hb (by rintro rfl; exact h0 (hp.mine.symm.trans hR)), (paint_old hb).trans hR⟩) hC.size), hC.mono (by rintro b rfl; exact hp.mine), fun F hF => hF.rows hC ⟨rfl, rfl, rfl, rfl⟩ ⟨rfl, rfl, rfl⟩⟩
set_option maxHeartbeats 1600000 in
theorem rr_someF0 (w : World) (col : Nat → Nat) (c g : Nat) (v : RV) (s : PS) (x : Int) (l : List Int) (hp : IsR w col c g v s) (hs : s.ok) (h0 : c ≠ 0) (hn : s.pub = x :: l) :
    Calls Try.prog 22 #[.pointer (some ⟨g, 0, none⟩), .int .i64 0] w (RPostF w col c g v s { s with pub := l } x 0 0) := by
  have c0 : w.cell? ⟨g, 0, none⟩ = some v.pub := hp.blk.cell 0
  have f0 := hp.blk.frozen 0
  have hlt := hp.blk.lt
  have hR := hp.pub
  have hlen := hs.pub
  rw [hn] at hR hlen
  have hR' := hR
  obtain ⟨a, cap, hv, -⟩ := hR
  rw [hv] at c0 hR'
  obtain ⟨b, off, rfl, hm, hcap, hlb, hcolb, hx, hrest⟩ := hR'.cut
  have d0 := hx 0 _ rfl
  rw [Nat.add_zero] at d0
  have hcap' : (((x :: l).length : Nat) : Int) ≤ (cap : Int) := by omega
  have HP := Lib.hid hp
  have HRest := Lib.hid hrest
  have hln : (1 : Int) ≤ (((x :: l).length : Nat) : Int) := by simp only [List.length_cons]; omega
  have hl0 : (0 : Int) < (((x :: l).length : Nat) : Int) := by simp only [List.length_cons]; omega
  have HL := Lib.hid (show (x :: l).length - 1 = l.length by simp)
  have hne : b ≠ g := by
    rintro rfl
    exact h0 (hp.mine.symm.trans hcolb)
  have H0 := Lib.hid h0
  generalize (x :: l).length = m at *
  clear hp hx hrest hR' hm hcap hs hn hlen hv hcolb h0
  by_cases hc1 : cap = 1
  · subst hc1
    simp only [if_true] at HRest
    go_enter Try.func22, Try.ntmps22
    go_wp2_with fail
    go_returns
    unfold RPostF
    exact ⟨rfl, rr_finF0 HP.out H0.out _ _ _ l (by rw [HL.out]; exact HRest.out)⟩
  · simp only [if_neg hc1] at HRest
    go_enter Try.func22, Try.ntmps22
    go_wp2_with fail
    go_returns
    unfold RPostF
    exact ⟨rfl, rr_finF0 HP.out H0.out _ _ _ l (by rw [HL.out]; exact HRest.out)⟩
theorem rr_finF1 {w : World} {col : Nat → Nat} {c g : Nat} {v : RV} {s : PS} (hp : IsR w col c g v s) (h0 : c ≠ 0) (V : Value) (o1 o2 : Obj) (l : List Int) (hr : Rd EU w (fun b => col b = 0) V l) :
    ∃ v', IsR (((w.setCell ⟨g, 1, none⟩ V).alloc o1).alloc o2) (paint col w.heap.size c) c g v' { s with sec := l } ∧ Chg (fun b => col b = c) w (((w.setCell ⟨g, 1, none⟩ V).alloc o1).alloc o2) ∧ (∀ F, Frz F w col g v s → Frz F (((w.setCell ⟨g, 1, none⟩ V).alloc o1).alloc o2) (paint col w.heap.size c) g v' { s with sec := l } ∧ KeepsF F w (((w.setCell ⟨g, 1, none⟩ V).alloc o1).alloc o2)) := by
  rw [hp.blk.setCell]
  have hC : Chg (· = g) w (((w.setRow g (v.cells.setIfInBounds 1 V)).alloc o1).alloc o2) := ((Chg.setRow _ _ _).alloc _).alloc _
  refine ⟨{ v with sec := V }, hp.one h0 c hC (((hp.blk.setRow _).alloc _).alloc _) ⟨rfl, rfl, rfl, rfl⟩ ⟨rfl, rfl, rfl⟩ (hp.pub.keep (fun b hb hR => ⟨hC.block b hb (by rintro rfl; exact h0 (hp.mine.symm.trans hR)), (paint_old hb).trans hR⟩) hC.size) (hr.keep (fun b hb hR => ⟨hC.block b hb (by rintro rfl; exact h0 (hp.mine.symm.trans hR)), (paint_old hb).trans hR⟩) hC.size), hC.mono (by rintro b rfl; exact hp.mine), fun F hF => hF.rows hC ⟨rfl, rfl, rfl, rfl⟩ ⟨rfl, rfl, rfl⟩⟩
set_option maxHeartbeats 1600000 in
theorem rr_someF1 (w : World) (col : Nat → Nat) (c g : Nat) (v : RV) (s : PS) (x : Int) (l : List Int) (hp : IsR w col c g v s) (hs : s.ok) (h0 : c ≠ 0) (hn : s.sec = x :: l) :
    Calls Try.prog 22 #[.pointer (some ⟨g, 0, none⟩), .int .i64 1] w (RPostF w col c g v s { s with sec := l } x 255 0) := by
  have c0 : w.cell? ⟨g, 1, none⟩ = some v.sec := hp.blk.cell 1
  have f0 := hp.blk.frozen 1
  have hlt := hp.blk.lt
  have hR := hp.sec
  have hlen := hs.sec
  rw [hn] at hR hlen
  have hR' := hR
  obtain ⟨a, cap, hv, -⟩ := hR
  rw [hv] at c0 hR'
  obtain ⟨b, off, rfl, hm, hcap, hlb, hcolb, hx, hrest⟩ := hR'.cut
  have d0 := hx 0 _ rfl
  rw [Nat.add_zero] at d0
  have hcap' : (((x :: l).length : Nat) : Int) ≤ (cap : Int) := by omega
  have HP := Lib.hid hp
  have HRest := Lib.hid hrest
  have hln : (1 : Int) ≤ (((x :: l).length : Nat) : Int) := by simp only [List.length_cons]; omega
  have hl0 : (0 : Int) < (((x :: l).length : Nat) : Int) := by simp only [List.length_cons]; omega
  have HL := Lib.hid (show (x :: l).length - 1 = l.length by simp)
  have hne : b ≠ g := by
    rintro rfl
    exact h0 (hp.mine.symm.trans hcolb)
  have H0 := Lib.hid h0
  generalize (x :: l).length = m at *
  clear hp hx hrest hR' hm hcap hs hn hlen hv hcolb h0
  by_cases hc1 : cap = 1
  · subst hc1
    simp only [if_true] at HRest
    go_enter Try.func22, Try.ntmps22
    go_wp2_with fail
    go_returns
    unfold RPostF
    exact ⟨rfl, rr_finF1 HP.out H0.out _ _ _ l (by rw [HL.out]; exact HRest.out)⟩
  · simp only [if_neg hc1] at HRest
    go_enter Try.func22, Try.ntmps22
    go_wp2_with fail
    go_returns
    unfold RPostF
    exact ⟨rfl, rr_finF1 HP.out H0.out _ _ _ l (by rw [HL.out]; exact HRest.out)⟩
theorem rread_callsF (w : World) (col : Nat → Nat) (c g : Nat) (v : RV) (s : PS) (r : Int) (hp : IsR w col c g v s) (hs : s.ok) (h0 : c ≠ 0) :
    Calls Try.prog 22 #[.pointer (some ⟨g, 0, none⟩), .int .i64 r] w (RPostF w col c g v s (s.took r) (s.rd r).1 (s.rd r).2 (rErr r)) := by
  by_cases hbad : r < 0 ∨ 4 < r
  · have e1 : s.rd r = (0, 0) := by unfold PS.rd; rw [if_neg (by omega), if_neg (by omega), if_neg (by omega), if_neg (by omega), if_neg (by omega)]
    have e2 : s.took r = s := by unfold PS.took; rw [if_neg (by omega), if_neg (by omega)]
    rw [e1, e2, show rErr r = 10 from if_pos hbad]
    exact (rr_bad w g r hbad).mono fun e w' ⟨he, hb⟩ => ⟨he, v, hp.new hb c, .of hb, fun F hF => hF.below hb (fun b hb => paint_old hb)⟩
  rw [show rErr r = 0 from if_neg hbad]
  rcases (by omega : r = 0 ∨ r = 1 ∨ r = 2 ∨ r = 3 ∨ r = 4) with rfl | rfl | rfl | rfl | rfl
  · cases hn : s.pub with
    | nil =>
      have e1 : s.rd 0 = (0, 0) := by unfold PS.rd; rw [if_pos rfl, hn]; rfl
      have e2 : s.took 0 = s := by obtain ⟨pub, sec, out, kept, log⟩ := s; cases hn; rfl
      rw [e1, e2]
      exact (rr_none0 w col c g v s hp hn).mono fun e w' ⟨he, hb⟩ => ⟨he, v, hp.new hb c, .of hb, fun F hF => hF.below hb (fun b hb => paint_old hb)⟩
    | cons x l =>
      have e1 : s.rd 0 = (x, 0) := by unfold PS.rd; rw [if_pos rfl, hn]; rfl
      have e2 : s.took 0 = { s with pub := l } := by unfold PS.took; rw [if_pos rfl, hn]; rfl
      rw [e1, e2]
      exact rr_someF0 w col c g v s x l hp hs h0 hn
  · cases hn : s.sec with
    | nil =>
      have e1 : s.rd 1 = (0, 255) := by unfold PS.rd; rw [if_neg (by decide), if_pos rfl, hn]; rfl
      have e2 : s.took 1 = s := by obtain ⟨pub, sec, out, kept, log⟩ := s; cases hn; rfl
      rw [e1, e2]
      exact (rr_none1 w col c g v s hp hn).mono fun e w' ⟨he, hb⟩ => ⟨he, v, hp.new hb c, .of hb, fun F hF => hF.below hb (fun b hb => paint_old hb)⟩
    | cons x l =>
      have e1 : s.rd 1 = (x, 255) := by unfold PS.rd; rw [if_neg (by decide), if_pos rfl, hn]; rfl
      have e2 : s.took 1 = { s with sec := l } := by unfold PS.took; rw [if_neg (by decide), if_pos rfl, hn]; rfl
      rw [e1, e2]
      exact rr_someF1 w col c g v s x l hp hs h0 hn
  · exact (rr_last2 w col c g v s hp hs).mono fun e w' ⟨he, hb⟩ => ⟨he, v, hp.new hb c, .of hb, fun F hF => hF.below hb (fun b hb => paint_old hb)⟩
  · exact (rr_last3 w col c g v s hp hs).mono fun e w' ⟨he, hb⟩ => ⟨he, v, hp.new hb c, .of hb, fun F hF => hF.below hb (fun b hb => paint_old hb)⟩
  · refine (rr_last4 w col c g v s hp hs).mono fun e w' ⟨he, hb⟩ => ⟨?_, v, hp.new hb c, .of hb, fun F hF => hF.below hb (fun b hb => paint_old hb)⟩
    rw [he, last_snd]
    rfl
/-- What Write leaves behind. -/
def WPostF (w : World) (col : Nat → Nat) (c g : Nat) (v : RV) (s s' : PS) (a er : Int) (e : Ending) (w' : World) : Prop := e = .returned (.tuple #[.int .i64 a, .int .i64 er]) ∧ ∃ v', IsR w' (paint col w.heap.size c) c g v' s' ∧ Chg (fun b => col b = c) w w' ∧ (∀ F, Frz F w col g v s → Frz F w' (paint col w.heap.size c) g v' s' ∧ KeepsF F w w')
theorem IsR.appF2 {w w' : World} {col : Nat → Nat} {c g : Nat} {v : RV} {s : PS} {x : Int} (hp : IsR w col c g v s) (h0 : c ≠ 0) (h : APostK w g v.cells 2 5 1 v.out (s.out ++ [x]).length (EU.row (s.out ++ [x])) w') :
    ∃ v', IsR w' (paint col w.heap.size c) c g v' { s with out := s.out ++ [x] } ∧ Chg (fun b => col b = c) w w' ∧ (∀ F, Frz F w col g v s → Frz F w' (paint col w.heap.size c) g v' { s with out := s.out ++ [x] } ∧ KeepsF F w w') := by
  have hAP := h
  obtain ⟨ov, hblk, hown, hC, hnew, -⟩ := h
  refine ⟨{ v with out := ov }, ⟨hblk, (paint_old hp.blk.lt).trans hp.mine, ?_, ?_, ⟨hown, news_mine (fun b hb => ⟨hp.out.2 b hb, (own_lt hp.out.1 hb).1⟩) hnew⟩, ?_, ?_, ?_, ?_⟩, hC.mono (by rintro b (rfl | h1); exact hp.mine; exact hp.out.2 b h1), ?_⟩
  · exact hp.pub.keep (fun b hb hR => ⟨hC.block b hb (by rintro (rfl | h1); exact h0 (hp.mine.symm.trans hR); exact h0 ((hp.out.2 b h1).symm.trans hR)), (paint_old hb).trans hR⟩) hC.size
  · exact hp.sec.keep (fun b hb hR => ⟨hC.block b hb (by rintro (rfl | h1); exact h0 (hp.mine.symm.trans hR); exact h0 ((hp.out.2 b h1).symm.trans hR)), (paint_old hb).trans hR⟩) hC.size
  · exact hp.kept.keep (fun b hb hv hS => ⟨hC.block b hb (by rintro (rfl | h1); exact own_ne hp.kept.1 hp.blk (by decide) hv; exact own_ne2 hp.out.1 hp.kept.1 (by decide) b h1 hv), (paint_old hb).trans hS⟩) hC.size
  · exact hp.cyc.keep (fun b hb hv hS => ⟨hC.block b hb (by rintro (rfl | h1); exact own_ne hp.cyc.1 hp.blk (by decide) hv; exact own_ne2 hp.out.1 hp.cyc.1 (by decide) b h1 hv), (paint_old hb).trans hS⟩) hC.size
  · exact hp.told.keep (fun b hb hv hS => ⟨hC.block b hb (by rintro (rfl | h1); exact own_ne hp.told.1 hp.blk (by decide) hv; exact hp.apart b h1 hv), (paint_old hb).trans hS⟩) hC.size
  · intro b hb ht
    rcases hnew b hb with h1 | h1
    · exact hp.apart b h1 ht
    · have := (own_lt hp.told.1 ht).1
      omega
  · intro F hF
    refine ⟨fun b o hb => ?_, fun b o hb => ?_⟩
    · obtain ⟨h1, h2, h3, h4, h5, h6, h7⟩ := hF b o hb
      refine ⟨Nat.lt_of_lt_of_le h1 hC.size, h2, by rw [paint_old h1]; exact h3, (fun hb => by rcases hnew b hb with h8 | h8; (have := h4 h8; simp only [List.length_append, List.length_singleton]; omega); omega), h5, h6, h7⟩
    · obtain ⟨h1, h2, h3, h4, h5, h6, h7⟩ := hF b o hb
      rw [EU.row_append] at hAP
      exact apostk_keeps hp.out.1 hAP h1 h2 (fun hv => by have := h4 hv; rw [EU.row_length]; omega)
theorem IsR.appF3 {w w' : World} {col : Nat → Nat} {c g : Nat} {v : RV} {s : PS} {x : Int × Int} (hp : IsR w col c g v s) (h0 : c ≠ 0) (h : APostK w g v.cells 3 23 2 v.kept (s.kept ++ [x]).length (EB.row (s.kept ++ [x])) w') :
    ∃ v', IsR w' (paint col w.heap.size c) c g v' { s with kept := s.kept ++ [x] } ∧ Chg (fun b => col b = c) w w' ∧ (∀ F, Frz F w col g v s → Frz F w' (paint col w.heap.size c) g v' { s with kept := s.kept ++ [x] } ∧ KeepsF F w w') := by
  have hAP := h
  obtain ⟨ov, hblk, hown, hC, hnew, -⟩ := h
  refine ⟨{ v with kept := ov }, ⟨hblk, (paint_old hp.blk.lt).trans hp.mine, ?_, ?_, ?_, ⟨hown, news_mine (fun b hb => ⟨hp.kept.2 b hb, (own_lt hp.kept.1 hb).1⟩) hnew⟩, ?_, ?_, hp.apart⟩, hC.mono (by rintro b (rfl | h1); exact hp.mine; exact hp.kept.2 b h1), ?_⟩
  · exact hp.pub.keep (fun b hb hR => ⟨hC.block b hb (by rintro (rfl | h1); exact h0 (hp.mine.symm.trans hR); exact h0 ((hp.kept.2 b h1).symm.trans hR)), (paint_old hb).trans hR⟩) hC.size
  · exact hp.sec.keep (fun b hb hR => ⟨hC.block b hb (by rintro (rfl | h1); exact h0 (hp.mine.symm.trans hR); exact h0 ((hp.kept.2 b h1).symm.trans hR)), (paint_old hb).trans hR⟩) hC.size
  · exact hp.out.keep (fun b hb hv hS => ⟨hC.block b hb (by rintro (rfl | h1); exact own_ne hp.out.1 hp.blk (by decide) hv; exact own_ne2 hp.kept.1 hp.out.1 (by decide) b h1 hv), (paint_old hb).trans hS⟩) hC.size
  · exact hp.cyc.keep (fun b hb hv hS => ⟨hC.block b hb (by rintro (rfl | h1); exact own_ne hp.cyc.1 hp.blk (by decide) hv; exact own_ne2 hp.kept.1 hp.cyc.1 (by decide) b h1 hv), (paint_old hb).trans hS⟩) hC.size
  · exact hp.told.keep (fun b hb hv hS => ⟨hC.block b hb (by rintro (rfl | h1); exact own_ne hp.told.1 hp.blk (by decide) hv; exact own_ne2 hp.kept.1 hp.told.1 (by decide) b h1 hv), (paint_old hb).trans hS⟩) hC.size
  · intro F hF
    refine ⟨fun b o hb => ?_, fun b o hb => ?_⟩
    · obtain ⟨h1, h2, h3, h4, h5, h6, h7⟩ := hF b o hb
      refine ⟨Nat.lt_of_lt_of_le h1 hC.size, h2, by rw [paint_old h1]; exact h3, h4, (fun hb => by rcases hnew b hb with h8 | h8; (have := h5 h8; simp only [List.length_append, List.length_singleton]; omega); omega), h6, h7⟩
    · obtain ⟨h1, h2, h3, h4, h5, h6, h7⟩ := hF b o hb
      rw [EB.row_append] at hAP
      exact apostk_keeps hp.kept.1 hAP h1 h2 (fun hv => by have := h5 hv; rw [EB.row_length]; omega)
theorem IsR.appF4 {w W1 w' : World} {col : Nat → Nat} {c g : Nat} {v : RV} {tv : Value} {s : PS} {b0 cyc : Int} (hp : IsR w col c g v s) (h0 : c ≠ 0)
    (ho1 : W1.ownsRow 0 5 1 tv ((s.log.map (·.2)) ++ [b0]).length (EU.row ((s.log.map (·.2)) ++ [b0]))) (hC1 : Chg (fun b => b = g ∨ v.told.ownBlock = some b) w W1) (hn1 : ∀ b, tv.ownBlock = some b → v.told.ownBlock = some b ∨ w.heap.size ≤ b) (hk1 : (∃ b, v.told.ownBlock = some b ∧ tv.ownBlock = some b) ∨ Chg (fun b => b = g) w W1)
    (h : APostK W1 g (v.cells.setIfInBounds 5 tv) 4 3 1 v.cyc ((s.log.map (·.1)) ++ [cyc]).length (EI.row ((s.log.map (·.1)) ++ [cyc])) w') :
    ∃ v', IsR w' (paint col w.heap.size c) c g v' { s with log := s.log ++ [(cyc, b0)] } ∧ Chg (fun b => col b = c) w w' ∧ (∀ F, Frz F w col g v s → Frz F w' (paint col w.heap.size c) g v' { s with log := s.log ++ [(cyc, b0)] } ∧ KeepsF F w w') := by
  have hAP := h
  obtain ⟨cv, hblk, hown, hC2, hnew, -⟩ := h
  have hglt := hp.blk.lt
  have tg : ∀ b, tv.ownBlock = some b → b ≠ g := by
    rintro b hb rfl
    rcases hn1 b hb with h1 | h1
    · exact own_ne hp.told.1 hp.blk (by decide) h1
    · omega
  have tc : ∀ b, tv.ownBlock = some b → v.cyc.ownBlock ≠ some b := by
    intro b hb hc
    rcases hn1 b hb with h1 | h1
    · exact own_ne2 hp.told.1 hp.cyc.1 (by decide) b h1 hc
    · have := (own_lt hp.cyc.1 hc).1
      omega
  have hC : Chg (fun b => b = g ∨ v.told.ownBlock = some b ∨ v.cyc.ownBlock = some b) w w' := (hC1.mono (by rintro b (h | h); exact .inl h; exact .inr (.inl h))).trans (hC2.mono (by rintro b (h | h); exact .inl h; exact .inr (.inr h)))
  have hs1 := hC1.size
  refine ⟨{ v with told := tv, cyc := cv }, ⟨hblk, (paint_old hp.blk.lt).trans hp.mine, ?_, ?_, ?_, ?_, ?_, ?_, ?_⟩, hC.mono (by rintro b (rfl | h1 | h1); exact hp.mine; exact hp.told.2 b h1; exact hp.cyc.2 b h1), ?_⟩
  · exact hp.pub.keep (fun b hb hR => ⟨hC.block b hb (by rintro (rfl | h1 | h1); exact h0 (hp.mine.symm.trans hR); exact h0 ((hp.told.2 b h1).symm.trans hR); exact h0 ((hp.cyc.2 b h1).symm.trans hR)), (paint_old hb).trans hR⟩) hC.size
  · exact hp.sec.keep (fun b hb hR => ⟨hC.block b hb (by rintro (rfl | h1 | h1); exact h0 (hp.mine.symm.trans hR); exact h0 ((hp.told.2 b h1).symm.trans hR); exact h0 ((hp.cyc.2 b h1).symm.trans hR)), (paint_old hb).trans hR⟩) hC.size
  · exact hp.out.keep (fun b hb hv hS => ⟨hC.block b hb (by rintro (rfl | h1 | h1); exact own_ne hp.out.1 hp.blk (by decide) hv; exact hp.apart b hv h1; exact own_ne2 hp.cyc.1 hp.out.1 (by decide) b h1 hv), (paint_old hb).trans hS⟩) hC.size
  · exact hp.kept.keep (fun b hb hv hS => ⟨hC.block b hb (by rintro (rfl | h1 | h1); exact own_ne hp.kept.1 hp.blk (by decide) hv; exact own_ne2 hp.told.1 hp.kept.1 (by decide) b h1 hv; exact own_ne2 hp.cyc.1 hp.kept.1 (by decide) b h1 hv), (paint_old hb).trans hS⟩) hC.size
  · rw [show ({ s with log := s.log ++ [(cyc, b0)] } : PS).log.map (·.1) = s.log.map (·.1) ++ [cyc] by simp]
    refine ⟨hown, news_mine (fun b hb => ⟨hp.cyc.2 b hb, (own_lt hp.cyc.1 hb).1⟩) (fun b hb => ?_)⟩
    rcases hnew b hb with h1 | h1
    · exact .inl h1
    · exact .inr (by omega)
  · rw [show ({ s with log := s.log ++ [(cyc, b0)] } : PS).log.map (·.2) = s.log.map (·.2) ++ [b0] by simp]
    exact ⟨own_keep ho1 (fun b hb hlt => hC2.block b hlt (by rintro (rfl | h1); exact tg _ hb rfl; exact tc b hb h1)) hC2.size, news_mine (fun b hb => ⟨hp.told.2 b hb, (own_lt hp.told.1 hb).1⟩) hn1⟩
  · intro b hb ht
    rcases hn1 b ht with h1 | h1
    · exact hp.apart b hb h1
    · have := (own_lt hp.out.1 hb).1
      omega
  · intro F hF
    refine ⟨fun b o hb => ?_, fun b o hb => ?_⟩
    · obtain ⟨h1, h2, h3, h4, h5, h6, h7⟩ := hF b o hb
      refine ⟨Nat.lt_of_lt_of_le h1 hC.size, h2, by rw [paint_old h1]; exact h3, h4, h5, (fun hb => ?_), (fun hb => ?_)⟩
      · rcases hnew b hb with h8 | h8
        · have := h6 h8
          simp only [List.length_append, List.length_singleton]
          omega
        · omega
      · rcases hn1 b hb with h8 | h8
        · have := h7 h8
          simp only [List.length_append, List.length_singleton]
          omega
        · omega
    · obtain ⟨h1, h2, h3, h4, h5, h6, h7⟩ := hF b o hb
      have hcyc1 : W1.ownsRow 0 3 1 v.cyc (s.log.map (·.1)).length (EI.row (s.log.map (·.1))) := own_keep hp.cyc.1 (fun b hb hlt => hC1.block b hlt (by rintro (rfl | h8); exact own_ne hp.cyc.1 hp.blk (by decide) hb; exact own_ne2 hp.told.1 hp.cyc.1 (by decide) b h8 hb)) hC1.size
      rw [EI.row_append] at hAP
      refine (apostk_keeps hcyc1 hAP (Nat.lt_of_lt_of_le h1 hC1.size) h2 (fun hv => by have := h6 hv; rw [EI.row_length, List.length_map]; omega)).trans ?_
      by_cases hv : v.told.ownBlock = some b
      · rcases hk1 with ⟨b', h8, h9⟩ | hc
        · have e : b' = b := by rw [h8] at hv; exact Option.some.inj hv
          subst e
          rw [EU.row_append] at ho1
          exact row_keeps hp.told.1 hv ho1 h9 (by have := h7 hv; rw [EU.row_length, List.length_map]; omega)
        · exact World.cell?_of_block (hc.block b h1 h2)
      · exact World.cell?_of_block (hC1.block b h1 (by rintro (e | e); exact h2 e; exact hv e))
theorem rwrite_callsF (w : World) (col : Nat → Nat) (c g : Nat) (v : RV) (s : PS) (r b t cyc : Int) (ht : 0 ≤ t) (hp : IsR w col c g v s) (h0 : c ≠ 0) :
    Calls Try.prog 23 #[.pointer (some ⟨g, 0, none⟩), .int .i64 r, .agg #[.int .u8 b, .int .u8 t], .int .i64 cyc] w (WPostF w col c g v s (s.wrote r b t cyc) (wRule r t) (s.wErr r t)) := by
  have same : ∀ {a x : Int}, s.wErr r t = x → wRule r t = a → s.wrote r b t cyc = s →
      (Calls Try.prog 23 #[.pointer (some ⟨g, 0, none⟩), .int .i64 r, .agg #[.int .u8 b, .int .u8 t], .int .i64 cyc] w fun e w' => e = .returned (.tuple #[.int .i64 a, .int .i64 x]) ∧ Below w.heap.size w w') →
      Calls Try.prog 23 #[.pointer (some ⟨g, 0, none⟩), .int .i64 r, .agg #[.int .u8 b, .int .u8 t], .int .i64 cyc] w (WPostF w col c g v s (s.wrote r b t cyc) (wRule r t) (s.wErr r t)) := by
    intro a x e1 e2 e3 h
    rw [e1, e2]
    exact h.mono fun e w' ⟨he, hb⟩ => ⟨he, v, by rw [e3]; exact hp.new hb c, .of hb, fun F hF => by rw [e3]; exact hF.below hb (fun b hb => paint_old hb)⟩
  by_cases hbad : r < 0 ∨ 4 < r
  · have e1 : s.wErr r t = 10 := if_pos hbad
    exact same e1 (if_neg (by omega)) (if_pos (by rw [e1]; decide)) (rw_bad w g r b t cyc hbad)
  by_cases hal : r ≤ 2 ∧ t ≠ 0
  · have e1 : s.wErr r t = 20 := by unfold PS.wErr; rw [if_neg hbad, if_pos hal]
    exact same e1 (if_pos ⟨by omega, hal.2⟩) (if_pos (by rw [e1]; decide)) (rw_alarm w g r b t cyc (by omega) hal.1 (by have := hal.2; omega))
  have er : wRule r t = 0 := if_neg (by rintro ⟨h1, h2⟩; exact hal ⟨h1.2, h2⟩)
  by_cases hf : (r = 2 ∧ 4096 ≤ s.out.length) ∨ (r = 3 ∧ 4096 ≤ s.kept.length) ∨ (r = 4 ∧ 4096 ≤ s.log.length)
  · have e1 : s.wErr r t = 18 := by unfold PS.wErr; rw [if_neg hbad, if_neg hal, if_pos hf]
    refine same e1 er (if_pos (by rw [e1]; decide)) ?_
    rcases hf with ⟨rfl, hl⟩ | ⟨rfl, hl⟩ | ⟨rfl, hl⟩
    · obtain rfl : t = 0 := by omega
      exact rw_full2 w col c g v s b cyc hp hl
    · exact rw_full3 w col c g v s b t cyc hp hl
    · exact rw_full4 w col c g v s b t cyc hp (by rw [List.length_map]; exact hl)
  have e1 : s.wErr r t = 0 := by unfold PS.wErr; rw [if_neg hbad, if_neg hal, if_neg hf]
  have e2 : s.wrote r b t cyc = if r = 2 then { s with out := s.out ++ [b] } else if r = 3 then { s with kept := s.kept ++ [(b, t)] } else if r = 4 then { s with log := s.log ++ [(cyc, b)] } else s := if_neg (by rw [e1]; decide)
  rcases (by omega : r = 0 ∨ r = 1 ∨ r = 2 ∨ r = 3 ∨ r = 4) with rfl | rfl | rfl | rfl | rfl
  · obtain rfl : t = 0 := by omega
    exact same e1 er (by rw [e2]; rfl) (rw_quiet0 w g b cyc)
  · obtain rfl : t = 0 := by omega
    exact same e1 er (by rw [e2]; rfl) (rw_quiet1 w g b cyc)
  · obtain rfl : t = 0 := by omega
    rw [er, e1, e2]
    exact (rw_app2k w col c g v s b cyc hp (by omega)).mono fun e w' ⟨he, h⟩ => ⟨he, hp.appF2 h0 h⟩
  · rw [er, e1, e2]
    exact (rw_app3k w col c g v s b t cyc hp (by omega)).mono fun e w' ⟨he, h⟩ => ⟨he, hp.appF3 h0 h⟩
  · rw [er, e1, e2]
    exact (rw_app4k w col c g v s b t cyc hp (by omega)).mono fun e w' ⟨he, W1, tv, h1, h2, h3, h5, h4⟩ => ⟨he, hp.appF4 h0 h1 h2 h3 h5 h4⟩
end Go.Proofs.Yteciicojnodibaa
