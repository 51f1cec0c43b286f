/- The lexer: a line. (printed by gen/lx10.py) -/
import Derived.Test.YtlmcdbegnjikdaaDoorLx9
namespace Go.Proofs.YtlmcdbegnjikdaaDoor
set_option linter.unusedVariables false
set_option linter.unusedSimpArgs false
open Go.RowKit
attribute [local go_sem ↓] Go.wp_at_zero Go.wp_at_succ

/-- How far a line is scanned. -/
def muAt (g : Nat) (s : ByteArray) (w : World) : Nat := s.size - (match w.cell? ⟨g, 2, none⟩ with | some (.int _ k) => k.toNat | _ => 0)
theorem muAt_of {g : Nat} {s : ByteArray} {w : World} {k : Nat} (h : w.cell? ⟨g, 2, none⟩ = some (.int .i64 (k : Int))) : muAt g s w = s.size - k := by
  unfold muAt
  rw [h]
  simp
/-- What scan answers, and what a line is then. -/
def ScanPost (w : World) (g : Nat) (s : ByteArray) (n : Int) (res : RL) (e : Ending) (w' : World) : Prop :=
  match res with
  | .bad c er => e = .returned (.tuple #[.agg #[.int .i64 n, .int .i64 c], .int .i64 er]) ∧ Chg (· = g) w w'
  | .ok l => e = .returned (.tuple #[.agg #[.int .i64 0, .int .i64 0], .int .i64 0]) ∧ ∃ k sv, Blk w' g 51 #[.string s, .int .i64 n, k, sv] ∧ w'.ownsRow w.heap.size 37 5 sv l.length (ET.row l) ∧ Chg (· = g) w w'
/-- At the label. -/
structure ScW (w : World) (g : Nat) (s : ByteArray) (n : Int) (FIN : RL) (at_ last : Nat) (sv : Value) (l : List Tok) (wr : World) : Prop where
  le : at_ ≤ s.size
  lst : last ≤ at_
  len : l.length ≤ at_
  toks : sc n (from_ s at_) at_ last l = FIN
  ln : IsLn wr (w.heap.size + 2) g s n at_ sv l
  box : Blk wr w.heap.size 49 #[.pointer (some ⟨g, 0, none⟩)]
  res : Blk wr (w.heap.size + 1) 25 #[.int .i64 0, .int .i64 0]
  chg : Chg (LnF g (w.heap.size + 2)) ((w.alloc (.cells #[.pointer (some ⟨g, 0, none⟩)] 49)).alloc (.cells #[.int .i64 0, .int .i64 0] 25)) wr
theorem sc_ret {W : World} {b : Nat} {x y er : Int} {tmps : Array Value} {R : Ending → World → Prop} (h2 : tmps.getD 2 undef = .pointer (some ⟨b, 0, none⟩)) (h3 : tmps.getD 3 undef = .int .i64 er) (hx : Blk W b 25 #[.int .i64 x, .int .i64 y])
    (hR : R (.returned (.tuple #[.agg #[.int .i64 x, .int .i64 y], .int .i64 er])) W) : bodyPost Tryd.prog Tryd.f16 R .ret { tmps := tmps, defers := [] } W := by
  refine bodyPost_ret ?_ rfl hR
  have h2' : tmps[2]?.getD undef = .pointer (some ⟨b, 0, none⟩) := by simpa using h2
  have h3' : tmps[3]?.getD undef = .int .i64 er := by simpa using h3
  have c0 := hx.cell 0
  have c1 := hx.cell 1
  simp [results, Tryd.results16, go_sem, h2', h3', c0, c1]
theorem fin_some {n : Int} {last : Nat} {l : List Tok} (h : 0 < l.length) : fin n last l = l ++ [⟨4, [], 0, n, last + 1⟩] := if_neg (fun e => by rw [e] at h; simp at h)
theorem own_call {w w' : World} {B e size n : Nat} {v : Value} {xs : List Value} (h : w.ownsRow B e size v n xs) (hb : Below w.heap.size w w') : w'.ownsRow B e size v n xs := own_keep h (fun b _ hlt => hb.block b hlt) hb.size
theorem fin_nil (n : Int) (last : Nat) : fin n last [] = [] := rfl
theorem IsLn.drewN {w : World} {B g : Nat} {s : ByteArray} {n at_ : Int} {sv : Value} {l : List Tok} (h : IsLn w B g s n at_ sv l) (m : Nat) : IsLn (w.drewN m) B g s n at_ sv l := ⟨h.blk, h.own, h.lt, h.le⟩
/-- Behind the last store. -/
theorem sc_done {w V : World} {g : Nat} {s : ByteArray} {n : Int} {at_ : Int} {sv : Value} {l : List Tok} (hg : g < w.heap.size) (x y : Int) (ln : IsLn V (w.heap.size + 2) g s n at_ sv l) (res : Blk V (w.heap.size + 1) 25 #[.int .i64 0, .int .i64 0])
    (chg : Chg (LnF g (w.heap.size + 2)) ((w.alloc (.cells #[.pointer (some ⟨g, 0, none⟩)] 49)).alloc (.cells #[.int .i64 0, .int .i64 0] 25)) V) :
    (V.setCell ⟨w.heap.size + 1, 0, none⟩ (.int .i64 x)).setCell ⟨w.heap.size + 1, 1, none⟩ (.int .i64 y) = V.setRow (w.heap.size + 1) #[.int .i64 x, .int .i64 y] ∧
    Blk (V.setRow (w.heap.size + 1) #[.int .i64 x, .int .i64 y]) (w.heap.size + 1) 25 #[.int .i64 x, .int .i64 y] ∧
    (∃ k sv, Blk (V.setRow (w.heap.size + 1) #[.int .i64 x, .int .i64 y]) g 51 #[.string s, .int .i64 n, k, sv] ∧ (V.setRow (w.heap.size + 1) #[.int .i64 x, .int .i64 y]).ownsRow w.heap.size 37 5 sv l.length (ET.row l) ∧ Chg (· = g) w (V.setRow (w.heap.size + 1) #[.int .i64 x, .int .i64 y])) := by
  refine ⟨by rw [res.setCell, res.setCell_setRow]; rfl, res.setRow _, _, _, ln.blk.other (by omega) _, own_lower (own_keep ln.own (fun b hb hlt => setRow_other V _ b _ (fun e => ?_)) (by simp)) (by omega : w.heap.size ≤ w.heap.size + 2), ?_⟩
  · have := (own_lt ln.own hb).2; omega
  · have hs := chg.size
    simp only [World.size_alloc] at hs
    refine ⟨chg.os, chg.tape, chg.output, by simp; omega, fun b hb hne => ?_⟩
    rw [setRow_other V _ b _ (by omega), chg.block b (by simp; omega) (fun h => by rcases h with h | h; exact hne h; omega)]
    exact (Below.heap_alloc _ _ b (by simp; omega)).trans (Below.heap_alloc w _ b hb)
theorem sc_end {s : ByteArray} {at_ last : Nat} {n : Int} {l : List Tok} {FIN : RL} (h : sc n (from_ s at_) at_ last l = FIN) (he : at_ = s.size ∨ ∃ hk : at_ < s.size, s[at_].toNat = 35) : FIN = .ok (fin n last l) := by
  rw [← h]
  rcases he with he | ⟨hk, he⟩
  · rw [from_ge (by omega)]; rfl
  · rw [from_lt hk]; exact sc_hash he
def ScFr (w : World) (g last : Nat) (u : Nat → Value) : Act := { tmps := #[.pointer (some ⟨g, 0, none⟩), .pointer (some ⟨w.heap.size, 0, none⟩), .pointer (some ⟨w.heap.size + 1, 0, none⟩), .int .i64 0, .int .i64 (last : Int), .func (.func 28) #[] #[.pointer (some ⟨w.heap.size, 0, none⟩)], u 6, u 7, u 8, u 9, u 10, u 11, u 12, u 13, u 14, u 15, u 16, u 17, u 18, u 19, u 20, u 21, u 22, u 23, u 24, u 25, u 26, u 27, u 28, u 29, u 30, u 31, u 32, u 33, u 34, u 35, u 36, u 37, u 38, u 39, u 40, u 41, u 42, u 43, u 44, u 45, u 46, u 47, u 48, u 49, u 50, u 51, u 52, u 53, u 54, u 55, u 56, u 57, u 58, u 59, u 60, u 61, u 62, u 63, u 64, u 65, u 66, u 67, u 68, u 69, u 70, u 71, u 72, u 73, u 74, u 75, u 76, u 77, u 78, u 79, u 80, u 81, u 82, u 83, u 84, u 85, u 86, u 87, u 88, u 89, u 90, u 91], defers := [] }
def ScJ (w : World) (g : Nat) (s : ByteArray) (n : Int) (FIN : RL) (a' : Act) (wr : World) : Prop :=
  ∃ (at_ last : Nat) (sv : Value) (l : List Tok), Hid (ScW w g s n FIN at_ last sv l wr) ∧ ∃ (u : Nat → Value), a' = ScFr w g last u
theorem ScW.blank {w wr : World} {g : Nat} {s : ByteArray} {n : Int} {FIN : RL} {at_ last : Nat} {sv : Value} {l : List Tok} (h : ScW w g s n FIN at_ last sv l wr) (m : Nat) (hlt : g < w.heap.size) (hk : at_ < s.size) (ht : Go.Proofs.YtlmcdbegnjikdaaDoor.sc n (from_ s (at_ + 1)) (at_ + 1) last l = FIN) :
    ScW w g s n FIN (at_ + 1) last sv l ((wr.drewN m).setCell ⟨g, 2, none⟩ (.int .i64 ((at_ : Int) + 1))) ∧ muAt g s ((wr.drewN m).setCell ⟨g, 2, none⟩ (.int .i64 ((at_ : Int) + 1))) < muAt g s wr := by
  have hb := h.ln.blk.drewN m
  have e : (wr.drewN m).setCell ⟨g, 2, none⟩ (.int .i64 ((at_ : Int) + 1)) = (wr.drewN m).setRow g #[.string s, .int .i64 n, .int .i64 ((at_ : Int) + 1), sv] := by rw [hb.setCell]; rfl
  rw [e]
  have hb2 := hb.setRow #[.string s, .int .i64 n, .int .i64 ((at_ : Int) + 1), sv]
  have hle := h.lst
  have hln := h.len
  have hsz := h.ln.le
  refine ⟨⟨by omega, by omega, by omega, ht, ⟨by rw [show ((at_ + 1 : Nat) : Int) = (at_ : Int) + 1 by omega]; exact hb2, own_keep h.ln.own (fun b hb _ => setRow_other (wr.drewN m) g b _ (fun e => by have := (own_lt h.ln.own hb).2; omega)) (by simp), by omega, by simp; omega⟩,
    (h.box.drewN m).other (by omega) _, (h.res.drewN m).other (by omega) _, ((h.chg.drewN m).trans ((Chg.setRow (wr.drewN m) g _).mono (fun b hb => .inl hb)))⟩, ?_⟩
  rw [muAt_of (k := at_ + 1) (by rw [hb2.cell]; simp), muAt_of (k := at_) (by rw [h.ln.blk.cell]; simp)]
  omega
theorem ScW.tok {w wr w1 : World} {g : Nat} {s : ByteArray} {n : Int} {FIN : RL} {at_ last : Nat} {sv sv' : Value} {l : List Tok} {kk v : Int} {t r : By} (h : ScW w g s n FIN at_ last sv l wr) (hlt : g < w.heap.size) (hk : at_ < s.size) (ho : one (from_ s at_) = .ok kk t v r)
    (h35 : s[at_].toNat ≠ 35) (hbl : ¬ (s[at_].toNat = 32 ∨ s[at_].toNat = 9)) (hl : IsLn w1 (w.heap.size + 2) g s n ((s.size - r.length : Nat) : Int) sv' (l ++ [⟨kk, t, v, n, at_ + 1⟩])) (hc : Chg (LnF g (w.heap.size + 2)) wr w1) :
    ScW w g s n FIN (s.size - r.length) (s.size - r.length) sv' (l ++ [⟨kk, t, v, n, at_ + 1⟩]) w1 ∧ muAt g s w1 < muAt g s wr := by
  have hF := from_lt hk
  have ho' := ho
  rw [hF] at ho'
  have hr := one_len ho'
  have hfl := from_len s at_
  rw [← hF] at hr
  have hsf := one_suffix ho'
  rw [← hF] at hsf
  have hbk := from_back hsf (by omega) (by omega)
  have ht := h.toks
  rw [hF, sc_ok h35 hbl ho', ← hF, hfl, show at_ + (s.size - at_ - r.length) = s.size - r.length by omega, ← hbk] at ht
  have hln := h.len
  have hX := h.res.lt
  rw [hbk] at ht
  refine ⟨⟨by omega, Nat.le_refl _, by simp; omega, by rw [hbk]; exact ht, hl, (hc.block _ (by omega) (fun e => by rcases e with e | e <;> omega)).trans h.box, (hc.block _ hX (fun e => by rcases e with e | e <;> omega)).trans h.res, h.chg.trans hc⟩, ?_⟩
  rw [muAt_of (k := s.size - r.length) (by rw [hl.blk.cell]; simp), muAt_of (k := at_) (by rw [h.ln.blk.cell]; simp)]
  omega
set_option maxHeartbeats 1600000 in
theorem tell_eq (w : World) (g x : Nat) (hx : x < w.heap.size) (cs : Array Value) (n : Int) (k : Nat) (c : Int) (h1 : cs[1]? = some (.int .i64 n)) (h2 : cs[2]? = some (.int .i64 (k : Int))) (hk : k ≤ 1000) (hb : Blk w g 51 cs) (hp : Blk w x 49 #[.pointer (some ⟨g, 0, none⟩)]) :
    Calls Tryd.prog 28 #[.int .i64 c, .pointer (some ⟨x, 0, none⟩)] w fun e w' => e = .returned (.tuple #[.agg #[.int .i64 n, .int .i64 ((k : Int) + 1)], .int .i64 c]) ∧ Below w.heap.size w w' := by
  have p0 := hp.cell 0
  have c2 := hb.cell 2
  rw [h2] at c2
  have hg := hb.lt
  have PL := fun V (hV : Below w.heap.size w V) => place_eq V g cs n k h1 ⟨by omega, by omega⟩ (hb.call hV)
  clear hb hp h1 h2
  go_enter Tryd.func28, Tryd.ntmps28
  go_wp2_with fail
  go_region_with (go_at_call 29; (with_reducible refine (PL _ (by repeat' (first | with_reducible exact Below.refl _ _ | with_reducible assumption | with_reducible refine Q.alloc ?_ _ | with_reducible refine Q.drew ?_ | with_reducible refine Q.drewN ?_ _ | with_reducible refine Q.call ?_ (by assumption)))).mono ?_); rintro e w1 ⟨rfl, hb1⟩; obtain ⟨hc1, hf1, hz1⟩ := bcell hb1; have z1 : w.heap.size < w1.heap.size := (by (try simp only [World.size_alloc, World.size_drew] at hz1); omega))
  all_goals
    have BT : Blk w1 w.heap.size 25 #[.int .i64 0, .int .i64 0] := (by repeat' (first | with_reducible exact Blk.new _ _ _ | with_reducible assumption | with_reducible refine Blk.alloc ?_ _ | with_reducible refine Blk.drew ?_ | with_reducible refine Blk.call ?_ (by assumption)))
    have e : (w1.setCell ⟨w.heap.size, 0, none⟩ (.int .i64 n)).setCell ⟨w.heap.size, 1, none⟩ (.int .i64 ((k : Int) + 1)) = w1.setRow w.heap.size #[.int .i64 n, .int .i64 ((k : Int) + 1)] := by
      rw [BT.setCell, BT.setCell_setRow]; rfl
    have BR := BT.setRow #[.int .i64 n, .int .i64 ((k : Int) + 1)]
    have HB := Lib.hid (below_setRow (B := w.heap.size) (w0 := w) (w := w1) (by repeat' (first | with_reducible exact Below.refl _ _ | with_reducible assumption | with_reducible refine Q.alloc ?_ _ | with_reducible refine Q.drew ?_ | with_reducible refine Q.drewN ?_ _ | with_reducible refine Q.call ?_ (by assumption))) (g := w.heap.size) (Nat.le_refl _) #[.int .i64 n, .int .i64 ((k : Int) + 1)])
    go_wp2
    rw [e]
    generalize w1.setRow w.heap.size #[.int .i64 n, .int .i64 ((k : Int) + 1)] = W3 at BR HB ⊢
    have q0 := BR.cell 0
    have q1 := BR.cell 1
    refine bodyPost_ret (v := .tuple #[.agg #[.int .i64 n, .int .i64 ((k : Int) + 1)], .int .i64 c]) (by simp [results, Tryd.results28, go_sem, q0, q1]) rfl ⟨rfl, HB.out⟩
theorem ScJ.mk {w : World} {g : Nat} {s : ByteArray} {n : Int} {FIN : RL} {a' : Act} {wr : World} (at_ last : Nat) (sv : Value) (l : List Tok) (h : Hid (ScW w g s n FIN at_ last sv l wr)) (he : a' = ScFr w g last (fun i => a'.tmps.getD i undef)) : ScJ w g s n FIN a' wr :=
  ⟨at_, last, sv, l, h, _, he⟩
theorem ScJ.elim {w : World} {g : Nat} {s : ByteArray} {n : Int} {FIN : RL} {a' : Act} {wr : World} {C : Act → World → Prop} (h : ScJ w g s n FIN a' wr)
    (hC : ∀ (wr : World) (at_ last : Nat) (sv : Value) (l : List Tok), Hid (ScW w g s n FIN at_ last sv l wr) → ∀ (u : Nat → Value), C { tmps := #[.pointer (some ⟨g, 0, none⟩), .pointer (some ⟨w.heap.size, 0, none⟩), .pointer (some ⟨w.heap.size + 1, 0, none⟩), .int .i64 0, .int .i64 (last : Int), .func (.func 28) #[] #[.pointer (some ⟨w.heap.size, 0, none⟩)], u 6, u 7, u 8, u 9, u 10, u 11, u 12, u 13, u 14, u 15, u 16, u 17, u 18, u 19, u 20, u 21, u 22, u 23, u 24, u 25, u 26, u 27, u 28, u 29, u 30, u 31, u 32, u 33, u 34, u 35, u 36, u 37, u 38, u 39, u 40, u 41, u 42, u 43, u 44, u 45, u 46, u 47, u 48, u 49, u 50, u 51, u 52, u 53, u 54, u 55, u 56, u 57, u 58, u 59, u 60, u 61, u 62, u 63, u 64, u 65, u 66, u 67, u 68, u 69, u 70, u 71, u 72, u 73, u 74, u 75, u 76, u 77, u 78, u 79, u 80, u 81, u 82, u 83, u 84, u 85, u 86, u 87, u 88, u 89, u 90, u 91], defers := [] } wr) : C a' wr := by
  obtain ⟨at_, last, sv, l, HW, u, rfl⟩ := h
  exact hC wr at_ last sv l HW u
set_option maxRecDepth 100000 in
set_option maxHeartbeats 6400000 in
theorem scan_eq (w : World) (g : Nat) (s : ByteArray) (n : Int) (hb : Blk w g 51 #[.string s, .int .i64 n, .int .i64 0, .slice none 0 0]) (hs : s.size ≤ 1000) :
    Calls Tryd.prog 16 #[.pointer (some ⟨g, 0, none⟩)] w (ScanPost w g s n (sc n (from_ s 0) 0 0 [])) := by
  obtain ⟨FIN, HFI⟩ : ∃ FIN, FIN = sc n (from_ s 0) 0 0 [] := ⟨_, rfl⟩
  rw [← HFI]
  have hlt := hb.lt
  go_enter Tryd.func16, Tryd.ntmps16
  go_wp2
  refine wp_scope_label 0 (ScJ w g s n FIN) (fun _ wr => muAt g s wr) rfl ?_ ?_
  · clear HFI hb
    intro a' wr hJ
    refine ScJ.elim (C := fun a' wr => Code.wp Tryd.prog _ (Exit.jump 0 (fun a'' w' => ScJ w g s n FIN a'' w' ∧ muAt g s w' < muAt g s wr) _) a' wr) hJ ?_
    clear hJ a' wr
    intro wr at_ last sv l HW u
    obtain ⟨a, cap, rfl, hcap⟩ := own_slice HW.out.ln.own
    have ln := HW.out.ln
    have c0 := ln.blk.cell 0
    have c2 := ln.blk.cell 2
    have c3 := ln.blk.cell 3
    have p0 := HW.out.box.cell 0
    have r0 := HW.out.res.cell 0
    have r1 := HW.out.res.cell 1
    have rf0 := HW.out.res.frozen 0
    have rf1 := HW.out.res.frozen 1
    have hgw := ln.blk.lt
    have hXw := HW.out.res.lt
    have hle := HW.out.le
    have hlast := HW.out.lst
    have hlen := HW.out.len
    clear ln
    by_cases hend : at_ = s.size
    · have HE := Lib.hid (sc_end HW.out.toks (.inl hend))
      have hge : s.size ≤ at_ := by omega
      have hgei : (s.size : Int) ≤ (at_ : Int) := by omega
      by_cases hl0 : l.length = 0
      · have hl : l = [] := List.eq_nil_of_length_eq_zero hl0
        subst hl
        clear hend
        go_wp2
        go_quiet (fail)
        go_wp2
        simp only [Exit.jump]
        obtain ⟨e1, e2, e3⟩ := sc_done (V := wr.drewN nq) hlt 0 0 (HW.out.ln.drewN nq) (HW.out.res.drewN nq) (HW.out.chg.drewN nq)
        rw [e1]
        refine sc_ret rfl rfl e2 ?_
        unfold ScanPost
        rw [HE.out, fin_nil]
        exact ⟨rfl, e3⟩
      · have hl1 : 0 < l.length := by omega
        have hl2 : (0 : Int) < (l.length : Int) := by omega
        clear hend hl0
        obtain ⟨i0, hi0, hz0, hz1', hz2⟩ := info_parts tok_info
        have hln2 : l.length ≤ 1000 := by omega
        have hBw := HW.out.ln.le
        have PL := fun V (hV : Below wr.heap.size wr V) => place_eq V g _ n last rfl ⟨by omega, by omega⟩ (HW.out.ln.blk.call hV)
        have NE : (Value.slice a l.length cap).ownBlock ≠ some g := fun e => by have := (own_lt HW.out.ln.own e).2; omega
        have HV := Lib.hid (fun b (e : (Value.slice a l.length cap).ownBlock = some b) => (own_lt HW.out.ln.own e).2)
        go_wp2
        go_quiet (fail)
        go_wp2
        have hgx : g ≠ w.heap.size := by omega
        have hgx' : w.heap.size ≠ g := by omega
        refine wp_region_held_drew (S := (fun w' : World => w'.cell? ⟨w.heap.size, 0, none⟩ = some (.pointer (some ⟨g, 0, none⟩)))) (by kernel_rfl) ?_ (fun hHeld => ?_)
        · (try dsimp only); (first | exact p0 | exact dp | exact k2 | go_keep)
        refine wpAnyH_take (i := 0) (oi := _) (v := ?hv9) rfl (by kernel_rfl) (by kernel_rfl) (by kernel_rfl) (fun _ _ _ h => h) (Or.inl ⟨by rfl, ?hy9⟩) (by assumption) ?hr9
        case hy9 => intro wS hSw; (try dsimp only at hSw); go_simp; (try with_reducible rfl)
        (try simp only [Act.put, List.setIfInBounds_toArray, List.set_cons_zero, List.set_cons_succ])
        refine wpAnyH_take (i := 1) (oi := _) (v := ?hv10) rfl (by kernel_rfl) (by kernel_rfl) (by kernel_rfl) (fun _ _ _ h => h) (Or.inl ⟨by rfl, ?hy10⟩) (by assumption) ?hr10
        case hy10 => intro wS hSw; (try dsimp only at hSw); go_simp; (try with_reducible rfl)
        (try simp only [Act.put, List.setIfInBounds_toArray, List.set_cons_zero, List.set_cons_succ])
        refine wpAnyH_take (i := 2) (oi := _) (v := ?hv11) rfl (by kernel_rfl) (by kernel_rfl) (by kernel_rfl) (fun _ _ _ h => h) (Or.inl ⟨by rfl, ?hy11⟩) (by assumption) ?hr11
        case hy11 => intro wS hSw; (try dsimp only at hSw); go_simp; (try with_reducible rfl)
        (try simp only [Act.put, List.setIfInBounds_toArray, List.set_cons_zero, List.set_cons_succ])
        refine wpAnyH_take (i := 3) (oi := _) (v := ?hv12) rfl (by kernel_rfl) (by kernel_rfl) (by kernel_rfl) (fun _ _ _ h => h) (Or.inl ⟨by rfl, ?hy12⟩) (by assumption) ?hr12
        case hy12 => intro wS hSw; (try dsimp only at hSw); go_simp; (try with_reducible rfl)
        (try simp only [Act.put, List.setIfInBounds_toArray, List.set_cons_zero, List.set_cons_succ])
        refine wpAnyH_take (i := 5) (oi := _) (v := ?hv13) rfl (by kernel_rfl) (by kernel_rfl) (by kernel_rfl) (fun _ _ _ h => h) (Or.inl ⟨by rfl, ?hy13⟩) (by assumption) ?hr13
        case hy13 => intro wS hSw; (try dsimp only at hSw); go_simp; (try with_reducible rfl)
        (try simp only [Act.put, List.setIfInBounds_toArray, List.set_cons_zero, List.set_cons_succ])
        refine wpAnyH_take (i := 6) (oi := _) (v := ?hv14) rfl (by kernel_rfl) (by kernel_rfl) (by kernel_rfl) (fun _ _ _ h => h) (Or.inl ⟨by rfl, ?hy14⟩) (by assumption) ?hr14
        case hy14 => intro wS hSw; (try dsimp only at hSw); go_simp; (try with_reducible rfl)
        (try simp only [Act.put, List.setIfInBounds_toArray, List.set_cons_zero, List.set_cons_succ])
        refine wpAnyH_ready (rs := [4, 7]) (by kernel_rfl) (by simp) ?_
        refine AllReadyH.cons rfl (fun K hK => ?_) ?_
        · go_simp
          refine hK.out _ _ ?_ (fun hHeld => ?_)
          · (try dsimp only); (first | exact p0 | exact dp | exact k2 | go_keep)
          · clear hK K
            (try simp only [Act.put, List.setIfInBounds_toArray, List.set_cons_zero, List.set_cons_succ])
            refine wpAnyH_ready (rs := [7]) (by kernel_rfl) (by simp) ?_
            refine AllReadyH.cons rfl (fun K hK => ?_) ?_
            · go_simp
              (go_at_call 29; (with_reducible refine (PL _ (by repeat' (first | with_reducible exact Below.refl _ _ | with_reducible assumption | with_reducible refine Q.alloc ?_ _ | with_reducible refine Q.drew ?_ | with_reducible refine Q.drewN ?_ _ | with_reducible refine Q.call ?_ (by assumption)))).mono ?_); rintro e w1 ⟨rfl, hb1⟩; obtain ⟨hc1, hf1, hz1⟩ := bcell hb1; have B1 : Below wr.heap.size wr w1 := Q.call (by repeat' (first | with_reducible exact Below.refl _ _ | with_reducible assumption | with_reducible refine Q.alloc ?_ _ | with_reducible refine Q.drew ?_ | with_reducible refine Q.drewN ?_ _ | with_reducible refine Q.call ?_ (by assumption))) hb1; have z1 : wr.heap.size ≤ w1.heap.size := B1.size; have z2 : g < w1.heap.size := (by omega); have z3 : w.heap.size < w1.heap.size := (by omega); have d3 : w1.cell? ⟨g, 3, none⟩ = some (.slice a l.length cap) := (B1.cell (p := ⟨g, 3, none⟩) hgw).trans c3; have dp : w1.cell? ⟨w.heap.size, 0, none⟩ = some (.pointer (some ⟨g, 0, none⟩)) := (B1.cell (p := ⟨w.heap.size, 0, none⟩) HW.out.box.lt).trans p0)
              (try go_wp2_with fail)
              refine hK.out _ _ ?_ (fun hHeld => ?_)
              · (try dsimp only); (first | exact p0 | exact dp | exact k2 | go_keep)
              · clear hK K
                (try simp only [Act.put, List.setIfInBounds_toArray, List.set_cons_zero, List.set_cons_succ])
                refine wpAnyH_take (i := 8) (oi := _) (v := ?hv3) rfl (by kernel_rfl) (by kernel_rfl) (by kernel_rfl) (fun _ _ _ h => h) (Or.inl ⟨by rfl, ?hy3⟩) (by assumption) ?hr3
                case hy3 => intro wS hSw; (try dsimp only at hSw); go_simp; (try with_reducible rfl)
                (try simp only [Act.put, List.setIfInBounds_toArray, List.set_cons_zero, List.set_cons_succ])
                refine wpAnyH_ready (rs := [9]) (by kernel_rfl) (by simp) ?_
                refine AllReadyH.cons rfl (fun K hK => ?_) ?_
                · go_simp
                  refine hK.out _ _ ?_ (fun hHeld => ?_)
                  · (try dsimp only); (first | exact p0 | exact dp | exact k2 | go_keep)
                  · clear hK K
                    (try simp only [Act.put, List.setIfInBounds_toArray, List.set_cons_zero, List.set_cons_succ])
                    refine wpAnyH_ready (rs := [10]) (by kernel_rfl) (by simp) ?_
                    refine AllReadyH.cons rfl (fun K hK => ?_) ?_
                    · (refine step_append_lies _ (by rfl) _ _ _ (by rfl) (w.heap.size + 2) 37 i0 _ 5 48 Tryd.underlying23 hi0 hz0 hz1' hz2 rfl (by omega) (.slice a l.length cap) l.length (ET.row l) (by rfl) (by exact own_call HW.out.ln.own (by repeat' (first | with_reducible exact Below.refl _ _ | with_reducible assumption | with_reducible refine Q.alloc ?_ _ | with_reducible refine Q.drew ?_ | with_reducible refine Q.drewN ?_ _ | with_reducible refine Q.call ?_ (by assumption)))) ⟨w1.heap.size, 0, none⟩ 1 1 [.int .i64 4, .string (ByteArray.mk #[]), .int .i64 0, .int .i64 n, .int .i64 ((last : Int) + 1)] (by rfl) (by rfl) (World.news_of_block (cs := #[.int .i64 4, .string (ByteArray.mk #[]), .int .i64 0, .int .i64 n, .int .i64 ((last : Int) + 1)]) (t := 37) (fr := (0, 0)) (Blk.new' (by simp))) (by simp [Value.oneCell']) (by omega) (by unfold maxLen; omega) (by omega) (by simp; omega) (w1.heap.size + 1) (by simp) ?_; intro gg cap1 w2 hown1 hgrow hat hlt1; have hg1 : Blk w2 g 51 #[.string s, .int .i64 n, .int .i64 at_, .slice a l.length cap] := (hgrow.block g (by simp; omega) (Ne.symm NE)).trans (HW.out.ln.blk.call (by repeat' (first | with_reducible exact Below.refl _ _ | with_reducible assumption | with_reducible refine Q.alloc ?_ _ | with_reducible refine Q.drew ?_ | with_reducible refine Q.drewN ?_ _ | with_reducible refine Q.call ?_ (by assumption)))); have hx1 : Blk w2 w.heap.size 49 #[.pointer (some ⟨g, 0, none⟩)] := (hgrow.block w.heap.size (by simp; omega) (fun e => by have := HV.out _ e.symm; omega)).trans (HW.out.box.call (by repeat' (first | with_reducible exact Below.refl _ _ | with_reducible assumption | with_reducible refine Q.alloc ?_ _ | with_reducible refine Q.drew ?_ | with_reducible refine Q.drewN ?_ _ | with_reducible refine Q.call ?_ (by assumption)))); have k2 := hx1.cell 0; have k0 := hg1.cell 3; have k1 := hg1.frozen 3)
                      refine hK.out _ _ ?_ (fun hHeld => ?_)
                      · (try dsimp only); (first | exact p0 | exact dp | exact k2 | go_keep)
                      · clear hK K
                        (try simp only [Act.put, List.setIfInBounds_toArray, List.set_cons_zero, List.set_cons_succ])
                        refine wpAnyH_take (i := 11) (oi := _) (v := ?hv1) rfl (by kernel_rfl) (by kernel_rfl) (by kernel_rfl) (fun _ _ _ h => h) (Or.inl ⟨by rfl, ?hy1⟩) (by assumption) ?hr1
                        case hy1 => intro wS hSw; (try dsimp only at hSw); go_simp; (try with_reducible rfl)
                        (try simp only [Act.put, List.setIfInBounds_toArray, List.set_cons_zero, List.set_cons_succ])
                        refine wpAnyH_take (i := 12) (oi := _) (v := ?hv2) rfl (by kernel_rfl) (by kernel_rfl) (by kernel_rfl) (fun _ _ _ h => h) (Or.inl ⟨by rfl, ?hy2⟩) (by assumption) ?hr2
                        case hy2 => intro wS hSw; (try dsimp only at hSw); go_simp; (try with_reducible rfl)
                        (try simp only [Act.put, List.setIfInBounds_toArray, List.set_cons_zero, List.set_cons_succ])
                        refine wpAnyH_ready (rs := [13]) (by kernel_rfl) (by simp) ?_
                        refine AllReadyH.cons rfl (fun K hK => ?_) ?_
                        · go_simp
                          refine hK.out _ _ ?_ (fun hHeld => ?_)
                          · (try dsimp only); (first | exact p0 | exact dp | exact k2 | go_keep)
                          · clear hK K
                            (try simp only [Act.put, List.setIfInBounds_toArray, List.set_cons_zero, List.set_cons_succ])
                            refine wpAnyH_done (by kernel_rfl) ?_ _
                            have e3 : w2.setCell ⟨g, 3, none⟩ (.slice (some ⟨gg, 0, none⟩) (l.length + 1) cap1) = w2.setRow g #[.string s, .int .i64 n, .int .i64 at_, .slice (some ⟨gg, 0, none⟩) (l.length + 1) cap1] := by
                              rw [hg1.setCell]; rfl
                            rw [e3]
                            obtain ⟨p1, p2, p3, p4⟩ := ln_push (w := wr) (cs' := #[.string s, .int .i64 n, .int .i64 at_, .slice (some ⟨gg, 0, none⟩) (l.length + 1) cap1]) hg1 hown1 hgrow (by repeat' (first | with_reducible exact Below.refl _ _ | with_reducible assumption | with_reducible refine Q.alloc ?_ _ | with_reducible refine Q.drew ?_ | with_reducible refine Q.drewN ?_ _ | with_reducible refine Q.call ?_ (by assumption))) HV.out (by omega) hBw
                            have res : Blk (w2.setRow g #[.string s, .int .i64 n, .int .i64 at_, .slice (some ⟨gg, 0, none⟩) (l.length + 1) cap1]) (w.heap.size + 1) 25 #[.int .i64 0, .int .i64 0] := (p4.block _ hXw (fun e => by rcases e with e | e <;> omega)).trans HW.out.res
                            generalize w2.setRow g #[.string s, .int .i64 n, .int .i64 at_, .slice (some ⟨gg, 0, none⟩) (l.length + 1) cap1] = W3 at p1 p2 p3 p4 res ⊢
                            have q0 := res.cell 0
                            have q1 := res.cell 1
                            have q2 := res.frozen 0
                            have q3 := res.frozen 1
                            clear rf0 rf1 r0 r1
                            go_wp2
                            simp only [Exit.jump]
                            obtain ⟨e1, e2, e4⟩ := sc_done (l := l ++ [⟨4, [], 0, n, last + 1⟩]) hlt 0 0 ⟨p1, by rw [List.length_append, ET_snoc]; exact p2, by omega, p3⟩ res (HW.out.chg.trans p4)
                            rw [e1]
                            refine sc_ret rfl rfl e2 ?_
                            unfold ScanPost
                            rw [HE.out, fin_some hl1]
                            exact ⟨rfl, e4⟩
                        exact AllReadyH.nil
                    exact AllReadyH.nil
                exact AllReadyH.nil
            exact AllReadyH.nil
        refine AllReadyH.cons rfl (fun K hK => ?_) ?_
        · go_simp
          (go_at_call 29; (with_reducible refine (PL _ (by repeat' (first | with_reducible exact Below.refl _ _ | with_reducible assumption | with_reducible refine Q.alloc ?_ _ | with_reducible refine Q.drew ?_ | with_reducible refine Q.drewN ?_ _ | with_reducible refine Q.call ?_ (by assumption)))).mono ?_); rintro e w1 ⟨rfl, hb1⟩; obtain ⟨hc1, hf1, hz1⟩ := bcell hb1; have B1 : Below wr.heap.size wr w1 := Q.call (by repeat' (first | with_reducible exact Below.refl _ _ | with_reducible assumption | with_reducible refine Q.alloc ?_ _ | with_reducible refine Q.drew ?_ | with_reducible refine Q.drewN ?_ _ | with_reducible refine Q.call ?_ (by assumption))) hb1; have z1 : wr.heap.size ≤ w1.heap.size := B1.size; have z2 : g < w1.heap.size := (by omega); have z3 : w.heap.size < w1.heap.size := (by omega); have d3 : w1.cell? ⟨g, 3, none⟩ = some (.slice a l.length cap) := (B1.cell (p := ⟨g, 3, none⟩) hgw).trans c3; have dp : w1.cell? ⟨w.heap.size, 0, none⟩ = some (.pointer (some ⟨g, 0, none⟩)) := (B1.cell (p := ⟨w.heap.size, 0, none⟩) HW.out.box.lt).trans p0)
          (try go_wp2_with fail)
          refine hK.out _ _ ?_ (fun hHeld => ?_)
          · (try dsimp only); (first | exact p0 | exact dp | exact k2 | go_keep)
          · clear hK K
            (try simp only [Act.put, List.setIfInBounds_toArray, List.set_cons_zero, List.set_cons_succ])
            refine wpAnyH_take (i := 8) (oi := _) (v := ?hv4) rfl (by kernel_rfl) (by kernel_rfl) (by kernel_rfl) (fun _ _ _ h => h) (Or.inl ⟨by rfl, ?hy4⟩) (by assumption) ?hr4
            case hy4 => intro wS hSw; (try dsimp only at hSw); go_simp; (try with_reducible rfl)
            (try simp only [Act.put, List.setIfInBounds_toArray, List.set_cons_zero, List.set_cons_succ])
            refine wpAnyH_ready (rs := [4, 9]) (by kernel_rfl) (by simp) ?_
            refine AllReadyH.cons rfl (fun K hK => ?_) ?_
            · go_simp
              refine hK.out _ _ ?_ (fun hHeld => ?_)
              · (try dsimp only); (first | exact p0 | exact dp | exact k2 | go_keep)
              · clear hK K
                (try simp only [Act.put, List.setIfInBounds_toArray, List.set_cons_zero, List.set_cons_succ])
                refine wpAnyH_ready (rs := [9]) (by kernel_rfl) (by simp) ?_
                refine AllReadyH.cons rfl (fun K hK => ?_) ?_
                · go_simp
                  refine hK.out _ _ ?_ (fun hHeld => ?_)
                  · (try dsimp only); (first | exact p0 | exact dp | exact k2 | go_keep)
                  · clear hK K
                    (try simp only [Act.put, List.setIfInBounds_toArray, List.set_cons_zero, List.set_cons_succ])
                    refine wpAnyH_ready (rs := [10]) (by kernel_rfl) (by simp) ?_
                    refine AllReadyH.cons rfl (fun K hK => ?_) ?_
                    · (refine step_append_lies _ (by rfl) _ _ _ (by rfl) (w.heap.size + 2) 37 i0 _ 5 48 Tryd.underlying23 hi0 hz0 hz1' hz2 rfl (by omega) (.slice a l.length cap) l.length (ET.row l) (by rfl) (by exact own_call HW.out.ln.own (by repeat' (first | with_reducible exact Below.refl _ _ | with_reducible assumption | with_reducible refine Q.alloc ?_ _ | with_reducible refine Q.drew ?_ | with_reducible refine Q.drewN ?_ _ | with_reducible refine Q.call ?_ (by assumption)))) ⟨w1.heap.size, 0, none⟩ 1 1 [.int .i64 4, .string (ByteArray.mk #[]), .int .i64 0, .int .i64 n, .int .i64 ((last : Int) + 1)] (by rfl) (by rfl) (World.news_of_block (cs := #[.int .i64 4, .string (ByteArray.mk #[]), .int .i64 0, .int .i64 n, .int .i64 ((last : Int) + 1)]) (t := 37) (fr := (0, 0)) (Blk.new' (by simp))) (by simp [Value.oneCell']) (by omega) (by unfold maxLen; omega) (by omega) (by simp; omega) (w1.heap.size + 1) (by simp) ?_; intro gg cap1 w2 hown1 hgrow hat hlt1; have hg1 : Blk w2 g 51 #[.string s, .int .i64 n, .int .i64 at_, .slice a l.length cap] := (hgrow.block g (by simp; omega) (Ne.symm NE)).trans (HW.out.ln.blk.call (by repeat' (first | with_reducible exact Below.refl _ _ | with_reducible assumption | with_reducible refine Q.alloc ?_ _ | with_reducible refine Q.drew ?_ | with_reducible refine Q.drewN ?_ _ | with_reducible refine Q.call ?_ (by assumption)))); have hx1 : Blk w2 w.heap.size 49 #[.pointer (some ⟨g, 0, none⟩)] := (hgrow.block w.heap.size (by simp; omega) (fun e => by have := HV.out _ e.symm; omega)).trans (HW.out.box.call (by repeat' (first | with_reducible exact Below.refl _ _ | with_reducible assumption | with_reducible refine Q.alloc ?_ _ | with_reducible refine Q.drew ?_ | with_reducible refine Q.drewN ?_ _ | with_reducible refine Q.call ?_ (by assumption)))); have k2 := hx1.cell 0; have k0 := hg1.cell 3; have k1 := hg1.frozen 3)
                      refine hK.out _ _ ?_ (fun hHeld => ?_)
                      · (try dsimp only); (first | exact p0 | exact dp | exact k2 | go_keep)
                      · clear hK K
                        (try simp only [Act.put, List.setIfInBounds_toArray, List.set_cons_zero, List.set_cons_succ])
                        refine wpAnyH_take (i := 11) (oi := _) (v := ?hv5) rfl (by kernel_rfl) (by kernel_rfl) (by kernel_rfl) (fun _ _ _ h => h) (Or.inl ⟨by rfl, ?hy5⟩) (by assumption) ?hr5
                        case hy5 => intro wS hSw; (try dsimp only at hSw); go_simp; (try with_reducible rfl)
                        (try simp only [Act.put, List.setIfInBounds_toArray, List.set_cons_zero, List.set_cons_succ])
                        refine wpAnyH_take (i := 12) (oi := _) (v := ?hv6) rfl (by kernel_rfl) (by kernel_rfl) (by kernel_rfl) (fun _ _ _ h => h) (Or.inl ⟨by rfl, ?hy6⟩) (by assumption) ?hr6
                        case hy6 => intro wS hSw; (try dsimp only at hSw); go_simp; (try with_reducible rfl)
                        (try simp only [Act.put, List.setIfInBounds_toArray, List.set_cons_zero, List.set_cons_succ])
                        refine wpAnyH_ready (rs := [13]) (by kernel_rfl) (by simp) ?_
                        refine AllReadyH.cons rfl (fun K hK => ?_) ?_
                        · go_simp
                          refine hK.out _ _ ?_ (fun hHeld => ?_)
                          · (try dsimp only); (first | exact p0 | exact dp | exact k2 | go_keep)
                          · clear hK K
                            (try simp only [Act.put, List.setIfInBounds_toArray, List.set_cons_zero, List.set_cons_succ])
                            refine wpAnyH_done (by kernel_rfl) ?_ _
                            have e3 : w2.setCell ⟨g, 3, none⟩ (.slice (some ⟨gg, 0, none⟩) (l.length + 1) cap1) = w2.setRow g #[.string s, .int .i64 n, .int .i64 at_, .slice (some ⟨gg, 0, none⟩) (l.length + 1) cap1] := by
                              rw [hg1.setCell]; rfl
                            rw [e3]
                            obtain ⟨p1, p2, p3, p4⟩ := ln_push (w := wr) (cs' := #[.string s, .int .i64 n, .int .i64 at_, .slice (some ⟨gg, 0, none⟩) (l.length + 1) cap1]) hg1 hown1 hgrow (by repeat' (first | with_reducible exact Below.refl _ _ | with_reducible assumption | with_reducible refine Q.alloc ?_ _ | with_reducible refine Q.drew ?_ | with_reducible refine Q.drewN ?_ _ | with_reducible refine Q.call ?_ (by assumption))) HV.out (by omega) hBw
                            have res : Blk (w2.setRow g #[.string s, .int .i64 n, .int .i64 at_, .slice (some ⟨gg, 0, none⟩) (l.length + 1) cap1]) (w.heap.size + 1) 25 #[.int .i64 0, .int .i64 0] := (p4.block _ hXw (fun e => by rcases e with e | e <;> omega)).trans HW.out.res
                            generalize w2.setRow g #[.string s, .int .i64 n, .int .i64 at_, .slice (some ⟨gg, 0, none⟩) (l.length + 1) cap1] = W3 at p1 p2 p3 p4 res ⊢
                            have q0 := res.cell 0
                            have q1 := res.cell 1
                            have q2 := res.frozen 0
                            have q3 := res.frozen 1
                            clear rf0 rf1 r0 r1
                            go_wp2
                            simp only [Exit.jump]
                            obtain ⟨e1, e2, e4⟩ := sc_done (l := l ++ [⟨4, [], 0, n, last + 1⟩]) hlt 0 0 ⟨p1, by rw [List.length_append, ET_snoc]; exact p2, by omega, p3⟩ res (HW.out.chg.trans p4)
                            rw [e1]
                            refine sc_ret rfl rfl e2 ?_
                            unfold ScanPost
                            rw [HE.out, fin_some hl1]
                            exact ⟨rfl, e4⟩
                        exact AllReadyH.nil
                    exact AllReadyH.nil
                exact AllReadyH.nil
            refine AllReadyH.cons rfl (fun K hK => ?_) ?_
            · go_simp
              refine hK.out _ _ ?_ (fun hHeld => ?_)
              · (try dsimp only); (first | exact p0 | exact dp | exact k2 | go_keep)
              · clear hK K
                (try simp only [Act.put, List.setIfInBounds_toArray, List.set_cons_zero, List.set_cons_succ])
                refine wpAnyH_ready (rs := [4]) (by kernel_rfl) (by simp) ?_
                refine AllReadyH.cons rfl (fun K hK => ?_) ?_
                · go_simp
                  refine hK.out _ _ ?_ (fun hHeld => ?_)
                  · (try dsimp only); (first | exact p0 | exact dp | exact k2 | go_keep)
                  · clear hK K
                    (try simp only [Act.put, List.setIfInBounds_toArray, List.set_cons_zero, List.set_cons_succ])
                    refine wpAnyH_ready (rs := [10]) (by kernel_rfl) (by simp) ?_
                    refine AllReadyH.cons rfl (fun K hK => ?_) ?_
                    · (refine step_append_lies _ (by rfl) _ _ _ (by rfl) (w.heap.size + 2) 37 i0 _ 5 48 Tryd.underlying23 hi0 hz0 hz1' hz2 rfl (by omega) (.slice a l.length cap) l.length (ET.row l) (by rfl) (by exact own_call HW.out.ln.own (by repeat' (first | with_reducible exact Below.refl _ _ | with_reducible assumption | with_reducible refine Q.alloc ?_ _ | with_reducible refine Q.drew ?_ | with_reducible refine Q.drewN ?_ _ | with_reducible refine Q.call ?_ (by assumption)))) ⟨w1.heap.size, 0, none⟩ 1 1 [.int .i64 4, .string (ByteArray.mk #[]), .int .i64 0, .int .i64 n, .int .i64 ((last : Int) + 1)] (by rfl) (by rfl) (World.news_of_block (cs := #[.int .i64 4, .string (ByteArray.mk #[]), .int .i64 0, .int .i64 n, .int .i64 ((last : Int) + 1)]) (t := 37) (fr := (0, 0)) (Blk.new' (by simp))) (by simp [Value.oneCell']) (by omega) (by unfold maxLen; omega) (by omega) (by simp; omega) (w1.heap.size + 1) (by simp) ?_; intro gg cap1 w2 hown1 hgrow hat hlt1; have hg1 : Blk w2 g 51 #[.string s, .int .i64 n, .int .i64 at_, .slice a l.length cap] := (hgrow.block g (by simp; omega) (Ne.symm NE)).trans (HW.out.ln.blk.call (by repeat' (first | with_reducible exact Below.refl _ _ | with_reducible assumption | with_reducible refine Q.alloc ?_ _ | with_reducible refine Q.drew ?_ | with_reducible refine Q.drewN ?_ _ | with_reducible refine Q.call ?_ (by assumption)))); have hx1 : Blk w2 w.heap.size 49 #[.pointer (some ⟨g, 0, none⟩)] := (hgrow.block w.heap.size (by simp; omega) (fun e => by have := HV.out _ e.symm; omega)).trans (HW.out.box.call (by repeat' (first | with_reducible exact Below.refl _ _ | with_reducible assumption | with_reducible refine Q.alloc ?_ _ | with_reducible refine Q.drew ?_ | with_reducible refine Q.drewN ?_ _ | with_reducible refine Q.call ?_ (by assumption)))); have k2 := hx1.cell 0; have k0 := hg1.cell 3; have k1 := hg1.frozen 3)
                      refine hK.out _ _ ?_ (fun hHeld => ?_)
                      · (try dsimp only); (first | exact p0 | exact dp | exact k2 | go_keep)
                      · clear hK K
                        (try simp only [Act.put, List.setIfInBounds_toArray, List.set_cons_zero, List.set_cons_succ])
                        refine wpAnyH_take (i := 11) (oi := _) (v := ?hv7) rfl (by kernel_rfl) (by kernel_rfl) (by kernel_rfl) (fun _ _ _ h => h) (Or.inl ⟨by rfl, ?hy7⟩) (by assumption) ?hr7
                        case hy7 => intro wS hSw; (try dsimp only at hSw); go_simp; (try with_reducible rfl)
                        (try simp only [Act.put, List.setIfInBounds_toArray, List.set_cons_zero, List.set_cons_succ])
                        refine wpAnyH_take (i := 12) (oi := _) (v := ?hv8) rfl (by kernel_rfl) (by kernel_rfl) (by kernel_rfl) (fun _ _ _ h => h) (Or.inl ⟨by rfl, ?hy8⟩) (by assumption) ?hr8
                        case hy8 => intro wS hSw; (try dsimp only at hSw); go_simp; (try with_reducible rfl)
                        (try simp only [Act.put, List.setIfInBounds_toArray, List.set_cons_zero, List.set_cons_succ])
                        refine wpAnyH_ready (rs := [13]) (by kernel_rfl) (by simp) ?_
                        refine AllReadyH.cons rfl (fun K hK => ?_) ?_
                        · go_simp
                          refine hK.out _ _ ?_ (fun hHeld => ?_)
                          · (try dsimp only); (first | exact p0 | exact dp | exact k2 | go_keep)
                          · clear hK K
                            (try simp only [Act.put, List.setIfInBounds_toArray, List.set_cons_zero, List.set_cons_succ])
                            refine wpAnyH_done (by kernel_rfl) ?_ _
                            have e3 : w2.setCell ⟨g, 3, none⟩ (.slice (some ⟨gg, 0, none⟩) (l.length + 1) cap1) = w2.setRow g #[.string s, .int .i64 n, .int .i64 at_, .slice (some ⟨gg, 0, none⟩) (l.length + 1) cap1] := by
                              rw [hg1.setCell]; rfl
                            rw [e3]
                            obtain ⟨p1, p2, p3, p4⟩ := ln_push (w := wr) (cs' := #[.string s, .int .i64 n, .int .i64 at_, .slice (some ⟨gg, 0, none⟩) (l.length + 1) cap1]) hg1 hown1 hgrow (by repeat' (first | with_reducible exact Below.refl _ _ | with_reducible assumption | with_reducible refine Q.alloc ?_ _ | with_reducible refine Q.drew ?_ | with_reducible refine Q.drewN ?_ _ | with_reducible refine Q.call ?_ (by assumption))) HV.out (by omega) hBw
                            have res : Blk (w2.setRow g #[.string s, .int .i64 n, .int .i64 at_, .slice (some ⟨gg, 0, none⟩) (l.length + 1) cap1]) (w.heap.size + 1) 25 #[.int .i64 0, .int .i64 0] := (p4.block _ hXw (fun e => by rcases e with e | e <;> omega)).trans HW.out.res
                            generalize w2.setRow g #[.string s, .int .i64 n, .int .i64 at_, .slice (some ⟨gg, 0, none⟩) (l.length + 1) cap1] = W3 at p1 p2 p3 p4 res ⊢
                            have q0 := res.cell 0
                            have q1 := res.cell 1
                            have q2 := res.frozen 0
                            have q3 := res.frozen 1
                            clear rf0 rf1 r0 r1
                            go_wp2
                            simp only [Exit.jump]
                            obtain ⟨e1, e2, e4⟩ := sc_done (l := l ++ [⟨4, [], 0, n, last + 1⟩]) hlt 0 0 ⟨p1, by rw [List.length_append, ET_snoc]; exact p2, by omega, p3⟩ res (HW.out.chg.trans p4)
                            rw [e1]
                            refine sc_ret rfl rfl e2 ?_
                            unfold ScanPost
                            rw [HE.out, fin_some hl1]
                            exact ⟨rfl, e4⟩
                        exact AllReadyH.nil
                    exact AllReadyH.nil
                exact AllReadyH.nil
            exact AllReadyH.nil
        exact AllReadyH.nil
    · have hk : at_ < s.size := by omega
      have hki : ¬ (s.size : Int) ≤ (at_ : Int) := by omega
      by_cases h35 : s[at_].toNat = 35
      · have HE := Lib.hid (sc_end HW.out.toks (.inr ⟨hk, h35⟩))
        have b35 : ((s[at_].toNat : Int) == 35) = true := by rw [beq_iff_eq]; omega
        clear h35 hend
        by_cases hl0 : l.length = 0
        · have hl : l = [] := List.eq_nil_of_length_eq_zero hl0
          subst hl
          go_wp2
          go_quiet (fail)
          go_wp2
          simp only [Exit.jump]
          obtain ⟨e1, e2, e3⟩ := sc_done (V := wr.drewN nq) hlt 0 0 (HW.out.ln.drewN nq) (HW.out.res.drewN nq) (HW.out.chg.drewN nq)
          rw [e1]
          refine sc_ret rfl rfl e2 ?_
          unfold ScanPost
          rw [HE.out, fin_nil]
          exact ⟨rfl, e3⟩
        · have hl1 : 0 < l.length := by omega
          have hl2 : (0 : Int) < (l.length : Int) := by omega
          clear hl0
          obtain ⟨i0, hi0, hz0, hz1', hz2⟩ := info_parts tok_info
          have hln2 : l.length ≤ 1000 := by omega
          have hBw := HW.out.ln.le
          have PL := fun V (hV : Below wr.heap.size wr V) => place_eq V g _ n last rfl ⟨by omega, by omega⟩ (HW.out.ln.blk.call hV)
          have NE : (Value.slice a l.length cap).ownBlock ≠ some g := fun e => by have := (own_lt HW.out.ln.own e).2; omega
          have HV := Lib.hid (fun b (e : (Value.slice a l.length cap).ownBlock = some b) => (own_lt HW.out.ln.own e).2)
          go_wp2
          go_quiet (fail)
          go_wp2
          have hgx : g ≠ w.heap.size := by omega
          have hgx' : w.heap.size ≠ g := by omega
          refine wp_region_held_drew (S := (fun w' : World => w'.cell? ⟨w.heap.size, 0, none⟩ = some (.pointer (some ⟨g, 0, none⟩)))) (by kernel_rfl) ?_ (fun hHeld => ?_)
          · (try dsimp only); (first | exact p0 | exact dp | exact k2 | go_keep)
          refine wpAnyH_take (i := 0) (oi := _) (v := ?hv23) rfl (by kernel_rfl) (by kernel_rfl) (by kernel_rfl) (fun _ _ _ h => h) (Or.inl ⟨by rfl, ?hy23⟩) (by assumption) ?hr23
          case hy23 => intro wS hSw; (try dsimp only at hSw); go_simp; (try with_reducible rfl)
          (try simp only [Act.put, List.setIfInBounds_toArray, List.set_cons_zero, List.set_cons_succ])
          refine wpAnyH_take (i := 1) (oi := _) (v := ?hv24) rfl (by kernel_rfl) (by kernel_rfl) (by kernel_rfl) (fun _ _ _ h => h) (Or.inl ⟨by rfl, ?hy24⟩) (by assumption) ?hr24
          case hy24 => intro wS hSw; (try dsimp only at hSw); go_simp; (try with_reducible rfl)
          (try simp only [Act.put, List.setIfInBounds_toArray, List.set_cons_zero, List.set_cons_succ])
          refine wpAnyH_take (i := 2) (oi := _) (v := ?hv25) rfl (by kernel_rfl) (by kernel_rfl) (by kernel_rfl) (fun _ _ _ h => h) (Or.inl ⟨by rfl, ?hy25⟩) (by assumption) ?hr25
          case hy25 => intro wS hSw; (try dsimp only at hSw); go_simp; (try with_reducible rfl)
          (try simp only [Act.put, List.setIfInBounds_toArray, List.set_cons_zero, List.set_cons_succ])
          refine wpAnyH_take (i := 3) (oi := _) (v := ?hv26) rfl (by kernel_rfl) (by kernel_rfl) (by kernel_rfl) (fun _ _ _ h => h) (Or.inl ⟨by rfl, ?hy26⟩) (by assumption) ?hr26
          case hy26 => intro wS hSw; (try dsimp only at hSw); go_simp; (try with_reducible rfl)
          (try simp only [Act.put, List.setIfInBounds_toArray, List.set_cons_zero, List.set_cons_succ])
          refine wpAnyH_take (i := 5) (oi := _) (v := ?hv27) rfl (by kernel_rfl) (by kernel_rfl) (by kernel_rfl) (fun _ _ _ h => h) (Or.inl ⟨by rfl, ?hy27⟩) (by assumption) ?hr27
          case hy27 => intro wS hSw; (try dsimp only at hSw); go_simp; (try with_reducible rfl)
          (try simp only [Act.put, List.setIfInBounds_toArray, List.set_cons_zero, List.set_cons_succ])
          refine wpAnyH_take (i := 6) (oi := _) (v := ?hv28) rfl (by kernel_rfl) (by kernel_rfl) (by kernel_rfl) (fun _ _ _ h => h) (Or.inl ⟨by rfl, ?hy28⟩) (by assumption) ?hr28
          case hy28 => intro wS hSw; (try dsimp only at hSw); go_simp; (try with_reducible rfl)
          (try simp only [Act.put, List.setIfInBounds_toArray, List.set_cons_zero, List.set_cons_succ])
          refine wpAnyH_ready (rs := [4, 7]) (by kernel_rfl) (by simp) ?_
          refine AllReadyH.cons rfl (fun K hK => ?_) ?_
          · go_simp
            refine hK.out _ _ ?_ (fun hHeld => ?_)
            · (try dsimp only); (first | exact p0 | exact dp | exact k2 | go_keep)
            · clear hK K
              (try simp only [Act.put, List.setIfInBounds_toArray, List.set_cons_zero, List.set_cons_succ])
              refine wpAnyH_ready (rs := [7]) (by kernel_rfl) (by simp) ?_
              refine AllReadyH.cons rfl (fun K hK => ?_) ?_
              · go_simp
                (go_at_call 29; (with_reducible refine (PL _ (by repeat' (first | with_reducible exact Below.refl _ _ | with_reducible assumption | with_reducible refine Q.alloc ?_ _ | with_reducible refine Q.drew ?_ | with_reducible refine Q.drewN ?_ _ | with_reducible refine Q.call ?_ (by assumption)))).mono ?_); rintro e w1 ⟨rfl, hb1⟩; obtain ⟨hc1, hf1, hz1⟩ := bcell hb1; have B1 : Below wr.heap.size wr w1 := Q.call (by repeat' (first | with_reducible exact Below.refl _ _ | with_reducible assumption | with_reducible refine Q.alloc ?_ _ | with_reducible refine Q.drew ?_ | with_reducible refine Q.drewN ?_ _ | with_reducible refine Q.call ?_ (by assumption))) hb1; have z1 : wr.heap.size ≤ w1.heap.size := B1.size; have z2 : g < w1.heap.size := (by omega); have z3 : w.heap.size < w1.heap.size := (by omega); have d3 : w1.cell? ⟨g, 3, none⟩ = some (.slice a l.length cap) := (B1.cell (p := ⟨g, 3, none⟩) hgw).trans c3; have dp : w1.cell? ⟨w.heap.size, 0, none⟩ = some (.pointer (some ⟨g, 0, none⟩)) := (B1.cell (p := ⟨w.heap.size, 0, none⟩) HW.out.box.lt).trans p0)
                (try go_wp2_with fail)
                refine hK.out _ _ ?_ (fun hHeld => ?_)
                · (try dsimp only); (first | exact p0 | exact dp | exact k2 | go_keep)
                · clear hK K
                  (try simp only [Act.put, List.setIfInBounds_toArray, List.set_cons_zero, List.set_cons_succ])
                  refine wpAnyH_take (i := 8) (oi := _) (v := ?hv17) rfl (by kernel_rfl) (by kernel_rfl) (by kernel_rfl) (fun _ _ _ h => h) (Or.inl ⟨by rfl, ?hy17⟩) (by assumption) ?hr17
                  case hy17 => intro wS hSw; (try dsimp only at hSw); go_simp; (try with_reducible rfl)
                  (try simp only [Act.put, List.setIfInBounds_toArray, List.set_cons_zero, List.set_cons_succ])
                  refine wpAnyH_ready (rs := [9]) (by kernel_rfl) (by simp) ?_
                  refine AllReadyH.cons rfl (fun K hK => ?_) ?_
                  · go_simp
                    refine hK.out _ _ ?_ (fun hHeld => ?_)
                    · (try dsimp only); (first | exact p0 | exact dp | exact k2 | go_keep)
                    · clear hK K
                      (try simp only [Act.put, List.setIfInBounds_toArray, List.set_cons_zero, List.set_cons_succ])
                      refine wpAnyH_ready (rs := [10]) (by kernel_rfl) (by simp) ?_
                      refine AllReadyH.cons rfl (fun K hK => ?_) ?_
                      · (refine step_append_lies _ (by rfl) _ _ _ (by rfl) (w.heap.size + 2) 37 i0 _ 5 48 Tryd.underlying23 hi0 hz0 hz1' hz2 rfl (by omega) (.slice a l.length cap) l.length (ET.row l) (by rfl) (by exact own_call HW.out.ln.own (by repeat' (first | with_reducible exact Below.refl _ _ | with_reducible assumption | with_reducible refine Q.alloc ?_ _ | with_reducible refine Q.drew ?_ | with_reducible refine Q.drewN ?_ _ | with_reducible refine Q.call ?_ (by assumption)))) ⟨w1.heap.size, 0, none⟩ 1 1 [.int .i64 4, .string (ByteArray.mk #[]), .int .i64 0, .int .i64 n, .int .i64 ((last : Int) + 1)] (by rfl) (by rfl) (World.news_of_block (cs := #[.int .i64 4, .string (ByteArray.mk #[]), .int .i64 0, .int .i64 n, .int .i64 ((last : Int) + 1)]) (t := 37) (fr := (0, 0)) (Blk.new' (by simp))) (by simp [Value.oneCell']) (by omega) (by unfold maxLen; omega) (by omega) (by simp; omega) (w1.heap.size + 1) (by simp) ?_; intro gg cap1 w2 hown1 hgrow hat hlt1; have hg1 : Blk w2 g 51 #[.string s, .int .i64 n, .int .i64 at_, .slice a l.length cap] := (hgrow.block g (by simp; omega) (Ne.symm NE)).trans (HW.out.ln.blk.call (by repeat' (first | with_reducible exact Below.refl _ _ | with_reducible assumption | with_reducible refine Q.alloc ?_ _ | with_reducible refine Q.drew ?_ | with_reducible refine Q.drewN ?_ _ | with_reducible refine Q.call ?_ (by assumption)))); have hx1 : Blk w2 w.heap.size 49 #[.pointer (some ⟨g, 0, none⟩)] := (hgrow.block w.heap.size (by simp; omega) (fun e => by have := HV.out _ e.symm; omega)).trans (HW.out.box.call (by repeat' (first | with_reducible exact Below.refl _ _ | with_reducible assumption | with_reducible refine Q.alloc ?_ _ | with_reducible refine Q.drew ?_ | with_reducible refine Q.drewN ?_ _ | with_reducible refine Q.call ?_ (by assumption)))); have k2 := hx1.cell 0; have k0 := hg1.cell 3; have k1 := hg1.frozen 3)
                        refine hK.out _ _ ?_ (fun hHeld => ?_)
                        · (try dsimp only); (first | exact p0 | exact dp | exact k2 | go_keep)
                        · clear hK K
                          (try simp only [Act.put, List.setIfInBounds_toArray, List.set_cons_zero, List.set_cons_succ])
                          refine wpAnyH_take (i := 11) (oi := _) (v := ?hv15) rfl (by kernel_rfl) (by kernel_rfl) (by kernel_rfl) (fun _ _ _ h => h) (Or.inl ⟨by rfl, ?hy15⟩) (by assumption) ?hr15
                          case hy15 => intro wS hSw; (try dsimp only at hSw); go_simp; (try with_reducible rfl)
                          (try simp only [Act.put, List.setIfInBounds_toArray, List.set_cons_zero, List.set_cons_succ])
                          refine wpAnyH_take (i := 12) (oi := _) (v := ?hv16) rfl (by kernel_rfl) (by kernel_rfl) (by kernel_rfl) (fun _ _ _ h => h) (Or.inl ⟨by rfl, ?hy16⟩) (by assumption) ?hr16
                          case hy16 => intro wS hSw; (try dsimp only at hSw); go_simp; (try with_reducible rfl)
                          (try simp only [Act.put, List.setIfInBounds_toArray, List.set_cons_zero, List.set_cons_succ])
                          refine wpAnyH_ready (rs := [13]) (by kernel_rfl) (by simp) ?_
                          refine AllReadyH.cons rfl (fun K hK => ?_) ?_
                          · go_simp
                            refine hK.out _ _ ?_ (fun hHeld => ?_)
                            · (try dsimp only); (first | exact p0 | exact dp | exact k2 | go_keep)
                            · clear hK K
                              (try simp only [Act.put, List.setIfInBounds_toArray, List.set_cons_zero, List.set_cons_succ])
                              refine wpAnyH_done (by kernel_rfl) ?_ _
                              have e3 : w2.setCell ⟨g, 3, none⟩ (.slice (some ⟨gg, 0, none⟩) (l.length + 1) cap1) = w2.setRow g #[.string s, .int .i64 n, .int .i64 at_, .slice (some ⟨gg, 0, none⟩) (l.length + 1) cap1] := by
                                rw [hg1.setCell]; rfl
                              rw [e3]
                              obtain ⟨p1, p2, p3, p4⟩ := ln_push (w := wr) (cs' := #[.string s, .int .i64 n, .int .i64 at_, .slice (some ⟨gg, 0, none⟩) (l.length + 1) cap1]) hg1 hown1 hgrow (by repeat' (first | with_reducible exact Below.refl _ _ | with_reducible assumption | with_reducible refine Q.alloc ?_ _ | with_reducible refine Q.drew ?_ | with_reducible refine Q.drewN ?_ _ | with_reducible refine Q.call ?_ (by assumption))) HV.out (by omega) hBw
                              have res : Blk (w2.setRow g #[.string s, .int .i64 n, .int .i64 at_, .slice (some ⟨gg, 0, none⟩) (l.length + 1) cap1]) (w.heap.size + 1) 25 #[.int .i64 0, .int .i64 0] := (p4.block _ hXw (fun e => by rcases e with e | e <;> omega)).trans HW.out.res
                              generalize w2.setRow g #[.string s, .int .i64 n, .int .i64 at_, .slice (some ⟨gg, 0, none⟩) (l.length + 1) cap1] = W3 at p1 p2 p3 p4 res ⊢
                              have q0 := res.cell 0
                              have q1 := res.cell 1
                              have q2 := res.frozen 0
                              have q3 := res.frozen 1
                              clear rf0 rf1 r0 r1
                              go_wp2
                              simp only [Exit.jump]
                              obtain ⟨e1, e2, e4⟩ := sc_done (l := l ++ [⟨4, [], 0, n, last + 1⟩]) hlt 0 0 ⟨p1, by rw [List.length_append, ET_snoc]; exact p2, by omega, p3⟩ res (HW.out.chg.trans p4)
                              rw [e1]
                              refine sc_ret rfl rfl e2 ?_
                              unfold ScanPost
                              rw [HE.out, fin_some hl1]
                              exact ⟨rfl, e4⟩
                          exact AllReadyH.nil
                      exact AllReadyH.nil
                  exact AllReadyH.nil
              exact AllReadyH.nil
          refine AllReadyH.cons rfl (fun K hK => ?_) ?_
          · go_simp
            (go_at_call 29; (with_reducible refine (PL _ (by repeat' (first | with_reducible exact Below.refl _ _ | with_reducible assumption | with_reducible refine Q.alloc ?_ _ | with_reducible refine Q.drew ?_ | with_reducible refine Q.drewN ?_ _ | with_reducible refine Q.call ?_ (by assumption)))).mono ?_); rintro e w1 ⟨rfl, hb1⟩; obtain ⟨hc1, hf1, hz1⟩ := bcell hb1; have B1 : Below wr.heap.size wr w1 := Q.call (by repeat' (first | with_reducible exact Below.refl _ _ | with_reducible assumption | with_reducible refine Q.alloc ?_ _ | with_reducible refine Q.drew ?_ | with_reducible refine Q.drewN ?_ _ | with_reducible refine Q.call ?_ (by assumption))) hb1; have z1 : wr.heap.size ≤ w1.heap.size := B1.size; have z2 : g < w1.heap.size := (by omega); have z3 : w.heap.size < w1.heap.size := (by omega); have d3 : w1.cell? ⟨g, 3, none⟩ = some (.slice a l.length cap) := (B1.cell (p := ⟨g, 3, none⟩) hgw).trans c3; have dp : w1.cell? ⟨w.heap.size, 0, none⟩ = some (.pointer (some ⟨g, 0, none⟩)) := (B1.cell (p := ⟨w.heap.size, 0, none⟩) HW.out.box.lt).trans p0)
            (try go_wp2_with fail)
            refine hK.out _ _ ?_ (fun hHeld => ?_)
            · (try dsimp only); (first | exact p0 | exact dp | exact k2 | go_keep)
            · clear hK K
              (try simp only [Act.put, List.setIfInBounds_toArray, List.set_cons_zero, List.set_cons_succ])
              refine wpAnyH_take (i := 8) (oi := _) (v := ?hv18) rfl (by kernel_rfl) (by kernel_rfl) (by kernel_rfl) (fun _ _ _ h => h) (Or.inl ⟨by rfl, ?hy18⟩) (by assumption) ?hr18
              case hy18 => intro wS hSw; (try dsimp only at hSw); go_simp; (try with_reducible rfl)
              (try simp only [Act.put, List.setIfInBounds_toArray, List.set_cons_zero, List.set_cons_succ])
              refine wpAnyH_ready (rs := [4, 9]) (by kernel_rfl) (by simp) ?_
              refine AllReadyH.cons rfl (fun K hK => ?_) ?_
              · go_simp
                refine hK.out _ _ ?_ (fun hHeld => ?_)
                · (try dsimp only); (first | exact p0 | exact dp | exact k2 | go_keep)
                · clear hK K
                  (try simp only [Act.put, List.setIfInBounds_toArray, List.set_cons_zero, List.set_cons_succ])
                  refine wpAnyH_ready (rs := [9]) (by kernel_rfl) (by simp) ?_
                  refine AllReadyH.cons rfl (fun K hK => ?_) ?_
                  · go_simp
                    refine hK.out _ _ ?_ (fun hHeld => ?_)
                    · (try dsimp only); (first | exact p0 | exact dp | exact k2 | go_keep)
                    · clear hK K
                      (try simp only [Act.put, List.setIfInBounds_toArray, List.set_cons_zero, List.set_cons_succ])
                      refine wpAnyH_ready (rs := [10]) (by kernel_rfl) (by simp) ?_
                      refine AllReadyH.cons rfl (fun K hK => ?_) ?_
                      · (refine step_append_lies _ (by rfl) _ _ _ (by rfl) (w.heap.size + 2) 37 i0 _ 5 48 Tryd.underlying23 hi0 hz0 hz1' hz2 rfl (by omega) (.slice a l.length cap) l.length (ET.row l) (by rfl) (by exact own_call HW.out.ln.own (by repeat' (first | with_reducible exact Below.refl _ _ | with_reducible assumption | with_reducible refine Q.alloc ?_ _ | with_reducible refine Q.drew ?_ | with_reducible refine Q.drewN ?_ _ | with_reducible refine Q.call ?_ (by assumption)))) ⟨w1.heap.size, 0, none⟩ 1 1 [.int .i64 4, .string (ByteArray.mk #[]), .int .i64 0, .int .i64 n, .int .i64 ((last : Int) + 1)] (by rfl) (by rfl) (World.news_of_block (cs := #[.int .i64 4, .string (ByteArray.mk #[]), .int .i64 0, .int .i64 n, .int .i64 ((last : Int) + 1)]) (t := 37) (fr := (0, 0)) (Blk.new' (by simp))) (by simp [Value.oneCell']) (by omega) (by unfold maxLen; omega) (by omega) (by simp; omega) (w1.heap.size + 1) (by simp) ?_; intro gg cap1 w2 hown1 hgrow hat hlt1; have hg1 : Blk w2 g 51 #[.string s, .int .i64 n, .int .i64 at_, .slice a l.length cap] := (hgrow.block g (by simp; omega) (Ne.symm NE)).trans (HW.out.ln.blk.call (by repeat' (first | with_reducible exact Below.refl _ _ | with_reducible assumption | with_reducible refine Q.alloc ?_ _ | with_reducible refine Q.drew ?_ | with_reducible refine Q.drewN ?_ _ | with_reducible refine Q.call ?_ (by assumption)))); have hx1 : Blk w2 w.heap.size 49 #[.pointer (some ⟨g, 0, none⟩)] := (hgrow.block w.heap.size (by simp; omega) (fun e => by have := HV.out _ e.symm; omega)).trans (HW.out.box.call (by repeat' (first | with_reducible exact Below.refl _ _ | with_reducible assumption | with_reducible refine Q.alloc ?_ _ | with_reducible refine Q.drew ?_ | with_reducible refine Q.drewN ?_ _ | with_reducible refine Q.call ?_ (by assumption)))); have k2 := hx1.cell 0; have k0 := hg1.cell 3; have k1 := hg1.frozen 3)
                        refine hK.out _ _ ?_ (fun hHeld => ?_)
                        · (try dsimp only); (first | exact p0 | exact dp | exact k2 | go_keep)
                        · clear hK K
                          (try simp only [Act.put, List.setIfInBounds_toArray, List.set_cons_zero, List.set_cons_succ])
                          refine wpAnyH_take (i := 11) (oi := _) (v := ?hv19) rfl (by kernel_rfl) (by kernel_rfl) (by kernel_rfl) (fun _ _ _ h => h) (Or.inl ⟨by rfl, ?hy19⟩) (by assumption) ?hr19
                          case hy19 => intro wS hSw; (try dsimp only at hSw); go_simp; (try with_reducible rfl)
                          (try simp only [Act.put, List.setIfInBounds_toArray, List.set_cons_zero, List.set_cons_succ])
                          refine wpAnyH_take (i := 12) (oi := _) (v := ?hv20) rfl (by kernel_rfl) (by kernel_rfl) (by kernel_rfl) (fun _ _ _ h => h) (Or.inl ⟨by rfl, ?hy20⟩) (by assumption) ?hr20
                          case hy20 => intro wS hSw; (try dsimp only at hSw); go_simp; (try with_reducible rfl)
                          (try simp only [Act.put, List.setIfInBounds_toArray, List.set_cons_zero, List.set_cons_succ])
                          refine wpAnyH_ready (rs := [13]) (by kernel_rfl) (by simp) ?_
                          refine AllReadyH.cons rfl (fun K hK => ?_) ?_
                          · go_simp
                            refine hK.out _ _ ?_ (fun hHeld => ?_)
                            · (try dsimp only); (first | exact p0 | exact dp | exact k2 | go_keep)
                            · clear hK K
                              (try simp only [Act.put, List.setIfInBounds_toArray, List.set_cons_zero, List.set_cons_succ])
                              refine wpAnyH_done (by kernel_rfl) ?_ _
                              have e3 : w2.setCell ⟨g, 3, none⟩ (.slice (some ⟨gg, 0, none⟩) (l.length + 1) cap1) = w2.setRow g #[.string s, .int .i64 n, .int .i64 at_, .slice (some ⟨gg, 0, none⟩) (l.length + 1) cap1] := by
                                rw [hg1.setCell]; rfl
                              rw [e3]
                              obtain ⟨p1, p2, p3, p4⟩ := ln_push (w := wr) (cs' := #[.string s, .int .i64 n, .int .i64 at_, .slice (some ⟨gg, 0, none⟩) (l.length + 1) cap1]) hg1 hown1 hgrow (by repeat' (first | with_reducible exact Below.refl _ _ | with_reducible assumption | with_reducible refine Q.alloc ?_ _ | with_reducible refine Q.drew ?_ | with_reducible refine Q.drewN ?_ _ | with_reducible refine Q.call ?_ (by assumption))) HV.out (by omega) hBw
                              have res : Blk (w2.setRow g #[.string s, .int .i64 n, .int .i64 at_, .slice (some ⟨gg, 0, none⟩) (l.length + 1) cap1]) (w.heap.size + 1) 25 #[.int .i64 0, .int .i64 0] := (p4.block _ hXw (fun e => by rcases e with e | e <;> omega)).trans HW.out.res
                              generalize w2.setRow g #[.string s, .int .i64 n, .int .i64 at_, .slice (some ⟨gg, 0, none⟩) (l.length + 1) cap1] = W3 at p1 p2 p3 p4 res ⊢
                              have q0 := res.cell 0
                              have q1 := res.cell 1
                              have q2 := res.frozen 0
                              have q3 := res.frozen 1
                              clear rf0 rf1 r0 r1
                              go_wp2
                              simp only [Exit.jump]
                              obtain ⟨e1, e2, e4⟩ := sc_done (l := l ++ [⟨4, [], 0, n, last + 1⟩]) hlt 0 0 ⟨p1, by rw [List.length_append, ET_snoc]; exact p2, by omega, p3⟩ res (HW.out.chg.trans p4)
                              rw [e1]
                              refine sc_ret rfl rfl e2 ?_
                              unfold ScanPost
                              rw [HE.out, fin_some hl1]
                              exact ⟨rfl, e4⟩
                          exact AllReadyH.nil
                      exact AllReadyH.nil
                  exact AllReadyH.nil
              refine AllReadyH.cons rfl (fun K hK => ?_) ?_
              · go_simp
                refine hK.out _ _ ?_ (fun hHeld => ?_)
                · (try dsimp only); (first | exact p0 | exact dp | exact k2 | go_keep)
                · clear hK K
                  (try simp only [Act.put, List.setIfInBounds_toArray, List.set_cons_zero, List.set_cons_succ])
                  refine wpAnyH_ready (rs := [4]) (by kernel_rfl) (by simp) ?_
                  refine AllReadyH.cons rfl (fun K hK => ?_) ?_
                  · go_simp
                    refine hK.out _ _ ?_ (fun hHeld => ?_)
                    · (try dsimp only); (first | exact p0 | exact dp | exact k2 | go_keep)
                    · clear hK K
                      (try simp only [Act.put, List.setIfInBounds_toArray, List.set_cons_zero, List.set_cons_succ])
                      refine wpAnyH_ready (rs := [10]) (by kernel_rfl) (by simp) ?_
                      refine AllReadyH.cons rfl (fun K hK => ?_) ?_
                      · (refine step_append_lies _ (by rfl) _ _ _ (by rfl) (w.heap.size + 2) 37 i0 _ 5 48 Tryd.underlying23 hi0 hz0 hz1' hz2 rfl (by omega) (.slice a l.length cap) l.length (ET.row l) (by rfl) (by exact own_call HW.out.ln.own (by repeat' (first | with_reducible exact Below.refl _ _ | with_reducible assumption | with_reducible refine Q.alloc ?_ _ | with_reducible refine Q.drew ?_ | with_reducible refine Q.drewN ?_ _ | with_reducible refine Q.call ?_ (by assumption)))) ⟨w1.heap.size, 0, none⟩ 1 1 [.int .i64 4, .string (ByteArray.mk #[]), .int .i64 0, .int .i64 n, .int .i64 ((last : Int) + 1)] (by rfl) (by rfl) (World.news_of_block (cs := #[.int .i64 4, .string (ByteArray.mk #[]), .int .i64 0, .int .i64 n, .int .i64 ((last : Int) + 1)]) (t := 37) (fr := (0, 0)) (Blk.new' (by simp))) (by simp [Value.oneCell']) (by omega) (by unfold maxLen; omega) (by omega) (by simp; omega) (w1.heap.size + 1) (by simp) ?_; intro gg cap1 w2 hown1 hgrow hat hlt1; have hg1 : Blk w2 g 51 #[.string s, .int .i64 n, .int .i64 at_, .slice a l.length cap] := (hgrow.block g (by simp; omega) (Ne.symm NE)).trans (HW.out.ln.blk.call (by repeat' (first | with_reducible exact Below.refl _ _ | with_reducible assumption | with_reducible refine Q.alloc ?_ _ | with_reducible refine Q.drew ?_ | with_reducible refine Q.drewN ?_ _ | with_reducible refine Q.call ?_ (by assumption)))); have hx1 : Blk w2 w.heap.size 49 #[.pointer (some ⟨g, 0, none⟩)] := (hgrow.block w.heap.size (by simp; omega) (fun e => by have := HV.out _ e.symm; omega)).trans (HW.out.box.call (by repeat' (first | with_reducible exact Below.refl _ _ | with_reducible assumption | with_reducible refine Q.alloc ?_ _ | with_reducible refine Q.drew ?_ | with_reducible refine Q.drewN ?_ _ | with_reducible refine Q.call ?_ (by assumption)))); have k2 := hx1.cell 0; have k0 := hg1.cell 3; have k1 := hg1.frozen 3)
                        refine hK.out _ _ ?_ (fun hHeld => ?_)
                        · (try dsimp only); (first | exact p0 | exact dp | exact k2 | go_keep)
                        · clear hK K
                          (try simp only [Act.put, List.setIfInBounds_toArray, List.set_cons_zero, List.set_cons_succ])
                          refine wpAnyH_take (i := 11) (oi := _) (v := ?hv21) rfl (by kernel_rfl) (by kernel_rfl) (by kernel_rfl) (fun _ _ _ h => h) (Or.inl ⟨by rfl, ?hy21⟩) (by assumption) ?hr21
                          case hy21 => intro wS hSw; (try dsimp only at hSw); go_simp; (try with_reducible rfl)
                          (try simp only [Act.put, List.setIfInBounds_toArray, List.set_cons_zero, List.set_cons_succ])
                          refine wpAnyH_take (i := 12) (oi := _) (v := ?hv22) rfl (by kernel_rfl) (by kernel_rfl) (by kernel_rfl) (fun _ _ _ h => h) (Or.inl ⟨by rfl, ?hy22⟩) (by assumption) ?hr22
                          case hy22 => intro wS hSw; (try dsimp only at hSw); go_simp; (try with_reducible rfl)
                          (try simp only [Act.put, List.setIfInBounds_toArray, List.set_cons_zero, List.set_cons_succ])
                          refine wpAnyH_ready (rs := [13]) (by kernel_rfl) (by simp) ?_
                          refine AllReadyH.cons rfl (fun K hK => ?_) ?_
                          · go_simp
                            refine hK.out _ _ ?_ (fun hHeld => ?_)
                            · (try dsimp only); (first | exact p0 | exact dp | exact k2 | go_keep)
                            · clear hK K
                              (try simp only [Act.put, List.setIfInBounds_toArray, List.set_cons_zero, List.set_cons_succ])
                              refine wpAnyH_done (by kernel_rfl) ?_ _
                              have e3 : w2.setCell ⟨g, 3, none⟩ (.slice (some ⟨gg, 0, none⟩) (l.length + 1) cap1) = w2.setRow g #[.string s, .int .i64 n, .int .i64 at_, .slice (some ⟨gg, 0, none⟩) (l.length + 1) cap1] := by
                                rw [hg1.setCell]; rfl
                              rw [e3]
                              obtain ⟨p1, p2, p3, p4⟩ := ln_push (w := wr) (cs' := #[.string s, .int .i64 n, .int .i64 at_, .slice (some ⟨gg, 0, none⟩) (l.length + 1) cap1]) hg1 hown1 hgrow (by repeat' (first | with_reducible exact Below.refl _ _ | with_reducible assumption | with_reducible refine Q.alloc ?_ _ | with_reducible refine Q.drew ?_ | with_reducible refine Q.drewN ?_ _ | with_reducible refine Q.call ?_ (by assumption))) HV.out (by omega) hBw
                              have res : Blk (w2.setRow g #[.string s, .int .i64 n, .int .i64 at_, .slice (some ⟨gg, 0, none⟩) (l.length + 1) cap1]) (w.heap.size + 1) 25 #[.int .i64 0, .int .i64 0] := (p4.block _ hXw (fun e => by rcases e with e | e <;> omega)).trans HW.out.res
                              generalize w2.setRow g #[.string s, .int .i64 n, .int .i64 at_, .slice (some ⟨gg, 0, none⟩) (l.length + 1) cap1] = W3 at p1 p2 p3 p4 res ⊢
                              have q0 := res.cell 0
                              have q1 := res.cell 1
                              have q2 := res.frozen 0
                              have q3 := res.frozen 1
                              clear rf0 rf1 r0 r1
                              go_wp2
                              simp only [Exit.jump]
                              obtain ⟨e1, e2, e4⟩ := sc_done (l := l ++ [⟨4, [], 0, n, last + 1⟩]) hlt 0 0 ⟨p1, by rw [List.length_append, ET_snoc]; exact p2, by omega, p3⟩ res (HW.out.chg.trans p4)
                              rw [e1]
                              refine sc_ret rfl rfl e2 ?_
                              unfold ScanPost
                              rw [HE.out, fin_some hl1]
                              exact ⟨rfl, e4⟩
                          exact AllReadyH.nil
                      exact AllReadyH.nil
                  exact AllReadyH.nil
              exact AllReadyH.nil
          exact AllReadyH.nil
      · have b35 : ((s[at_].toNat : Int) == 35) = false := by rw [beq_eq_false_iff_ne]; omega
        by_cases hbl : s[at_].toNat = 32 ∨ s[at_].toNat = 9
        · rcases hbl with hbl | hbl
          · have b32 : ((s[at_].toNat : Int) == 32) = true := by rw [beq_iff_eq]; omega
            have HT := HW.out.toks
            rw [from_lt hk, sc_blank (.inl hbl)] at HT
            replace HT := Lib.hid HT
            clear hbl h35 hend
            have gf2 := HW.out.ln.blk.frozen 2
            go_wp2
            go_quiet (fail)
            go_wp2
            go_quiet (fail)
            go_wp2
            go_step3
            obtain ⟨q1, q2⟩ := HW.out.blank _ hlt hk HT.out
            exact ⟨rfl, ScJ.mk _ _ _ _ (Lib.hid q1) rfl, q2⟩
          · have b32 : ((s[at_].toNat : Int) == 32) = false := by rw [beq_eq_false_iff_ne]; omega
            have b9 : ((s[at_].toNat : Int) == 9) = true := by rw [beq_iff_eq]; omega
            have HT := HW.out.toks
            rw [from_lt hk, sc_blank (.inr hbl)] at HT
            replace HT := Lib.hid HT
            clear hbl h35 hend
            have gf2 := HW.out.ln.blk.frozen 2
            go_wp2
            go_quiet (fail)
            go_wp2
            go_quiet (fail)
            go_wp2
            go_step3
            obtain ⟨q1, q2⟩ := HW.out.blank _ hlt hk HT.out
            exact ⟨rfl, ScJ.mk _ _ _ _ (Lib.hid q1) rfl, q2⟩
        · have b32 : ((s[at_].toNat : Int) == 32) = false := by rw [beq_eq_false_iff_ne]; omega
          have b9 : ((s[at_].toNat : Int) == 9) = false := by rw [beq_eq_false_iff_ne]; omega
          cases ho : one (from_ s at_) with
          | bad c =>
            have NB := fun V (hV : Below wr.heap.size wr V) => next_bad V (w.heap.size + 2) g s n at_ _ l (HW.out.ln.below hV) hk hs (by omega) c ho
            have TE := fun V (hV : Below wr.heap.size wr V) => tell_eq V g w.heap.size (by have := HW.out.box.lt; have := hV.size; omega) _ n at_ c rfl rfl (by omega) (HW.out.ln.blk.call hV) (HW.out.box.call hV)
            have hc0 : ((c : Int) == 0) = false := by rw [beq_eq_false_iff_ne]; exact bad_pos (by rw [← from_lt hk]; exact ho)
            go_wp2
            go_quiet (fail)
            go_wp2_with fail
            go_quiet (fail)
            go_wp2_with (first
              | (go_at_call 30; (with_reducible refine (NB _ (by repeat' (first | with_reducible exact Below.refl _ _ | with_reducible assumption | with_reducible refine Q.alloc ?_ _ | with_reducible refine Q.drew ?_ | with_reducible refine Q.drewN ?_ _ | with_reducible refine Q.call ?_ (by assumption)))).mono ?_); rintro e w1 ⟨rfl, hb1⟩; obtain ⟨hc1, hf1, hz1⟩ := bcell hb1)
              | (go_at_call 28; (with_reducible refine (TE _ (by repeat' (first | with_reducible exact Below.refl _ _ | with_reducible assumption | with_reducible refine Q.alloc ?_ _ | with_reducible refine Q.drew ?_ | with_reducible refine Q.drewN ?_ _ | with_reducible refine Q.call ?_ (by assumption)))).mono ?_); rintro e w2 ⟨rfl, hb2⟩; obtain ⟨hc2, hf2, hz2⟩ := bcell hb2; refine Hid.out ?_))
            refine Lib.hid ?_
            have hB2 : Below wr.heap.size wr w2 := Q.call (Q.call (by repeat' (first | with_reducible exact Below.refl _ _ | with_reducible assumption | with_reducible refine Q.alloc ?_ _ | with_reducible refine Q.drew ?_ | with_reducible refine Q.drewN ?_ _ | with_reducible refine Q.call ?_ (by assumption))) hb1) hb2
            have g0 := (HW.out.res.call hB2).frozen 0
            have d0 := (HW.out.res.call hB2).cell 0
            have d1 := (HW.out.res.call hB2).cell 1
            have g1 := (HW.out.res.call hB2).frozen 1
            go_wp2
            simp only [Exit.jump]
            have HT := HW.out.toks
            rw [from_lt hk, sc_bad h35 hbl (by rw [← from_lt hk]; exact ho)] at HT
            obtain ⟨e1, e2, k', sv', e3, e4, e5⟩ := sc_done (V := w2) hlt n ((at_ : Int) + 1) (HW.out.ln.below hB2) (HW.out.res.call hB2) (HW.out.chg.trans (.of hB2))
            rw [e1]
            refine sc_ret rfl rfl e2 ?_
            unfold ScanPost
            rw [← HT]
            exact ⟨rfl, e5⟩
          | ok kk t v r =>
            have NO := fun V (hV : Below wr.heap.size wr V) => next_ok V (w.heap.size + 2) g s n at_ _ l (HW.out.ln.below hV) hk hs (by omega) kk v t r ho
            go_wp2
            go_quiet (fail)
            go_wp2_with fail
            go_quiet (fail)
            go_wp2_with (go_at_call 30; (with_reducible refine (NO _ (by repeat' (first | with_reducible exact Below.refl _ _ | with_reducible assumption | with_reducible refine Q.alloc ?_ _ | with_reducible refine Q.drew ?_ | with_reducible refine Q.drewN ?_ _ | with_reducible refine Q.call ?_ (by assumption)))).mono ?_); rintro e w1 ⟨rfl, sv1, HL, HC⟩; refine Hid.out ?_)
            refine Lib.hid ?_
            obtain ⟨t1, t2⟩ := HW.out.tok hlt hk ho h35 hbl HL (Chg.trans (.of (by repeat' (first | with_reducible exact Below.refl _ _ | with_reducible assumption | with_reducible refine Q.alloc ?_ _ | with_reducible refine Q.drew ?_ | with_reducible refine Q.drewN ?_ _ | with_reducible refine Q.call ?_ (by assumption)))) HC)
            have o2 := t1.ln.blk.cell 2
            have p1 := t1.box.cell 0
            clear c0 c2 c3 p0
            go_wp2
            go_step3
            exact ⟨rfl, ScJ.mk _ _ _ _ (Lib.hid t1) rfl, t2⟩
  · intro hp
    go_wp2
    go_step3
    rename_i hK
    refine hK _ _ (hp _ _ ?_)
    exact ScJ.mk 0 0 (.slice none 0 0) [] (Lib.hid ⟨Nat.zero_le _, Nat.le_refl _, Nat.le_refl _, HFI.symm, ⟨(hb.alloc _).alloc _, World.ownsRow_nil _ _ _ _, by omega, by simp⟩, (Blk.new _ _ _).alloc _, Blk.new' (by simp), Chg.refl _ _⟩) rfl
end Go.Proofs.YtlmcdbegnjikdaaDoor
