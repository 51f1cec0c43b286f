/- The law LexerScans: the walk. (printed by gen/lx23.py) -/
import Derived.Test.YtlmcdbegnjikdaaDoorLx22
namespace Go.Proofs.YtlmcdbegnjikdaaDoor
set_option linter.unusedVariables false
set_option linter.unusedSimpArgs false
open Go.RowKit
attribute [local go_sem ↓] Go.wp_at_zero Go.wp_at_succ

theorem text_long (w : World) (s : ByteArray) (hs : 65536 < s.size) :
    Calls Tryd.prog 8 #[.string s] w fun e w' => e = .returned (.tuple #[.slice none 0 0, .agg #[.int .i64 0, .int .i64 0], .int .i64 12]) ∧ Below w.heap.size w w' := by
  have hsi : (65536 : Int) < (s.size : Int) := by omega
  go_enter Tryd.func8, Tryd.ntmps8
  go_wp2_with fail
  refine text_ret rfl rfl rfl (Blk.new _ _ _) ⟨rfl, Q.alloc (Below.refl _ _) _⟩
theorem plain_eq (w : World) (k n ln c : Int) (x : ByteArray) : Calls Tryd.prog 10 #[.agg #[.int .i64 k, .string x, .int .i64 n, .int .i64 ln, .int .i64 c]] w fun e w' => e = .returned (.agg #[.int .i64 k, .string x, .int .i64 n, .int .i64 ln, .int .i64 c]) ∧ Below w.heap.size w w' := by
  go_enter Tryd.func10, Tryd.ntmps10
  go_wp2
  go_returns
  exact ⟨rfl, Q.alloc (Q.alloc (Below.refl _ _) _) _⟩
theorem reftext_ok (w : World) (s : ByteArray) (hs : s.size ≤ 65536) (l : List Tok) (h : text s.data.toList = .ok l) :
    Calls Tryd.prog 9 #[.string s] w fun e w' => ∃ sv, e = .returned (.tuple #[sv, .agg #[.int .i64 0, .int .i64 0], .int .i64 0]) ∧ w'.ownsRow w.heap.size 34 5 sv l.length (ET.row l) ∧ Below w.heap.size w w' :=
  (reftext_eq w s hs).mono fun e w' hp => by unfold RefText at hp; rw [h] at hp; exact hp
theorem reftext_bad (w : World) (s : ByteArray) (hs : s.size ≤ 65536) (l c er : Int) (h : text s.data.toList = .bad l c er) :
    Calls Tryd.prog 9 #[.string s] w fun e w' => e = .returned (.tuple #[.slice none 0 0, .agg #[.int .i64 l, .int .i64 c], .int .i64 er]) ∧ Below w.heap.size w w' :=
  (reftext_eq w s hs).mono fun e w' hp => by unfold RefText at hp; rw [h] at hp; exact hp
set_option maxRecDepth 100000 in
set_option maxHeartbeats 6400000 in
theorem scans_walk (w : World) (s : ByteArray) (m : Int) (hm : w.cell? ⟨0, 0, none⟩ = some (.int .i64 m)) :
    Calls Tryd.prog 3 #[.string s] w fun e w' => e = .returned (.bool true) ∧ Below w.heap.size w w' := by
  have hml := World.block_lt_of_cell? w _ hm
  have MC := fun (V : World) (hV : Below w.heap.size w V) => (hV.cell (p := ⟨0, 0, none⟩) hml).trans hm
  have AW := fun (V : World) (hV : Below w.heap.size w V) => awake_eq V m (MC V hV)
  by_cases h1 : 3000 < (s.size : Int)
  · by_cases h2 : s.size = 65537
    · have h2i : ((s.size : Int) != 65537) = false := by simp [h2]
      have h3 : 65536 < (s.size : Int) := by omega
      have S1 := text_long w s (by omega)
      clear hm hml MC h2
      go_enter Tryd.func3, Tryd.ntmps3
      go_wp2_with (first
        | (go_at_call 8; (with_reducible refine S1.mono ?_); rintro e w1 ⟨rfl, hb1⟩)
        | (go_at_call 7; (with_reducible refine (AW _ (by repeat' (first | with_reducible exact Below.refl _ _ | with_reducible assumption | with_reducible refine Q.alloc ?_ _ | with_reducible refine Q.drew ?_ | with_reducible refine Q.drewN ?_ _ | with_reducible refine Q.call ?_ (by assumption)))).mono ?_); rintro e w9 ⟨rfl, hb9⟩))
      go_ret
      exact ⟨rfl, (by repeat' (first | with_reducible exact Below.refl _ _ | with_reducible assumption | with_reducible refine Q.alloc ?_ _ | with_reducible refine Q.drew ?_ | with_reducible refine Q.drewN ?_ _ | with_reducible refine Q.call ?_ (by assumption)))⟩
    · have h2i : ((s.size : Int) != 65537) = true := by simp; omega
      clear h2
      go_enter Tryd.func3, Tryd.ntmps3
      go_wp2_with (go_at_call 7; (with_reducible refine (AW _ (by repeat' (first | with_reducible exact Below.refl _ _ | with_reducible assumption | with_reducible refine Q.alloc ?_ _ | with_reducible refine Q.drew ?_ | with_reducible refine Q.drewN ?_ _ | with_reducible refine Q.call ?_ (by assumption)))).mono ?_); rintro e w9 ⟨rfl, hb9⟩)
      go_ret
      exact ⟨rfl, hb9⟩
  have h3 : ¬ 65536 < (s.size : Int) := by omega
  cases hA : text s.data.toList with
  | bad l1 c1 e1 =>
    have S1 := text_bad w s m hm (by omega) _ _ _ hA
    have R1 := fun V => reftext_bad V s (by omega) _ _ _ hA
    clear hm hml MC hA
    go_enter Tryd.func3, Tryd.ntmps3
    go_wp2_with (first
      | (go_at_call 8; (with_reducible refine S1.mono ?_); rintro e w1 ⟨rfl, hb1⟩; obtain ⟨hc1, hf1, hz1⟩ := bcell hb1)
      | (go_at_call 9; (with_reducible refine (R1 _).mono ?_); rintro e w2 ⟨rfl, hb2⟩; obtain ⟨hc2, hf2, hz2⟩ := bcell hb2; have z2 : w1.heap.size < w2.heap.size := (by (try simp only [World.size_alloc] at hz2); omega)))
    go_loop [9] (fun i => i = .int .i64 0) (fun _ => 0)
    case atStart => rfl
    case round =>
      obtain rfl := hrel
      go_wp2_with (go_at_call 7; (with_reducible refine (AW _ (by repeat' (first | with_reducible exact Below.refl _ _ | with_reducible assumption | with_reducible refine Q.alloc ?_ _ | with_reducible refine Q.drew ?_ | with_reducible refine Q.drewN ?_ _ | with_reducible refine Q.call ?_ (by assumption)))).mono ?_); rintro e w9 ⟨rfl, hb9⟩)
      go_ret
      exact ⟨rfl, (by repeat' (first | with_reducible exact Below.refl _ _ | with_reducible assumption | with_reducible refine Q.alloc ?_ _ | with_reducible refine Q.drew ?_ | with_reducible refine Q.drewN ?_ _ | with_reducible refine Q.call ?_ (by assumption)))⟩
  | ok l =>
    have S1 := text_ok w s m hm (by omega) _ hA
    have R1 := fun V => reftext_ok V s (by omega) _ hA
    have hlen : l.length ≤ 1000000000 := text_len s (by omega) hA
    clear hm hml MC hA
    go_enter Tryd.func3, Tryd.ntmps3
    go_wp2_with (go_at_call 8; (with_reducible refine S1.mono ?_); rintro e w1 ⟨sv, rfl, hown, hb1⟩; refine Hid.out ?_)
    refine Lib.hid ?_
    obtain ⟨a1, cap1, rfl, -⟩ := own_slice hown
    have HOWN := Lib.hid hown
    have HB1 := Lib.hid hb1
    clear hown hb1
    go_wp2_with (go_at_call 9; (with_reducible refine (R1 _).mono ?_); rintro e w2 ⟨sv2, rfl, hown2, hb2⟩; refine Hid.out ?_)
    refine Lib.hid ?_
    obtain ⟨a2, cap2, rfl, -⟩ := own_slice hown2
    obtain ⟨hc2, hf2, hz2⟩ := bcell hb2
    have z2 : w1.heap.size < w2.heap.size := by (try simp only [World.size_alloc] at hz2); omega
    have HO1 := Lib.hid (own_call HOWN.out (Q.call (Q.alloc (Below.refl _ _) _) hb2))
    have HO2 := Lib.hid hown2
    have HB2 := Lib.hid (Q.call (Q.alloc HB1.out (.cells #[.int .i64 0, .int .i64 0] 25)) hb2)
    have hbk : ∀ o v, (w1.alloc (.cells #[.int .i64 0, .int .i64 0] 25)).cell? ⟨w1.heap.size, o, none⟩ = some v → w2.cell? ⟨w1.heap.size, o, none⟩ = some v := fun o v h => (hb2.cell (p := ⟨w1.heap.size, o, none⟩) (by simp)).trans h
    have y0 : w2.cell? ⟨w1.heap.size, 0, none⟩ = some (.int .i64 0) := hbk 0 _ ((Blk.new w1 _ _).cell 0)
    have y1 : w2.cell? ⟨w1.heap.size, 1, none⟩ = some (.int .i64 0) := hbk 1 _ ((Blk.new w1 _ _).cell 1)
    clear hown2 hb2 hc2 hf2 hz2 HOWN HB1 hbk S1 R1
    go_wp2_with fail
    go_loopw [9] (fun i wr => ∃ k : Nat, i = .int .i64 (k : Int) ∧ k ≤ l.length ∧ Below w2.heap.size w2 wr) (fun i _ => l.length - (intOf i).toNat)
    case atStart => exact ⟨0, rfl, Nat.zero_le _, (by repeat' (first | with_reducible exact Below.refl _ _ | with_reducible assumption | with_reducible refine Q.alloc ?_ _ | with_reducible refine Q.drew ?_ | with_reducible refine Q.drewN ?_ _ | with_reducible refine Q.call ?_ (by assumption)))⟩
    case round =>
      obtain ⟨k, rfl, hk, hw⟩ := hrel
      by_cases hlt : k < l.length
      · have hki : (k : Int) < (l.length : Int) := by omega
        obtain ⟨g, cp1, e1, hc1, hg, -, hcell⟩ := own_form HO1.out (by omega)
        obtain ⟨g', cp2, e2, hc2, hg', -, hcell'⟩ := own_form HO2.out (by omega)
        obtain ⟨t, ht⟩ : ∃ t, l[k]? = some t := ⟨_, List.getElem?_eq_getElem (by omega)⟩
        obtain ⟨c0, c1, c2, c3, c4⟩ := tok_cells hcell ht
        obtain ⟨d0, d1, d2, d3, d4⟩ := tok_cells hcell' ht
        injection e1 with e1 _ e3
        injection e2 with e2 _ e4
        subst e1 e2 e3 e4
        obtain ⟨kk, x, n, ln, c⟩ := t
        simp only at c0 c1 c2 c3 c4 d0 d1 d2 d3 d4
        have LC : ∀ y : BW wr, ∀ b o v, b < w2.heap.size → w2.cell? ⟨b, o, none⟩ = some v → y.val.cell? ⟨b, o, none⟩ = some v := fun y b o v hb hv =>
          (y.has.cell (p := ⟨b, o, none⟩) (Nat.lt_of_lt_of_le hb hw.size)).trans ((hw.cell (p := ⟨b, o, none⟩) hb).trans hv)
        have L0 := fun y => LC y _ _ _ hg c0
        have L1 := fun y => LC y _ _ _ hg c1
        have L2 := fun y => LC y _ _ _ hg c2
        have L3 := fun y => LC y _ _ _ hg c3
        have L4 := fun y => LC y _ _ _ hg c4
        have M0 := fun y => LC y _ _ _ hg' d0
        have M1 := fun y => LC y _ _ _ hg' d1
        have M2 := fun y => LC y _ _ _ hg' d2
        have M3 := fun y => LC y _ _ _ hg' d3
        have M4 := fun y => LC y _ _ _ hg' d4
        have HW := Lib.hid hw
        clear c0 c1 c2 c3 c4 d0 d1 d2 d3 d4 hcell hcell' LC ht hw
        go_wp2_with fail
        refine wp_region_below (by kernel_rfl) (by kernel_rfl) ?_
        repeat (go_big_quiet_step ((go_at_call 10; exact calls_bw (plain_eq _ _ _ _ _ _))))
        refine wpQuiet_nil ?_
        intro w9 hw9
        obtain ⟨y9, rfl⟩ := hw9
        go_wp2_with fail
        refine ⟨⟨k + 1, by go_num, by omega, Q.call HW.out y9.has⟩, by simp [intOf]; omega⟩
      · have hki : ¬ (k : Int) < (l.length : Int) := by omega
        have hq : Below w.heap.size w wr := Q.call HB2.out hw
        go_wp2_with (go_at_call 7; (with_reducible refine (AW _ (by repeat' (first | with_reducible exact Below.refl _ _ | with_reducible assumption | with_reducible refine Q.alloc ?_ _ | with_reducible refine Q.drew ?_ | with_reducible refine Q.drewN ?_ _ | with_reducible refine Q.call ?_ (by assumption)))).mono ?_); rintro e w9 ⟨rfl, hb9⟩)
        go_ret
        exact ⟨rfl, (by repeat' (first | with_reducible exact Below.refl _ _ | with_reducible assumption | with_reducible refine Q.alloc ?_ _ | with_reducible refine Q.drew ?_ | with_reducible refine Q.drewN ?_ _ | with_reducible refine Q.call ?_ (by assumption)))⟩
end Go.Proofs.YtlmcdbegnjikdaaDoor
