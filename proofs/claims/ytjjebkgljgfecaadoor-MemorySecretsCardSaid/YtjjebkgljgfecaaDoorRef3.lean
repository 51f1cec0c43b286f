/- The walk of the document's Load. -/
import Derived.Test.YtjjebkgljgfecaaDoorRef2
namespace Go.Proofs.YtjjebkgljgfecaaDoor
set_option linter.unusedVariables false
set_option linter.unusedSimpArgs false
open Go.RowKit

/-- The puts behind k bytes of a load. -/
def refLoaded (l : List PD) (x : Int) (bs : List Int) : Nat → List PD
  | 0 => l
  | k + 1 => refLoaded l x bs k ++ [⟨x + k, bs[k]?.getD 0, 0⟩]
theorem refLoaded_length (l : List PD) (x : Int) (bs : List Int) : ∀ k, (refLoaded l x bs k).length = l.length + k
  | 0 => rfl
  | k + 1 => by rw [refLoaded, List.length_append, refLoaded_length l x bs k]; rfl
def refLoadErr (x : Int) (n : Nat) : Int := if (isRAM x = false ∧ isROM x = false) ∨ (0 < n ∧ isOne x (x + n - 1) = false) then 10 else 0

theorem Chg.step {S T : Nat → Prop} {w w1 w2 : World} (h : Chg S w w1) (k : Chg T w1 w2) (ht : ∀ b, T b → S b ∨ w.heap.size ≤ b) : Chg S w w2 :=
  ⟨k.os.trans h.os, k.tape.trans h.tape, k.output.trans h.output, Nat.le_trans h.size k.size, fun b hb hs => (k.block b (Nat.lt_of_lt_of_le hb h.size) (fun hT => by rcases ht b hT with h | h; exact hs h; omega)).trans (h.block b hb hs)⟩
theorem one_ok {x y : Int} (h : isOne x y = true) : (0 ≤ x ∧ x < 32768 ∧ 0 ≤ y ∧ y < 32768) ∨ (49152 ≤ x ∧ x < 65536 ∧ 49152 ≤ y ∧ y < 65536) := by
  unfold isOne isRAM isROM at h
  simp at h
  omega
theorem ram_rom {x : Int} (h : ¬ (isRAM x = false ∧ isROM x = false)) : (isRAM x = true ∨ (isRAM x = false ∧ isROM x = true)) ∧ 0 ≤ x ∧ x < 65536 := by
  unfold isRAM isROM at *
  simp at *
  omega

set_option maxRecDepth 100000 in
set_option maxHeartbeats 3200000 in
theorem refLoad_ok (B g : Nat) (sv : Value) (l : List PD) (x : Int) (a : Option Addr) (ca : Nat) (bs : List Int) (w : World) (hr : IsRef w B g sv l) (hB : B ≤ w.heap.size) (hl : l.length + bs.length ≤ 1000000)
    (hrb : ReadsU w B a bs.length bs) (h : refLoadErr x bs.length = 0) :
    Calls Tryd.prog 28 #[.pointer (some ⟨g, 0, none⟩), .int .i64 x, .slice a bs.length ca] w fun e w' => e = .returned (.int .i64 0) ∧ ∃ sv', IsRef w' B g sv' (refLoaded l x bs bs.length) ∧ Chg (RefF g sv) w w' ∧ (∀ b, RefF g sv' b → RefF g sv b ∨ w.heap.size ≤ b) := by
  have hn1 : ¬ (isRAM x = false ∧ isROM x = false) := fun hc => by unfold refLoadErr at h; rw [if_pos (.inl hc)] at h; exact absurd h (by decide)
  have hn2 : 0 < bs.length → isOne x (x + bs.length - 1) = true := fun hp => by
    cases ho : isOne x (x + bs.length - 1) with
    | true => rfl
    | false => unfold refLoadErr at h; rw [if_pos (.inr ⟨hp, ho⟩)] at h; exact absurd h (by decide)
  obtain ⟨hin, hx0, hx1⟩ := ram_rom hn1
  have hx2 : x + (bs.length : Int) ≤ 65536 := by
    by_cases hp : 0 < bs.length
    · have := one_ok (hn2 hp)
      omega
    · omega
  have A1 := fun w => isRAM_calls x w
  have A2 := fun w => isROM_calls x w
  have A3 : 0 < (bs.length : Int) → ∀ w, Calls Tryd.prog 27 #[.int .i64 x, .int .i64 (x + bs.length - 1)] w fun e w' => e = .returned (.bool true) ∧ w' = w := fun hp w => by
    have := isOne_calls x (x + bs.length - 1) w
    rw [hn2 (by omega)] at this
    exact this
  clear h hn1 hn2
  have HR := Lib.hid hr
  have HRB := Lib.hid hrb
  clear hr hrb
  obtain ⟨i0, hi0, hz0, hz1, hz2⟩ := info_parts put_info
  by_cases hp : 0 < (bs.length : Int)
  · have A3' := A3 hp
    clear A3
    rcases hin with h1 | ⟨h1, h2⟩
    all_goals
      rw [h1] at A1
      try rw [h2] at A2
      clear h1
      go_enter Tryd.func28, Tryd.ntmps28
      go_wp2_with (first
        | (go_at_call 12; (with_reducible refine (A1 _).mono ?_); rintro e w1 ⟨rfl, hw⟩; obtain rfl := hw.symm)
        | (go_at_call 24; (with_reducible refine (A2 _).mono ?_); rintro e w1 ⟨rfl, hw⟩; obtain rfl := hw.symm)
        | (go_at_call 27; (with_reducible refine (A3' _).mono ?_); rintro e w1 ⟨rfl, hw⟩; obtain rfl := hw.symm))
      clear A1 A2 A3'
      go_loopw [7] (fun v wr => ∃ (k : Nat) (sk : Value), v = .int .i64 (k : Int) ∧ k ≤ bs.length ∧ IsRef wr B g sk (refLoaded l x bs k) ∧ Chg (RefF g sv) w wr ∧ (∀ b, RefF g sk b → RefF g sv b ∨ w.heap.size ≤ b))
        (fun v _ => bs.length - (intOf v).toNat)
      case atStart => exact ⟨0, sv, rfl, Nat.zero_le _, HR.out, Chg.refl _ _, fun b hb => .inl hb⟩
      case round =>
        obtain ⟨k, sk, rfl, hk, hrec, hch, hfp⟩ := hrel
        have HF := Lib.hid hfp
        have HC := Lib.hid hch
        clear hch hfp
        have hBw : Below B w wr := HC.out.below (Below.refl _ _) hB (fun b hb => (HR.out.lt hb).2)
        by_cases hkn : k < bs.length
        · obtain ⟨b, off, rfl, hb, hcell⟩ := HRB.out.2.2 (by omega)
          have hcv : wr.cell? ⟨b, off + k, none⟩ = some (.int .u8 bs[k]) := (hBw.cell (p := ⟨b, _, none⟩) hb).trans (hcell k _ (List.getElem?_eq_getElem hkn))
          have hblt : b < wr.heap.size := Nat.lt_of_lt_of_le hb (Nat.le_trans hB hBw.size)
          have hki : (k : Int) < (bs.length : Int) := by omega
          have hgd : bs[k]?.getD 0 = bs[k] := by rw [List.getElem?_eq_getElem hkn]; rfl
          have HG := Lib.hid hgd
          clear hgd hcell
          generalize bs[k] = v at hcv HG
          obtain ⟨a', cap, rfl, hcap, hrd⟩ := hrec.reads
          clear hrd
          have c0 := hrec.blk.cell 0
          have f0 := hrec.blk.frozen 0
          have hlt := hrec.blk.lt
          have hlen : (refLoaded l x bs k).length + 1 ≤ 1000001 := by have := refLoaded_length l x bs k; omega
          have hxk := wrap_i64 (x + k) (by omega) (by omega)
          have hB2 : B ≤ wr.heap.size := Nat.le_trans hB hBw.size
          go_wp2
          go_region_law (refine step_append_lies _ (by rfl) _ _ _ (by rfl) B 45 i0 _ 3 16 Tryd.underlying37 hi0 hz0 hz1 hz2 rfl (by omega) (.slice a' (refLoaded l x bs k).length cap) (refLoaded l x bs k).length (puts (refLoaded l x bs k)) (by rfl) (by exact hrec.own.alloc _) ⟨wr.heap.size, 0, none⟩ 1 1 [.int .i64 (x + k), .int .u8 v, .int .u8 0] (by rfl) (by rfl) (World.news_of_block (cs := #[.int .i64 (x + k), .int .u8 v, .int .u8 0]) (t := 45) (fr := (0, 0)) (Blk.new' (by rfl))) (by simp [Value.oneCell']) (by omega) (by unfold maxLen; omega) (by omega) (by simp; omega) (wr.heap.size + 1) (by simp) ?_; intro gg cap1 w1 hown1 hgrow hat hlt1; have hg1 : Blk w1 g 39 #[.slice a' (refLoaded l x bs k).length cap] := (hgrow.block g (by simp; omega) (Ne.symm hrec.ne)).trans (hrec.blk.alloc _); have k0 := hg1.cell 0; have k1 := hg1.frozen 0)
          all_goals
            go_wp2
            obtain ⟨p1, p2, p3⟩ := ref_push (r := ⟨x + k, v, 0⟩) hrec (Q.drew (Q.alloc (Below.refl _ _) _)) hown1 hgrow (by rcases hat with h | h; exact .inl h; exact .inr (by simp; omega))
            refine ⟨⟨k + 1, _, by simp, by omega, by rw [refLoaded, HG.out]; exact p1, HC.out.step p2 HF.out, fun b hb => ?_⟩, by simp [intOf]; omega⟩
            rcases p3 b hb with h | h
            · exact HF.out b h
            · exact .inr (Nat.le_trans HC.out.size h)
        · obtain rfl : k = bs.length := by omega
          go_wp2
          go_returns
          exact ⟨rfl, sk, hrec, HC.out, HF.out⟩
  · obtain rfl : bs = [] := List.eq_nil_of_length_eq_zero (by omega)
    clear A3
    simp only [List.length_nil]
    rcases hin with h1 | ⟨h1, h2⟩
    all_goals
      rw [h1] at A1
      try rw [h2] at A2
      clear h1
      go_enter Tryd.func28, Tryd.ntmps28
      go_wp2_with (first
        | (go_at_call 12; (with_reducible refine (A1 _).mono ?_); rintro e w1 ⟨rfl, hw⟩; obtain rfl := hw.symm)
        | (go_at_call 24; (with_reducible refine (A2 _).mono ?_); rintro e w1 ⟨rfl, hw⟩; obtain rfl := hw.symm))
      clear A1 A2
      go_loopw [7] (fun v wr => v = .int .i64 0 ∧ wr = w) (fun _ _ => 0)
      case atStart => exact ⟨rfl, rfl⟩
      case round =>
        obtain ⟨rfl, rfl⟩ := hrel
        go_wp2
        go_returns
        exact ⟨rfl, sv, HR.out, Chg.refl _ _, fun b hb => .inl hb⟩

set_option maxHeartbeats 1600000 in
theorem refLoad_bad (g : Nat) (x : Int) (a : Option Addr) (n ca : Nat) (hn : n ≤ 1000000) (w : World) (h : refLoadErr x n = 10) :
    Calls Tryd.prog 28 #[.pointer (some ⟨g, 0, none⟩), .int .i64 x, .slice a n ca] w fun e w' => e = .returned (.int .i64 10) ∧ w' = w := by
  have A1 := fun w => isRAM_calls x w
  have A2 := fun w => isROM_calls x w
  by_cases h0 : isRAM x = false ∧ isROM x = false
  · rw [h0.1] at A1
    rw [h0.2] at A2
    go_enter Tryd.func28, Tryd.ntmps28
    go_wp2_with (first
      | (go_at_call 12; (with_reducible refine (A1 _).mono ?_); rintro e w1 ⟨rfl, hw⟩; obtain rfl := hw.symm)
      | (go_at_call 24; (with_reducible refine (A2 _).mono ?_); rintro e w1 ⟨rfl, hw⟩; obtain rfl := hw.symm))
    go_returns
    exact ⟨rfl, rfl⟩
  · have h1 : 0 < n ∧ isOne x (x + n - 1) = false := by
      unfold refLoadErr at h
      by_cases hc : 0 < n ∧ isOne x (x + n - 1) = false
      · exact hc
      · rw [if_neg (by rintro (h | h); exact h0 h; exact hc h)] at h
        exact absurd h (by decide)
    have A3 := fun w => isOne_calls x (x + n - 1) w
    rw [h1.2] at A3
    have hp : 0 < (n : Int) := by omega
    obtain ⟨hin, hx0, hx1⟩ := ram_rom h0
    clear h h0 h1
    rcases hin with h1 | ⟨h1, h2⟩
    all_goals
      rw [h1] at A1
      try rw [h2] at A2
      clear h1
      go_enter Tryd.func28, Tryd.ntmps28
      go_wp2_with (first
        | (go_at_call 12; (with_reducible refine (A1 _).mono ?_); rintro e w1 ⟨rfl, hw⟩; obtain rfl := hw.symm)
        | (go_at_call 24; (with_reducible refine (A2 _).mono ?_); rintro e w1 ⟨rfl, hw⟩; obtain rfl := hw.symm)
        | (go_at_call 27; (with_reducible refine (A3 _).mono ?_); rintro e w1 ⟨rfl, hw⟩; obtain rfl := hw.symm))
      go_returns
      exact ⟨rfl, rfl⟩
end Go.Proofs.YtjjebkgljgfecaaDoor
