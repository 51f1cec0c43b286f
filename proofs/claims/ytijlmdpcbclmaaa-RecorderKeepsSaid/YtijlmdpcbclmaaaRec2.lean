/- The walks on recorders: made, fit, records, Apart. -/
import Derived.Test.YtijlmdpcbclmaaaRec1
namespace Go.Proofs.Ytijlmdpcbclmaaa
set_option linter.unusedVariables false
set_option linter.unusedSimpArgs false
open Go.RowKit

def RD.fits (r : RD) : Bool := decide (0 ≤ r.addr) && decide (r.addr ≤ 65535)
def fitl (l : List RD) : List RD := l.filter RD.fits

theorem take_snoc {α : Type} (l : List α) (k : Nat) (r : α) (h : l[k]? = some r) : l.take (k + 1) = l.take k ++ [r] := by
  rw [List.take_add_one, h]; rfl
theorem fitl_snoc (l : List RD) (r : RD) : fitl (l ++ [r]) = fitl l ++ if r.fits = true then [r] else [] := by
  simp only [fitl, List.filter_append]
  congr 1
  by_cases h : r.fits = true <;> simp [List.filter_cons, h]
theorem fitl_len (l : List RD) : (fitl l).length ≤ l.length := List.length_filter_le _ _

theorem Reads.at_ {w : World} {B : Nat} {a : Option Addr} {len : Nat} {l : List RD} (h : Reads w B a len l) {k : Nat} (hk : k < len) :
    ∃ b off r, a = some ⟨b, off, none⟩ ∧ b < B ∧ l[k]? = some r ∧ w.cell? ⟨b, off + k * 4, none⟩ = some (.int .i64 r.addr) ∧ w.cell? ⟨b, off + k * 4 + 1, none⟩ = some (.bool r.wr) ∧ w.cell? ⟨b, off + k * 4 + 2, none⟩ = some (.int .u8 r.v) ∧ w.cell? ⟨b, off + k * 4 + 3, none⟩ = some (.int .u8 r.t) := by
  obtain ⟨b, off, rfl, hb, hc⟩ := h.2 (by omega)
  have hr : l[k]? = some (l[k]'(by rw [h.1]; exact hk)) := List.getElem?_eq_getElem _
  exact ⟨b, off, _, rfl, hb, hr, hc k _ hr⟩

set_option maxHeartbeats 1600000 in
theorem made_calls (a : Option Addr) (len cap : Nat) (l : List RD) (hl : len ≤ 4096) (w : World) (hr : Reads w w.heap.size a len l) :
    Calls Try.prog 14 #[.slice a len cap] w fun e w' => ∃ g sv, e = .returned (.pointer (some ⟨g, 0, none⟩)) ∧ IsRec w' w.heap.size g sv (fitl l) 4096 false ∧ Below w.heap.size w w' := by
  go_enter Try.func14, Try.ntmps14
  go_wp2_with (go_at_call 26; (with_reducible refine (rnew_calls 4096 (by omega) (by omega) _).mono ?_); rintro e w' ⟨rfl, rfl⟩)
  go_loopw [5] (fun v wr => ∃ (k : Nat) (sv : Value), v = .int .i64 (k : Int) ∧ k ≤ len ∧ IsRec wr w.heap.size w.heap.size sv (fitl (l.take k)) 4096 false ∧ Below w.heap.size w wr)
    (fun v _ => len - (intOf v).toNat)
  case atStart =>
    refine ⟨0, .slice none 0 0, rfl, Nat.zero_le _, ⟨Blk.new _ _ _, World.ownsRow_nil _ _ _ _, Nat.le_refl _, by simp [Value.ownBlock]⟩, (Below.refl _ _).alloc (Nat.le_refl _) _⟩
  case round =>
    obtain ⟨k, sv, rfl, hk, hrec, hbw⟩ := hrel
    have HREC := Lib.hid hrec
    clear hrec
    by_cases hlt : k < len
    · obtain ⟨b, off, r, rfl, hbl, hget, c0, c1, c2, c3⟩ := (hr.below hbw).at_ hlt
      have HG := Lib.hid hget
      clear hget
      by_cases hf : 0 ≤ r.addr ∧ r.addr ≤ 65535
      · have hlen : ((fitl (l.take k)).length : Int) < 4096 := by
          have := fitl_len (l.take k)
          have h2 := List.length_take_le k l
          omega
        have HF : Hid (r.fits = true) := by
          show r.fits = true
          simp only [RD.fits, Bool.and_eq_true, decide_eq_true_eq]
          exact hf
        have C := fun w' h => radd_ok w.heap.size w.heap.size sv (fitl (l.take k)) 4096 false r hf.1 hf.2 w' h
        clear hf
        go_wp2_with (go_at_call 28; (with_reducible refine (C _ HREC.out hbw.size hlen (by omega)).mono ?_); rintro e w2 ⟨rfl, sv', hrec2, hch, hfp⟩)
        go_roundw
        case rel => exact ⟨k + 1, sv', by go_num, by omega, by rw [take_snoc l k r HG.out, fitl_snoc, if_pos HF.out]; exact hrec2, hch.below hbw hbw.size (fun b hb => (HREC.out.lt hb).2)⟩
        case measure => simp [intOf]; omega
      · have C := fun w' => radd_out w.heap.size r (by omega) w'
        have HF : Hid (r.fits = false) := by
          show r.fits = false
          simp only [RD.fits, Bool.and_eq_false_iff, decide_eq_false_iff_not]
          omega
        clear hf
        go_wp2_with (go_at_call 28; (with_reducible refine (C _).mono ?_); rintro e w2 ⟨rfl, hb2⟩)
        go_roundw
        case rel => exact ⟨k + 1, sv, by go_num, by omega, by rw [take_snoc l k r HG.out, fitl_snoc, HF.out]; simp only [Bool.false_eq_true, if_false, List.append_nil]; exact HREC.out.call hb2, hbw.trans (hb2.mono hbw.size)⟩
        case measure => simp [intOf]; omega
    · obtain rfl : len = k := by omega
      go_wp2
      go_returns
      refine ⟨w.heap.size, sv, rfl, ?_, hbw⟩
      have := HREC.out
      rw [List.take_of_length_le (by rw [hr.1]; omega)] at this
      exact this

set_option maxHeartbeats 1600000 in
theorem fit_calls (a : Option Addr) (len cap : Nat) (l : List RD) (hl : len ≤ 4096) (w : World) (hr : Reads w w.heap.size a len l) :
    Calls Try.prog 16 #[.slice a len cap] w fun e w' => ∃ sv, e = .returned sv ∧ w'.ownsRow w.heap.size 35 4 sv (fitl l).length (rows (fitl l)) ∧ Below w.heap.size w w' := by
  obtain ⟨i0, hi0, hz0, hz1, hz2⟩ := info_parts rec_info
  go_enter Try.func16, Try.ntmps16
  go_wp2
  go_loopw [3, 4] (fun o v wr => ∃ (k : Nat), v = .int .i64 (k : Int) ∧ k ≤ len ∧ wr.ownsRow w.heap.size 35 4 o (fitl (l.take k)).length (rows (fitl (l.take k))) ∧ Below w.heap.size w wr)
    (fun _ v _ => len - (intOf v).toNat)
  case atStart => exact ⟨0, rfl, Nat.zero_le _, World.ownsRow_nil _ _ _ _, Below.refl _ _⟩
  case round =>
    obtain ⟨k, rfl, hk, hown, hbw⟩ := hrel
    by_cases hlt : k < len
    · obtain ⟨b, off, r, rfl, hbl, hget, c0, c1, c2, c3⟩ := (hr.below hbw).at_ hlt
      have hlen : (fitl (l.take k)).length < 4096 := by
        have := fitl_len (l.take k)
        have h2 := List.length_take_le k l
        omega
      have HG := Lib.hid hget
      clear hget
      by_cases hf : 0 ≤ r.addr ∧ r.addr ≤ 65535
      · have HF : Hid (r.fits = true) := by
          show r.fits = true
          simp only [RD.fits, Bool.and_eq_true, decide_eq_true_eq]
          exact hf
        obtain ⟨hf0, hf1⟩ := hf
        obtain ⟨x, bb, vv, tt⟩ := r
        simp only at hf0 hf1 c0 c1 c2 c3
        have hB := hbw.size
        go_wp2_with (at_builtin; refine wpList_append_own _ rfl _ _ 22 rfl w.heap.size 35 i0 _ 4 16 Try.underlying22 hi0 hz0 hz1 hz2 rfl (by decide) _ _ _ rfl (hown.alloc _) ⟨wr.heap.size, 0, none⟩ 1 1 [.int .i64 x, .bool bb, .int .u8 vv, .int .u8 tt] rfl rfl (World.news_of_block (cs := #[.int .i64 x, .bool bb, .int .u8 vv, .int .u8 tt]) (t := 35) (fr := (0, 0)) (heap_alloc_new _ _)) (by simp [Value.oneCell']) (by unfold maxLen; omega) (by omega) (by simp; omega) ?_; intro v' w1 hown' hgrow _)
        go_roundw
        case rel =>
          refine ⟨k + 1, by go_num, by omega, ?_, (hbw.alloc hB _).grown hgrow (by simp; omega) (fun q hq => (own_lt hown hq).2)⟩
          rw [take_snoc l k _ HG.out, fitl_snoc, if_pos HF.out, List.length_append, rows_snoc]
          exact hown'
        case measure => simp [intOf]; omega
      · have HF : Hid (r.fits = false) := by
          show r.fits = false
          simp only [RD.fits, Bool.and_eq_false_iff, decide_eq_false_iff_not]
          omega
        have hf' : r.addr < 0 ∨ (0 ≤ r.addr ∧ 65535 < r.addr) := by omega
        clear hf
        rcases hf' with hf | ⟨hf, hf2⟩
        all_goals
          go_wp2
          go_roundw
          case rel => exact ⟨k + 1, by go_num, by omega, by rw [take_snoc l k r HG.out, fitl_snoc, HF.out]; simpa using hown, hbw⟩
          case measure => simp [intOf]; omega
    · obtain rfl : len = k := by omega
      go_wp2
      go_returns
      refine ⟨_, rfl, ?_, hbw⟩
      rw [List.take_of_length_le (by rw [hr.1]; omega)] at hown
      exact hown

set_option maxHeartbeats 400000 in
theorem records_nil (w : World) :
    Calls Try.prog 41 #[.pointer none] w fun e w' => e = .returned (.slice none 0 0) ∧ w = w' := by
  go_enter Try.func41, Try.ntmps41
  go_wp2
  go_returns
  exact ⟨rfl, rfl⟩
set_option maxHeartbeats 800000 in
theorem records_calls (B g : Nat) (a : Option Addr) (cap : Nat) (l : List RD) (most : Int) (full : Bool) (w : World) (hr : IsRec w B g (.slice a l.length cap) l most full) (hcap : l.length ≤ cap) (hl : l.length ≤ 4096) :
    Calls Try.prog 41 #[.pointer (some ⟨g, 0, none⟩)] w fun e w' => e = .returned (.slice a l.length l.length) ∧ ∃ n, w' = w.drewN n := by
  have c0 := hr.blk.cell 0
  have hcap' : (l.length : Int) ≤ cap := by omega
  go_enter Try.func41, Try.ntmps41
  go_wp2
  go_quiet (fail)
  go_wp2
  go_returns
  exact ⟨rfl, _, rfl⟩

/-- Two rows do the same at a place. -/
def sameAt (x y : RD) : Bool := decide (x.addr = y.addr) && decide (x.wr = y.wr)
/-- The first place at which two rows did not do the same; -1: there is none. -/
def apart : List RD → List RD → Int
  | [], [] => -1
  | [], _ :: _ => 0
  | _ :: _, [] => 0
  | x :: a, y :: b => if sameAt x y = true then (if apart a b = -1 then -1 else apart a b + 1) else 0

theorem apart_same (a b : List RD) (k : Nat) (hab : a.length = b.length) (hk : k = a.length) (h : ∀ i x y, i < k → a[i]? = some x → b[i]? = some y → sameAt x y = true) : apart a b = -1 := by
  subst hk
  induction a generalizing b with
  | nil => cases b with
    | nil => rfl
    | cons y b => simp at hab
  | cons x a ih => cases b with
    | nil => simp at hab
    | cons y b =>
      have h0 := h 0 x y (by simp) rfl rfl
      have := ih b (by simpa using hab) (fun i u v hi hu hv => h (i + 1) u v (by simp; omega) (by simpa using hu) (by simpa using hv))
      simp [apart, h0, this]
theorem apart_at (a b : List RD) (k : Nat) (ha : k ≤ a.length) (hb : k ≤ b.length) (h : ∀ i x y, i < k → a[i]? = some x → b[i]? = some y → sameAt x y = true)
    (hk : (∃ x y, a[k]? = some x ∧ b[k]? = some y ∧ sameAt x y = false) ∨ (k = a.length ∧ k < b.length) ∨ (k < a.length ∧ k = b.length)) : apart a b = k := by
  induction k generalizing a b with
  | zero =>
    cases a with
    | nil => cases b with
      | nil => simp at hk
      | cons y b => rfl
    | cons x a => cases b with
      | nil => rfl
      | cons y b =>
        rcases hk with ⟨u, v, hu, hv, hs⟩ | ⟨h1, _⟩ | ⟨_, h1⟩
        · simp at hu hv; subst hu hv; simp [apart, hs]
        · simp at h1
        · simp at h1
  | succ k ih =>
    cases a with
    | nil => simp at ha
    | cons x a => cases b with
      | nil => simp at hb
      | cons y b =>
        have h0 := h 0 x y (by omega) rfl rfl
        have := ih a b (by simpa using ha) (by simpa using hb) (fun i u v hi hu hv => h (i + 1) u v (by omega) (by simpa using hu) (by simpa using hv)) (by
          rcases hk with ⟨u, v, hu, hv, hs⟩ | ⟨h1, h2⟩ | ⟨h1, h2⟩
          · exact .inl ⟨u, v, by simpa using hu, by simpa using hv, hs⟩
          · exact .inr (.inl ⟨by simpa using h1, by simpa using h2⟩)
          · exact .inr (.inr ⟨by simpa using h1, by simpa using h2⟩))
        have hne : ((k : Nat) : Int) ≠ -1 := by omega
        simp only [apart, h0, if_true, this, if_neg hne]
        omega
end Go.Proofs.Ytijlmdpcbclmaaa
