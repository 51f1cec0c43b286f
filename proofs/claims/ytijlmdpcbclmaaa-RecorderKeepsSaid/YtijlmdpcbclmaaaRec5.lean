/- The chapter's example of recorders, and the laws RecorderApart and RecorderBlind. -/
import Derived.Test.YtijlmdpcbclmaaaRec4
namespace Go.Proofs.Ytijlmdpcbclmaaa
set_option linter.unusedVariables false
set_option linter.unusedSimpArgs false
open Go.RowKit

theorem IsRec.fresh (w : World) (most : Int) : IsRec (w.alloc (.cells #[.slice none 0 0, .int .i64 most, .bool false] 79)) w.heap.size w.heap.size (.slice none 0 0) [] most false :=
  ⟨Blk.new _ _ _, World.ownsRow_nil _ _ _ _, Nat.le_refl _, by simp [Value.ownBlock]⟩
theorem IsRec.prec {w : World} {B g : Nat} {sv : Value} {l : List RD} {most : Int} {full : Bool} (h : IsRec w B g sv l most full) (hl : l.length ≤ 4096) : PRec w (.pointer (some ⟨g, 0, none⟩)) l :=
  .inr ⟨B, g, sv, most, full, rfl, h, hl⟩

set_option maxHeartbeats 1600000 in
theorem awake17_calls (w : World) :
    Calls Try.prog 13 #[] w fun e w' => e = .returned (.bool true) ∧ Below w.heap.size w w' := by
  go_enter Try.func13, Try.ntmps13
  go_wp2_with (go_at_call 26; (with_reducible refine (rnew_calls 1 (by omega) (by omega) _).mono ?_); rintro e w' ⟨rfl, rfl⟩)
  have h0 := IsRec.fresh w 1
  have hb0 : Below w.heap.size w (w.alloc (.cells #[.slice none 0 0, .int .i64 1, .bool false] 79)) := (Below.refl _ _).alloc (Nat.le_refl _) _
  have C1 := radd_ok w.heap.size w.heap.size (.slice none 0 0) [] 1 false ⟨5, false, 0, 0⟩ (by simp) (by simp) _ h0 (by simp) (by simp) (by simp)
  (with_reducible refine C1.mono ?_)
  rintro e w1 ⟨rfl, sv1, h1, hch1, -⟩
  have hb1 : Below w.heap.size w w1 := hch1.below hb0 (by simp) (fun b hb => (h0.lt hb).2)
  clear C1 h0 hb0 hch1
  go_wp2_with fail
  have C2 := radd_full w.heap.size w.heap.size sv1 [⟨5, false, 0, 0⟩] 1 false ⟨6, false, 0, 0⟩ (by simp) (by simp) _ h1 (by simp)
  (with_reducible refine C2.mono ?_)
  rintro e w2 ⟨rfl, h2, hch2⟩
  have hb2 : Below w.heap.size w w2 := hch2.below hb1 hb1.size (fun b hb => by rw [hb]; exact Nat.le_refl _)
  clear C2 h1 hch2 hb1
  have HR := Lib.hid h2
  clear h2
  go_wp2_with (first
    | (go_at_call 34; (with_reducible refine (len_any _ _ _ (HR.out.prec (by simp))).mono ?_); rintro e w' ⟨rfl, n3, rfl⟩)
    | (go_at_call 35; (with_reducible refine (full_calls w.heap.size w.heap.size sv1 _ 1 true _ (by exact HR.out.keep (fun _ _ _ => rfl) (Nat.le_refl _))).mono ?_); rintro e w' ⟨rfl, rfl⟩))
  go_returns
  exact ⟨rfl, (by repeat' (first | with_reducible exact Below.refl _ _ | with_reducible assumption | with_reducible refine Q.alloc ?_ _ | with_reducible refine Q.drew ?_ | with_reducible refine Q.drewN ?_ _ | with_reducible refine Q.call ?_ (by assumption)))⟩

theorem apart_comm (a b : List RD) : apart a b = apart b a := by
  induction a generalizing b with
  | nil => cases b <;> rfl
  | cons x a ih => cases b with
    | nil => rfl
    | cons y b =>
      have hs : sameAt x y = sameAt y x := by simp only [sameAt]; congr 1 <;> exact decide_eq_decide.2 eq_comm
      simp only [apart, hs, ih b]
theorem apart_nil (a : List RD) : apart a [] = if 0 < a.length then 0 else -1 := by cases a <;> simp [apart]

set_option maxHeartbeats 400000 in
theorem recorderApart_long (a b : Option Addr) (na nb ca cb : Nat) (h : 60 < na ∨ (na ≤ 60 ∧ 60 < nb)) (w : World) :
    Calls Try.prog 3 #[.slice a na ca, .slice b nb cb] w fun e w' => e = .returned (.bool true) ∧ Below w.heap.size w w' := by
  rcases h with h | ⟨h, h1⟩
  all_goals
    go_enter Try.func3, Try.ntmps3
    go_wp2_with (go_at_call 13; (with_reducible refine (awake17_calls _).mono ?_); rintro e w4 ⟨rfl, hb4⟩)
    go_returns
    exact ⟨rfl, (by repeat' (first | with_reducible exact Below.refl _ _ | with_reducible assumption | with_reducible refine Q.alloc ?_ _ | with_reducible refine Q.drew ?_ | with_reducible refine Q.drewN ?_ _ | with_reducible refine Q.call ?_ (by assumption)))⟩

set_option maxHeartbeats 3200000 in
theorem recorderApart_ok (a b : Option Addr) (ca cb : Nat) (la lb : List RD) (ha : la.length ≤ 60) (hb : lb.length ≤ 60) (w : World) (hra : Reads w w.heap.size a la.length la) (hrb : Reads w w.heap.size b lb.length lb) :
    Calls Try.prog 3 #[.slice a la.length ca, .slice b lb.length cb] w fun e w' => e = .returned (.bool true) ∧ Below w.heap.size w w' := by
  have ha' : decide (60 < la.length) = false := by simp; omega
  have hb' : decide (60 < lb.length) = false := by simp; omega
  have fa := fitl_len la
  have fb := fitl_len lb
  go_enter Try.func3, Try.ntmps3
  go_wp2_with fail
  (with_reducible refine (made_calls a la.length ca la (by omega) _ hra).mono ?_)
  rintro e w1 ⟨g1, sv1, rfl, hr1, hb1⟩
  have hra1 := hra.call hb1
  have hrb1 := hrb.call hb1
  go_wp2_with fail
  (with_reducible refine (made_calls b lb.length cb lb (by omega) _ hrb1).mono ?_)
  rintro e w2 ⟨g2, sv2, rfl, hr2, hb2⟩
  have hra2 := hra1.call hb2
  have hrb2 := hrb1.call hb2
  have hr12 := hr1.call hb2
  go_wp2_with fail
  (with_reducible refine (fit_calls a la.length ca la (by omega) _ hra2).mono ?_)
  rintro e w3 ⟨sva, rfl, ho1, hb3⟩
  have hra3 := hra2.call hb3
  have hrb3 := hrb2.call hb3
  obtain ⟨aa, caa, rfl, hcaa, hraa⟩ := own_reads ho1
  go_wp2_with fail
  (with_reducible refine (fit_calls b lb.length cb lb (by omega) _ hrb3).mono ?_)
  rintro e w4 ⟨svb, rfl, ho2, hb4⟩
  have hra4 := hra3.call hb4
  have hraa4 := hraa.call hb4
  obtain ⟨bb, cbb, rfl, hcbb, hrbb⟩ := own_reads ho2
  go_wp2_with fail
  (with_reducible refine (rapart_calls aa bb caa cbb (fitl la) (fitl lb) _ hraa4 hrbb (by omega) (by omega)).mono ?_)
  rintro e w5 ⟨rfl, n5, rfl⟩
  go_wp2_with fail
  (with_reducible refine (fit_calls a la.length ca la (by omega) _ (hra4.drewN n5)).mono ?_)
  rintro e w6 ⟨svc, rfl, ho3, hb6⟩
  obtain ⟨cc, ccc, rfl, hccc, hrcc⟩ := own_reads ho3
  have P1 : PRec w6 (.pointer (some ⟨g1, 0, none⟩)) (fitl la) := ((((hr12.call hb3).call hb4).prec (by omega)).drewN n5).call hb6
  have P2 : PRec w6 (.pointer (some ⟨g2, 0, none⟩)) (fitl lb) := ((((hr2.call hb3).call hb4).prec (by omega)).drewN n5).call hb6
  have HB : Below w.heap.size w w6 := (by repeat' (first | with_reducible exact Below.refl _ _ | with_reducible assumption | with_reducible refine Q.alloc ?_ _ | with_reducible refine Q.drew ?_ | with_reducible refine Q.drewN ?_ _ | with_reducible refine Q.call ?_ (by assumption)))
  have P0 : ∀ w' : World, PRec w' (.pointer none) [] := fun _ => .inl ⟨rfl, rfl⟩
  have e1 : apart (fitl lb) (fitl la) = apart (fitl la) (fitl lb) := apart_comm _ _
  have e2 : apart (fitl la) [] = if 0 < (fitl la).length then 0 else -1 := apart_nil _
  have e3 : apart [] (fitl la) = if 0 < (fitl la).length then 0 else -1 := by rw [apart_comm, apart_nil]
  have H := Lib.hid (And.intro e1 (And.intro e2 e3))
  clear e1 e2 e3 hra hrb hra1 hrb1 hra2 hrb2 hra3 hrb3 hra4 hraa hraa4 hrbb ho1 ho2 ho3 hr1 hr2 hr12 hrcc
  have hW : ∀ n, Below w6.heap.size w6 (w6.drewN n) := fun n => Q.drewN (Below.refl _ _) n
  have A0 := apart_calls _ _ _ _ _ P1 P2 (by omega) (by omega)
  have A2 := fun n => apart_calls _ _ _ _ _ (P2.call (hW n)) (P1.call (hW n)) (by omega) (by omega)
  have A3 := fun n => apart_calls _ _ _ _ _ (P1.call (hW n)) (P0 _) (by omega) (by simp)
  have A4 := fun n => apart_calls _ _ _ _ _ (P0 (w6.drewN n)) (P1.call (hW n)) (by simp) (by omega)
  have A5 := fun n => apart_calls _ _ _ _ _ (P0 (w6.drewN n)) (P0 (w6.drewN n)) (by simp) (by simp)
  simp only [H.out.1, H.out.2.1, H.out.2.2] at A2 A3 A4 A5
  clear P1 P2 P0 H hW
  by_cases hz : 0 < (fitl la).length
  · simp only [hz, if_true] at A3 A4
    go_wp2_with fail
    (with_reducible refine A0.mono ?_)
    rintro e w7 ⟨rfl, n7, rfl⟩
    go_wp2_with (first
      | (go_at_call 17; (with_reducible refine (A2 _).mono ?_); rintro e w8 ⟨rfl, n8, rfl⟩)
      | (go_at_call 17; (with_reducible refine (A3 _).mono ?_); rintro e w8 ⟨rfl, n8, rfl⟩)
      | (go_at_call 17; (with_reducible refine (A4 _).mono ?_); rintro e w8 ⟨rfl, n8, rfl⟩)
      | (go_at_call 17; (with_reducible refine (A5 _).mono ?_); rintro e w8 ⟨rfl, n8, rfl⟩)
      | (go_at_call 13; (with_reducible refine (awake17_calls _).mono ?_); rintro e w9 ⟨rfl, hb9⟩))
    go_returns
    exact ⟨by first | rfl | (simp; done), (by repeat' (first | with_reducible exact Below.refl _ _ | with_reducible assumption | with_reducible refine Q.alloc ?_ _ | with_reducible refine Q.drew ?_ | with_reducible refine Q.drewN ?_ _ | with_reducible refine Q.call ?_ (by assumption)))⟩
  · simp only [hz, if_false] at A3 A4
    go_wp2_with fail
    (with_reducible refine A0.mono ?_)
    rintro e w7 ⟨rfl, n7, rfl⟩
    go_wp2_with (first
      | (go_at_call 17; (with_reducible refine (A2 _).mono ?_); rintro e w8 ⟨rfl, n8, rfl⟩)
      | (go_at_call 17; (with_reducible refine (A3 _).mono ?_); rintro e w8 ⟨rfl, n8, rfl⟩)
      | (go_at_call 17; (with_reducible refine (A4 _).mono ?_); rintro e w8 ⟨rfl, n8, rfl⟩)
      | (go_at_call 17; (with_reducible refine (A5 _).mono ?_); rintro e w8 ⟨rfl, n8, rfl⟩)
      | (go_at_call 13; (with_reducible refine (awake17_calls _).mono ?_); rintro e w9 ⟨rfl, hb9⟩))
    go_returns
    exact ⟨by first | rfl | (simp; done), (by repeat' (first | with_reducible exact Below.refl _ _ | with_reducible assumption | with_reducible refine Q.alloc ?_ _ | with_reducible refine Q.drew ?_ | with_reducible refine Q.drewN ?_ _ | with_reducible refine Q.call ?_ (by assumption)))⟩

theorem recorderApart_walk (a b : Option Addr) (na nb ca cb : Nat) (la lb : List RD) (w : World) (hra : Reads w w.heap.size a na la) (hrb : Reads w w.heap.size b nb lb) :
    Calls Try.prog 3 #[.slice a na ca, .slice b nb cb] w fun e w' => e = .returned (.bool true) ∧ Below w.heap.size w w' := by
  by_cases h : na ≤ 60 ∧ nb ≤ 60
  · obtain rfl := hra.1
    obtain rfl := hrb.1
    exact recorderApart_ok a b ca cb la lb h.1 h.2 w hra hrb
  · exact recorderApart_long a b na nb ca cb (by omega) w
end Go.Proofs.Ytijlmdpcbclmaaa
