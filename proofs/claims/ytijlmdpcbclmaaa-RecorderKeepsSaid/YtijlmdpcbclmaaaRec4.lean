/- The walks of the document's Apart, of Len and Full, and of the chapter's example. -/
import Derived.Test.YtijlmdpcbclmaaaRec3
namespace Go.Proofs.Ytijlmdpcbclmaaa
set_option linter.unusedVariables false
set_option linter.unusedSimpArgs false
open Go.RowKit

set_option maxHeartbeats 3200000 in
theorem rapart_calls (a b : Option Addr) (ca cb : Nat) (la lb : List RD) (w : World) (hra : Reads w w.heap.size a la.length la) (hrb : Reads w w.heap.size b lb.length lb) (ha : la.length ≤ 4096) (hb : lb.length ≤ 4096) :
    Calls Try.prog 15 #[.slice a la.length ca, .slice b lb.length cb] w fun e w' => e = .returned (.int .i64 (apart la lb)) ∧ ∃ n, w' = w.drewN n := by
  obtain ⟨R, HR⟩ : ∃ R, R = apart la lb := ⟨_, rfl⟩
  rw [← HR]
  have HR := Lib.hid HR
  rename_i HR0; clear HR0
  go_enter Try.func15, Try.ntmps15
  go_wp2_with fail
  go_loopw [5] (fun v wr => ∃ (k nq : Nat), v = .int .i64 (k : Int) ∧ k ≤ la.length ∧ k ≤ lb.length ∧ (∀ i x y, i < k → la[i]? = some x → lb[i]? = some y → sameAt x y = true) ∧ wr = w.drewN nq)
      (fun v _ => la.length + lb.length - (intOf v).toNat)
  case atStart => exact ⟨0, 0, rfl, Nat.zero_le _, Nat.zero_le _, fun i x y h => absurd h (by omega), rfl⟩
  case round =>
    obtain ⟨k, nq, rfl, hka, hkb, hsame, rfl⟩ := hrel
    have HS := Lib.hid hsame
    clear hsame
    by_cases h1 : k < la.length
    · by_cases h2 : k < lb.length
      · obtain ⟨b1, o1, x, rfl, hbl, hget, c0, c1, -, -⟩ := (hra.drewN nq).at_ h1
        obtain ⟨b2, o2, y, rfl, hbl2, hget2, d0, d1, -, -⟩ := (hrb.drewN nq).at_ h2
        simp only [World.cell?_drewN] at c0 c1 d0 d1
        have HX := Lib.hid hget
        have HY := Lib.hid hget2
        clear hget hget2 hra hrb
        obtain ⟨xa, xw, xv, xt⟩ := x
        obtain ⟨ya, yw, yv, yt⟩ := y
        simp only at c0 c1 d0 d1
        by_cases e1 : xa = ya
        · subst e1
          by_cases e2 : xw = yw
          · subst e2
            go_wp2_with fail
            go_quiet (fail)
            go_wp2
            all_goals
              refine ⟨⟨k + 1, _, by go_num, by omega, by omega, fun i x y hi hx hy => ?_, rfl⟩, by simp [intOf]; omega⟩
              by_cases hik : i < k
              · exact HS.out i x y hik hx hy
              · obtain rfl : i = k := by omega
                rw [HX.out] at hx
                rw [HY.out] at hy
                cases hx
                cases hy
                simp [sameAt]
          · have HSS : Hid (sameAt ⟨xa, xw, xv, xt⟩ ⟨xa, yw, yv, yt⟩ = false) := by
              show sameAt ⟨xa, xw, xv, xt⟩ ⟨xa, yw, yv, yt⟩ = false
              simp [sameAt, e2]
            cases xw <;> cases yw
            · exact absurd rfl e2
            rotate_right
            · exact absurd rfl e2
            all_goals
              clear e2
              go_wp2_with fail
              go_quiet (fail)
              go_wp2
              go_returns
              refine ⟨?_, _, (by first | rfl | (simp only [World.drewN_drewN]; rfl))⟩
              rw [HR.out, apart_at la lb k (by omega) (by omega) HS.out (.inl ⟨_, _, HX.out, HY.out, HSS.out⟩)]
              rfl
        · have g3 : (xa != ya) = true := by simpa using e1
          have hs : sameAt ⟨xa, xw, xv, xt⟩ ⟨ya, yw, yv, yt⟩ = false := by simp [sameAt, e1]
          have HSS := Lib.hid hs
          clear e1 hs
          go_wp2_with fail
          go_quiet (fail)
          go_wp2
          go_returns
          refine ⟨?_, _, (by first | rfl | (simp only [World.drewN_drewN]; rfl))⟩
          rw [HR.out, apart_at la lb k (by omega) (by omega) HS.out (.inl ⟨_, _, HX.out, HY.out, HSS.out⟩)]
          rfl
      · have hk2 : k = lb.length := by omega
        have HK2 := Lib.hid hk2
        have hne : ((la.length : Int) == lb.length) = false := beq_eq_false_iff_ne.2 (by omega)
        clear hk2 hra hrb
        go_wp2
        go_returns
        refine ⟨?_, _, (by first | rfl | (simp only [World.drewN_drewN]; rfl))⟩
        rw [HR.out, apart_at la lb k (by omega) (by omega) HS.out (.inr (.inr ⟨h1, HK2.out⟩))]
        rfl
    · by_cases h2 : k < lb.length
      · have hk1 : k = la.length := by omega
        have HK1 := Lib.hid hk1
        have hne : ((la.length : Int) == lb.length) = false := beq_eq_false_iff_ne.2 (by omega)
        clear hk1 hra hrb
        go_wp2
        go_returns
        refine ⟨?_, _, (by first | rfl | (simp only [World.drewN_drewN]; rfl))⟩
        rw [HR.out, apart_at la lb k (by omega) (by omega) HS.out (.inr (.inl ⟨HK1.out, h2⟩))]
        rfl
      · have hee : ((la.length : Int) == lb.length) = true := beq_iff_eq.2 (by omega)
        clear hra hrb
        go_wp2
        go_returns
        refine ⟨?_, _, (by first | rfl | (simp only [World.drewN_drewN]; rfl))⟩
        rw [HR.out, apart_same la lb k (by omega) (by omega) HS.out]
        rfl

set_option maxHeartbeats 400000 in
theorem len_any (p : Value) (l : List RD) (w : World) (h : PRec w p l) :
    Calls Try.prog 34 #[p] w fun e w' => e = .returned (.int .i64 l.length) ∧ ∃ n, w' = w.drewN n := by
  go_enter Try.func34, Try.ntmps34
  go_wp2_with (go_at_call 41; (with_reducible refine (records_any p l _ h).mono ?_); rintro e w' ⟨a, n, rfl, hr, rfl⟩)
  go_returns
  exact ⟨rfl, n, rfl⟩
set_option maxHeartbeats 400000 in
theorem full_calls (B g : Nat) (sv : Value) (l : List RD) (most : Int) (full : Bool) (w : World) (hr : IsRec w B g sv l most full) :
    Calls Try.prog 35 #[.pointer (some ⟨g, 0, none⟩)] w fun e w' => e = .returned (.bool full) ∧ w = w' := by
  have c2 := hr.blk.cell 2
  go_enter Try.func35, Try.ntmps35
  go_wp2
  go_returns
  exact ⟨rfl, rfl⟩
set_option maxHeartbeats 400000 in
theorem full_nil (w : World) :
    Calls Try.prog 35 #[.pointer none] w fun e w' => e = .returned (.bool false) ∧ w = w' := by
  go_enter Try.func35, Try.ntmps35
  go_wp2
  go_returns
  exact ⟨rfl, rfl⟩
end Go.Proofs.Ytijlmdpcbclmaaa
