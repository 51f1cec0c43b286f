/- The walk of the recorder's Apart. -/
import Derived.Test.YtijlmdpcbclmaaaRec2
namespace Go.Proofs.Ytijlmdpcbclmaaa
set_option linter.unusedVariables false
set_option linter.unusedSimpArgs false
open Go.RowKit

/-- A pointer to a recorder, or nil: what records it has. -/
def PRec (w : World) (p : Value) (l : List RD) : Prop :=
  (p = .pointer none ∧ l = []) ∨ ∃ B g sv most full, p = .pointer (some ⟨g, 0, none⟩) ∧ IsRec w B g sv l most full ∧ l.length ≤ 4096
theorem PRec.drewN {w : World} {p : Value} {l : List RD} (h : PRec w p l) (n : Nat) : PRec (w.drewN n) p l := by
  rcases h with h | ⟨B, g, sv, most, full, hp, hr, hl⟩
  · exact .inl h
  · exact .inr ⟨B, g, sv, most, full, hp, hr.keep (fun _ _ _ => rfl) (Nat.le_refl _), hl⟩
theorem PRec.call {w w' : World} {p : Value} {l : List RD} (h : PRec w p l) (hb : Below w.heap.size w w') : PRec w' p l := by
  rcases h with h | ⟨B, g, sv, most, full, hp, hr, hl⟩
  · exact .inl h
  · exact .inr ⟨B, g, sv, most, full, hp, hr.call hb, hl⟩

theorem records_any (p : Value) (l : List RD) (w : World) (h : PRec w p l) :
    Calls Try.prog 41 #[p] w fun e w' => ∃ a n, e = .returned (.slice a l.length l.length) ∧ Reads w w.heap.size a l.length l ∧ w' = w.drewN n := by
  rcases h with ⟨rfl, rfl⟩ | ⟨B, g, sv, most, full, rfl, hr, hl⟩
  · exact (records_nil w).mono fun e w' ⟨he, hw⟩ => ⟨none, 0, he, ⟨rfl, fun h => absurd h (by simp)⟩, hw.symm⟩
  · obtain ⟨a, cap, rfl, hcap, hrd⟩ := hr.reads
    exact (records_calls B g a cap l most full w hr hcap hl).mono fun e w' ⟨he, n, hw⟩ => ⟨a, n, he, hrd, hw⟩

theorem Reads.drewN {w : World} {B : Nat} {a : Option Addr} {len : Nat} {l : List RD} (h : Reads w B a len l) (n : Nat) : Reads (w.drewN n) B a len l := h

set_option maxHeartbeats 3200000 in
theorem apart_calls (p q : Value) (la lb : List RD) (w : World) (hp : PRec w p la) (hq : PRec w q lb) (ha : la.length ≤ 4096) (hb : lb.length ≤ 4096) :
    Calls Try.prog 17 #[p, q] w fun e w' => e = .returned (.int .i64 (apart la lb)) ∧ ∃ n, w' = w.drewN n := by
  obtain ⟨R, HR⟩ : ∃ R, R = apart la lb := ⟨_, rfl⟩
  rw [← HR]
  have HR := Lib.hid HR
  rename_i HR0; clear HR0
  go_enter Try.func17, Try.ntmps17
  go_wp2_with fail
  go_step3
  go_wp2_with fail
  (with_reducible refine (records_any p la _ hp).mono ?_)
  rintro e w1 ⟨a, n1, rfl, hra, rfl⟩
  go_wp2_with fail
  (with_reducible refine (records_any q lb _ (hq.drewN n1)).mono ?_)
  rintro e w2 ⟨b, n2, rfl, hrb, rfl⟩
  go_wp2_with fail
  go_step3
  go_wp2_with fail
  all_goals
    go_loopw [7, 18] (fun m v wr => ∃ (k nq : Nat), m = .int .i64 (-1) ∧ v = .int .i64 (k : Int) ∧ k ≤ la.length ∧ k ≤ lb.length ∧ (∀ i x y, i < k → la[i]? = some x → lb[i]? = some y → sameAt x y = true) ∧ wr = w.drewN nq)
      (fun _ v _ => la.length + lb.length - (intOf v).toNat)
    case atStart => exact ⟨0, _, rfl, rfl, Nat.zero_le _, Nat.zero_le _, fun i x y h => absurd h (by omega), rfl⟩
    case round =>
      obtain ⟨k, nq, rfl, rfl, hka, hkb, hsame, rfl⟩ := hrel
      have HS := Lib.hid hsame
      clear hsame
      by_cases h1 : k < la.length
      · by_cases h2 : k < lb.length
        · obtain ⟨b1, o1, x, rfl, hbl, hget, c0, c1, -, -⟩ := (hra.drewN nq).at_ h1
          obtain ⟨b2, o2, y, rfl, hbl2, hget2, d0, d1, -, -⟩ := (hrb.drewN nq).at_ h2
          simp only [World.cell?_drewN] at c0 c1 d0 d1
          have HX := Lib.hid hget
          have HY := Lib.hid hget2
          clear hget hget2 hra hrb hp hq
          obtain ⟨xa, xw, xv, xt⟩ := x
          obtain ⟨ya, yw, yv, yt⟩ := y
          simp only at c0 c1 d0 d1
          have g1 : decide (la.length ≤ k) = false := by simp; omega
          have g2 : decide (lb.length ≤ k) = false := by simp; omega
          by_cases e1 : xa = ya
          · subst e1
            by_cases e2 : xw = yw
            · subst e2
              go_wp2_with fail
              go_quiet (fail)
              go_wp2
              all_goals
                refine ⟨⟨k + 1, _, rfl, by go_num, by omega, by omega, fun i x y hi hx hy => ?_, rfl⟩, by simp [intOf]; omega⟩
                by_cases hik : i < k
                · exact HS.out i x y hik hx hy
                · obtain rfl : i = k := by omega
                  rw [HX.out] at hx
                  rw [HY.out] at hy
                  cases hx
                  cases hy
                  simp [sameAt]
            · have HSS : Hid (sameAt ⟨xa, xw, xv, xt⟩ ⟨xa, yw, yv, yt⟩ = false) := by
                show sameAt ⟨xa, xw, xv, xt⟩ ⟨xa, yw, yv, yt⟩ = false
                simp [sameAt, e2]
              cases xw <;> cases yw
              · exact absurd rfl e2
              rotate_right
              · exact absurd rfl e2
              all_goals
                clear e2
                go_wp2_with fail
                go_quiet (fail)
                go_wp2
                rw [Exit.noGoto_ret]
                go_returns
                refine ⟨?_, _, (by first | rfl | (simp only [World.drewN_drewN]; rfl))⟩
                rw [HR.out, apart_at la lb k (by omega) (by omega) HS.out (.inl ⟨_, _, HX.out, HY.out, HSS.out⟩)]
                rfl
          · have g3 : (xa != ya) = true := by simpa using e1
            have hs : sameAt ⟨xa, xw, xv, xt⟩ ⟨ya, yw, yv, yt⟩ = false := by simp [sameAt, e1]
            have HSS := Lib.hid hs
            clear e1 hs
            go_wp2_with fail
            go_quiet (fail)
            go_wp2
            rw [Exit.noGoto_ret]
            go_returns
            refine ⟨?_, _, (by first | rfl | (simp only [World.drewN_drewN]; rfl))⟩
            rw [HR.out, apart_at la lb k (by omega) (by omega) HS.out (.inl ⟨_, _, HX.out, HY.out, HSS.out⟩)]
            rfl
        · try (exfalso; omega)
          all_goals
            have hk2 : k = lb.length := by omega
            have g1 : decide (la.length ≤ k) = false := by simp; omega
            have g2 : decide (lb.length ≤ k) = true := by simp; omega
            have HK2 := Lib.hid hk2
            clear hk2 hra hrb hp hq
            go_wp2_with fail
            go_quiet (fail)
            go_wp2
            rw [Exit.noGoto_ret]
            go_returns
            refine ⟨?_, _, (by first | rfl | (simp only [World.drewN_drewN]; rfl))⟩
            rw [HR.out, apart_at la lb k (by omega) (by omega) HS.out (.inr (.inr ⟨h1, HK2.out⟩))]
            rfl
      · by_cases h2 : k < lb.length
        · try (exfalso; omega)
          all_goals
            have hk1 : k = la.length := by omega
            have g1 : decide (la.length ≤ k) = true := by simp; omega
            have HK1 := Lib.hid hk1
            clear hk1 hra hrb hp hq
            go_wp2_with fail
            go_quiet (fail)
            go_wp2
            rw [Exit.noGoto_ret]
            go_returns
            refine ⟨?_, _, (by first | rfl | (simp only [World.drewN_drewN]; rfl))⟩
            rw [HR.out, apart_at la lb k (by omega) (by omega) HS.out (.inr (.inl ⟨HK1.out, h2⟩))]
            rfl
        · clear hra hrb hp hq
          go_wp2
          rw [Exit.noGoto_ret]
          go_returns
          refine ⟨?_, _, (by first | rfl | (simp only [World.drewN_drewN]; rfl))⟩
          rw [HR.out, apart_same la lb k (by omega) (by omega) HS.out]
          rfl
end Go.Proofs.Ytijlmdpcbclmaaa
