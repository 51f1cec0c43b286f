/- The stable sort: sorting by insertion. (printed by gen/so4.py) -/
import Derived.Test.YtggnkkmlabhofaaDoorSo3
namespace Go.Proofs.YtggnkkmlabhofaaDoor
set_option linter.unusedVariables false
set_option linter.unusedSimpArgs false
open Go.RowKit Go.Sort Go.Shelf Go.Lib
attribute [local go_sem ↓] Go.wp_at_zero Go.wp_at_succ

theorem insInner_go' {α : Type} [Inhabited α] (lt : α → α → Bool) (a j : Nat) (d : Array α) (h1 : a < j + 1) (h2 : lt d[j + 1]! d[j]! = true) : insInner lt a (j + 1) d = insInner lt a j (swp d (j + 1) j) := by
  rw [insInner, if_pos (by simp [h2]; omega)]
theorem insInner_stop' {α : Type} [Inhabited α] (lt : α → α → Bool) (a j : Nat) (d : Array α) (h : j ≤ a ∨ ∃ i, j = i + 1 ∧ lt d[i + 1]! d[i]! = false) : insInner lt a j d = d := by
  cases j with
  | zero => rfl
  | succ i =>
    rw [insInner, if_neg]
    intro hc
    simp only [Bool.and_eq_true, decide_eq_true_eq] at hc
    rcases h with h | ⟨i', e, h⟩
    · omega
    · obtain rfl : i = i' := by omega
      rw [h] at hc
      exact absurd hc.2 (by simp)
theorem insInner_size {α : Type} [Inhabited α] (lt : α → α → Bool) (a : Nat) : ∀ (j : Nat) (d : Array α), (insInner lt a j d).size = d.size
  | 0, _ => rfl
  | j + 1, d => by
    unfold insInner
    split
    · rw [insInner_size lt a j, swp_size]
    · rfl
abbrev ltc {α : Type} (cf : α → α → Int) : α → α → Bool := fun x y => decide (cf x y < 0)
set_option maxHeartbeats 4000000 in
set_option maxRecDepth 100000 in
theorem insertion_eq {P : Program} (L : SLP P) {α : Type} [Inhabited α] (k : Nat) (aE : ∀ w, (isAgg 91).run P w = .ok true w) (zE : ∀ w, (Go.sizeOf 91).run P w = .ok k w) (enc : α → List Value) (cf : α → α → Int) (blk off cap : Nat) (g : Nat) (cb : Array Value) (eg : ∀ args w, (callFunc g args).run P w = .ok (.enter g args) w) (d0 : Array α) (w0 : World) (len : Nat) (hcmp : CmpLays P g cb enc k cf blk off len w0) (R : RowK enc k w0 blk off d0) (hs0 : d0.size = len) (hsz : len ≤ 1000) (a b : Nat) (d : Array α) (w : World) (hs : d.size = len) (S : SWK enc k w0 blk off d w) (hab : a ≤ b) (hb : b ≤ len) :
    Calls P 97 #[.slice (some ⟨blk, off, none⟩) len cap, .int .i64 a, .int .i64 b, .func (.func g) #[] cb] w fun e w' => e = .returned (.tuple #[]) ∧ SWK enc k w0 blk off (insertionSort (ltc cf) d a b) w' := by
  have mixed := L.mixed; have t0 := L.t0; have a0 := L.a0; have z0 := L.z0; have v0 := L.v0; have u0 := run_underlying L.t0; have t3 := L.t3; have a3 := L.a3; have z3 := L.z3; have v3 := L.v3; have u3 := run_underlying L.t3; have t4 := L.t4; have a4 := L.a4; have z4 := L.z4; have v4 := L.v4; have u4 := run_underlying L.t4; have tS := L.tS; have aS := L.aS; have zS := L.zS; have vS := L.vS; have uS := run_underlying L.tS; have tF := L.tF; have aF := L.aF; have zF := L.zF; have vF := L.vF; have uF := run_underlying L.tF; have tU := L.tU; have aU := L.aU; have zU := L.zU; have vU := L.vU; have uU := run_underlying L.tU
  have FG := L.it
  have HC : Aside _ := hcmp
  have S0 : Aside (SWK enc k w0 blk off d w) := S
  clear S
  go_enter FG, Tryd.ntmps97
  go_wp2_with fail
  go_loopg [8] (b - a) (fun kx s8 wr => ∃ (i : Nat) (dk : Array α), s8 = .int .i64 i ∧ a < i ∧ i ≤ b + 1 ∧ b + 1 - i ≤ kx + 1 ∧ dk.size = len ∧ Aside (SWK enc k w0 blk off dk wr) ∧ Aside (insOuter (ltc cf) a b i dk = insOuter (ltc cf) a b (a + 1) d))
  case atStart => exact ⟨a + 1, d, by go_num, by omega, by omega, by omega, hs, S0, (rfl : insOuter (ltc cf) a b (a + 1) d = insOuter (ltc cf) a b (a + 1) d)⟩
  case round =>
    clear S0
    obtain ⟨i, dk, rfl, hai, hib, hg1, hdk, S1, O1⟩ := hrel
    by_cases hlt : i < b
    · have hltz : (i : Int) < (b : Int) := by omega
      go_wp2_with fail
      go_loopg [9] i (fun kx s9 wr2 => ∃ (j : Nat) (dj : Array α), s9 = .int .i64 j ∧ a ≤ j ∧ j ≤ i ∧ j ≤ kx ∧ dj.size = len ∧ Aside (SWK enc k w0 blk off dj wr2) ∧ Aside (insInner (ltc cf) a j dj = insInner (ltc cf) a i dk))
      case atStart => exact ⟨i, dk, rfl, by omega, Nat.le_refl _, Nat.le_refl _, hdk, S1, (rfl : insInner (ltc cf) a i dk = insInner (ltc cf) a i dk)⟩
      case round =>
        clear S1
        obtain ⟨j, dj, rfl, haj, hji, hg2, hdj, S1, I1⟩ := hrel
        have OUT : Aside ((j ≤ a ∨ ∃ q, j = q + 1 ∧ ltc cf dj[q + 1]! dj[q]! = false) → insOuter (ltc cf) a b (i + 1) dj = insOuter (ltc cf) a b (a + 1) d) := fun h => by
          rw [← O1.out, insOuter.eq_1 (ltc cf) a b i dk, if_pos hlt, ← I1.out, insInner_stop' _ _ _ _ h]
        by_cases hja : a < j
        · have hjaz : (a : Int) < (j : Int) := by omega
          obtain ⟨q, hq⟩ : ∃ q, j - 1 = q := ⟨_, rfl⟩
          have eq : (j : Int) - 1 = (q : Int) := by omega
          have q1 : j ≤ q + 1 := by omega
          have q2 : q + 1 ≤ j := by omega
          have ps : (j : Int) < (len : Int) := by omega
          have qs : (q : Int) < (len : Int) := by omega
          have rp : IntKind.i64.wrap (j : Int) = (j : Int) := by rw [IntKind.wrap_i64]; omega
          have rq : IntKind.i64.wrap (q : Int) = (q : Int) := by rw [IntKind.wrap_i64]; omega
          have lx := S1.out.ld R (by omega) P j (by omega)
          have ly := S1.out.ld R (by omega) P q (by omega)
          have hcg := fun n os => S1.out.cmp HC.out hdj dj[j]! dj[q]! n os
          have HB : Aside (∀ v : Bool, decide (cf dj[j]! dj[q]! < 0) = v → ltc cf dj[q + 1]! dj[q]! = v) := fun v h => by rw [show q + 1 = j by omega]; exact h
          have GR := fun (n : Nat) (os : Array Obj) => S1.out.grown n os
          have HGR : Aside _ := GR
          clear GR hq
          by_cases hlv : cf dj[j]! dj[q]! < 0
          · have hlb : decide (cf dj[j]! dj[q]! < 0) = true := decide_eq_true hlv
            have HL : Aside (ltc cf dj[q + 1]! dj[q]! = true) := HB.out true hlb
            go_wp2_with fail
            go_quiet_grown (first | (go_at_fn g; refine Calls.grown_of (hcg _ _)))
            go_wp2_with fail
            have S1' : Aside (SWK enc k w0 blk off dj (grow (wr.drewN nq) osq)) := HGR.out nq osq
            clear lx ly hcg HGR hlv hlb HB
            generalize grow (wr.drewN nq) osq = wv at S1' ⊢
            have S2 : Aside (SWK enc k w0 blk off (swp dj j q) ((wv.drew.setCells blk (off + j * k) (enc dj[q]!)).setCells blk (off + q * k) (enc dj[j]!))) := S1'.out.swapped R j q (by omega) (by omega)
            have l1 := S1'.out.ld1 R (by omega) P j (by omega)
            have l2 := S1'.out.ld1 R (by omega) P q (by omega)
            have s1 := S1'.out.st1 R (by omega) P j (by omega) dj[q]!
            have s2 := S1'.out.st2 R (by omega) P j q (by omega) (by omega) dj[q]! dj[j]!
            have n1 : (enc dj[j]!).length = k := R.hk _
            have n2 : (enc dj[q]!).length = k := R.hk _
            generalize enc dj[j]! = cI at S2 l1 s2 n1
            generalize enc dj[q]! = cJ at S2 l2 s1 s2 n2
            clear S1'
            go_wp2_with fail
            go_big_region_o
            clear l1 l2 s1 s2
            generalize (wv.drew.setCells blk (off + j * k) cJ).setCells blk (off + q * k) cI = w2 at S2 ⊢
            go_wp2_with fail
            go_roundg q
            case measure => omega
            case rel =>
              have hI : insInner (ltc cf) a q (swp dj j q) = insInner (ltc cf) a i dk := by
                rw [← I1.out, show j = q + 1 by omega]
                exact (insInner_go' (ltc cf) a q dj (by omega) HL.out).symm
              exact ⟨q, _, rfl, by omega, by omega, Nat.le_refl _, by rw [size_swp]; exact hdj, S2, hI⟩
          · have hlb : decide (cf dj[j]! dj[q]! < 0) = false := decide_eq_false hlv
            have HL : Aside (ltc cf dj[q + 1]! dj[q]! = false) := HB.out false hlb
            go_wp2_with fail
            go_quiet_grown (first | (go_at_fn g; refine Calls.grown_of (hcg _ _)))
            go_wp2_with fail
            go_roundg (b - (i + 1))
            case measure => omega
            case rel => exact ⟨i + 1, dj, by go_num, by omega, by omega, by omega, hdj, HGR.out nq osq, OUT.out (.inr ⟨q, by omega, HL.out⟩)⟩
        · have hjaz : ¬ (a : Int) < (j : Int) := by omega
          have hjab : decide ((j : Int) > (a : Int)) = false := decide_eq_false (by omega)
          have S1' : Aside (SWK enc k w0 blk off dj wr.drew) := S1.out.drew
          clear S1
          go_wp2_with fail
          go_big_region_o
          all_goals go_wp2_with fail
          go_roundg (b - (i + 1))
          case measure => omega
          case rel => exact ⟨i + 1, dj, by go_num, by omega, by omega, by omega, hdj, S1', OUT.out (.inl (by omega))⟩
    · have hltz : ¬ (i : Int) < (b : Int) := by omega
      go_wp2_with fail
      go_end0
      refine ⟨rfl, ?_⟩
      have h := O1.out
      rw [insOuter.eq_1, if_neg hlt] at h
      unfold insertionSort
      rw [← h]
      exact S1.out
end Go.Proofs.YtggnkkmlabhofaaDoor
