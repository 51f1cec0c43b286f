/- The stable sort: the merge of two sorted parts. (printed by gen/so2.py) -/
import Derived.Test.YtggnkkmlabhofaaDoorSo1
import Derived.Deep.DeepCutAuto
namespace Go.Proofs.YtggnkkmlabhofaaDoor
set_option linter.unusedVariables false
set_option linter.unusedSimpArgs false
open Go.RowKit Go.Sort Go.Shelf Go.Lib
attribute [local go_sem ↓] Go.wp_at_zero Go.wp_at_succ

set_option maxHeartbeats 4000000 in
set_option maxRecDepth 100000 in
theorem symOne_eq {P : Program} (L : SLP P) {α : Type} [Inhabited α] (k : Nat) (aE : ∀ w, (isAgg 91).run P w = .ok true w) (zE : ∀ w, (Go.sizeOf 91).run P w = .ok k w) (enc : α → List Value) (cf : α → α → Int) (rk : α → Int) (blk off cap : Nat) (g : Nat) (cb : Array Value) (eg : ∀ args w, (callFunc g args).run P w = .ok (.enter g args) w) (d0 : Array α) (w0 : World) (len : Nat) (hcmp : CmpLays P g cb enc k cf blk off len w0) (R : RowK enc k w0 blk off d0) (hs0 : d0.size = len) (hsz : len ≤ 1000) (a m b : Nat) (d : Array α) (w : World) (hs : d.size = len) (S : SWK enc k w0 blk off d w) (h1 : Str rk a m d) (h2 : Str rk m b d) (hT : Tells cf rk a m b d) (hm1 : a + 1 ≤ m) (hm2 : m ≤ a + 1) (hmb : m < b) (hb : b ≤ len) :
    Calls P 98 #[.slice (some ⟨blk, off, none⟩) len cap, .int .i64 a, .int .i64 m, .int .i64 b, .func (.func g) #[] cb] w fun e w' => e = .returned (.tuple #[]) ∧ ∃ d', SWK enc k w0 blk off d' w' ∧ PermIn a b d d' ∧ Str rk a b d' := by
  have mixed := L.mixed; have t0 := L.t0; have a0 := L.a0; have z0 := L.z0; have v0 := L.v0; have u0 := run_underlying L.t0; have t3 := L.t3; have a3 := L.a3; have z3 := L.z3; have v3 := L.v3; have u3 := run_underlying L.t3; have t4 := L.t4; have a4 := L.a4; have z4 := L.z4; have v4 := L.v4; have u4 := run_underlying L.t4; have tS := L.tS; have aS := L.aS; have zS := L.zS; have vS := L.vS; have uS := run_underlying L.tS; have tF := L.tF; have aF := L.aF; have zF := L.zF; have vF := L.vF; have uF := run_underlying L.tF; have tU := L.tU; have aU := L.aU; have zU := L.zU; have vU := L.vU; have uU := run_underlying L.tU
  have FG := L.sm
  have HC : Aside _ := hcmp
  have S0 : Aside (SWK enc k w0 blk off d w) := S
  have H2 : Aside (Str rk m b d) := h2
  have HT : Aside (Tells cf rk a m b d) := hT
  clear S h1 h2 hT
  have em : (m : Int) - (a : Int) = 1 := by omega
  have em' : m - a = 1 := by omega
  go_enter FG, Tryd.ntmps98
  go_wp2_with fail
  go_loopg [10, 11] (b - m) (fun kx s10 s11 wr => ∃ i j : Nat, s10 = .int .i64 i ∧ s11 = .int .i64 j ∧ m ≤ i ∧ i ≤ j ∧ j ≤ b ∧ j - i ≤ kx ∧ Aside (SWK enc k w0 blk off d wr) ∧ Aside ((∀ t, m ≤ t → t < i → rk d[t]! < rk d[a]!) ∧ (∀ t, j ≤ t → t < b → rk d[a]! < rk d[t]!)))
  case atStart => exact ⟨m, b, rfl, rfl, Nat.le_refl _, by omega, Nat.le_refl _, Nat.le_refl _, S0, (⟨fun t x y => by omega, fun t x y => by omega⟩ : (∀ t, m ≤ t → t < m → rk d[t]! < rk d[a]!) ∧ (∀ t, b ≤ t → t < b → rk d[a]! < rk d[t]!))⟩
  case round =>
    clear S0
    obtain ⟨i, j, rfl, rfl, hmi, hij, hjb, hk, S1, I1⟩ := hrel
    by_cases hlt : i < j
    · have hltz : (i : Int) < (j : Int) := by omega
      obtain ⟨h, hh⟩ : ∃ h, (i + j) / 2 = h := ⟨_, rfl⟩
      have eh : ((i : Int) + (j : Int)) / 2 = (h : Int) := by omega
      have hl : (h : Int) < (len : Int) := by omega
      have al : (a : Int) < (len : Int) := by omega
      have rh : IntKind.i64.wrap (h : Int) = (h : Int) := by rw [IntKind.wrap_i64]; omega
      have ra : IntKind.i64.wrap (a : Int) = (a : Int) := by rw [IntKind.wrap_i64]; omega
      have lx := S1.out.ld R (by omega) P h (by omega)
      have ly := S1.out.ld R (by omega) P a (by omega)
      have hcg := fun n os => S1.out.cmp HC.out hs d[h]! d[a]! n os
      have TT := HT.out a h (Nat.le_refl _) (by omega) (by omega) (by omega)
      have TA : Aside ((cf d[h]! d[a]! < 0 ↔ rk d[h]! < rk d[a]!) ∧ rk d[h]! ≠ rk d[a]!) := TT
      clear TT
      have hh1 : i ≤ h := by omega
      have hh2 : h < j := by omega
      clear hh
      by_cases hlv : cf d[h]! d[a]! < 0
      · go_wp2_with fail
        go_quiet_grown (first | (go_at_fn g; refine Calls.grown_of (hcg _ _)))
        go_wp2_with fail
        go_roundg (j - (h + 1))
        case measure => omega
        case rel =>
          have hr : rk d[h]! < rk d[a]! := TA.out.1.1 hlv
          exact ⟨h + 1, j, by go_num, rfl, by omega, by omega, hjb, Nat.le_refl _, S1.out.grown nq osq, (⟨fun t x y => (show rk d[t]! < rk d[a]! from by
            by_cases c : t = h
            · rw [c]; exact hr
            · have := H2.out t h x (by omega) (by omega); omega), I1.out.2⟩ : (∀ t, m ≤ t → t < h + 1 → rk d[t]! < rk d[a]!) ∧ (∀ t, j ≤ t → t < b → rk d[a]! < rk d[t]!))⟩
      · go_wp2_with fail
        go_quiet_grown (first | (go_at_fn g; refine Calls.grown_of (hcg _ _)))
        go_wp2_with fail
        go_roundg (h - i)
        case measure => omega
        case rel =>
          have hr : rk d[a]! < rk d[h]! := by have h1 := TA.out.1; have h2 := TA.out.2; omega
          exact ⟨i, h, rfl, rfl, hmi, by omega, by omega, Nat.le_refl _, S1.out.grown nq osq, (⟨I1.out.1, fun t x y => (show rk d[a]! < rk d[t]! from by
            by_cases c : t = h
            · rw [c]; exact hr
            · have := H2.out h t (by omega) (by omega) y; omega)⟩ : (∀ t, m ≤ t → t < i → rk d[t]! < rk d[a]!) ∧ (∀ t, h ≤ t → t < b → rk d[a]! < rk d[t]!))⟩
    · obtain rfl : i = j := by omega
      have hltz : ¬ (i : Int) < (i : Int) := by omega
      obtain ⟨i1, hi1⟩ : ∃ i1, i - 1 = i1 := ⟨_, rfl⟩
      have ei1 : (i : Int) - 1 = (i1 : Int) := by omega
      go_wp2_with fail
      go_loopg [13] (i1 - a) (fun kx s13 wr => ∃ (kk : Nat) (dk : Array α), s13 = .int .i64 kk ∧ a ≤ kk ∧ kk ≤ i1 ∧ i1 - kk ≤ kx ∧ dk.size = len ∧ Aside (SWK enc k w0 blk off dk wr) ∧ Aside (PermIn a b d dk ∧ ∀ t, dk[t]! = d[up a kk t]!))
      case atStart => exact ⟨a, d, rfl, Nat.le_refl _, by omega, Nat.le_refl _, hs, S1, (⟨permIn_refl _ _ _, fun t => by congr 1; unfold up; (repeat' split) <;> omega⟩ : PermIn a b d d ∧ ∀ t, d[t]! = d[up a a t]!)⟩
      case round =>
        clear S1
        obtain ⟨kk, dk, rfl, hak, hki, hk2, hdk, S1, I2⟩ := hrel
        by_cases hlt2 : kk < i1
        · have hlt2z : (kk : Int) < (i1 : Int) := by omega
          obtain ⟨q, hq⟩ : ∃ q, kk + 1 = q := ⟨_, rfl⟩
          have eq : (kk : Int) + 1 = (q : Int) := by omega
          have ps : (kk : Int) < (len : Int) := by omega
          have qs : (q : Int) < (len : Int) := by omega
          have rp : IntKind.i64.wrap (kk : Int) = (kk : Int) := by rw [IntKind.wrap_i64]; omega
          have rq : IntKind.i64.wrap (q : Int) = (q : Int) := by rw [IntKind.wrap_i64]; omega
          have S2 : Aside (SWK enc k w0 blk off (swp dk kk q) ((wr.drew.setCells blk (off + kk * k) (enc dk[q]!)).setCells blk (off + q * k) (enc dk[kk]!))) := S1.out.swapped R kk q (by omega) (by omega)
          have l1 := S1.out.ld1 R (by omega) P kk (by omega)
          have l2 := S1.out.ld1 R (by omega) P q (by omega)
          have s1 := S1.out.st1 R (by omega) P kk (by omega) dk[q]!
          have s2 := S1.out.st2 R (by omega) P kk q (by omega) (by omega) dk[q]! dk[kk]!
          have n1 : (enc dk[kk]!).length = k := R.hk _
          have n2 : (enc dk[q]!).length = k := R.hk _
          generalize enc dk[kk]! = cI at S2 l1 s2 n1
          generalize enc dk[q]! = cJ at S2 l2 s1 s2 n2
          clear S1
          go_wp2_with fail
          go_big_region_o
          clear l1 l2 s1 s2
          generalize (wr.drew.setCells blk (off + kk * k) cJ).setCells blk (off + q * k) cI = w2 at S2 ⊢
          go_wp2_with fail
          go_roundg (i1 - q)
          case measure => omega
          case rel => exact ⟨q, _, rfl, by omega, by omega, Nat.le_refl _, by rw [size_swp]; exact hdk, S2, (⟨permIn_trans _ _ _ _ _ I2.out.1 (swp_permIn _ _ _ _ _ hak (by omega) (by omega) (by omega) (by omega)), by rw [← hq]; exact up_step hak (by omega) I2.out.2⟩ : PermIn a b d (swp dk kk q) ∧ ∀ t, (swp dk kk q)[t]! = d[up a q t]!)⟩
        · have hlt2z : ¬ (kk : Int) < (i1 : Int) := by omega
          obtain rfl : kk = i1 := by omega
          go_wp2_with fail
          refine bodyPost_ret (results_none rfl _ _ _) rfl ?_
          exact ⟨rfl, dk, S1.out, I2.out.1, up_str (i := i) (by rw [show a + 1 = m by omega]; exact H2.out) (by omega) (by omega) (fun t x y => I1.out.1 t (by omega) y) (fun t x y => I1.out.2 t x y) (by rw [hi1]; exact I2.out.2)⟩
set_option maxHeartbeats 4000000 in
set_option maxRecDepth 100000 in
theorem symLast_eq {P : Program} (L : SLP P) {α : Type} [Inhabited α] (k : Nat) (aE : ∀ w, (isAgg 91).run P w = .ok true w) (zE : ∀ w, (Go.sizeOf 91).run P w = .ok k w) (enc : α → List Value) (cf : α → α → Int) (rk : α → Int) (blk off cap : Nat) (g : Nat) (cb : Array Value) (eg : ∀ args w, (callFunc g args).run P w = .ok (.enter g args) w) (d0 : Array α) (w0 : World) (len : Nat) (hcmp : CmpLays P g cb enc k cf blk off len w0) (R : RowK enc k w0 blk off d0) (hs0 : d0.size = len) (hsz : len ≤ 1000) (a m b : Nat) (d : Array α) (w : World) (hs : d.size = len) (S : SWK enc k w0 blk off d w) (h1 : Str rk a m d) (h2 : Str rk m b d) (hT : Tells cf rk a m b d) (ham : a + 1 < m) (hb1 : m + 1 ≤ b) (hb2 : b ≤ m + 1) (hb : b ≤ len) :
    Calls P 98 #[.slice (some ⟨blk, off, none⟩) len cap, .int .i64 a, .int .i64 m, .int .i64 b, .func (.func g) #[] cb] w fun e w' => e = .returned (.tuple #[]) ∧ ∃ d', SWK enc k w0 blk off d' w' ∧ PermIn a b d d' ∧ Str rk a b d' := by
  have mixed := L.mixed; have t0 := L.t0; have a0 := L.a0; have z0 := L.z0; have v0 := L.v0; have u0 := run_underlying L.t0; have t3 := L.t3; have a3 := L.a3; have z3 := L.z3; have v3 := L.v3; have u3 := run_underlying L.t3; have t4 := L.t4; have a4 := L.a4; have z4 := L.z4; have v4 := L.v4; have u4 := run_underlying L.t4; have tS := L.tS; have aS := L.aS; have zS := L.zS; have vS := L.vS; have uS := run_underlying L.tS; have tF := L.tF; have aF := L.aF; have zF := L.zF; have vF := L.vF; have uF := run_underlying L.tF; have tU := L.tU; have aU := L.aU; have zU := L.zU; have vU := L.vU; have uU := run_underlying L.tU
  have FG := L.sm
  have HC : Aside _ := hcmp
  have S0 : Aside (SWK enc k w0 blk off d w) := S
  have H1 : Aside (Str rk a m d) := h1
  have HT : Aside (Tells cf rk a m b d) := hT
  clear S h1 h2 hT
  obtain ⟨ma, hma⟩ : ∃ ma, m - a = ma := ⟨_, rfl⟩
  have ema : (m : Int) - (a : Int) = (ma : Int) := by omega
  have nma : ¬ (ma : Int) = 1 := by omega
  have nmb : ((ma : Int) == 1) = false := by simp; omega
  have em : (b : Int) - (m : Int) = 1 := by omega
  have em' : b - m = 1 := by omega
  go_enter FG, Tryd.ntmps98
  go_wp2_with fail
  go_loopg [14, 15] (m - a) (fun kx s10 s11 wr => ∃ i j : Nat, s10 = .int .i64 i ∧ s11 = .int .i64 j ∧ a ≤ i ∧ i ≤ j ∧ j ≤ m ∧ j - i ≤ kx ∧ Aside (SWK enc k w0 blk off d wr) ∧ Aside ((∀ t, a ≤ t → t < i → rk d[t]! < rk d[m]!) ∧ (∀ t, j ≤ t → t < m → rk d[m]! < rk d[t]!)))
  case atStart => exact ⟨a, m, rfl, rfl, Nat.le_refl _, by omega, Nat.le_refl _, by omega, S0, (⟨fun t x y => by omega, fun t x y => by omega⟩ : (∀ t, a ≤ t → t < a → rk d[t]! < rk d[m]!) ∧ (∀ t, m ≤ t → t < m → rk d[m]! < rk d[t]!))⟩
  case round =>
    clear S0
    obtain ⟨i, j, rfl, rfl, hmi, hij, hjb, hk, S1, I1⟩ := hrel
    by_cases hlt : i < j
    · have hltz : (i : Int) < (j : Int) := by omega
      obtain ⟨h, hh⟩ : ∃ h, (i + j) / 2 = h := ⟨_, rfl⟩
      have eh : ((i : Int) + (j : Int)) / 2 = (h : Int) := by omega
      have hl : (h : Int) < (len : Int) := by omega
      have al : (m : Int) < (len : Int) := by omega
      have rh : IntKind.i64.wrap (h : Int) = (h : Int) := by rw [IntKind.wrap_i64]; omega
      have ra : IntKind.i64.wrap (m : Int) = (m : Int) := by rw [IntKind.wrap_i64]; omega
      have lx := S1.out.ld R (by omega) P m (by omega)
      have ly := S1.out.ld R (by omega) P h (by omega)
      have hcg := fun n os => S1.out.cmp HC.out hs d[m]! d[h]! n os
      have TT := HT.out h m (by omega) (by omega) (by omega) (by omega)
      have TA : Aside ((cf d[m]! d[h]! < 0 ↔ rk d[m]! < rk d[h]!) ∧ rk d[m]! ≠ rk d[h]!) := TT
      clear TT
      have hh1 : i ≤ h := by omega
      have hh2 : h < j := by omega
      clear hh
      by_cases hlv : cf d[m]! d[h]! < 0
      · go_wp2_with fail
        go_quiet_grown (first | (go_at_fn g; refine Calls.grown_of (hcg _ _)))
        go_wp2_with fail
        go_roundg (h - i)
        case measure => omega
        case rel =>
          have hr : rk d[m]! < rk d[h]! := TA.out.1.1 hlv
          exact ⟨i, h, rfl, rfl, hmi, by omega, by omega, Nat.le_refl _, S1.out.grown nq osq, (⟨I1.out.1, fun t x y => (show rk d[m]! < rk d[t]! from by
            by_cases c : t = h
            · rw [c]; exact hr
            · have := H1.out h t (by omega) (by omega) y; omega)⟩ : (∀ t, a ≤ t → t < i → rk d[t]! < rk d[m]!) ∧ (∀ t, h ≤ t → t < m → rk d[m]! < rk d[t]!))⟩
      · have hlb : decide (cf d[m]! d[h]! < 0) = false := decide_eq_false hlv
        go_wp2_with fail
        go_quiet_grown (first | (go_at_fn g; refine Calls.grown_of (hcg _ _)))
        go_wp2_with fail
        go_roundg (j - (h + 1))
        case measure => omega
        case rel =>
          have hr : rk d[h]! < rk d[m]! := by have h1 := TA.out.1; have h2 := TA.out.2; omega
          exact ⟨h + 1, j, by go_num, rfl, by omega, by omega, hjb, Nat.le_refl _, S1.out.grown nq osq, (⟨fun t x y => (show rk d[t]! < rk d[m]! from by
            by_cases c : t = h
            · rw [c]; exact hr
            · have := H1.out t h x (by omega) (by omega); omega), I1.out.2⟩ : (∀ t, a ≤ t → t < h + 1 → rk d[t]! < rk d[m]!) ∧ (∀ t, j ≤ t → t < m → rk d[m]! < rk d[t]!))⟩
    · obtain rfl : i = j := by omega
      have hltz : ¬ (i : Int) < (i : Int) := by omega
      go_wp2_with fail
      go_loopg [17] (m - i) (fun kx s13 wr => ∃ (kk : Nat) (dk : Array α), s13 = .int .i64 kk ∧ i ≤ kk ∧ kk ≤ m ∧ kk - i ≤ kx ∧ dk.size = len ∧ Aside (SWK enc k w0 blk off dk wr) ∧ Aside (PermIn a b d dk ∧ ∀ t, dk[t]! = d[dn kk m t]!))
      case atStart => exact ⟨m, d, rfl, by omega, Nat.le_refl _, Nat.le_refl _, hs, S1, (⟨permIn_refl _ _ _, fun t => by congr 1; unfold dn; (repeat' split) <;> omega⟩ : PermIn a b d d ∧ ∀ t, d[t]! = d[dn m m t]!)⟩
      case round =>
        clear S1
        obtain ⟨kk, dk, rfl, hak, hki, hk2, hdk, S1, I2⟩ := hrel
        by_cases hlt2 : i < kk
        · have hlt2z : (i : Int) < (kk : Int) := by omega
          obtain ⟨q, hq⟩ : ∃ q, kk - 1 = q := ⟨_, rfl⟩
          have eq : (kk : Int) - 1 = (q : Int) := by omega
          have ps : (kk : Int) < (len : Int) := by omega
          have qs : (q : Int) < (len : Int) := by omega
          have rp : IntKind.i64.wrap (kk : Int) = (kk : Int) := by rw [IntKind.wrap_i64]; omega
          have rq : IntKind.i64.wrap (q : Int) = (q : Int) := by rw [IntKind.wrap_i64]; omega
          have S2 : Aside (SWK enc k w0 blk off (swp dk kk q) ((wr.drew.setCells blk (off + kk * k) (enc dk[q]!)).setCells blk (off + q * k) (enc dk[kk]!))) := S1.out.swapped R kk q (by omega) (by omega)
          have l1 := S1.out.ld1 R (by omega) P kk (by omega)
          have l2 := S1.out.ld1 R (by omega) P q (by omega)
          have s1 := S1.out.st1 R (by omega) P kk (by omega) dk[q]!
          have s2 := S1.out.st2 R (by omega) P kk q (by omega) (by omega) dk[q]! dk[kk]!
          have n1 : (enc dk[kk]!).length = k := R.hk _
          have n2 : (enc dk[q]!).length = k := R.hk _
          generalize enc dk[kk]! = cI at S2 l1 s2 n1
          generalize enc dk[q]! = cJ at S2 l2 s1 s2 n2
          clear S1
          go_wp2_with fail
          go_big_region_o
          clear l1 l2 s1 s2
          generalize (wr.drew.setCells blk (off + kk * k) cJ).setCells blk (off + q * k) cI = w2 at S2 ⊢
          go_wp2_with fail
          go_roundg (q - i)
          case measure => omega
          case rel => exact ⟨q, _, rfl, by omega, by omega, Nat.le_refl _, by rw [size_swp]; exact hdk, S2, (⟨permIn_trans _ _ _ _ _ I2.out.1 (swp_permIn _ _ _ _ _ (by omega) (by omega) (by omega) (by omega) (by omega)), by rw [← hq]; exact dn_step (by omega) hki (by omega) I2.out.2⟩ : PermIn a b d (swp dk kk q) ∧ ∀ t, (swp dk kk q)[t]! = d[dn q m t]!)⟩
        · have hlt2z : ¬ (i : Int) < (kk : Int) := by omega
          obtain rfl : kk = i := by omega
          go_wp2_with fail
          refine bodyPost_ret (results_none rfl _ _ _) rfl ?_
          exact ⟨rfl, dk, S1.out, I2.out.1, by rw [show b = m + 1 by omega]; exact dn_str H1.out hmi hki I1.out.1 I1.out.2 I2.out.2⟩
end Go.Proofs.YtggnkkmlabhofaaDoor
