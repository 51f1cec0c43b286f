/- The stable sort: the merge of two sorted parts, whole. (printed by gen/so3.py) -/
import Derived.Test.YtggnkkmlabhofaaDoorSo2
import Derived.Deep.CutRange
namespace Go.Proofs.YtggnkkmlabhofaaDoor
set_option linter.unusedVariables false
set_option linter.unusedSimpArgs false
open Go.RowKit Go.Sort Go.Shelf Go.Lib
attribute [local go_sem ↓] Go.wp_at_zero Go.wp_at_succ

set_option maxHeartbeats 8000000 in
set_option maxRecDepth 100000 in
theorem symCut_eq {P : Program} (L : SLP P) {α : Type} [Inhabited α] (k : Nat) (aE : ∀ w, (isAgg 91).run P w = .ok true w) (zE : ∀ w, (Go.sizeOf 91).run P w = .ok k w) (enc : α → List Value) (cf : α → α → Int) (rk : α → Int) (blk off cap : Nat) (g : Nat) (cb : Array Value) (eg : ∀ args w, (callFunc g args).run P w = .ok (.enter g args) w) (d0 : Array α) (w0 : World) (len : Nat) (hcmp : CmpLays P g cb enc k cf blk off len w0) (R : RowK enc k w0 blk off d0) (hs0 : d0.size = len) (hsz : len ≤ 1000) (N : Nat)
    (IH : ∀ (a m b : Nat) (d : Array α) (w : World) (hs : d.size = len) (S : SWK enc k w0 blk off d w) (h1 : Str rk a m d) (h2 : Str rk m b d) (hT : Tells cf rk a m b d), a < m → m < b → b ≤ len → b - a ≤ N → Calls P 98 #[.slice (some ⟨blk, off, none⟩) len cap, .int .i64 a, .int .i64 m, .int .i64 b, .func (.func g) #[] cb] w fun e w' => e = .returned (.tuple #[]) ∧ ∃ d', SWK enc k w0 blk off d' w' ∧ PermIn a b d d' ∧ Str rk a b d')
    (a m b : Nat) (d : Array α) (w : World) (hs : d.size = len) (S : SWK enc k w0 blk off d w) (h1 : Str rk a m d) (h2 : Str rk m b d) (hT : Tells cf rk a m b d) (ham : a + 1 < m) (hmb : m + 1 < b) (hb : b ≤ len) (hN : b - a ≤ N + 1) :
    Calls P 98 #[.slice (some ⟨blk, off, none⟩) len cap, .int .i64 a, .int .i64 m, .int .i64 b, .func (.func g) #[] cb] w fun e w' => e = .returned (.tuple #[]) ∧ ∃ d', SWK enc k w0 blk off d' w' ∧ PermIn a b d d' ∧ Str rk a b d' := by
  have mixed := L.mixed; have t0 := L.t0; have a0 := L.a0; have z0 := L.z0; have v0 := L.v0; have u0 := run_underlying L.t0; have t3 := L.t3; have a3 := L.a3; have z3 := L.z3; have v3 := L.v3; have u3 := run_underlying L.t3; have t4 := L.t4; have a4 := L.a4; have z4 := L.z4; have v4 := L.v4; have u4 := run_underlying L.t4; have tS := L.tS; have aS := L.aS; have zS := L.zS; have vS := L.vS; have uS := run_underlying L.tS; have tF := L.tF; have aF := L.aF; have zF := L.zF; have vF := L.vF; have uF := run_underlying L.tF; have tU := L.tU; have aU := L.aU; have zU := L.zU; have vU := L.vU; have uU := run_underlying L.tU
  have FG := L.sm; have ero := L.ero; have esm := L.esm
  have HC : Aside _ := hcmp
  have S0 : Aside (SWK enc k w0 blk off d w) := S
  have H1 : Aside (Str rk a m d) := h1
  have H2 : Aside (Str rk m b d) := h2
  have HT : Aside (Tells cf rk a m b d) := hT
  have HIH : Aside _ := IH
  have RT := fun (x y z : Nat) (dk : Array α) (W : World) (hk : dk.size = len) (S : SWK enc k w0 blk off dk W) (q1 : x < y) (q2 : y < z) (q3 : z ≤ len) => rotate_eq L k aE zE enc blk off cap x y z g cb d0 dk w0 W R len hs0 hk S q1 q2 q3 hsz
  have HRT : Aside _ := RT
  clear S h1 h2 hT IH RT
  obtain ⟨ma, hma⟩ : ∃ ma, m - a = ma := ⟨_, rfl⟩
  have ema : (m : Int) - (a : Int) = (ma : Int) := by omega
  have nmb : ((ma : Int) == 1) = false := by simp; omega
  obtain ⟨bm, hbm⟩ : ∃ bm, b - m = bm := ⟨_, rfl⟩
  have ebm : (b : Int) - (m : Int) = (bm : Int) := by omega
  have nbb : ((bm : Int) == 1) = false := by simp; omega
  obtain ⟨mid, hmid⟩ : ∃ mid, (a + b) / 2 = mid := ⟨_, rfl⟩
  have emid : ((a : Int) + (b : Int)) / 2 = (mid : Int) := by omega
  have m1 : 2 * mid ≤ a + b := by omega
  have m2 : a + b ≤ 2 * mid + 1 := by omega
  obtain ⟨n, hn⟩ : ∃ n, mid + m = n := ⟨_, rfl⟩
  have en : (mid : Int) + (m : Int) = (n : Int) := by omega
  have n1 : mid + m ≤ n := by omega
  have n2 : n ≤ mid + m := by omega
  obtain ⟨p, hp⟩ : ∃ p, n - 1 = p := ⟨_, rfl⟩
  have ep : (n : Int) - 1 = (p : Int) := by omega
  have p1 : n ≤ p + 1 := by omega
  have p2 : p + 1 ≤ n := by omega
  clear hmid hn
  go_enter FG, Tryd.ntmps98
  go_upto_if 140 with fail
  go_cut [20, 21] from 138 to 146 (fun s20 s21 wx => ∃ lo hi : Nat, s20 = .int .i64 lo ∧ s21 = .int .i64 hi ∧ lo ≤ hi ∧ a ≤ lo ∧ hi ≤ m ∧ hi ≤ mid ∧ n ≤ lo + b ∧ (lo = a ∨ n - lo = b) ∧ (hi = m ∨ hi = mid) ∧ (hi = m ∨ n - hi = m) ∧ m + hi ≤ n ∧ wx = w)
  case first =>
    by_cases hmm : mid < m
    · have hmz : (mid : Int) < (m : Int) := by omega
      obtain ⟨nb, hnb⟩ : ∃ nb, n - b = nb := ⟨_, rfl⟩
      have enb : (n : Int) - (b : Int) = (nb : Int) := by omega
      have nb1 : n ≤ nb + b := by omega
      have nb2 : nb + b ≤ n := by omega
      clear hnb
      go_wp2_with fail
      go_meet
      case rel => exact ⟨nb, mid, rfl, rfl, by omega, by omega, by omega, Nat.le_refl _, by omega, .inr (by omega), .inr rfl, .inr (by omega), by omega, rfl⟩
    · have hmz : ¬ (mid : Int) < (m : Int) := by omega
      go_wp2_with fail
      go_meet
      case rel => exact ⟨a, m, rfl, rfl, by omega, Nat.le_refl _, Nat.le_refl _, by omega, by omega, .inl rfl, .inl rfl, .inl rfl, by omega, rfl⟩
  case rest =>
  obtain ⟨lo, hi, rfl, rfl, hlh, hal, him, himd, hnl, hlo, hhi, hhi2, hmhi, rfl⟩ := hcut
  go_wp2_with fail
  go_loopg [20, 21] (hi - lo) (fun kx s20 s21 wr => ∃ s r : Nat, s20 = .int .i64 s ∧ s21 = .int .i64 r ∧ lo ≤ s ∧ s ≤ r ∧ r ≤ hi ∧ r - s ≤ kx ∧ Aside (SWK enc k w0 blk off d wr) ∧ Aside ((lo < s → rk d[s - 1]! < rk d[n - s]!) ∧ (r < hi → rk d[p - r]! < rk d[r]!)))
  case atStart => exact ⟨lo, hi, rfl, rfl, Nat.le_refl _, hlh, Nat.le_refl _, Nat.le_refl _, S0, (⟨fun h => by omega, fun h => by omega⟩ : (lo < lo → rk d[lo - 1]! < rk d[n - lo]!) ∧ (hi < hi → rk d[p - hi]! < rk d[hi]!))⟩
  case round =>
    clear S0
    obtain ⟨s, r, rfl, rfl, hls, hsr, hrh, hk, S1, I1⟩ := hrel
    by_cases hlt : s < r
    · have hltz : (s : Int) < (r : Int) := by omega
      obtain ⟨c, hc⟩ : ∃ c, (s + r) / 2 = c := ⟨_, rfl⟩
      have ec : ((s : Int) + (r : Int)) / 2 = (c : Int) := by omega
      have hc1 : s ≤ c := by omega
      have hc2 : c < r := by omega
      obtain ⟨q, hq⟩ : ∃ q, p - c = q := ⟨_, rfl⟩
      have eq : (p : Int) - (c : Int) = (q : Int) := by omega
      have q1 : p ≤ q + c := by omega
      have q2 : q + c ≤ p := by omega
      have hcl : (c : Int) < (len : Int) := by omega
      have hql : (q : Int) < (len : Int) := by omega
      have rc : IntKind.i64.wrap (c : Int) = (c : Int) := by rw [IntKind.wrap_i64]; omega
      have rq : IntKind.i64.wrap (q : Int) = (q : Int) := by rw [IntKind.wrap_i64]; omega
      have lx := S1.out.ld R (by omega) P q (by omega)
      have ly := S1.out.ld R (by omega) P c (by omega)
      have hcg := fun n os => S1.out.cmp HC.out hs d[q]! d[c]! n os
      have TT := HT.out c q (by omega) (by omega) (by omega) (by omega)
      have TA : Aside ((cf d[q]! d[c]! < 0 ↔ rk d[q]! < rk d[c]!) ∧ rk d[q]! ≠ rk d[c]!) := TT
      clear TT hc
      by_cases hlv : cf d[q]! d[c]! < 0
      · go_wp2_with fail
        go_quiet_grown (first | (go_at_fn g; refine Calls.grown_of (hcg _ _)))
        go_wp2_with fail
        go_roundg (c - s)
        case measure => omega
        case rel =>
          have hr : rk d[q]! < rk d[c]! := TA.out.1.1 hlv
          exact ⟨s, c, rfl, rfl, hls, by omega, by omega, Nat.le_refl _, S1.out.grown nq osq, (⟨I1.out.1, fun _ => by rw [hq]; exact hr⟩ : (lo < s → rk d[s - 1]! < rk d[n - s]!) ∧ (c < hi → rk d[p - c]! < rk d[c]!))⟩
      · have hlb : decide (cf d[q]! d[c]! < 0) = false := decide_eq_false hlv
        go_wp2_with fail
        go_quiet_grown (first | (go_at_fn g; refine Calls.grown_of (hcg _ _)))
        go_wp2_with fail
        go_roundg (r - (c + 1))
        case measure => omega
        case rel =>
          have hr : rk d[c]! < rk d[q]! := by have h1 := TA.out.1; have h2 := TA.out.2; omega
          exact ⟨c + 1, r, by go_num, rfl, by omega, by omega, hrh, Nat.le_refl _, S1.out.grown nq osq, (⟨fun _ => by rw [show c + 1 - 1 = c by omega, show n - (c + 1) = q by omega]; exact hr, I1.out.2⟩ : (lo < c + 1 → rk d[c + 1 - 1]! < rk d[n - (c + 1)]!) ∧ (r < hi → rk d[p - r]! < rk d[r]!))⟩
    · obtain rfl : s = r := by omega
      have hltz : ¬ (s : Int) < (s : Int) := by omega
      obtain ⟨e, he⟩ : ∃ e, n - s = e := ⟨_, rfl⟩
      have ee : (n : Int) - (s : Int) = (e : Int) := by omega
      have e1 : n ≤ e + s := by omega
      have e2 : e + s ≤ n := by omega
      have hsm : s ≤ m := by omega
      have hme : m ≤ e := by omega
      have heb : e ≤ b := by omega
      have hsd : s ≤ mid := by omega
      have hde : mid ≤ e := by omega
      have hf : Aside (s < m → m < e → rk d[e - 1]! < rk d[s]!) := fun x y => by
        have h := I1.out.2 (by omega)
        rw [show p - s = e - 1 by omega] at h
        exact h
      have hg : Aside (a < s → e < b → rk d[s - 1]! < rk d[e]!) := fun x y => by
        have h := I1.out.1 (by omega)
        rw [he] at h
        exact h
      have CO : Aside (∀ d1 : Array α, Rot d d1 s m e → Cut cf rk a s mid e b d1) := fun d1 hR => cut_of H1.out H2.out HT.out (by omega) hsm hme heb (by omega) hf.out hg.out hR
      clear I1 hf hg
      go_upto_region 39 with fail
      go_cut [185] from 178 to 185 (fun sl wx => sl = .bool (decide (s < m ∧ m < e)) ∧ wx = wr)
      case first =>
        by_cases c1 : s < m
        · have c1z : (s : Int) < (m : Int) := by omega
          by_cases c2 : m < e
          · have c2z : (m : Int) < (e : Int) := by omega
            have hd : decide (s < m ∧ m < e) = true := decide_eq_true ⟨c1, c2⟩
            go_wp2_with fail
            go_meet
            case rel => exact ⟨by rw [hd], rfl⟩
          · have c2z : ¬ (m : Int) < (e : Int) := by omega
            have hd : decide (s < m ∧ m < e) = false := decide_eq_false (fun h => c2 h.2)
            go_wp2_with fail
            go_meet
            case rel => exact ⟨by rw [hd], rfl⟩
        · have c1z : ¬ (s : Int) < (m : Int) := by omega
          have hd : decide (s < m ∧ m < e) = false := decide_eq_false (fun h => c1 h.1)
          go_wp2_with fail
          go_meet
          case rel => exact ⟨by rw [hd], rfl⟩
      case rest =>
      obtain ⟨rfl, rfl⟩ := hcut
      go_upto_if 185 with fail
      go_cut [] from 185 to 191 (fun wx => ∃ d1 : Array α, d1.size = len ∧ Aside (SWK enc k w0 blk off d1 wx) ∧ Aside (PermIn a b d d1 ∧ Cut cf rk a s mid e b d1))
      case first =>
        by_cases c : s < m ∧ m < e
        · have hd : decide (s < m ∧ m < e) = true := decide_eq_true c
          go_wp2_with (go_at_call 99; (with_reducible refine (HRT.out s m e d _ hs S1.out c.1 c.2 (by omega)).mono ?_); rintro e w1 ⟨rfl, d1, S2, P2, R2⟩; refine Hid.out ?_)
          refine Lib.hid ?_
          have S2' : Aside (SWK enc k w0 blk off d1 w1) := S2
          have P2' : Aside (PermIn a b d d1 ∧ Cut cf rk a s mid e b d1) := ⟨permIn_mono _ _ _ _ _ _ (by omega) (by omega) (by omega) P2, CO.out d1 R2⟩
          have z2 : d1.size = len := by rw [P2.1]; exact hs
          clear S2 P2 R2
          go_wp2_with fail
          go_meet
          case rel => exact ⟨d1, z2, S2', P2'⟩
        · have hd : decide (s < m ∧ m < e) = false := decide_eq_false c
          have hq : s = m ∨ m = e := by omega
          go_wp2_with fail
          go_meet
          case rel => exact ⟨d, hs, S1, (⟨permIn_refl _ _ _, CO.out d (rot_id d hq hsm hme)⟩ : PermIn a b d d ∧ Cut cf rk a s mid e b d)⟩
      case rest =>
      clear S1
      obtain ⟨d1, z1, S1, P1⟩ := hcut
      go_upto_region 41 with fail
      go_cut [199] from 192 to 199 (fun sl wx => sl = .bool (decide (a < s ∧ s < mid)) ∧ wx = wc)
      case first =>
        by_cases c1 : a < s
        · have c1z : (a : Int) < (s : Int) := by omega
          by_cases c2 : s < mid
          · have c2z : (s : Int) < (mid : Int) := by omega
            have hd : decide (a < s ∧ s < mid) = true := decide_eq_true ⟨c1, c2⟩
            go_wp2_with fail
            go_meet
            case rel => exact ⟨by rw [hd], rfl⟩
          · have c2z : ¬ (s : Int) < (mid : Int) := by omega
            have hd : decide (a < s ∧ s < mid) = false := decide_eq_false (fun h => c2 h.2)
            go_wp2_with fail
            go_meet
            case rel => exact ⟨by rw [hd], rfl⟩
        · have c1z : ¬ (a : Int) < (s : Int) := by omega
          have hd : decide (a < s ∧ s < mid) = false := decide_eq_false (fun h => c1 h.1)
          go_wp2_with fail
          go_meet
          case rel => exact ⟨by rw [hd], rfl⟩
      case rest =>
      obtain ⟨rfl, rfl⟩ := hcut
      go_upto_if 199 with fail
      go_cut [] from 199 to 205 (fun wx => ∃ d2 : Array α, d2.size = len ∧ Aside (SWK enc k w0 blk off d2 wx) ∧ Aside (PermIn a mid d1 d2 ∧ Str rk a mid d2))
      case first =>
        by_cases c : a < s ∧ s < mid
        · have hd : decide (a < s ∧ s < mid) = true := decide_eq_true c
          go_wp2_with (go_at_call 98; (with_reducible refine (HIH.out a s mid d1 _ z1 S1.out P1.out.2.s1 P1.out.2.s2 P1.out.2.t1 c.1 c.2 (by omega) (by omega)).mono ?_); rintro e w1 ⟨rfl, d2, S2, P2, R2⟩; refine Hid.out ?_)
          refine Lib.hid ?_
          have S2' : Aside (SWK enc k w0 blk off d2 w1) := S2
          have P2' : Aside (PermIn a mid d1 d2 ∧ Str rk a mid d2) := ⟨P2, R2⟩
          have z2 : d2.size = len := by rw [P2.1]; exact z1
          clear S2 P2 R2
          go_wp2_with fail
          go_meet
          case rel => exact ⟨d2, z2, S2', P2'⟩
        · have hd : decide (a < s ∧ s < mid) = false := decide_eq_false c
          have hS : Str rk a mid d1 := by
            by_cases c1 : a < s
            · exact P1.out.2.s1.mono (Nat.le_refl _) (by omega)
            · exact P1.out.2.s2.mono (by omega) (Nat.le_refl _)
          have HS : Aside (Str rk a mid d1) := hS
          clear hS
          go_wp2_with fail
          go_meet
          case rel => exact ⟨d1, z1, S1, (⟨permIn_refl _ _ _, HS.out⟩ : PermIn a mid d1 d1 ∧ Str rk a mid d1)⟩
      case rest =>
      have S1' : Aside _ := S1.out
      clear S1
      obtain ⟨d2, z2, S2, P2⟩ := hcut
      have X3 : ∀ t, mid ≤ t → t < b → d2[t]! = d1[t]! := fun t x y => P2.out.1.2.1 t (.inr x)
      have HX3 : Aside _ := X3
      clear X3
      go_upto_region 43 with fail
      go_cut [213] from 206 to 213 (fun sl wx => sl = .bool (decide (mid < e ∧ e < b)) ∧ wx = wc)
      case first =>
        by_cases c1 : mid < e
        · have c1z : (mid : Int) < (e : Int) := by omega
          by_cases c2 : e < b
          · have c2z : (e : Int) < (b : Int) := by omega
            have hd : decide (mid < e ∧ e < b) = true := decide_eq_true ⟨c1, c2⟩
            go_wp2_with fail
            go_meet
            case rel => exact ⟨by rw [hd], rfl⟩
          · have c2z : ¬ (e : Int) < (b : Int) := by omega
            have hd : decide (mid < e ∧ e < b) = false := decide_eq_false (fun h => c2 h.2)
            go_wp2_with fail
            go_meet
            case rel => exact ⟨by rw [hd], rfl⟩
        · have c1z : ¬ (mid : Int) < (e : Int) := by omega
          have hd : decide (mid < e ∧ e < b) = false := decide_eq_false (fun h => c1 h.1)
          go_wp2_with fail
          go_meet
          case rel => exact ⟨by rw [hd], rfl⟩
      case rest =>
      obtain ⟨rfl, rfl⟩ := hcut
      by_cases c : mid < e ∧ e < b
      · have hd : decide (mid < e ∧ e < b) = true := decide_eq_true c
        go_wp2_with (go_at_call 98; (with_reducible refine (HIH.out mid e b d2 _ z2 S2.out (P1.out.2.s3.congr fun t x y => HX3.out t x (by omega)) (P1.out.2.s4.congr fun t x y => HX3.out t (by omega) y) (P1.out.2.t2.congr HX3.out) c.1 c.2 hb (by omega)).mono ?_); rintro e w1 ⟨rfl, d3, S3, P3, R3⟩; refine Hid.out ?_)
        refine Lib.hid ?_
        go_wp2_with fail
        go_end0
        exact ⟨rfl, d3, S3, permIn_trans _ _ _ _ _ P1.out.1 (permIn_trans _ _ _ _ _ (permIn_mono _ _ _ _ _ _ (Nat.le_refl _) (by omega) (by omega) P2.out.1) (permIn_mono _ _ _ _ _ _ (by omega) (Nat.le_refl _) (by omega) P3)), cut_glue P1.out.2 (by omega) (by omega) (by omega) P2.out.1 P2.out.2 P3 R3⟩
      · have hd : decide (mid < e ∧ e < b) = false := decide_eq_false c
        have hS : Str rk mid b d2 := by
          by_cases c1 : mid < e
          · exact (P1.out.2.s3.mono (Nat.le_refl _) (by omega)).congr HX3.out
          · exact (P1.out.2.s4.mono (by omega) (Nat.le_refl _)).congr HX3.out
        have HS : Aside (Str rk mid b d2) := hS
        clear hS
        go_wp2_with fail
        go_end0
        exact ⟨rfl, d2, S2.out, permIn_trans _ _ _ _ _ P1.out.1 (permIn_mono _ _ _ _ _ _ (Nat.le_refl _) (by omega) (by omega) P2.out.1), cut_glue P1.out.2 (by omega) (by omega) (by omega) P2.out.1 P2.out.2 (permIn_refl _ _ _) HS.out⟩
theorem symMerge_eq {P : Program} (L : SLP P) {α : Type} [Inhabited α] (k : Nat) (aE : ∀ w, (isAgg 91).run P w = .ok true w) (zE : ∀ w, (Go.sizeOf 91).run P w = .ok k w) (enc : α → List Value) (cf : α → α → Int) (rk : α → Int) (blk off cap : Nat) (g : Nat) (cb : Array Value) (eg : ∀ args w, (callFunc g args).run P w = .ok (.enter g args) w) (d0 : Array α) (w0 : World) (len : Nat) (hcmp : CmpLays P g cb enc k cf blk off len w0) (R : RowK enc k w0 blk off d0) (hs0 : d0.size = len) (hsz : len ≤ 1000) : ∀ (N : Nat) (a m b : Nat) (d : Array α) (w : World) (hs : d.size = len) (S : SWK enc k w0 blk off d w) (h1 : Str rk a m d) (h2 : Str rk m b d) (hT : Tells cf rk a m b d), a < m → m < b → b ≤ len → b - a ≤ N → Calls P 98 #[.slice (some ⟨blk, off, none⟩) len cap, .int .i64 a, .int .i64 m, .int .i64 b, .func (.func g) #[] cb] w fun e w' => e = .returned (.tuple #[]) ∧ ∃ d', SWK enc k w0 blk off d' w' ∧ PermIn a b d d' ∧ Str rk a b d' := by
  intro N
  induction N with
  | zero => intro a m b d w hs S h1 h2 hT q1 q2 q3 q4; omega
  | succ N ih =>
    intro a m b d w hs S h1 h2 hT q1 q2 q3 q4
    by_cases c1 : m = a + 1
    · exact symOne_eq L k aE zE enc cf rk blk off cap g cb eg d0 w0 len hcmp R hs0 hsz a m b d w hs S h1 h2 hT (by omega) (by omega) q2 q3
    by_cases c2 : b = m + 1
    · exact symLast_eq L k aE zE enc cf rk blk off cap g cb eg d0 w0 len hcmp R hs0 hsz a m b d w hs S h1 h2 hT (by omega) (by omega) (by omega) q3
    exact symCut_eq L k aE zE enc cf rk blk off cap g cb eg d0 w0 len hcmp R hs0 hsz N ih a m b d w hs S h1 h2 hT (by omega) (by omega) q3 (by omega)
end Go.Proofs.YtggnkkmlabhofaaDoor
