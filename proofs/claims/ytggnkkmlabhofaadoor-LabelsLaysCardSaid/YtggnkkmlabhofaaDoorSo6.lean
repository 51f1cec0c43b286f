/- The stable sort: all of it. (printed by gen/so6.py) -/
import Derived.Test.YtggnkkmlabhofaaDoorSo5
namespace Go.Proofs.YtggnkkmlabhofaaDoor
set_option linter.unusedVariables false
set_option linter.unusedSimpArgs false
open Go.RowKit Go.Sort Go.Shelf Go.Lib
attribute [local go_sem ↓] Go.wp_at_zero Go.wp_at_succ

set_option maxHeartbeats 4000000 in
set_option maxRecDepth 100000 in
theorem stable_eq {P : Program} (L : SLP P) {α : Type} [Inhabited α] (k : Nat) (aE : ∀ w, (isAgg 91).run P w = .ok true w) (zE : ∀ w, (Go.sizeOf 91).run P w = .ok k w) (enc : α → List Value) (cf : α → α → Int) (rk : α → Int) (blk off cap : Nat) (g : Nat) (cb : Array Value) (eg : ∀ args w, (callFunc g args).run P w = .ok (.enter g args) w) (d0 : Array α) (w0 : World) (len : Nat) (hcmp : CmpLays P g cb enc k cf blk off len w0) (R : RowK enc k w0 blk off d0) (hs0 : d0.size = len) (hsz : len ≤ 1000) (d : Array α) (w : World) (hs : d.size = len) (S : SWK enc k w0 blk off d w) (hO : Ord cf rk len d) :
    Calls P 93 #[.slice (some ⟨blk, off, none⟩) len cap, .int .i64 len, .func (.func g) #[] cb] w fun e w' => e = .returned (.tuple #[]) ∧ ∃ d', SWK enc k w0 blk off d' w' ∧ PermIn 0 len d d' ∧ Str rk 0 len d' := by
  have mixed := L.mixed; have t0 := L.t0; have a0 := L.a0; have z0 := L.z0; have v0 := L.v0; have u0 := run_underlying L.t0; have t3 := L.t3; have a3 := L.a3; have z3 := L.z3; have v3 := L.v3; have u3 := run_underlying L.t3; have t4 := L.t4; have a4 := L.a4; have z4 := L.z4; have v4 := L.v4; have u4 := run_underlying L.t4; have tS := L.tS; have aS := L.aS; have zS := L.zS; have vS := L.vS; have uS := run_underlying L.tS; have tF := L.tF; have aF := L.aF; have zF := L.zF; have vF := L.vF; have uF := run_underlying L.tF; have tU := L.tU; have aU := L.aU; have zU := L.zU; have vU := L.vU; have uU := run_underlying L.tU
  have FG := L.st; have eit := L.eit; have esm := L.esm
  have INS : Aside _ := fun (a b : Nat) (dk : Array α) (W : World) (hk : dk.size = len) (S : SWK enc k w0 blk off dk W) (q1 : a ≤ b) (q2 : b ≤ len) => insertion_eq L k aE zE enc cf blk off cap g cb eg d0 w0 len hcmp R hs0 hsz a b dk W hk S q1 q2
  have MRG : Aside _ := fun (a m b : Nat) (dk : Array α) (W : World) (hk : dk.size = len) (S : SWK enc k w0 blk off dk W) (h1 : Str rk a m dk) (h2 : Str rk m b dk) (hT : Tells cf rk a m b dk) (q1 : a < m) (q2 : m < b) (q3 : b ≤ len) => symMerge_eq L k aE zE enc cf rk blk off cap g cb eg d0 w0 len hcmp R hs0 hsz (b - a) a m b dk W hk S h1 h2 hT q1 q2 q3 (Nat.le_refl _)
  have HO : Aside (Ord cf rk len d) := hO
  have S0 : Aside (SWK enc k w0 blk off d w) := S
  clear S hO
  go_enter FG, Tryd.ntmps93
  go_wp2_with fail
  go_loopg [7, 8] (len + 1) (fun kx s7 s8 wr => ∃ (a b : Nat) (dk : Array α), s7 = .int .i64 a ∧ s8 = .int .i64 b ∧ a + 20 ≤ b ∧ b ≤ a + 20 ∧ a ≤ len ∧ len - a ≤ kx ∧ Aside (SWK enc k w0 blk off dk wr) ∧ Aside (St1 rk d len 20 a dk ∧ 20 ∣ a))
  case atStart => exact ⟨0, 20, d, rfl, rfl, by omega, by omega, by omega, by omega, S0, (⟨St1.start rk d len 20 hs, ⟨0, rfl⟩⟩ : St1 rk d len 20 0 d ∧ 20 ∣ 0)⟩
  case round =>
    clear S0
    obtain ⟨a, b, dk, rfl, rfl, hab1, hab2, hal, hk, S1, I1⟩ := hrel
    by_cases hlt : b ≤ len
    · have hltz : (b : Int) ≤ (len : Int) := by omega
      obtain ⟨b2, hb2⟩ : ∃ b2, b + 20 = b2 := ⟨_, rfl⟩
      have eb2 : (b : Int) + 20 = (b2 : Int) := by omega
      have rb2 : IntKind.i64.wrap (b2 : Int) = (b2 : Int) := by rw [IntKind.wrap_i64]; omega
      go_wp2_with (go_at_call 97; (with_reducible refine (INS.out a b dk _ I1.out.1.size S1.out (by omega) hlt).mono ?_); rintro e w1 ⟨rfl, S2⟩)
      go_roundg (len - b)
      case measure => omega
      case rel => exact ⟨b, b2, _, rfl, rfl, by omega, by omega, hlt, Nat.le_refl _, S2, (⟨I1.out.1.step HO.out (by decide) I1.out.2 (by omega) (by omega) hlt _ (.inl rfl), by have := I1.out.2; omega⟩ : St1 rk d len 20 b (insertionSort (ltc cf) dk a b) ∧ 20 ∣ b)⟩
    · have hltz : ¬ (b : Int) ≤ (len : Int) := by omega
      go_wp2_with (go_at_call 97; (with_reducible refine (INS.out a len dk _ I1.out.1.size S1.out (by omega) (Nat.le_refl _)).mono ?_); rintro e w1 ⟨rfl, S2⟩; refine Hid.out ?_)
      refine Lib.hid ?_
      have S3 : Aside (SWK enc k w0 blk off (insertionSort (ltc cf) dk a len) w1) := S2
      have I2 : Aside (St2 rk d len 20 0 (insertionSort (ltc cf) dk a len)) := St2.first (I1.out.1.step HO.out (by decide) I1.out.2 hal (by omega) (Nat.le_refl _) (len + 1) (.inr ⟨rfl, by omega⟩)) (by omega)
      clear S1 S2 I1 hltz hlt hab1 hab2 hal hk
      generalize insertionSort (ltc cf) dk a len = dk2 at S3 I2
      go_wp2_with fail
      go_loopg [6] (4 * len + 100) (fun kx s6 wr => ∃ (bs : Nat) (dk : Array α), s6 = .int .i64 bs ∧ 20 ≤ bs ∧ bs ≤ 2 * len + 20 ∧ 4 * len + 100 - bs ≤ kx ∧ Aside (SWK enc k w0 blk off dk wr) ∧ Aside (St2 rk d len bs 0 dk))
      case atStart => exact ⟨20, dk2, rfl, by omega, by omega, by omega, S3, I2⟩
      case round =>
        clear S3 I2
        obtain ⟨bs, dk, rfl, hb20, hbl, hk, S1, I1⟩ := hrel
        by_cases hlt : bs < len
        · have hltz : (bs : Int) < (len : Int) := by omega
          obtain ⟨bb, hbb⟩ : ∃ bb, 2 * bs = bb := ⟨_, rfl⟩
          have ebb : (2 : Int) * (bs : Int) = (bb : Int) := by omega
          have ebb2 : (bs : Int) * 2 = (bb : Int) := by omega
          have bb1 : 2 * bs ≤ bb := by omega
          have bb2 : bb ≤ 2 * bs := by omega
          have rbb : IntKind.i64.wrap (bb : Int) = (bb : Int) := by rw [IntKind.wrap_i64]; omega
          have HBB : Aside (2 * bs = bb) := hbb
          clear hbb
          go_wp2_with fail
          go_loopg [7, 8] (len + 1) (fun kx s7 s8 wr => ∃ (a b : Nat) (dk : Array α), s7 = .int .i64 a ∧ s8 = .int .i64 b ∧ a + bb ≤ b ∧ b ≤ a + bb ∧ a ≤ len ∧ len - a ≤ kx ∧ Aside (SWK enc k w0 blk off dk wr) ∧ Aside (St2 rk d len bs a dk ∧ 2 * bs ∣ a))
          case atStart => exact ⟨0, bb, dk, rfl, rfl, by omega, by omega, by omega, by omega, S1, (⟨I1.out, ⟨0, rfl⟩⟩ : St2 rk d len bs 0 dk ∧ 2 * bs ∣ 0)⟩
          case round =>
            clear S1 I1
            obtain ⟨a, b, dk, rfl, rfl, hab1, hab2, hal, hk, S1, I1⟩ := hrel
            obtain ⟨m, hm⟩ : ∃ m, a + bs = m := ⟨_, rfl⟩
            have em : (a : Int) + (bs : Int) = (m : Int) := by omega
            have m1 : a + bs ≤ m := by omega
            have m2 : m ≤ a + bs := by omega
            have rm : IntKind.i64.wrap (m : Int) = (m : Int) := by rw [IntKind.wrap_i64]; omega
            have HM : Aside (a + bs = m) := hm
            clear hm
            by_cases hlt2 : b ≤ len
            · have hlt2z : (b : Int) ≤ (len : Int) := by omega
              obtain ⟨b2, hb2⟩ : ∃ b2, b + bb = b2 := ⟨_, rfl⟩
              have eb2 : (b : Int) + (bb : Int) = (b2 : Int) := by omega
              have rb2 : IntKind.i64.wrap (b2 : Int) = (b2 : Int) := by rw [IntKind.wrap_i64]; omega
              have hb21 : b + bb ≤ b2 := by omega
              have hb22 : b2 ≤ b + bb := by omega
              have ASK : Aside (Str rk a m dk ∧ Str rk m b dk ∧ Tells cf rk a m b dk) := by
                have := I1.out.1.ask HO.out (by omega) I1.out.2 (b := b) (by omega) hlt2 (by omega)
                rw [HM.out] at this
                exact this
              clear hb2
              go_wp2_with (go_at_call 98; (with_reducible refine (MRG.out a m b dk _ I1.out.1.size S1.out ASK.out.1 ASK.out.2.1 ASK.out.2.2 (by omega) (by omega) hlt2).mono ?_); rintro e w1 ⟨rfl, d2, S2, P2, R2⟩; refine Hid.out ?_)
              refine Lib.hid ?_
              have S3 : Aside (SWK enc k w0 blk off d2 w1) := S2
              have P3 : Aside (St2 rk d len bs b d2 ∧ 2 * bs ∣ b) := ⟨I1.out.1.step (by omega) I1.out.2 (by omega) hlt2 (by omega) P2 R2 b (.inl ⟨rfl, by omega⟩), by rw [show b = a + 2 * bs by omega]; exact Nat.dvd_add I1.out.2 (Nat.dvd_refl _)⟩
              clear S2 P2 R2
              go_wp2_with fail
              go_roundg (len - b)
              case measure => omega
              case rel => exact ⟨b, b2, d2, rfl, rfl, by omega, by omega, hlt2, Nat.le_refl _, S3, P3⟩
            · have hlt2z : ¬ (b : Int) ≤ (len : Int) := by omega
              by_cases hml : m < len
              · have hmz : (m : Int) < (len : Int) := by omega
                have ASK : Aside (Str rk a m dk ∧ Str rk m len dk ∧ Tells cf rk a m len dk) := by
                  have := I1.out.1.ask HO.out (by omega) I1.out.2 (b := len) (by omega) (Nat.le_refl _) (by omega)
                  rw [HM.out] at this
                  exact this
                go_wp2_with (go_at_call 98; (with_reducible refine (MRG.out a m len dk _ I1.out.1.size S1.out ASK.out.1 ASK.out.2.1 ASK.out.2.2 (by omega) hml (Nat.le_refl _)).mono ?_); rintro e w1 ⟨rfl, d2, S2, P2, R2⟩; refine Hid.out ?_)
                refine Lib.hid ?_
                have S3 : Aside (SWK enc k w0 blk off d2 w1) := S2
                have P3 : Aside (St2 rk d len bb 0 d2) := by
                  have := (I1.out.1.step (by omega) I1.out.2 (by omega) (Nat.le_refl _) (by omega) P2 R2 (len + 1) (.inr ⟨rfl, by omega⟩)).next (by omega)
                  rw [HBB.out] at this
                  exact this
                clear S2 P2 R2
                go_wp2_with fail
                go_roundg (4 * len + 100 - bb)
                case measure => omega
                case rel => exact ⟨bb, d2, rfl, by omega, by omega, Nat.le_refl _, S3, P3⟩
              · have hmz : ¬ (m : Int) < (len : Int) := by omega
                have P3 : Aside (St2 rk d len bb 0 dk) := by
                  have := (I1.out.1.last (by omega) I1.out.2 hal (by omega)).next (by omega)
                  rw [HBB.out] at this
                  exact this
                go_wp2_with fail
                go_roundg (4 * len + 100 - bb)
                case measure => omega
                case rel => exact ⟨bb, dk, rfl, by omega, by omega, Nat.le_refl _, S1, P3⟩
        · have hltz : ¬ (bs : Int) < (len : Int) := by omega
          go_wp2_with fail
          go_end0
          have := I1.out.done (by omega)
          exact ⟨rfl, dk, S1.out, this.1, this.2⟩
set_option maxHeartbeats 4000000 in
set_option maxRecDepth 100000 in
theorem stable_none {P : Program} (L : SLP P) (a : Option Addr) (cap : Nat) (fv : Value) (w : World) :
    Calls P 93 #[.slice a 0 cap, .int .i64 0, fv] w fun e w' => e = .returned (.tuple #[]) ∧ w = w' := by
  have mixed := L.mixed; have t0 := L.t0; have a0 := L.a0; have z0 := L.z0; have v0 := L.v0; have u0 := run_underlying L.t0; have t3 := L.t3; have a3 := L.a3; have z3 := L.z3; have v3 := L.v3; have u3 := run_underlying L.t3; have t4 := L.t4; have a4 := L.a4; have z4 := L.z4; have v4 := L.v4; have u4 := run_underlying L.t4; have tS := L.tS; have aS := L.aS; have zS := L.zS; have vS := L.vS; have uS := run_underlying L.tS; have tF := L.tF; have aF := L.aF; have zF := L.zF; have vF := L.vF; have uF := run_underlying L.tF; have tU := L.tU; have aU := L.aU; have zU := L.zU; have vU := L.vU; have uU := run_underlying L.tU
  have FG := L.st; have eit := L.eit; have fit := L.it
  have INS : ∀ W : World, Calls P 97 #[.slice a 0 cap, .int .i64 0, .int .i64 0, fv] W fun e w' => e = .returned (.tuple #[]) ∧ W = w' := by
    intro W
    go_enter fit, Tryd.ntmps97
    go_wp2_with fail
    go_loopg [8] 1 (fun kx s8 wr => s8 = .int .i64 1 ∧ wr = W)
    case atStart => exact ⟨by go_num, rfl⟩
    case round =>
      obtain ⟨rfl, rfl⟩ := hrel
      go_wp2_with fail
      go_end0
      exact ⟨rfl, rfl⟩
  go_enter FG, Tryd.ntmps93
  go_wp2_with fail
  go_loopg [7, 8] 1 (fun kx s7 s8 wr => s7 = .int .i64 0 ∧ s8 = .int .i64 20 ∧ wr = w)
  case atStart => exact ⟨rfl, rfl, rfl⟩
  case round =>
    obtain ⟨rfl, rfl, rfl⟩ := hrel
    go_wp2_with (go_at_call 97; (with_reducible refine (INS _).mono ?_); rintro e w1 ⟨rfl, rfl⟩)
    go_loopg [6] 1 (fun kx s6 w2 => s6 = .int .i64 20 ∧ w2 = wr)
    case atStart => exact ⟨rfl, rfl⟩
    case round =>
      obtain ⟨rfl, rfl⟩ := hrel
      go_wp2_with fail
      go_end0
      exact ⟨rfl, rfl⟩
/-- slices.SortStableFunc of a row: a permutation of it, rising by rank. -/
theorem sortStable_eq {P : Program} (L : SLP P) {α : Type} [Inhabited α] (k : Nat) (aE : ∀ w, (isAgg 91).run P w = .ok true w) (zE : ∀ w, (Go.sizeOf 91).run P w = .ok k w) (enc : α → List Value) (cf : α → α → Int) (rk : α → Int) (blk off cap : Nat) (g : Nat) (cb : Array Value) (eg : ∀ args w, (callFunc g args).run P w = .ok (.enter g args) w) (d0 : Array α) (w0 : World) (len : Nat) (hcmp : CmpLays P g cb enc k cf blk off len w0) (R : RowK enc k w0 blk off d0) (hs0 : d0.size = len) (hsz : len ≤ 1000) (d : Array α) (w : World) (hs : d.size = len) (S : SWK enc k w0 blk off d w) (hO : Ord cf rk len d) :
    Calls P 82 #[.slice (some ⟨blk, off, none⟩) len cap, .func (.func g) #[] cb] w fun e w' => e = .returned (.tuple #[]) ∧ ∃ d', SWK enc k w0 blk off d' w' ∧ PermIn 0 len d d' ∧ Str rk 0 len d' := by
  have mixed := L.mixed; have t0 := L.t0; have a0 := L.a0; have z0 := L.z0; have v0 := L.v0; have u0 := run_underlying L.t0; have t3 := L.t3; have a3 := L.a3; have z3 := L.z3; have v3 := L.v3; have u3 := run_underlying L.t3; have t4 := L.t4; have a4 := L.a4; have z4 := L.z4; have v4 := L.v4; have u4 := run_underlying L.t4; have tS := L.tS; have aS := L.aS; have zS := L.zS; have vS := L.vS; have uS := run_underlying L.tS; have tF := L.tF; have aF := L.aF; have zF := L.zF; have vF := L.vF; have uF := run_underlying L.tF; have tU := L.tU; have aU := L.aU; have zU := L.zU; have vU := L.vU; have uU := run_underlying L.tU
  have FG := L.so; have est := L.est
  have ST := stable_eq L k aE zE enc cf rk blk off cap g cb eg d0 w0 len hcmp R hs0 hsz d w hs S hO
  go_enter FG, Tryd.ntmps82
  go_wp2_with (go_at_call 93; (with_reducible refine ST.mono ?_); rintro e w1 ⟨rfl, d2, S2, P2, R2⟩; refine Hid.out ?_)
  refine Lib.hid ?_
  go_wp2_with fail
  go_end0
  exact ⟨rfl, d2, S2, P2, R2⟩
theorem sortStable_none {P : Program} (L : SLP P) (a : Option Addr) (cap : Nat) (fv : Value) (w : World) :
    Calls P 82 #[.slice a 0 cap, fv] w fun e w' => e = .returned (.tuple #[]) ∧ w = w' := by
  have mixed := L.mixed; have t0 := L.t0; have a0 := L.a0; have z0 := L.z0; have v0 := L.v0; have u0 := run_underlying L.t0; have t3 := L.t3; have a3 := L.a3; have z3 := L.z3; have v3 := L.v3; have u3 := run_underlying L.t3; have t4 := L.t4; have a4 := L.a4; have z4 := L.z4; have v4 := L.v4; have u4 := run_underlying L.t4; have tS := L.tS; have aS := L.aS; have zS := L.zS; have vS := L.vS; have uS := run_underlying L.tS; have tF := L.tF; have aF := L.aF; have zF := L.zF; have vF := L.vF; have uF := run_underlying L.tF; have tU := L.tU; have aU := L.aU; have zU := L.zU; have vU := L.vU; have uU := run_underlying L.tU
  have FG := L.so; have est := L.est
  have ST : Aside _ := fun (W : World) => stable_none L a cap fv W
  go_enter FG, Tryd.ntmps82
  go_wp2_with (go_at_call 93; (with_reducible refine (ST.out _).mono ?_); rintro e w1 ⟨rfl, rfl⟩)
  go_end0
  exact ⟨rfl, rfl⟩
end Go.Proofs.YtggnkkmlabhofaaDoor
