/- The stable sort: what a program must bear; exchanges of two ranges; rotation. (printed by gen/so.py) -/
import Derived.Test.YtggnkkmlabhofaaDoorSo0
import Derived.Test.YtggnkkmlabhofaaDoorEl
import Derived.Test.YtggnkkmlabhofaaDoorQuiet
import Derived.Shelf.SlSortCmp.KitK
import Derived.Deep.LoopGhost
import Derived.BigRegion
import Derived.BigQuiet
import Derived.Shelf.RegionOpenPlain
namespace Go.Proofs.YtggnkkmlabhofaaDoor
set_option linter.unusedVariables false
set_option linter.unusedSimpArgs false
open Go.RowKit Go.Sort Go.Shelf Go.Lib
attribute [local go_sem ↓] Go.wp_at_zero Go.wp_at_succ

/-- What a program must bear for the stable sort of a slice of spans. -/
structure SLP (P : Program) : Prop where
  mixed : P.follows .mixedOrders = true
  t0 : P.underlying 0 = some (.tuple #[])
  a0 : ∀ w, (isAgg 0).run P w = .ok false w
  z0 : ∀ w, (Go.sizeOf 0).run P w = .ok 1 w
  v0 : ∀ w, (zeroValue 0).run P w = .ok (.tuple #[]) w
  t3 : P.underlying 3 = some (.int .i64)
  a3 : ∀ w, (isAgg 3).run P w = .ok false w
  z3 : ∀ w, (Go.sizeOf 3).run P w = .ok 1 w
  v3 : ∀ w, (zeroValue 3).run P w = .ok (.int .i64 0) w
  t4 : P.underlying 4 = some (.bool)
  a4 : ∀ w, (isAgg 4).run P w = .ok false w
  z4 : ∀ w, (Go.sizeOf 4).run P w = .ok 1 w
  v4 : ∀ w, (zeroValue 4).run P w = .ok (.bool false) w
  tS : P.underlying 42 = some (.slice 91)
  aS : ∀ w, (isAgg 42).run P w = .ok false w
  zS : ∀ w, (Go.sizeOf 42).run P w = .ok 1 w
  vS : ∀ w, (zeroValue 42).run P w = .ok (.slice none 0 0) w
  tF : P.underlying 137 = some (.func #[91, 91] #[3] false)
  aF : ∀ w, (isAgg 137).run P w = .ok false w
  zF : ∀ w, (Go.sizeOf 137).run P w = .ok 1 w
  vF : ∀ w, (zeroValue 137).run P w = .ok (.nilFunc) w
  tU : P.underlying 143 = some (.int .u64)
  aU : ∀ w, (isAgg 143).run P w = .ok false w
  zU : ∀ w, (Go.sizeOf 143).run P w = .ok 1 w
  vU : ∀ w, (zeroValue 143).run P w = .ok (.int .u64 0) w
  sw : P.funcs[100]? = some Tryd.f100
  esw : ∀ args w, (callFunc 100 args).run P w = .ok (.enter 100 args) w
  ro : P.funcs[99]? = some Tryd.f99
  ero : ∀ args w, (callFunc 99 args).run P w = .ok (.enter 99 args) w
  sm : P.funcs[98]? = some Tryd.f98
  esm : ∀ args w, (callFunc 98 args).run P w = .ok (.enter 98 args) w
  st : P.funcs[93]? = some Tryd.f93
  est : ∀ args w, (callFunc 93 args).run P w = .ok (.enter 93 args) w
  so : P.funcs[82]? = some Tryd.f82
  eso : ∀ args w, (callFunc 82 args).run P w = .ok (.enter 82 args) w
  it : P.funcs[97]? = some Tryd.f97
  eit : ∀ args w, (callFunc 97 args).run P w = .ok (.enter 97 args) w
set_option maxHeartbeats 4000000 in
set_option maxRecDepth 100000 in
theorem swapRange_eq {P : Program} (L : SLP P) {α : Type} [Inhabited α] (k : Nat) (aE : ∀ w, (isAgg 91).run P w = .ok true w) (zE : ∀ w, (Go.sizeOf 91).run P w = .ok k w) (enc : α → List Value) (blk off cap a b n : Nat) (g : Nat) (cb : Array Value) (d0 d : Array α) (w0 w : World) (R : RowK enc k w0 blk off d0) (len : Nat) (hs0 : d0.size = len) (hs : d.size = len) (S : SWK enc k w0 blk off d w) (h1 : a + n ≤ b) (h2 : b + n ≤ len) (hsz : len ≤ 1000) :
    Calls P 100 #[.slice (some ⟨blk, off, none⟩) len cap, .int .i64 a, .int .i64 b, .int .i64 n, .func (.func g) #[] cb] w fun e w' => e = .returned (.tuple #[]) ∧ SWK enc k w0 blk off (swr a b n d) w' := by
  have mixed := L.mixed; have t0 := L.t0; have a0 := L.a0; have z0 := L.z0; have v0 := L.v0; have u0 := run_underlying L.t0; have t3 := L.t3; have a3 := L.a3; have z3 := L.z3; have v3 := L.v3; have u3 := run_underlying L.t3; have t4 := L.t4; have a4 := L.a4; have z4 := L.z4; have v4 := L.v4; have u4 := run_underlying L.t4; have tS := L.tS; have aS := L.aS; have zS := L.zS; have vS := L.vS; have uS := run_underlying L.tS; have tF := L.tF; have aF := L.aF; have zF := L.zF; have vF := L.vF; have uF := run_underlying L.tF; have tU := L.tU; have aU := L.aU; have zU := L.zU; have vU := L.vU; have uU := run_underlying L.tU
  have FG := L.sw
  have S0 : Aside (SWK enc k w0 blk off d w) := S
  clear S
  go_enter FG, Tryd.ntmps100
  go_wp2
  go_loopg [10] n (fun kx s10 wr => ∃ i : Nat, s10 = .int .i64 i ∧ i ≤ n ∧ n - i ≤ kx ∧ Aside (SWK enc k w0 blk off (swr a b i d) wr))
  case atStart => exact ⟨0, rfl, by omega, by omega, S0⟩
  case round =>
    clear S0
    obtain ⟨i, rfl, hin, hk, S1⟩ := hrel
    by_cases hlt : i < n
    · have hltz : (i : Int) < (n : Int) := by omega
      obtain ⟨p, hp⟩ : ∃ p, p = a + i := ⟨_, rfl⟩
      obtain ⟨q, hq⟩ : ∃ q, q = b + i := ⟨_, rfl⟩
      have ep : (a : Int) + (i : Int) = (p : Int) := by omega
      have eq : (b : Int) + (i : Int) = (q : Int) := by omega
      have hp0 : (0 : Int) ≤ (p : Int) := by omega
      have hq0 : (0 : Int) ≤ (q : Int) := by omega
      have hps : (p : Int) < (len : Int) := by omega
      have hqs : (q : Int) < (len : Int) := by omega
      have rp : IntKind.i64.wrap (p : Int) = (p : Int) := by rw [IntKind.wrap_i64]; omega
      have rq : IntKind.i64.wrap (q : Int) = (q : Int) := by rw [IntKind.wrap_i64]; omega
      have sz := swr_size a b i d
      obtain ⟨dk, hdk⟩ : ∃ dk, dk = swr a b i d := ⟨_, rfl⟩
      have HDK : Aside (swr a b (i + 1) d = swp dk p q) := by show _ = _; rw [hdk, hp, hq]; rfl
      rw [← hdk] at S1 sz
      clear hdk
      have S2 : Aside (SWK enc k w0 blk off (swp dk p q) ((wr.drew.setCells blk (off + p * k) (enc dk[q]!)).setCells blk (off + q * k) (enc dk[p]!))) := S1.out.swapped R p q (by omega) (by omega)
      have l1 := S1.out.ld1 R (by omega) P p (by omega)
      have l2 := S1.out.ld1 R (by omega) P q (by omega)
      have s1 := S1.out.st1 R (by omega) P p (by omega) dk[q]!
      have s2 := S1.out.st2 R (by omega) P p q (by omega) (by omega) dk[q]! dk[p]!
      have n1 : (enc dk[p]!).length = k := R.hk _
      have n2 : (enc dk[q]!).length = k := R.hk _
      generalize enc dk[p]! = cI at S2 l1 s2 n1
      generalize enc dk[q]! = cJ at S2 l2 s1 s2 n2
      clear S1 hp hq
      go_wp2_with fail
      go_big_region_o
      clear l1 l2 s1 s2
      generalize (wr.drew.setCells blk (off + p * k) cJ).setCells blk (off + q * k) cI = w2 at S2 ⊢
      go_wp2
      go_roundg (n - (i + 1))
      case measure => omega
      case rel => exact ⟨i + 1, by go_num, by omega, Nat.le_refl _, HDK.out ▸ S2⟩
    · have hltz : ¬ (i : Int) < (n : Int) := by omega
      obtain rfl : i = n := by omega
      go_wp2
      go_end0
      exact ⟨rfl, S1.out⟩
set_option maxHeartbeats 4000000 in
set_option maxRecDepth 100000 in
theorem rotate_eq {P : Program} (L : SLP P) {α : Type} [Inhabited α] (k : Nat) (aE : ∀ w, (isAgg 91).run P w = .ok true w) (zE : ∀ w, (Go.sizeOf 91).run P w = .ok k w) (enc : α → List Value) (blk off cap a m b : Nat) (g : Nat) (cb : Array Value) (d0 d : Array α) (w0 w : World) (R : RowK enc k w0 blk off d0) (len : Nat) (hs0 : d0.size = len) (hs : d.size = len) (S : SWK enc k w0 blk off d w) (h1 : a < m) (h2 : m < b) (h3 : b ≤ len) (hsz : len ≤ 1000) :
    Calls P 99 #[.slice (some ⟨blk, off, none⟩) len cap, .int .i64 a, .int .i64 m, .int .i64 b, .func (.func g) #[] cb] w fun e w' => e = .returned (.tuple #[]) ∧ ∃ d', SWK enc k w0 blk off d' w' ∧ PermIn a b d d' ∧ Rot d d' a m b := by
  have mixed := L.mixed; have t0 := L.t0; have a0 := L.a0; have z0 := L.z0; have v0 := L.v0; have u0 := run_underlying L.t0; have t3 := L.t3; have a3 := L.a3; have z3 := L.z3; have v3 := L.v3; have u3 := run_underlying L.t3; have t4 := L.t4; have a4 := L.a4; have z4 := L.z4; have v4 := L.v4; have u4 := run_underlying L.t4; have tS := L.tS; have aS := L.aS; have zS := L.zS; have vS := L.vS; have uS := run_underlying L.tS; have tF := L.tF; have aF := L.aF; have zF := L.zF; have vF := L.vF; have uF := run_underlying L.tF; have tU := L.tU; have aU := L.aU; have zU := L.zU; have vU := L.vU; have uU := run_underlying L.tU
  have FG := L.ro; have esw := L.esw
  have SWR := fun (x y n : Nat) (dk : Array α) (W : World) (hk : dk.size = len) (S : SWK enc k w0 blk off dk W) (q1 : x + n ≤ y) (q2 : y + n ≤ len) => swapRange_eq L k aE zE enc blk off cap x y n g cb d0 dk w0 W R len hs0 hk S q1 q2 hsz
  have S0 : Aside (SWK enc k w0 blk off d w) := S
  clear S
  obtain ⟨i0, hi0⟩ : ∃ i0, m - a = i0 := ⟨_, rfl⟩
  obtain ⟨j0, hj0⟩ : ∃ j0, b - m = j0 := ⟨_, rfl⟩
  have ei0 : (m : Int) - (a : Int) = (i0 : Int) := by omega
  have ej0 : (b : Int) - (m : Int) = (j0 : Int) := by omega
  go_enter FG, Tryd.ntmps99
  go_wp2_with fail
  go_loopg [10, 11] (i0 + j0) (fun kx s10 s11 wr => ∃ (i j : Nat) (dk : Array α), s10 = .int .i64 i ∧ s11 = .int .i64 j ∧ 0 < i ∧ 0 < j ∧ i ≤ i0 ∧ j ≤ j0 ∧ i + j ≤ kx ∧ dk.size = len ∧ Aside (SWK enc k w0 blk off dk wr) ∧ Aside (PermIn a b d dk) ∧ Aside (∀ e : Array α, Rot dk e (m - i) m (m + j) → Rot d e a m b))
  case atStart => exact ⟨i0, j0, d, rfl, rfl, by omega, by omega, Nat.le_refl _, Nat.le_refl _, Nat.le_refl _, hs, S0, permIn_refl _ _ _, (fun e h => by rw [show m - i0 = a by omega, show m + j0 = b by omega] at h; exact h : ∀ e : Array α, Rot d e (m - i0) m (m + j0) → Rot d e a m b)⟩
  case round =>
    clear S0
    obtain ⟨i, j, dk, rfl, rfl, hi, hj, hii, hjj, hk, hdk, S1, P1, G1⟩ := hrel
    obtain ⟨p, hp⟩ : ∃ p, m - i = p := ⟨_, rfl⟩
    have ep : (m : Int) - (i : Int) = (p : Int) := by omega
    have rp : IntKind.i64.wrap (p : Int) = (p : Int) := by rw [IntKind.wrap_i64]; omega
    by_cases hne : i = j
    · subst hne
      have hneI : ¬ (i : Int) ≠ (i : Int) := by simp
      go_wp2_with (go_at_call 100; (with_reducible refine (SWR p m i dk _ hdk S1.out (by omega) (by omega)).mono ?_); rintro e w1 ⟨rfl, S2⟩; refine Hid.out ?_)
      refine Lib.hid ?_
      go_wp2_with fail
      go_end0
      refine ⟨rfl, _, S2, ?_, ?_⟩
      · exact permIn_trans _ _ _ _ _ P1.out (swr_perm a b p m i dk (by omega) (by omega) (by omega) (by omega))
      · refine G1.out _ ?_
        rw [← hp]
        exact rot_eq (by omega) (by omega)
    · have hneI : (i : Int) ≠ (j : Int) := by omega
      by_cases hgt : j < i
      · have hgtI : (j : Int) < (i : Int) := by omega
        obtain ⟨i2, hi2⟩ : ∃ i2, i - j = i2 := ⟨_, rfl⟩
        have ei2 : (i : Int) - (j : Int) = (i2 : Int) := by omega
        have ri2 : IntKind.i64.wrap (i2 : Int) = (i2 : Int) := by rw [IntKind.wrap_i64]; omega
        go_wp2_with (go_at_call 100; (with_reducible refine (SWR p m j dk _ hdk S1.out (by omega) (by omega)).mono ?_); rintro e w1 ⟨rfl, S2⟩)
        go_roundg (i2 + j)
        case measure => omega
        case rel => exact ⟨i2, j, _, rfl, rfl, by omega, hj, by omega, hjj, Nat.le_refl _, by rw [swr_size]; exact hdk, S2, permIn_trans _ _ _ _ _ P1.out (swr_perm a b p m j dk (by omega) (by omega) (by omega) (by omega)),
            (fun e h => G1.out e (by rw [← hi2, ← hp] at h; exact rot_gt (by omega) hj hgt (by omega) h) : ∀ e : Array α, Rot (swr p m j dk) e (m - i2) m (m + j) → Rot d e a m b)⟩
      · have hgtI : ¬ (j : Int) < (i : Int) := by omega
        obtain ⟨mj, hmj⟩ : ∃ mj, m + j = mj := ⟨_, rfl⟩
        have emj : (m : Int) + (j : Int) = (mj : Int) := by omega
        have rmj : IntKind.i64.wrap (mj : Int) = (mj : Int) := by rw [IntKind.wrap_i64]; omega
        obtain ⟨q, hq⟩ : ∃ q, mj - i = q := ⟨_, rfl⟩
        have eq : (mj : Int) - (i : Int) = (q : Int) := by omega
        have rq : IntKind.i64.wrap (q : Int) = (q : Int) := by rw [IntKind.wrap_i64]; omega
        obtain ⟨j2, hj2⟩ : ∃ j2, j - i = j2 := ⟨_, rfl⟩
        have ej2 : (j : Int) - (i : Int) = (j2 : Int) := by omega
        have rj2 : IntKind.i64.wrap (j2 : Int) = (j2 : Int) := by rw [IntKind.wrap_i64]; omega
        go_wp2_with (go_at_call 100; (with_reducible refine (SWR p q i dk _ hdk S1.out (by omega) (by omega)).mono ?_); rintro e w1 ⟨rfl, S2⟩)
        go_roundg (i + j2)
        case measure => omega
        case rel => exact ⟨i, j2, _, rfl, rfl, hi, by omega, hii, by omega, Nat.le_refl _, by rw [swr_size]; exact hdk, S2, permIn_trans _ _ _ _ _ P1.out (swr_perm a b p q i dk (by omega) (by omega) (by omega) (by omega)),
            (fun e h => G1.out e (by rw [← hj2, ← hq, ← hmj, ← hp] at h; exact rot_lt (by omega) hi (by omega) (by omega) h) : ∀ e : Array α, Rot (swr p q i dk) e (m - i) m (m + j2) → Rot d e a m b)⟩
end Go.Proofs.YtggnkkmlabhofaaDoor
