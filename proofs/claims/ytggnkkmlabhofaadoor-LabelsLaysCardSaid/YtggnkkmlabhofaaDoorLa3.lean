/- Policies: what is wrong with one. (printed by gen/la3.py) -/
import Derived.Test.YtggnkkmlabhofaaDoorLa2
namespace Go.Proofs.YtggnkkmlabhofaaDoor
set_option linter.unusedVariables false
set_option linter.unusedSimpArgs false
open Go.RowKit Go.Sort Go.Shelf Go.Lib
attribute [local go_sem ↓] Go.wp_at_zero Go.wp_at_succ

def chkL (other : List Sp) (rom : Bool) : List Sp → List Sp → Int
  | _, [] => 0
  | own, x :: r => if liesB x rom = false ∨ x.b = 0 then 10 else if addE own other x = 0 then chkL other rom (own ++ [x]) r else addE own other x
def chkN (d t : Int) : Int := if d < 0 ∨ 1000 < d ∨ t < 1 ∨ 4096 < t then 10 else 0
def chk (s m : List Sp) (d t : Int) : Int := if chkL [] true [] s = 0 then (if chkL s false [] m = 0 then chkN d t else chkL s false [] m) else chkL [] true [] s
theorem chkL_len (other : List Sp) (rom : Bool) : ∀ (r own : List Sp), other.length + own.length ≤ 64 → chkL other rom own r = 0 → other.length + own.length + r.length ≤ 64
  | [], own, h, _ => by simpa using h
  | x :: r, own, h, hc => by
    unfold chkL at hc
    split at hc
    · cases hc
    · split at hc
      · rename_i ha
        have hl : own.length + other.length ≠ 64 := by
          intro e
          unfold addE at ha
          rw [if_pos e] at ha
          cases ha
        have := chkL_len other rom r (own ++ [x]) (by simp; omega) hc
        simp only [List.length_append, List.length_cons, List.length_nil] at this ⊢
        omega
      · rename_i ha
        exact absurd hc ha
/-- What stays while spans are taken. -/
structure CK (w : World) (hp hs : Nat) (sv mv : Value) (dc tr : Int) (V : World) : Prop where
  bel : Below w.heap.size w V
  pb : Blk V hp 44 #[sv, mv, .int .i64 dc, .int .i64 tr]
  sb : Blk V hs 42 #[sv, mv]
theorem CK.call {w V V' : World} {hp hs : Nat} {sv mv : Value} {dc tr : Int} (h : CK w hp hs sv mv dc tr V) (hb : Below V.heap.size V V') : CK w hp hs sv mv dc tr V' := ⟨Q.call h.bel hb, h.pb.call hb, h.sb.call hb⟩
theorem CK.chg {w V V' : World} {hp hs : Nat} {sv mv : Value} {dc tr : Int} {S : Nat → Prop} (h : CK w hp hs sv mv dc tr V) (hc : Chg S V V') (h1 : ¬ S hp) (h2 : ¬ S hs) (h3 : ∀ b, S b → w.heap.size ≤ b) : CK w hp hs sv mv dc tr V' :=
  ⟨hc.below h.bel h.bel.size h3, h.pb.chg hc h1, h.sb.chg hc h2⟩
set_option maxHeartbeats 8000000 in
set_option maxRecDepth 100000 in
theorem check_eq (w : World) (R : Nat → Prop) (sv mv : Value) (s m : List Sp) (dc tr : Int) (hs : Rd ES w R sv s) (hm : Rd ES w R mv m) (ls : s.length ≤ 1000) (lm : m.length ≤ 1000) :
    Calls Tryd.prog 29 #[.agg #[sv, mv, .int .i64 dc, .int .i64 tr]] w fun e w' => e = .returned (.int .i64 (chk s m dc tr)) ∧ Below w.heap.size w w' := by
  obtain ⟨C, hC⟩ : ∃ C, C = chk s m dc tr := ⟨_, rfl⟩
  rw [← hC]
  have HC := Lib.hid hC
  have HS := Lib.hid hs
  have HM := Lib.hid hm
  obtain ⟨sa, sc, rfl, _, _, _⟩ := hs
  obtain ⟨ma, mc, rfl, _, _, _⟩ := hm
  clear hC
  obtain ⟨W0, hW0⟩ : ∃ W0, W0 = ((w.alloc (.cells #[.slice sa s.length sc, .slice ma m.length mc, .int .i64 dc, .int .i64 tr] 44)).alloc (.cells #[.slice none 0 0, .slice none 0 0] 99)).alloc (.cells #[.slice sa s.length sc, .slice ma m.length mc] 42) := ⟨_, rfl⟩
  obtain ⟨hp, hhp⟩ : ∃ hp, hp = w.heap.size := ⟨_, rfl⟩
  obtain ⟨g, hg⟩ : ∃ g, g = w.heap.size + 1 := ⟨_, rfl⟩
  obtain ⟨hq, hhq⟩ : ∃ hq, hq = w.heap.size + 2 := ⟨_, rfl⟩
  obtain ⟨B, hB⟩ : ∃ B, B = w.heap.size + 3 := ⟨_, rfl⟩
  have z0 : W0.heap.size = B := by rw [hW0, hB]; simp
  have K0 : Aside (CK w hp hq (.slice sa s.length sc) (.slice ma m.length mc) dc tr W0) := by
    rw [hW0]
    refine ⟨Q.alloc (Q.alloc (Q.alloc (Below.refl _ _) _) _) _, ?_, Blk.new' (by rw [hhq]; simp)⟩
    exact Blk.alloc (Blk.alloc (Blk.new' hhp) _) _
  have T0 : Aside (Tk W0 B g (.slice none 0 0) (.slice none 0 0) [] []) := by
    rw [hW0]
    exact ⟨Blk.alloc (Blk.new' (by rw [hg]; simp)) _, World.ownsRow_nil _ _ _ _, World.ownsRow_nil _ _ _ _, fun b h => by simp [Value.ownBlock] at h⟩
  have ghp : hp ≠ g := by omega
  have ghq : hq ≠ g := by omega
  have hpB : hp < B := by omega
  have hqB : hq < B := by omega
  have hgB : g < B := by omega
  have hwp : w.heap.size ≤ hp := by omega
  have hwg : w.heap.size ≤ g := by omega
  have HSET : Aside (∀ V V' : World, CK w hp hq (.slice sa s.length sc) (.slice ma m.length mc) dc tr V → Chg (fun b => b = g ∨ B ≤ b) V V' → CK w hp hq (.slice sa s.length sc) (.slice ma m.length mc) dc tr V') := fun V V' h hc => h.chg hc (by omega) (by omega) (by omega)
  go_enter Tryd.func29, Tryd.ntmps29
  go_wp2_with fail
  refine wp_scope_straight ?_
  go_wp2_with fail
  go_step3
  go_wp2_with fail
  rw [← hW0]
  rw [show w.heap.size + 1 + 1 = hq by omega, ← hg, ← hhp]
  clear hW0 hhp hg hhq hB
  go_loopg [4, 18] 2 (fun kx s4 s18 wr => Aside (CK w hp hq (.slice sa s.length sc) (.slice ma m.length mc) dc tr wr) ∧ B ≤ wr.heap.size ∧
    ((s4 = .bool true ∧ s18 = .int .i64 0 ∧ 2 ≤ kx ∧ Aside (Tk wr B g (.slice none 0 0) (.slice none 0 0) [] [])) ∨
     (s4 = .bool false ∧ s18 = .int .i64 1 ∧ 1 ≤ kx ∧ Aside (chkL [] true [] s = 0) ∧ ∃ o2, Aside (Tk wr B g (.slice none 0 0) o2 [] s))))
  case atStart => exact ⟨K0, by omega, .inl ⟨rfl, rfl, Nat.le_refl _, T0⟩⟩
  case round =>
    clear K0 T0 z0
    obtain ⟨K0, z0, hrel⟩ := hrel
    rcases hrel with ⟨rfl, rfl, hk0, T0⟩ | ⟨rfl, rfl, hk0, HP, o2, T0⟩
    · skip
      have c0 : wr.cell? ⟨hp, 0, none⟩ = some (.slice sa s.length sc) := K0.out.pb.cell 0
      have c1 : wr.cell? ⟨hp, 1, none⟩ = some (.slice ma m.length mc) := K0.out.pb.cell 1
      have d0 : wr.cell? ⟨hq, 0, none⟩ = some (.slice sa s.length sc) := K0.out.sb.cell 0
      have d1 : wr.cell? ⟨hq, 1, none⟩ = some (.slice ma m.length mc) := K0.out.sb.cell 1
      have zg0 : g < wr.heap.size := by omega
      go_wp2_with fail
      go_loopg [24] s.length (fun kx s24 wr => ∃ (i : Nat) (o1 : Value), s24 = .int .i64 i ∧ i ≤ s.length ∧ s.length - i ≤ kx ∧ B ≤ wr.heap.size ∧ Aside (CK w hp hq (.slice sa s.length sc) (.slice ma m.length mc) dc tr wr) ∧ Aside (Tk wr B g o1 (.slice none 0 0) (s.take i) []) ∧ Aside (chkL [] true [] s = chkL [] true (s.take i) (s.drop i) ∧ ([] : List Sp).length + (s.take i).length ≤ 64))
      case atStart => exact ⟨0, .slice none 0 0, rfl, Nat.zero_le _, Nat.le_refl _, z0, K0, T0, (⟨by rw [List.take_zero, List.drop_zero], by simp ⟩ : chkL [] true [] s = chkL [] true (s.take 0) (s.drop 0) ∧ ([] : List Sp).length + (s.take 0).length ≤ 64)⟩
      case round =>
        clear T0 K0 z0 zg0 c0 c1 d0 d1
        obtain ⟨i, o1, rfl, hil, hk, zr, K1, T1, I1⟩ := hrel
        have zg : g < wr.heap.size := by omega
        by_cases hlt : i < s.length
        · have hltz : (i : Int) < (s.length : Int) := by omega
          obtain ⟨b0, off, ha, hb0, -, hcell⟩ := (HS.out.below K1.out.bel).cells hlt
          subst ha
          obtain ⟨y, hy⟩ : ∃ y, s[i]? = some y := ⟨s[i], List.getElem?_eq_getElem hlt⟩
          have c0 : wr.cell? ⟨b0, off + i * 3, none⟩ = some (.int .i64 y.f) := hcell i y hy 0 _ rfl
          have c1 : wr.cell? ⟨b0, off + i * 3 + 1, none⟩ = some (.int .i64 y.t) := hcell i y hy 1 _ rfl
          have c2 : wr.cell? ⟨b0, off + i * 3 + 2, none⟩ = some (.int .u8 y.b) := hcell i y hy 2 _ rfl
          have htk : s.take (i + 1) = s.take i ++ [y] := by rw [List.take_add_one, hy]; rfl
          have hd : s.drop i = y :: s.drop (i + 1) := by
            rw [List.drop_eq_getElem_cons hlt]
            rw [List.getElem?_eq_getElem hlt] at hy
            rw [Option.some.inj hy]
          have HD0 : Aside (chkL [] true [] s = if liesB y true = false ∨ y.b = 0 then 10 else if addE (s.take i) [] y = 0 then chkL [] true (s.take (i + 1)) (s.drop (i + 1)) else addE (s.take i) [] y) := by
            show _ = _
            rw [I1.out.1, hd, htk]; rfl
          have HLE : Aside (([] : List Sp).length + (s.take i).length ≤ 64) := I1.out.2
          clear hy hcell hd I1
          have HTK : Aside (s.take (i + 1) = s.take i ++ [y]) := htk
          clear htk
          have hyw : wr.heap.size < (wr.alloc (.cells #[.int .i64 y.f, .int .i64 y.t, .int .u8 y.b] 91)).heap.size := by simp
          have HCX : Aside (∀ c : Int, c ≠ 0 → chkL [] true [] s = c → C = c) := fun c h0 h => by rw [HC.out]; unfold chk; rw [if_neg (by rw [h]; exact h0)]; exact h
          have LI := fun V => lies_eq V y.f y.t y.b true (liesB y true) rfl
          cases hlb : liesB y true with
          | false =>
            rw [hlb] at LI
            have HD : Aside (chkL [] true [] s = 10) := by show _ = _; rw [HD0.out, if_pos (.inl hlb)]
            clear HD0 hlb HLE HTK
            go_wp2_with (go_at_call 52; (with_reducible refine (LI _).mono ?_); rintro e w1 ⟨rfl, hb1⟩; obtain ⟨hc1, hf1, hz1⟩ := bcell hb1; have z1 : wr.heap.size < w1.heap.size := (by simp only [World.size_alloc] at hz1; omega))
            (try simp only [Exit.noGoto_ret])
            go_ret
            exact ⟨by rw [HCX.out 10 (by decide) HD.out]; rfl, Q.call K1.out.bel (by repeat' (first | with_reducible exact Below.refl _ _ | with_reducible assumption | with_reducible refine Q.alloc ?_ _ | with_reducible refine Q.drew ?_ | with_reducible refine Q.drewN ?_ _ | with_reducible refine Q.call ?_ (by assumption)))⟩
          | true =>
            rw [hlb] at LI
            by_cases hyb : y.b = 0
            · have HD : Aside (chkL [] true [] s = 10) := by show _ = _; rw [HD0.out, if_pos (.inr hyb)]
              have hybB : (y.b == 0) = true := by simp [hyb]
              clear hyb
              clear HD0 hlb HLE HTK
              go_wp2_with (go_at_call 52; (with_reducible refine (LI _).mono ?_); rintro e w1 ⟨rfl, hb1⟩; obtain ⟨hc1, hf1, hz1⟩ := bcell hb1; have z1 : wr.heap.size < w1.heap.size := (by simp only [World.size_alloc] at hz1; omega))
              (try simp only [Exit.noGoto_ret])
              go_ret
              exact ⟨by rw [HCX.out 10 (by decide) HD.out]; rfl, Q.call K1.out.bel (by repeat' (first | with_reducible exact Below.refl _ _ | with_reducible assumption | with_reducible refine Q.alloc ?_ _ | with_reducible refine Q.drew ?_ | with_reducible refine Q.drewN ?_ _ | with_reducible refine Q.call ?_ (by assumption)))⟩
            · have HD1 : Aside (chkL [] true [] s = if addE (s.take i) [] y = 0 then chkL [] true (s.take (i + 1)) (s.drop (i + 1)) else addE (s.take i) [] y) := by show _ = _; rw [HD0.out, if_neg (by rw [hlb]; simp [hyb])]
              have hybB : (y.b == 0) = false := by simp [hyb]
              clear HD0 hlb
              by_cases hl : (s.take i).length + ([] : List Sp).length = 64
              · have HD : Aside (chkL [] true [] s = 18) := by
                  have : addE (s.take i) [] y = 18 := by unfold addE; rw [if_pos (by simpa using hl)]
                  show _ = _; rw [HD1.out, this]; rfl
                have AA := fun V (h : Tk V B g o1 (.slice none 0 0) (s.take i) []) => add_full V B g o1 (.slice none 0 0) (s.take i) [] y h (by simpa using hl)
                clear HD1 HLE HTK hl
                go_wp2_with (first | (go_at_call 52; (with_reducible refine (LI _).mono ?_); rintro e w1 ⟨rfl, hb1⟩; obtain ⟨hc1, hf1, hz1⟩ := bcell hb1; have z1 : wr.heap.size < w1.heap.size := (by simp only [World.size_alloc] at hz1; omega)) | (go_at_call 53; (with_reducible refine (AA _ (T1.out.call (by repeat' (first | with_reducible exact Below.refl _ _ | with_reducible assumption | with_reducible refine Q.alloc ?_ _ | with_reducible refine Q.drew ?_ | with_reducible refine Q.drewN ?_ _ | with_reducible refine Q.call ?_ (by assumption))))).mono ?_); rintro e w2 ⟨rfl, hb2⟩))
                (try simp only [Exit.noGoto_ret])
                go_ret
                exact ⟨by rw [HCX.out 18 (by decide) HD.out]; rfl, Q.call K1.out.bel (by repeat' (first | with_reducible exact Below.refl _ _ | with_reducible assumption | with_reducible refine Q.alloc ?_ _ | with_reducible refine Q.drew ?_ | with_reducible refine Q.drewN ?_ _ | with_reducible refine Q.call ?_ (by assumption)))⟩
              · have hl' : (s.take i).length + ([] : List Sp).length < 64 := by have := HLE.out; (try simp only [List.length_nil] at *); omega
                cases ha1 : (s.take i).any (meetB y) with
                | true =>
                  have HD : Aside (chkL [] true [] s = 16) := by
                    have : addE (s.take i) [] y = 16 := by unfold addE; rw [if_neg (by omega), if_pos ha1]
                    show _ = _; rw [HD1.out, this]; rfl
                  have AA := fun V (h : Tk V B g o1 (.slice none 0 0) (s.take i) []) => add_there V B g o1 (.slice none 0 0) (s.take i) [] y h hl' ha1
                  clear HD1 HLE HTK hl hl' ha1
                  go_wp2_with (first | (go_at_call 52; (with_reducible refine (LI _).mono ?_); rintro e w1 ⟨rfl, hb1⟩; obtain ⟨hc1, hf1, hz1⟩ := bcell hb1; have z1 : wr.heap.size < w1.heap.size := (by simp only [World.size_alloc] at hz1; omega)) | (go_at_call 53; (with_reducible refine (AA _ (T1.out.call (by repeat' (first | with_reducible exact Below.refl _ _ | with_reducible assumption | with_reducible refine Q.alloc ?_ _ | with_reducible refine Q.drew ?_ | with_reducible refine Q.drewN ?_ _ | with_reducible refine Q.call ?_ (by assumption))))).mono ?_); rintro e w2 ⟨rfl, hb2⟩))
                  (try simp only [Exit.noGoto_ret])
                  go_ret
                  exact ⟨by rw [HCX.out 16 (by decide) HD.out]; rfl, Q.call K1.out.bel (by repeat' (first | with_reducible exact Below.refl _ _ | with_reducible assumption | with_reducible refine Q.alloc ?_ _ | with_reducible refine Q.drew ?_ | with_reducible refine Q.drewN ?_ _ | with_reducible refine Q.call ?_ (by assumption)))⟩
                | false =>
                  cases ha2 : [].any (meetB y) with
                  | true =>
                    have HD : Aside (chkL [] true [] s = 15) := by
                      have : addE (s.take i) [] y = 15 := by unfold addE; rw [if_neg (by omega), if_neg (by rw [ha1]; simp), if_pos ha2]
                      show _ = _; rw [HD1.out, this]; rfl
                    have AA := fun V (h : Tk V B g o1 (.slice none 0 0) (s.take i) []) => add_kind V B g o1 (.slice none 0 0) (s.take i) [] y h hl' ha1 ha2
                    clear HD1 HLE HTK hl hl' ha1 ha2
                    go_wp2_with (first | (go_at_call 52; (with_reducible refine (LI _).mono ?_); rintro e w1 ⟨rfl, hb1⟩; obtain ⟨hc1, hf1, hz1⟩ := bcell hb1; have z1 : wr.heap.size < w1.heap.size := (by simp only [World.size_alloc] at hz1; omega)) | (go_at_call 53; (with_reducible refine (AA _ (T1.out.call (by repeat' (first | with_reducible exact Below.refl _ _ | with_reducible assumption | with_reducible refine Q.alloc ?_ _ | with_reducible refine Q.drew ?_ | with_reducible refine Q.drewN ?_ _ | with_reducible refine Q.call ?_ (by assumption))))).mono ?_); rintro e w2 ⟨rfl, hb2⟩))
                    (try simp only [Exit.noGoto_ret])
                    go_ret
                    exact ⟨by rw [HCX.out 15 (by decide) HD.out]; rfl, Q.call K1.out.bel (by repeat' (first | with_reducible exact Below.refl _ _ | with_reducible assumption | with_reducible refine Q.alloc ?_ _ | with_reducible refine Q.drew ?_ | with_reducible refine Q.drewN ?_ _ | with_reducible refine Q.call ?_ (by assumption)))⟩
                  | false =>
                    have HD : Aside (chkL [] true [] s = chkL [] true (s.take (i + 1)) (s.drop (i + 1))) := by
                      have : addE (s.take i) [] y = 0 := by unfold addE; rw [if_neg (by omega), if_neg (by rw [ha1]; simp), if_neg (by rw [ha2]; simp)]
                      show _ = _; rw [HD1.out, if_pos this]
                    have AA := fun V (hz : B ≤ V.heap.size) (h : Tk V B g o1 (.slice none 0 0) (s.take i) []) => add_ok V B g o1 (.slice none 0 0) (s.take i) [] y h hz hl' ha1 ha2
                    have HL2 : Aside (([] : List Sp).length + (s.take (i + 1)).length ≤ 64) := by show _ ≤ _; rw [HTK.out]; simp only [List.length_append, List.length_cons, List.length_nil] at *; omega
                    clear HD1 HLE hl hl' ha1 ha2
                    go_wp2_with (first | (go_at_call 52; (with_reducible refine (LI _).mono ?_); rintro e w1 ⟨rfl, hb1⟩; obtain ⟨hc1, hf1, hz1⟩ := bcell hb1; have z1 : wr.heap.size < w1.heap.size := (by simp only [World.size_alloc] at hz1; omega)) | (go_at_call 53; (with_reducible refine (AA _ (by have h2 := hb1.size; omega) (T1.out.call (by repeat' (first | with_reducible exact Below.refl _ _ | with_reducible assumption | with_reducible refine Q.alloc ?_ _ | with_reducible refine Q.drew ?_ | with_reducible refine Q.drewN ?_ _ | with_reducible refine Q.call ?_ (by assumption))))).mono ?_); rintro e w2 ⟨rfl, o1', hT, hCh⟩; refine Hid.out ?_))
                    refine Lib.hid ?_
                    have T2 : Aside (Tk w2 B g o1' (.slice none 0 0) (s.take (i + 1)) []) := by rw [HTK.out]; exact hT
                    have K2 : Aside _ := HSET.out _ _ (K1.out.call (by repeat' (first | with_reducible exact Below.refl _ _ | with_reducible assumption | with_reducible refine Q.alloc ?_ _ | with_reducible refine Q.drew ?_ | with_reducible refine Q.drewN ?_ _ | with_reducible refine Q.call ?_ (by assumption)))) hCh
                    have z2 : B ≤ w2.heap.size := by have h1 := hCh.size; have h2 := hb1.size; omega
                    clear hT hCh
                    go_wp2_with fail
                    go_roundg (s.length - (i + 1))
                    case measure => exact Nat.lt_of_lt_of_le (Nat.sub_lt_sub_left hlt (Nat.lt_succ_self i)) hk
                    case rel => exact ⟨i + 1, o1', by go_num, by omega, Nat.le_refl _, z2, K2, T2, (⟨HD.out, HL2.out⟩ : chkL [] true [] s = chkL [] true (s.take (i + 1)) (s.drop (i + 1)) ∧ ([] : List Sp).length + (s.take (i + 1)).length ≤ 64)⟩
        · have hltz : ¬ (i : Int) < (s.length : Int) := by omega
          have hi : i = s.length := by omega
          have HZ : Aside (chkL [] true [] s = 0) := by
            have h := I1.out.1
            rw [List.drop_eq_nil_of_le (by omega)] at h
            show _ = _
            rw [h]; rfl
          have T2 : Aside (Tk wr B g o1 (.slice none 0 0) s []) := by
            have h := T1.out
            rw [List.take_of_length_le (by omega)] at h
            exact h
          clear T1 I1 hi
          go_wp2_with (go_at_call 54; (with_reducible refine (swap_eq _ B g o1 _ s [] T2.out).mono ?_); rintro e w2 ⟨rfl, hT, hCh⟩; refine Hid.out ?_)
          refine Lib.hid ?_
          have T3 : Aside (Tk w2 B g (.slice none 0 0) o1 [] s) := hT
          have K3 : Aside _ := HSET.out _ _ K1.out (hCh.mono fun b h => .inl h)
          have z3 : B ≤ w2.heap.size := by have := hCh.size; omega
          clear hT hCh T2 K1
          go_wp2_with fail
          go_roundg 1
          case measure => omega
          case rel => exact ⟨K3, z3, .inr ⟨rfl, rfl, Nat.le_refl _, HZ, o1, T3⟩⟩
    · skip
      have c0 : wr.cell? ⟨hp, 0, none⟩ = some (.slice sa s.length sc) := K0.out.pb.cell 0
      have c1 : wr.cell? ⟨hp, 1, none⟩ = some (.slice ma m.length mc) := K0.out.pb.cell 1
      have d0 : wr.cell? ⟨hq, 0, none⟩ = some (.slice sa s.length sc) := K0.out.sb.cell 0
      have d1 : wr.cell? ⟨hq, 1, none⟩ = some (.slice ma m.length mc) := K0.out.sb.cell 1
      have zg0 : g < wr.heap.size := by omega
      go_wp2_with fail
      go_loopg [24] m.length (fun kx s24 wr => ∃ (i : Nat) (o1 : Value), s24 = .int .i64 i ∧ i ≤ m.length ∧ m.length - i ≤ kx ∧ B ≤ wr.heap.size ∧ Aside (CK w hp hq (.slice sa s.length sc) (.slice ma m.length mc) dc tr wr) ∧ Aside (Tk wr B g o1 o2 (m.take i) s) ∧ Aside (chkL s false [] m = chkL s false (m.take i) (m.drop i) ∧ (s : List Sp).length + (m.take i).length ≤ 64))
      case atStart => exact ⟨0, .slice none 0 0, rfl, Nat.zero_le _, Nat.le_refl _, z0, K0, T0, (⟨by rw [List.take_zero, List.drop_zero], by have := chkL_len [] true s [] (by simp) HP.out; simpa using this⟩ : chkL s false [] m = chkL s false (m.take 0) (m.drop 0) ∧ (s : List Sp).length + (m.take 0).length ≤ 64)⟩
      case round =>
        clear T0 K0 z0 zg0 c0 c1 d0 d1
        obtain ⟨i, o1, rfl, hil, hk, zr, K1, T1, I1⟩ := hrel
        have zg : g < wr.heap.size := by omega
        by_cases hlt : i < m.length
        · have hltz : (i : Int) < (m.length : Int) := by omega
          obtain ⟨b0, off, ha, hb0, -, hcell⟩ := (HM.out.below K1.out.bel).cells hlt
          subst ha
          obtain ⟨y, hy⟩ : ∃ y, m[i]? = some y := ⟨m[i], List.getElem?_eq_getElem hlt⟩
          have c0 : wr.cell? ⟨b0, off + i * 3, none⟩ = some (.int .i64 y.f) := hcell i y hy 0 _ rfl
          have c1 : wr.cell? ⟨b0, off + i * 3 + 1, none⟩ = some (.int .i64 y.t) := hcell i y hy 1 _ rfl
          have c2 : wr.cell? ⟨b0, off + i * 3 + 2, none⟩ = some (.int .u8 y.b) := hcell i y hy 2 _ rfl
          have htk : m.take (i + 1) = m.take i ++ [y] := by rw [List.take_add_one, hy]; rfl
          have hd : m.drop i = y :: m.drop (i + 1) := by
            rw [List.drop_eq_getElem_cons hlt]
            rw [List.getElem?_eq_getElem hlt] at hy
            rw [Option.some.inj hy]
          have HD0 : Aside (chkL s false [] m = if liesB y false = false ∨ y.b = 0 then 10 else if addE (m.take i) s y = 0 then chkL s false (m.take (i + 1)) (m.drop (i + 1)) else addE (m.take i) s y) := by
            show _ = _
            rw [I1.out.1, hd, htk]; rfl
          have HLE : Aside ((s : List Sp).length + (m.take i).length ≤ 64) := I1.out.2
          clear hy hcell hd I1
          have HTK : Aside (m.take (i + 1) = m.take i ++ [y]) := htk
          clear htk
          have hyw : wr.heap.size < (wr.alloc (.cells #[.int .i64 y.f, .int .i64 y.t, .int .u8 y.b] 91)).heap.size := by simp
          have HCX : Aside (∀ c : Int, c ≠ 0 → chkL s false [] m = c → C = c) := fun c h0 h => by rw [HC.out]; unfold chk; rw [if_pos HP.out, if_neg (by rw [h]; exact h0)]; exact h
          have LI := fun V => lies_eq V y.f y.t y.b false (liesB y false) rfl
          cases hlb : liesB y false with
          | false =>
            rw [hlb] at LI
            have HD : Aside (chkL s false [] m = 10) := by show _ = _; rw [HD0.out, if_pos (.inl hlb)]
            clear HD0 hlb HLE HTK
            go_wp2_with (go_at_call 52; (with_reducible refine (LI _).mono ?_); rintro e w1 ⟨rfl, hb1⟩; obtain ⟨hc1, hf1, hz1⟩ := bcell hb1; have z1 : wr.heap.size < w1.heap.size := (by simp only [World.size_alloc] at hz1; omega))
            (try simp only [Exit.noGoto_ret])
            go_ret
            exact ⟨by rw [HCX.out 10 (by decide) HD.out]; rfl, Q.call K1.out.bel (by repeat' (first | with_reducible exact Below.refl _ _ | with_reducible assumption | with_reducible refine Q.alloc ?_ _ | with_reducible refine Q.drew ?_ | with_reducible refine Q.drewN ?_ _ | with_reducible refine Q.call ?_ (by assumption)))⟩
          | true =>
            rw [hlb] at LI
            by_cases hyb : y.b = 0
            · have HD : Aside (chkL s false [] m = 10) := by show _ = _; rw [HD0.out, if_pos (.inr hyb)]
              have hybB : (y.b == 0) = true := by simp [hyb]
              clear hyb
              clear HD0 hlb HLE HTK
              go_wp2_with (go_at_call 52; (with_reducible refine (LI _).mono ?_); rintro e w1 ⟨rfl, hb1⟩; obtain ⟨hc1, hf1, hz1⟩ := bcell hb1; have z1 : wr.heap.size < w1.heap.size := (by simp only [World.size_alloc] at hz1; omega))
              (try simp only [Exit.noGoto_ret])
              go_ret
              exact ⟨by rw [HCX.out 10 (by decide) HD.out]; rfl, Q.call K1.out.bel (by repeat' (first | with_reducible exact Below.refl _ _ | with_reducible assumption | with_reducible refine Q.alloc ?_ _ | with_reducible refine Q.drew ?_ | with_reducible refine Q.drewN ?_ _ | with_reducible refine Q.call ?_ (by assumption)))⟩
            · have HD1 : Aside (chkL s false [] m = if addE (m.take i) s y = 0 then chkL s false (m.take (i + 1)) (m.drop (i + 1)) else addE (m.take i) s y) := by show _ = _; rw [HD0.out, if_neg (by rw [hlb]; simp [hyb])]
              have hybB : (y.b == 0) = false := by simp [hyb]
              clear HD0 hlb
              by_cases hl : (m.take i).length + (s : List Sp).length = 64
              · have HD : Aside (chkL s false [] m = 18) := by
                  have : addE (m.take i) s y = 18 := by unfold addE; rw [if_pos (by simpa using hl)]
                  show _ = _; rw [HD1.out, this]; rfl
                have AA := fun V (h : Tk V B g o1 o2 (m.take i) s) => add_full V B g o1 o2 (m.take i) s y h (by simpa using hl)
                clear HD1 HLE HTK hl
                go_wp2_with (first | (go_at_call 52; (with_reducible refine (LI _).mono ?_); rintro e w1 ⟨rfl, hb1⟩; obtain ⟨hc1, hf1, hz1⟩ := bcell hb1; have z1 : wr.heap.size < w1.heap.size := (by simp only [World.size_alloc] at hz1; omega)) | (go_at_call 53; (with_reducible refine (AA _ (T1.out.call (by repeat' (first | with_reducible exact Below.refl _ _ | with_reducible assumption | with_reducible refine Q.alloc ?_ _ | with_reducible refine Q.drew ?_ | with_reducible refine Q.drewN ?_ _ | with_reducible refine Q.call ?_ (by assumption))))).mono ?_); rintro e w2 ⟨rfl, hb2⟩))
                (try simp only [Exit.noGoto_ret])
                go_ret
                exact ⟨by rw [HCX.out 18 (by decide) HD.out]; rfl, Q.call K1.out.bel (by repeat' (first | with_reducible exact Below.refl _ _ | with_reducible assumption | with_reducible refine Q.alloc ?_ _ | with_reducible refine Q.drew ?_ | with_reducible refine Q.drewN ?_ _ | with_reducible refine Q.call ?_ (by assumption)))⟩
              · have hl' : (m.take i).length + (s : List Sp).length < 64 := by have := HLE.out; (try simp only [List.length_nil] at *); omega
                cases ha1 : (m.take i).any (meetB y) with
                | true =>
                  have HD : Aside (chkL s false [] m = 16) := by
                    have : addE (m.take i) s y = 16 := by unfold addE; rw [if_neg (by omega), if_pos ha1]
                    show _ = _; rw [HD1.out, this]; rfl
                  have AA := fun V (h : Tk V B g o1 o2 (m.take i) s) => add_there V B g o1 o2 (m.take i) s y h hl' ha1
                  clear HD1 HLE HTK hl hl' ha1
                  go_wp2_with (first | (go_at_call 52; (with_reducible refine (LI _).mono ?_); rintro e w1 ⟨rfl, hb1⟩; obtain ⟨hc1, hf1, hz1⟩ := bcell hb1; have z1 : wr.heap.size < w1.heap.size := (by simp only [World.size_alloc] at hz1; omega)) | (go_at_call 53; (with_reducible refine (AA _ (T1.out.call (by repeat' (first | with_reducible exact Below.refl _ _ | with_reducible assumption | with_reducible refine Q.alloc ?_ _ | with_reducible refine Q.drew ?_ | with_reducible refine Q.drewN ?_ _ | with_reducible refine Q.call ?_ (by assumption))))).mono ?_); rintro e w2 ⟨rfl, hb2⟩))
                  (try simp only [Exit.noGoto_ret])
                  go_ret
                  exact ⟨by rw [HCX.out 16 (by decide) HD.out]; rfl, Q.call K1.out.bel (by repeat' (first | with_reducible exact Below.refl _ _ | with_reducible assumption | with_reducible refine Q.alloc ?_ _ | with_reducible refine Q.drew ?_ | with_reducible refine Q.drewN ?_ _ | with_reducible refine Q.call ?_ (by assumption)))⟩
                | false =>
                  cases ha2 : s.any (meetB y) with
                  | true =>
                    have HD : Aside (chkL s false [] m = 15) := by
                      have : addE (m.take i) s y = 15 := by unfold addE; rw [if_neg (by omega), if_neg (by rw [ha1]; simp), if_pos ha2]
                      show _ = _; rw [HD1.out, this]; rfl
                    have AA := fun V (h : Tk V B g o1 o2 (m.take i) s) => add_kind V B g o1 o2 (m.take i) s y h hl' ha1 ha2
                    clear HD1 HLE HTK hl hl' ha1 ha2
                    go_wp2_with (first | (go_at_call 52; (with_reducible refine (LI _).mono ?_); rintro e w1 ⟨rfl, hb1⟩; obtain ⟨hc1, hf1, hz1⟩ := bcell hb1; have z1 : wr.heap.size < w1.heap.size := (by simp only [World.size_alloc] at hz1; omega)) | (go_at_call 53; (with_reducible refine (AA _ (T1.out.call (by repeat' (first | with_reducible exact Below.refl _ _ | with_reducible assumption | with_reducible refine Q.alloc ?_ _ | with_reducible refine Q.drew ?_ | with_reducible refine Q.drewN ?_ _ | with_reducible refine Q.call ?_ (by assumption))))).mono ?_); rintro e w2 ⟨rfl, hb2⟩))
                    (try simp only [Exit.noGoto_ret])
                    go_ret
                    exact ⟨by rw [HCX.out 15 (by decide) HD.out]; rfl, Q.call K1.out.bel (by repeat' (first | with_reducible exact Below.refl _ _ | with_reducible assumption | with_reducible refine Q.alloc ?_ _ | with_reducible refine Q.drew ?_ | with_reducible refine Q.drewN ?_ _ | with_reducible refine Q.call ?_ (by assumption)))⟩
                  | false =>
                    have HD : Aside (chkL s false [] m = chkL s false (m.take (i + 1)) (m.drop (i + 1))) := by
                      have : addE (m.take i) s y = 0 := by unfold addE; rw [if_neg (by omega), if_neg (by rw [ha1]; simp), if_neg (by rw [ha2]; simp)]
                      show _ = _; rw [HD1.out, if_pos this]
                    have AA := fun V (hz : B ≤ V.heap.size) (h : Tk V B g o1 o2 (m.take i) s) => add_ok V B g o1 o2 (m.take i) s y h hz hl' ha1 ha2
                    have HL2 : Aside ((s : List Sp).length + (m.take (i + 1)).length ≤ 64) := by show _ ≤ _; rw [HTK.out]; simp only [List.length_append, List.length_cons, List.length_nil] at *; omega
                    clear HD1 HLE hl hl' ha1 ha2
                    go_wp2_with (first | (go_at_call 52; (with_reducible refine (LI _).mono ?_); rintro e w1 ⟨rfl, hb1⟩; obtain ⟨hc1, hf1, hz1⟩ := bcell hb1; have z1 : wr.heap.size < w1.heap.size := (by simp only [World.size_alloc] at hz1; omega)) | (go_at_call 53; (with_reducible refine (AA _ (by have h2 := hb1.size; omega) (T1.out.call (by repeat' (first | with_reducible exact Below.refl _ _ | with_reducible assumption | with_reducible refine Q.alloc ?_ _ | with_reducible refine Q.drew ?_ | with_reducible refine Q.drewN ?_ _ | with_reducible refine Q.call ?_ (by assumption))))).mono ?_); rintro e w2 ⟨rfl, o1', hT, hCh⟩; refine Hid.out ?_))
                    refine Lib.hid ?_
                    have T2 : Aside (Tk w2 B g o1' o2 (m.take (i + 1)) s) := by rw [HTK.out]; exact hT
                    have K2 : Aside _ := HSET.out _ _ (K1.out.call (by repeat' (first | with_reducible exact Below.refl _ _ | with_reducible assumption | with_reducible refine Q.alloc ?_ _ | with_reducible refine Q.drew ?_ | with_reducible refine Q.drewN ?_ _ | with_reducible refine Q.call ?_ (by assumption)))) hCh
                    have z2 : B ≤ w2.heap.size := by have h1 := hCh.size; have h2 := hb1.size; omega
                    clear hT hCh
                    go_wp2_with fail
                    go_roundg (m.length - (i + 1))
                    case measure => exact Nat.lt_of_lt_of_le (Nat.sub_lt_sub_left hlt (Nat.lt_succ_self i)) hk
                    case rel => exact ⟨i + 1, o1', by go_num, by omega, Nat.le_refl _, z2, K2, T2, (⟨HD.out, HL2.out⟩ : chkL s false [] m = chkL s false (m.take (i + 1)) (m.drop (i + 1)) ∧ (s : List Sp).length + (m.take (i + 1)).length ≤ 64)⟩
        · have hltz : ¬ (i : Int) < (m.length : Int) := by omega
          have hi : i = m.length := by omega
          have HZ : Aside (chkL s false [] m = 0) := by
            have h := I1.out.1
            rw [List.drop_eq_nil_of_le (by omega)] at h
            show _ = _
            rw [h]; rfl
          have T2 : Aside (Tk wr B g o1 o2 m s) := by
            have h := T1.out
            rw [List.take_of_length_le (by omega)] at h
            exact h
          clear T1 I1 hi
          go_wp2_with (go_at_call 54; (with_reducible refine (swap_eq _ B g o1 _ m s T2.out).mono ?_); rintro e w2 ⟨rfl, hT, hCh⟩; refine Hid.out ?_)
          refine Lib.hid ?_
          have K3 : Aside _ := HSET.out _ _ K1.out (hCh.mono fun b h => .inl h)
          have e2 : w2.cell? ⟨hp, 2, none⟩ = some (.int .i64 dc) := K3.out.pb.cell 2
          have e3 : w2.cell? ⟨hp, 3, none⟩ = some (.int .i64 tr) := K3.out.pb.cell 3
          have HN : Aside (C = chkN dc tr) := by show _ = _; rw [HC.out]; unfold chk; rw [if_pos HP.out, if_pos HZ.out]
          clear hT hCh T2 K1
          by_cases n1 : dc < 0
          · skip
            have HV : Aside (C = 10) := by show _ = _; rw [HN.out]; unfold chkN; rw [if_pos (by omega)]
            go_wp2_with fail
            (try simp only [Exit.noGoto_ret])
            go_ret
            exact ⟨by rw [HV.out]; rfl, K3.out.bel⟩
          by_cases n2 : dc > 1000
          · skip
            have HV : Aside (C = 10) := by show _ = _; rw [HN.out]; unfold chkN; rw [if_pos (by omega)]
            go_wp2_with fail
            (try simp only [Exit.noGoto_ret])
            go_ret
            exact ⟨by rw [HV.out]; rfl, K3.out.bel⟩
          by_cases n3 : tr < 1
          · skip
            have HV : Aside (C = 10) := by show _ = _; rw [HN.out]; unfold chkN; rw [if_pos (by omega)]
            go_wp2_with fail
            (try simp only [Exit.noGoto_ret])
            go_ret
            exact ⟨by rw [HV.out]; rfl, K3.out.bel⟩
          by_cases n4 : tr > 4096
          · skip
            have HV : Aside (C = 10) := by show _ = _; rw [HN.out]; unfold chkN; rw [if_pos (by omega)]
            go_wp2_with fail
            (try simp only [Exit.noGoto_ret])
            go_ret
            exact ⟨by rw [HV.out]; rfl, K3.out.bel⟩
          have HV : Aside (C = 0) := by show _ = _; rw [HN.out]; unfold chkN; rw [if_neg (by omega)]
          go_wp2_with fail
          (try simp only [Exit.noGoto_ret])
          go_ret
          exact ⟨by rw [HV.out]; rfl, K3.out.bel⟩
end Go.Proofs.YtggnkkmlabhofaaDoor
