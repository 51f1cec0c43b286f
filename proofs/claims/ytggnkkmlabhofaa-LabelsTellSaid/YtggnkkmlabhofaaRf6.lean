/- The document's answer: what is wrong with a policy: the walk. (printed by gen/rf6.py) -/
import Derived.Test.YtggnkkmlabhofaaRf5
namespace Go.Proofs.Ytggnkkmlabhofaa
set_option linter.unusedVariables false
set_option linter.unusedSimpArgs false
open Go.RowKit Go.Sort Go.Shelf Go.Lib
attribute [local go_sem ↓] Go.wp_at_zero Go.wp_at_succ

theorem rdN_nil {V : World} {R : Nat → Prop} : Rd EN V R (.slice none 0 0) [] := ⟨none, 0, rfl, Nat.le_refl _, fun _ => rfl, fun h => absurd h (by simp)⟩
set_option maxHeartbeats 8000000 in
set_option maxRecDepth 100000 in
theorem rcheck_eq (w : World) (R : Nat → Prop) (sv mv : Value) (s m : List Sp) (dc tr : Int) (hs : Rd EN w R sv s) (hm : Rd EN w R mv m) (ls : s.length ≤ 100) (lm : m.length ≤ 100) (bs : ∀ x ∈ s, 0 ≤ x.b ∧ x.b ≤ 255) (bm : ∀ x ∈ m, 0 ≤ x.b ∧ x.b ≤ 255) :
    Calls Try.prog 12 #[.agg #[sv, mv, .int .i64 dc, .int .i64 tr]] w fun e w' => e = .returned (.int .i64 (chk s m dc tr)) ∧ Below w.heap.size w w' := by
  obtain ⟨C, hC⟩ : ∃ C, C = chk s m dc tr := ⟨_, rfl⟩
  rw [← hC]
  have HC := Lib.hid hC
  have HS := Lib.hid hs
  have HM := Lib.hid hm
  have HBS := Lib.hid bs
  have HBM := Lib.hid bm
  obtain ⟨sa, sc, rfl, hsc, _, _⟩ := hs
  obtain ⟨ma, mc, rfl, hmc, _, _⟩ := hm
  clear hC bs bm
  obtain ⟨W0, hW0⟩ : ∃ W0, W0 = w.alloc (.cells #[.slice sa s.length sc, .slice ma m.length mc, .int .i64 dc, .int .i64 tr] 35) := ⟨_, rfl⟩
  obtain ⟨hp, hhp⟩ : ∃ hp, hp = w.heap.size := ⟨_, rfl⟩
  have K0 : Aside (RK w hp (.slice sa s.length sc) (.slice ma m.length mc) dc tr W0) := by
    rw [hW0]
    exact ⟨Q.alloc (Below.refl _ _) _, Blk.new' hhp⟩
  go_enter Try.func12, Try.ntmps12
  go_wp2_with fail
  rw [← hW0, ← hhp]
  clear hW0 hhp
  go_loopg [3] (s.length + m.length) (fun kx s3 wr => ∃ i : Nat, s3 = .int .i64 i ∧ i ≤ s.length + m.length ∧ s.length + m.length - i ≤ kx ∧ Aside (RK w hp (.slice sa s.length sc) (.slice ma m.length mc) dc tr wr) ∧ Aside (At s m i))
  case atStart => exact ⟨0, rfl, Nat.zero_le _, Nat.le_refl _, K0, At.zero s m⟩
  case round =>
    clear K0
    obtain ⟨i, rfl, hil, hk, K1, A1⟩ := hrel
    have c0 : wr.cell? ⟨hp, 0, none⟩ = some (.slice sa s.length sc) := K1.out.pb.cell 0
    have c1 : wr.cell? ⟨hp, 1, none⟩ = some (.slice ma m.length mc) := K1.out.pb.cell 1
    have e2 : wr.cell? ⟨hp, 2, none⟩ = some (.int .i64 dc) := K1.out.pb.cell 2
    have e3 : wr.cell? ⟨hp, 3, none⟩ = some (.int .i64 tr) := K1.out.pb.cell 3
    have hpl : hp < wr.heap.size := K1.out.pb.lt
    by_cases hlt : i < s.length
    · have hltz : (i : Int) < (s.length : Int) := by omega
      have hltm : (i : Int) < (s.length : Int) + (m.length : Int) := by omega
      obtain ⟨b0, off, ha, hb0, -, hcell⟩ := RdN.cells (HS.out.below K1.out.bel) hlt
      subst ha
      obtain ⟨y, hy⟩ : ∃ y, s[i]? = some y := ⟨s[i], List.getElem?_eq_getElem hlt⟩
      have d0 : wr.cell? ⟨b0, off + i * 3, none⟩ = some (.int .i64 y.f) := hcell i y hy 0 _ rfl
      have d1 : wr.cell? ⟨b0, off + i * 3 + 1, none⟩ = some (.int .i64 y.t) := hcell i y hy 1 _ rfl
      have d2 : wr.cell? ⟨b0, off + i * 3 + 2, none⟩ = some (.int .i64 y.b) := hcell i y hy 2 _ rfl
      obtain ⟨yb0, yb1⟩ := HBS.out y (List.mem_of_getElem? hy)
      have HY := Lib.hid hy
      have hi64 : i ≤ 64 := A1.out.len
      have hic : i ≤ sc := by omega
      have RT := Lib.hid (RdN.take HS.out (Nat.le_of_lt hlt))
      clear hcell hy
      cases hlb : liesB y true with
      | false =>
        have LI := fun V => rlies_eq V y.f y.t y.b true false hlb.symm
        have HV : Aside (C = 10) := by show _ = _; rw [HC.out]; exact A1.out.bad1 HY.out 10 (by decide) (by rw [if_pos (.inl hlb)])
        clear hlb
        go_wp2_with (go_at_call 25; (with_reducible refine (LI _).mono ?_); rintro e w1 ⟨rfl, hb1⟩; obtain ⟨hc1, hf1, hz1⟩ := bcell hb1; have z1 : wr.heap.size < w1.heap.size := (by (try simp only [World.size_alloc] at hz1); omega))
        (try simp only [Exit.noGoto_ret])
        go_ret
        exact ⟨by rw [HV.out]; rfl, Q.call K1.out.bel (by repeat' (first | with_reducible exact Below.refl _ _ | with_reducible assumption | with_reducible refine Q.alloc ?_ _ | with_reducible refine Q.drew ?_ | with_reducible refine Q.drewN ?_ _ | with_reducible refine Q.call ?_ (by assumption)))⟩
      | true =>
        have LI := fun V => rlies_eq V y.f y.t y.b true true hlb.symm
        by_cases hyb : y.b < 1
        · have HV : Aside (C = 10) := by show _ = _; rw [HC.out]; exact A1.out.bad1 HY.out 10 (by decide) (by rw [if_pos (.inr (by omega))])
          clear hlb
          go_wp2_with (go_at_call 25; (with_reducible refine (LI _).mono ?_); rintro e w1 ⟨rfl, hb1⟩; obtain ⟨hc1, hf1, hz1⟩ := bcell hb1; have z1 : wr.heap.size < w1.heap.size := (by (try simp only [World.size_alloc] at hz1); omega))
          (try simp only [Exit.noGoto_ret])
          go_ret
          exact ⟨by rw [HV.out]; rfl, Q.call K1.out.bel (by repeat' (first | with_reducible exact Below.refl _ _ | with_reducible assumption | with_reducible refine Q.alloc ?_ _ | with_reducible refine Q.drew ?_ | with_reducible refine Q.drewN ?_ _ | with_reducible refine Q.call ?_ (by assumption)))⟩
        · have hz9 : Aside (addE (s.take i) [] y ≠ 0 → C = addE (s.take i) [] y) := by
            intro h
            rw [HC.out]; exact A1.out.bad1 HY.out _ h (by rw [if_neg (by rw [hlb]; simp; omega)])
          have hn9 : Aside (addE (s.take i) [] y = 0 → At s m (i + 1)) := fun h => A1.out.next1 HY.out hlb (by omega) h
          obtain ⟨E, hE⟩ : ∃ E, E = addE (s.take i) [] y := ⟨_, rfl⟩
          have AA := fun (V : World) (hV : Below w.heap.size w V) => radd_eq V R R _ (.slice none 0 0) (s.take i) [] y (RT.out.below hV) rdN_nil (by rw [List.length_take]; omega) (by simp) (by rw [List.length_take]; simp; omega)
          rw [← hE] at AA hz9 hn9
          clear hlb hE
          by_cases hE0 : E = 0
          · have HN := Lib.hid (hn9.out hE0)
            subst hE0
            clear hz9 hn9
            go_wp2_with (first | (go_at_call 25; (with_reducible refine (LI _).mono ?_); rintro e w1 ⟨rfl, hb1⟩; obtain ⟨hc1, hf1, hz1⟩ := bcell hb1; have z1 : wr.heap.size < w1.heap.size := (by (try simp only [World.size_alloc] at hz1); omega)) | (go_at_call 26; (with_reducible refine (AA _ (Q.call K1.out.bel (by repeat' (first | with_reducible exact Below.refl _ _ | with_reducible assumption | with_reducible refine Q.alloc ?_ _ | with_reducible refine Q.drew ?_ | with_reducible refine Q.drewN ?_ _ | with_reducible refine Q.call ?_ (by assumption))))).mono ?_); rintro e w2 ⟨rfl, hb2⟩))
            go_roundg (s.length + m.length - (i + 1))
            case measure => omega
            case rel => exact ⟨i + 1, by go_num, by omega, Nat.le_refl _, K1.out.call (by repeat' (first | with_reducible exact Below.refl _ _ | with_reducible assumption | with_reducible refine Q.alloc ?_ _ | with_reducible refine Q.drew ?_ | with_reducible refine Q.drewN ?_ _ | with_reducible refine Q.call ?_ (by assumption))), HN.out⟩
          · have HV : Aside (C = E) := hz9.out hE0
            have heb : (E == 0) = false := by simp [hE0]
            clear hz9 hn9
            go_wp2_with (first | (go_at_call 25; (with_reducible refine (LI _).mono ?_); rintro e w1 ⟨rfl, hb1⟩; obtain ⟨hc1, hf1, hz1⟩ := bcell hb1; have z1 : wr.heap.size < w1.heap.size := (by (try simp only [World.size_alloc] at hz1); omega)) | (go_at_call 26; (with_reducible refine (AA _ (Q.call K1.out.bel (by repeat' (first | with_reducible exact Below.refl _ _ | with_reducible assumption | with_reducible refine Q.alloc ?_ _ | with_reducible refine Q.drew ?_ | with_reducible refine Q.drewN ?_ _ | with_reducible refine Q.call ?_ (by assumption))))).mono ?_); rintro e w2 ⟨rfl, hb2⟩))
            (try simp only [Exit.noGoto_ret])
            go_ret
            exact ⟨by rw [HV.out]; rfl, Q.call K1.out.bel (by repeat' (first | with_reducible exact Below.refl _ _ | with_reducible assumption | with_reducible refine Q.alloc ?_ _ | with_reducible refine Q.drew ?_ | with_reducible refine Q.drewN ?_ _ | with_reducible refine Q.call ?_ (by assumption)))⟩
    · by_cases hlm : i < s.length + m.length
      · have hltz : ¬ (i : Int) < (s.length : Int) := by omega
        have hltm : (i : Int) < (s.length : Int) + (m.length : Int) := by omega
        obtain ⟨j, hj⟩ : ∃ j, i = s.length + j := ⟨i - s.length, by omega⟩
        have hsub : (i : Int) - (s.length : Int) = (j : Int) := by omega
        have hjlt : j < m.length := by omega
        have hjz : (j : Int) < (m.length : Int) := by omega
        have A2 : Aside (At s m (s.length + j)) := by show At _ _ _; rw [← hj]; exact A1.out
        have HI := Lib.hid (show s.length + j + 1 = i + 1 by omega)
        have hi64 : s.length + j ≤ 64 := A2.out.len
        clear hj A1
        obtain ⟨b0, off, ha, hb0, -, hcell⟩ := RdN.cells (HM.out.below K1.out.bel) hjlt
        subst ha
        obtain ⟨y, hy⟩ : ∃ y, m[j]? = some y := ⟨m[j], List.getElem?_eq_getElem hjlt⟩
        have d0 : wr.cell? ⟨b0, off + j * 3, none⟩ = some (.int .i64 y.f) := hcell j y hy 0 _ rfl
        have d1 : wr.cell? ⟨b0, off + j * 3 + 1, none⟩ = some (.int .i64 y.t) := hcell j y hy 1 _ rfl
        have d2 : wr.cell? ⟨b0, off + j * 3 + 2, none⟩ = some (.int .i64 y.b) := hcell j y hy 2 _ rfl
        obtain ⟨yb0, yb1⟩ := HBM.out y (List.mem_of_getElem? hy)
        have HY := Lib.hid hy
        have hic : j ≤ mc := by omega
        have RT := Lib.hid (RdN.take HM.out (Nat.le_of_lt hjlt))
        clear hcell hy
        cases hlb : liesB y false with
        | false =>
          have LI := fun V => rlies_eq V y.f y.t y.b false false hlb.symm
          have HV : Aside (C = 10) := by show _ = _; rw [HC.out]; exact A2.out.bad2 HY.out 10 (by decide) (by rw [if_pos (.inl hlb)])
          clear hlb
          go_wp2_with (go_at_call 25; (with_reducible refine (LI _).mono ?_); rintro e w1 ⟨rfl, hb1⟩; obtain ⟨hc1, hf1, hz1⟩ := bcell hb1; have z1 : wr.heap.size < w1.heap.size := (by (try simp only [World.size_alloc] at hz1); omega))
          (try simp only [Exit.noGoto_ret])
          go_ret
          exact ⟨by rw [HV.out]; rfl, Q.call K1.out.bel (by repeat' (first | with_reducible exact Below.refl _ _ | with_reducible assumption | with_reducible refine Q.alloc ?_ _ | with_reducible refine Q.drew ?_ | with_reducible refine Q.drewN ?_ _ | with_reducible refine Q.call ?_ (by assumption)))⟩
        | true =>
          have LI := fun V => rlies_eq V y.f y.t y.b false true hlb.symm
          by_cases hyb : y.b < 1
          · have HV : Aside (C = 10) := by show _ = _; rw [HC.out]; exact A2.out.bad2 HY.out 10 (by decide) (by rw [if_pos (.inr (by omega))])
            clear hlb
            go_wp2_with (go_at_call 25; (with_reducible refine (LI _).mono ?_); rintro e w1 ⟨rfl, hb1⟩; obtain ⟨hc1, hf1, hz1⟩ := bcell hb1; have z1 : wr.heap.size < w1.heap.size := (by (try simp only [World.size_alloc] at hz1); omega))
            (try simp only [Exit.noGoto_ret])
            go_ret
            exact ⟨by rw [HV.out]; rfl, Q.call K1.out.bel (by repeat' (first | with_reducible exact Below.refl _ _ | with_reducible assumption | with_reducible refine Q.alloc ?_ _ | with_reducible refine Q.drew ?_ | with_reducible refine Q.drewN ?_ _ | with_reducible refine Q.call ?_ (by assumption)))⟩
          · have hz9 : Aside (addE (m.take j) s y ≠ 0 → C = addE (m.take j) s y) := by
              intro h
              rw [HC.out]; exact A2.out.bad2 HY.out _ h (by rw [if_neg (by rw [hlb]; simp; omega)])
            have hn9 : Aside (addE (m.take j) s y = 0 → At s m (i + 1)) := fun h => by rw [← HI.out]; exact A2.out.next2 HY.out hlb (by omega) h
            obtain ⟨E, hE⟩ : ∃ E, E = addE (m.take j) s y := ⟨_, rfl⟩
            have AA := fun (V : World) (hV : Below w.heap.size w V) => radd_eq V R R _ (.slice sa s.length sc) (m.take j) s y (RT.out.below hV) (HS.out.below hV) (by rw [List.length_take]; omega) (by omega) (by rw [List.length_take]; omega)
            rw [← hE] at AA hz9 hn9
            clear hlb hE
            by_cases hE0 : E = 0
            · have HN := Lib.hid (hn9.out hE0)
              subst hE0
              clear hz9 hn9
              go_wp2_with (first | (go_at_call 25; (with_reducible refine (LI _).mono ?_); rintro e w1 ⟨rfl, hb1⟩; obtain ⟨hc1, hf1, hz1⟩ := bcell hb1; have z1 : wr.heap.size < w1.heap.size := (by (try simp only [World.size_alloc] at hz1); omega)) | (go_at_call 26; (with_reducible refine (AA _ (Q.call K1.out.bel (by repeat' (first | with_reducible exact Below.refl _ _ | with_reducible assumption | with_reducible refine Q.alloc ?_ _ | with_reducible refine Q.drew ?_ | with_reducible refine Q.drewN ?_ _ | with_reducible refine Q.call ?_ (by assumption))))).mono ?_); rintro e w2 ⟨rfl, hb2⟩))
              go_roundg (s.length + m.length - (i + 1))
              case measure => omega
              case rel => exact ⟨i + 1, by go_num, by omega, Nat.le_refl _, K1.out.call (by repeat' (first | with_reducible exact Below.refl _ _ | with_reducible assumption | with_reducible refine Q.alloc ?_ _ | with_reducible refine Q.drew ?_ | with_reducible refine Q.drewN ?_ _ | with_reducible refine Q.call ?_ (by assumption))), HN.out⟩
            · have HV : Aside (C = E) := hz9.out hE0
              have heb : (E == 0) = false := by simp [hE0]
              clear hz9 hn9
              go_wp2_with (first | (go_at_call 25; (with_reducible refine (LI _).mono ?_); rintro e w1 ⟨rfl, hb1⟩; obtain ⟨hc1, hf1, hz1⟩ := bcell hb1; have z1 : wr.heap.size < w1.heap.size := (by (try simp only [World.size_alloc] at hz1); omega)) | (go_at_call 26; (with_reducible refine (AA _ (Q.call K1.out.bel (by repeat' (first | with_reducible exact Below.refl _ _ | with_reducible assumption | with_reducible refine Q.alloc ?_ _ | with_reducible refine Q.drew ?_ | with_reducible refine Q.drewN ?_ _ | with_reducible refine Q.call ?_ (by assumption))))).mono ?_); rintro e w2 ⟨rfl, hb2⟩))
              (try simp only [Exit.noGoto_ret])
              go_ret
              exact ⟨by rw [HV.out]; rfl, Q.call K1.out.bel (by repeat' (first | with_reducible exact Below.refl _ _ | with_reducible assumption | with_reducible refine Q.alloc ?_ _ | with_reducible refine Q.drew ?_ | with_reducible refine Q.drewN ?_ _ | with_reducible refine Q.call ?_ (by assumption)))⟩
      · have hltz : ¬ (i : Int) < (s.length : Int) + (m.length : Int) := by omega
        have hi : i = s.length + m.length := by omega
        have HN : Aside (C = chkN dc tr) := by show _ = _; rw [HC.out]; exact At.done (by rw [← hi]; exact A1.out)
        have KB := Lib.hid K1.out.bel
        clear hi A1
        by_cases n1 : dc < 0
        · skip
          have HV : Aside (C = 10) := by show _ = _; rw [HN.out]; unfold chkN; rw [if_pos (by omega)]
          go_wp2_with fail
          (try simp only [Exit.noGoto_ret])
          go_ret
          exact ⟨by rw [HV.out]; rfl, KB.out⟩
        by_cases n2 : dc > 1000
        · skip
          have HV : Aside (C = 10) := by show _ = _; rw [HN.out]; unfold chkN; rw [if_pos (by omega)]
          go_wp2_with fail
          (try simp only [Exit.noGoto_ret])
          go_ret
          exact ⟨by rw [HV.out]; rfl, KB.out⟩
        by_cases n3 : tr < 1
        · skip
          have HV : Aside (C = 10) := by show _ = _; rw [HN.out]; unfold chkN; rw [if_pos (by omega)]
          go_wp2_with fail
          (try simp only [Exit.noGoto_ret])
          go_ret
          exact ⟨by rw [HV.out]; rfl, KB.out⟩
        by_cases n4 : tr > 4096
        · skip
          have HV : Aside (C = 10) := by show _ = _; rw [HN.out]; unfold chkN; rw [if_pos (by omega)]
          go_wp2_with fail
          (try simp only [Exit.noGoto_ret])
          go_ret
          exact ⟨by rw [HV.out]; rfl, KB.out⟩
        have HV : Aside (C = 0) := by show _ = _; rw [HN.out]; unfold chkN; rw [if_neg (by omega)]
        go_wp2_with fail
        (try simp only [Exit.noGoto_ret])
        go_ret
        exact ⟨by rw [HV.out]; rfl, KB.out⟩
end Go.Proofs.Ytggnkkmlabhofaa
