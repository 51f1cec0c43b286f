/- A policy's table: labels.New, where the policy may be. (printed by gen/la6.py) -/
import Derived.Test.YtggnkkmlabhofaaDoorLa5
import Derived.LaidEqlPtr
namespace Go.Proofs.YtggnkkmlabhofaaDoor
set_option linter.unusedVariables false
set_option linter.unusedSimpArgs false
open Go.RowKit Go.Sort Go.Shelf Go.Lib
attribute [local go_sem ↓] Go.wp_at_zero Go.wp_at_succ

theorem psorted_eq2 (w : World) (R : Nat → Prop) (sv mv : Value) (s m : List Sp) (dc tr : Int) (hs : Rd ES w R sv s) (hm : Rd ES w R mv m) (ls : s.length ≤ 1000) (lm : m.length ≤ 1000) :
    Calls Tryd.prog 51 #[.agg #[sv, mv, .int .i64 dc, .int .i64 tr]] w fun e w' => ∃ a c a' c', e = .returned (.agg #[.slice a s.length c, .slice a' m.length c', .int .i64 dc, .int .i64 tr]) ∧ NK w w'.heap.size (.slice a s.length c) (.slice a' m.length c') (srt s) (srt m) w' := by
  refine (psorted_eq w R sv mv s m dc tr hs hm ls lm).mono ?_
  rintro e w' ⟨v1, v2, rfl, h1, h2, hb⟩
  have k1 := h1
  have k2 := h2
  obtain ⟨a, c, rfl, _, _, _⟩ := h1
  obtain ⟨a', c', rfl, _, _, _⟩ := h2
  rw [srt_length] at k1 k2 ⊢
  rw [srt_length]
  refine ⟨a, c, a', c', rfl, hb, ?_, ?_⟩
  · obtain ⟨x, y, e, p1, p2, p3⟩ := k1
    exact ⟨x, y, e, p1, p2, fun h => by obtain ⟨b, o, q1, q2, q3, q4⟩ := p3 h; exact ⟨b, o, q1, q2, ⟨q2, q3⟩, q4⟩⟩
  · obtain ⟨x, y, e, p1, p2, p3⟩ := k2
    exact ⟨x, y, e, p1, p2, fun h => by obtain ⟨b, o, q1, q2, q3, q4⟩ := p3 h; exact ⟨b, o, q1, q2, ⟨q2, q3⟩, q4⟩⟩
set_option maxHeartbeats 8000000 in
set_option maxRecDepth 100000 in
/-- labels.New of a policy that may be: a table of it. -/
theorem new_ok (w : World) (R : Nat → Prop) (sv mv : Value) (s m : List Sp) (dc tr : Int) (hs : Rd ES w R sv s) (hm : Rd ES w R mv m) (ls : s.length ≤ 1000) (lm : m.length ≤ 1000) (hC : chk s m dc tr = 0) :
    Calls Tryd.prog 27 #[.agg #[sv, mv, .int .i64 dc, .int .i64 tr]] w fun e w' => ∃ g sv' mv', e = .returned (.tuple #[.pointer (some ⟨g, 0, none⟩), .int .i64 0]) ∧ w.heap.size ≤ g ∧ NK w g sv' mv' (srt s) (srt m) w' ∧
      Tab w' g sv' mv' dc tr (fillT (srt s) (fun _ => 0)) (fillT (srt m) (fun _ => 0)) := by
  obtain ⟨cs, cm, _⟩ := chk_lies hC
  have LS : Aside (∀ x ∈ srt s, 0 ≤ x.f ∧ x.f ≤ x.t ∧ x.t < 65536) := fun x hx => lies_bnd (chkL_lies _ _ _ _ cs x ((srt_perm s).mem_iff.1 hx)).1
  have LM : Aside (∀ x ∈ srt m, 0 ≤ x.f ∧ x.f ≤ x.t ∧ x.t < 65536) := fun x hx => lies_bnd (chkL_lies _ _ _ _ cm x ((srt_perm m).mem_iff.1 hx)).1
  have CK := fun (V : World) (h : Below w.heap.size w V) => check_eq V R sv mv s m dc tr (hs.below h) (hm.below h) ls lm
  rw [hC] at CK
  have SO := fun (V : World) (h : Below w.heap.size w V) => psorted_eq2 V R sv mv s m dc tr (hs.below h) (hm.below h) ls lm
  have hls : (srt s).length = s.length := srt_length s
  have hlm : (srt m).length = m.length := srt_length m
  obtain ⟨sa, sc, rfl, _, _, _⟩ := hs
  obtain ⟨ma, mc, rfl, _, _, _⟩ := hm
  obtain ⟨S, hS⟩ : ∃ S, S = srt s := ⟨_, rfl⟩
  obtain ⟨M, hM⟩ : ∃ M, M = srt m := ⟨_, rfl⟩
  rw [← hS] at LS SO hls ⊢
  rw [← hM] at LM SO hlm ⊢
  clear hS hM cs cm hC
  go_enter Tryd.func27, Tryd.ntmps27
  go_wp2_with fail
  refine wp_scope_straight ?_
  go_wp2_with (first
    | (go_at_call 29; (with_reducible refine (CK _ (by repeat' (first | with_reducible exact Below.refl _ _ | with_reducible assumption | with_reducible refine Q.alloc ?_ _ | with_reducible refine Q.drew ?_ | with_reducible refine Q.drewN ?_ _ | with_reducible refine Q.call ?_ (by assumption)))).mono ?_); rintro e w1 ⟨rfl, hb1⟩; obtain ⟨hc1, hf1, hz1⟩ := bcell hb1; have z1 : w.heap.size < w1.heap.size := (by (try simp only [World.size_alloc] at hz1); omega))
    | (go_at_call 51; (with_reducible refine (SO _ (by repeat' (first | with_reducible exact Below.refl _ _ | with_reducible assumption | with_reducible refine Q.alloc ?_ _ | with_reducible refine Q.drew ?_ | with_reducible refine Q.drewN ?_ _ | with_reducible refine Q.call ?_ (by assumption)))).mono ?_); rintro e w2 ⟨a1, q1, a2, q2, rfl, hN⟩; refine Hid.out ?_))
  refine Lib.hid ?_
  have BW : Below w.heap.size w w1   := (by repeat' (first | with_reducible exact Below.refl _ _ | with_reducible assumption | with_reducible refine Q.alloc ?_ _ | with_reducible refine Q.drew ?_ | with_reducible refine Q.drewN ?_ _ | with_reducible refine Q.call ?_ (by assumption)))
  have NK0 : Aside (NK w w2.heap.size (.slice a1 s.length q1) (.slice a2 m.length q2) S M w2) := by
    have hz := BW.size
    exact ⟨Q.call BW hN.bel, hN.rs.keep (fun b hb hR => ⟨rfl, hR.1, Nat.le_trans hz hR.2⟩) (Nat.le_refl _), hN.rm.keep (fun b hb hR => ⟨rfl, hR.1, Nat.le_trans hz hR.2⟩) (Nat.le_refl _)⟩
  clear hN CK SO hb1 hc1 hf1 hz1 BW
  have hgw : w.heap.size ≤ w2.heap.size := NK0.out.bel.size
  have BT := run_build_tab (.slice a1 s.length q1) (.slice a2 m.length q2) dc tr
  obtain ⟨tb, htb⟩ : ∃ tb, tb = tab0 (.slice a1 s.length q1) (.slice a2 m.length q2) dc tr := ⟨_, rfl⟩
  have HTB : Aside (TabC tb (.slice a1 s.length q1) (.slice a2 m.length q2) dc tr (fun _ => 0) (fun _ => 0)) := by show TabC _ _ _ _ _ _ _; rw [htb]; exact tab0_ok _ _ _ _
  have HTZ : Aside (tb = ((((Tryd.zeroCells95.setIfInBounds 0 (.slice a1 s.length q1)).setIfInBounds 1 (.slice a2 m.length q2)).setIfInBounds 2 (.int .i64 dc)).setIfInBounds 3 (.int .i64 tr))) := by show _ = _; rw [htb, zc]; rfl
  clear BT htb
  go_wp2_with fail
  rw [← HTZ.out]
  obtain ⟨g, hg⟩ : ∃ g, g = w2.heap.size := ⟨_, rfl⟩
  obtain ⟨W0, hW0⟩ : ∃ W0, W0 = w2.alloc (.cells tb 95) := ⟨_, rfl⟩
  have T0 : Aside (Tab W0 g (.slice a1 s.length q1) (.slice a2 m.length q2) dc tr (fun _ => 0) (fun _ => 0)) := by show Tab W0 g (.slice a1 s.length q1) (.slice a2 m.length q2) dc tr (fun _ => 0) (fun _ => 0); rw [hW0]; exact ⟨tb, HTB.out, Blk.new' hg⟩
  have N0 : Aside (NK w g (.slice a1 s.length q1) (.slice a2 m.length q2) S M W0) := by rw [hW0, hg]; exact NK0.out.call (Q.alloc (Below.refl _ _) _)
  rw [← hg] at hgw ⊢
  rw [← hW0]
  clear hW0 hg HTB HTZ NK0
  obtain ⟨v1, hv1⟩ : ∃ v1, v1 = Value.slice a1 s.length q1 := ⟨_, rfl⟩
  obtain ⟨v2, hv2⟩ : ∃ v2, v2 = Value.slice a2 m.length q2 := ⟨_, rfl⟩
  rw [← hv1, ← hv2] at T0 N0
  have HV1 := Lib.hid hv1
  have HV2 := Lib.hid hv2
  clear hv1 hv2
  have La : ∀ y : BW W0, y.val.cell? ⟨g, 0, none⟩ = some (.slice a1 s.length q1) := fun y => ((T0.out.call y.has).c.1).trans (by rw [HV1.out])
  refine wp_region_below (by kernel_rfl) (by kernel_rfl) ?_
  repeat (go_big_quiet_step (fail))
  refine wpQuiet_nil ?_
  first | (intro w9 hw9; obtain ⟨y1, rfl⟩ := hw9) | intro y1
  clear La
  have T1 : Aside (Tab y1.val g v1 v2 dc tr (fun _ => 0) (fun _ => 0)) := T0.out.call y1.has
  have N1 : Aside (NK w g v1 v2 S M y1.val) := N0.out.call y1.has
  clear T0 N0
  go_wp2_with fail
  go_step3
  go_wp2_with fail
  have HEQ : Aside (∀ (V : World) (a : Nat → Int), Tab V g v1 v2 dc tr a (fun _ => 0) → (binOp .eql 96 (.pointer (some ⟨g, 4, none⟩)) (.pointer (some ⟨g, 65540, none⟩))).run Tryd.prog V = .ok (.bool false) V) := by
    intro V a hT
    obtain ⟨K, _, hB⟩ := hT
    exact run_eql_ptr_other V (te := 93) (j := Tryd.t93) Tryd.underlying96 (by kernel_rfl) (by rw [show Tryd.t93.size = 65536 from rfl]; decide) (by simp) hB hB
  have HEQ2 : Aside (∀ V : World, (binOp .eql 96 (.pointer (some ⟨g, 65540, none⟩)) (.pointer (some ⟨g, 65540, none⟩))).run Tryd.prog V = .ok (.bool true) V) := fun V => run_eql_ptr_same V (te := 93) (j := Tryd.t93) _ Tryd.underlying96 (by kernel_rfl)
  go_loopg [6, 7] 2 (fun kx s6 s7 wr => Aside (NK w g v1 v2 S M wr) ∧
    ((s6 = .pointer (some ⟨g, 4, none⟩) ∧ s7 = (.slice a1 s.length q1) ∧ 2 ≤ kx ∧ Aside (Tab wr g v1 v2 dc tr (fun _ => 0) (fun _ => 0))) ∨
     (s6 = .pointer (some ⟨g, 65540, none⟩) ∧ s7 = (.slice a2 m.length q2) ∧ 1 ≤ kx ∧ Aside (Tab wr g v1 v2 dc tr (fillT S (fun _ => 0)) (fun _ => 0)))))
  case atStart => exact ⟨N1, .inl ⟨rfl, rfl, Nat.le_refl _, T1⟩⟩
  case round =>
    clear N1 T1
    obtain ⟨N0, hrel⟩ := hrel
    rcases hrel with ⟨rfl, rfl, hk0, T0⟩ | ⟨rfl, rfl, hk0, T0⟩
    · skip
      go_wp2_with fail
      go_loopg [30] s.length (fun kx s30 wr => ∃ k : Nat, s30 = .int .i64 k ∧ k ≤ s.length ∧ s.length - k ≤ kx ∧ Aside (NK w g v1 v2 S M wr) ∧ Aside (Tab wr g v1 v2 dc tr (fillT (S.take k) (fun _ => 0)) (fun _ => 0)))
      case atStart => exact ⟨0, rfl, Nat.zero_le _, Nat.le_refl _, N0, T0⟩
      case round =>
        clear T0 N0
        obtain ⟨k, rfl, hkl, hk, N1, T1⟩ := hrel
        by_cases hlt : k < s.length
        · have hltz : (k : Int) < (s.length : Int) := by omega
          have hkL : k < S.length := by omega
          obtain ⟨b0, off, ha, hb0, -, hcell⟩ := (show Rd ES wr _ (.slice a1 s.length q1) S from (by have h := N1.out.rs; rw [HV1.out] at h; exact h)).cells hkL
          obtain ⟨y, hy⟩ : ∃ y, S[k]? = some y := ⟨S[k], List.getElem?_eq_getElem hkL⟩
          have hyb := LS.out y (List.mem_of_getElem? hy)
          obtain ⟨fn, hfn⟩ : ∃ fn : Nat, y.f = fn := ⟨y.f.toNat, by omega⟩
          obtain ⟨tn, htn⟩ : ∃ tn : Nat, y.t = tn := ⟨y.t.toNat, by omega⟩
          have c0 : wr.cell? ⟨b0, off + k * 3, none⟩ = some (.int .i64 (fn : Int)) := by rw [← hfn]; exact hcell k y hy 0 _ rfl
          have c1 : wr.cell? ⟨b0, off + k * 3 + 1, none⟩ = some (.int .i64 (tn : Int)) := by rw [← htn]; exact hcell k y hy 1 _ rfl
          have c2 : wr.cell? ⟨b0, off + k * 3 + 2, none⟩ = some (.int .u8 y.b) := hcell k y hy 2 _ rfl
          have hft : fn ≤ tn := by omega
          have htb : tn < 65536 := by omega
          have HTK : Aside (pt y (fillT (S.take k) (fun _ => 0)) = fillT (S.take (k + 1)) (fun _ => 0)) := by
            show _ = _
            rw [← fillT_snoc, List.take_add_one, hy]; rfl
          have HPT : Aside (ptn fn (tn + 1) y.b (fillT (S.take k) (fun _ => 0)) = pt y (fillT (S.take k) (fun _ => 0))) := ptn_pt y fn tn hfn htn _
          have HZ0 : Aside (ptn fn fn y.b (fillT (S.take k) (fun _ => 0)) = fillT (S.take k) (fun _ => 0)) := ptn_zero _ _ _
          generalize y.b = yb at *
          have hgl := T1.out.lt
          obtain ⟨hx, hhx⟩ : ∃ hx, hx = wr.heap.size := ⟨_, rfl⟩
          obtain ⟨W1, hW1⟩ : ∃ W1, W1 = wr.alloc (.cells #[.int .i64 (fn : Int), .int .i64 (tn : Int), .int .u8 yb] 91) := ⟨_, rfl⟩
          have bW1 : Below wr.heap.size wr W1 := by rw [hW1]; exact Q.alloc (Below.refl _ _) _
          have X1 : Aside (Blk W1 hx 91 #[.int .i64 (fn : Int), .int .i64 (tn : Int), .int .u8 yb]) := by show Blk _ _ _ _; rw [hW1]; exact Blk.new' hhx
          have N2 : Aside (NK w g v1 v2 S M W1) := N1.out.call bW1
          have T2 : Aside (Tab W1 g v1 v2 dc tr (ptn fn fn yb (fillT (S.take k) (fun _ => 0))) (fun _ => 0)) := (T1.out.call bW1).congr HZ0.out.symm rfl
          have hxg : hx ≠ g := by omega
          have b0' : W1.cell? ⟨hx, 0, none⟩ = some (.int .i64 (fn : Int)) := X1.out.cell 0
          clear hcell hy hyb T1 N1 bW1 hfn htn HZ0
          subst ha
          go_wp2_with fail
          rw [← hW1, ← hhx]
          clear hW1 hhx c0 c1 c2
          go_wp2_with fail
          go_loopg [10] (tn + 1 - fn) (fun kx s10 wr => ∃ at_ : Nat, s10 = .int .i64 at_ ∧ fn ≤ at_ ∧ at_ ≤ tn + 1 ∧ tn + 1 - at_ ≤ kx ∧ Aside (NK w g v1 v2 S M wr) ∧ Aside (Blk wr hx 91 #[.int .i64 (fn : Int), .int .i64 (tn : Int), .int .u8 yb]) ∧ Aside (Tab wr g v1 v2 dc tr (ptn fn at_ yb (fillT (S.take k) (fun _ => 0))) (fun _ => 0)))
          case atStart => exact ⟨fn, rfl, Nat.le_refl _, by omega, Nat.le_refl _, N2, X1, T2⟩
          case round =>
            clear N2 X1 T2 b0' hgl
            obtain ⟨at_, rfl, ha1, ha2, hka, N2, X1, T2⟩ := hrel
            have e1 : wr.cell? ⟨hx, 1, none⟩ = some (.int .i64 (tn : Int)) := X1.out.cell 1
            by_cases hat : at_ ≤ tn
            · have hatz : (at_ : Int) ≤ (tn : Int) := by omega
              have hab : at_ < 65536 := by omega
              have habz : (at_ : Int) < 65536 := by omega
              have rat : IntKind.i64.wrap (at_ : Int) = (at_ : Int) := by rw [IntKind.wrap_i64]; omega
              have e2 : wr.cell? ⟨hx, 2, none⟩ = some (.int .u8 yb) := X1.out.cell 2
              have e3 := T2.out.ca hab
              have e4 : wr.frozen? ⟨g, 4 + at_, none⟩ = false := T2.out.fr _
              have e5 := T2.out.lt
              have e6 := X1.out.lt
              have C3 : Chg (fun b => b = g) wr (wr.setCell ⟨g, 4 + at_, none⟩ (.int .u8 yb)) := chg_setCell _ _ _ _
              have N3 : Aside (NK w g v1 v2 S M (wr.setCell ⟨g, 4 + at_, none⟩ (.int .u8 yb))) := N2.out.chg C3 hgw
              have X3 : Aside (Blk (wr.setCell ⟨g, 4 + at_, none⟩ (.int .u8 yb)) hx 91 #[.int .i64 (fn : Int), .int .i64 (tn : Int), .int .u8 yb]) := X1.out.chg C3 hxg
              have T3 : Aside (Tab (wr.setCell ⟨g, 4 + at_, none⟩ (.int .u8 yb)) g v1 v2 dc tr (ptn fn (at_ + 1) yb (fillT (S.take k) (fun _ => 0))) (fun _ => 0)) := (T2.out.setA hab yb).congr (ptn_step fn at_ yb _ ha1) rfl
              have D : Below (wr.setCell ⟨g, 4 + at_, none⟩ (.int .u8 yb)).heap.size (wr.setCell ⟨g, 4 + at_, none⟩ (.int .u8 yb)) (wr.setCell ⟨g, 4 + at_, none⟩ (.int .u8 yb)).drew := Q.drew (Below.refl _ _)
              have HD := Lib.hid D
              clear N2 X1 T2 C3 D
              go_wp2_with fail
              go_big_region
              all_goals
                go_wp2_with fail
                go_roundg (tn + 1 - (at_ + 1))
                case measure => omega
                case rel =>
                  first
                    | exact ⟨at_ + 1, by go_num, by omega, by omega, Nat.le_refl _, N3, X3, T3⟩
                    | exact ⟨at_ + 1, by go_num, by omega, by omega, Nat.le_refl _, N3.out.call HD.out, X3.out.call HD.out, T3.out.call HD.out⟩
            · have hatz : ¬ (at_ : Int) ≤ (tn : Int) := by omega
              have hae : at_ = tn + 1 := by omega
              have T4 : Aside (Tab wr g v1 v2 dc tr (fillT (S.take (k + 1)) (fun _ => 0)) (fun _ => 0)) := T2.out.congr (by rw [hae, HPT.out, HTK.out]) rfl
              clear T2 hae
              go_wp2_with fail
              go_roundg (s.length - (k + 1))
              case measure => omega
              case rel => exact ⟨k + 1, by go_num, by omega, Nat.le_refl _, N2, T4⟩
        · have hltz : ¬ (k : Int) < (s.length : Int) := by omega
          have T2 : Aside (Tab wr g v1 v2 dc tr (fillT S (fun _ => 0)) (fun _ => 0)) := T1.out.congr (by rw [List.take_of_length_le (by omega)]) rfl
          clear T1
          have La : ∀ y : BW wr, y.val.cell? ⟨g, 1, none⟩ = some (.slice a2 m.length q2) := fun y => ((T2.out.call y.has).c.2.1).trans (by rw [HV2.out])
          have EQ := HEQ.out wr _ T2.out
          go_wp2_with fail
          clear EQ
          refine wp_region_below (by kernel_rfl) (by kernel_rfl) ?_
          repeat (go_big_quiet_step (fail))
          refine wpQuiet_nil ?_
          first | (intro w9 hw9; obtain ⟨y1, rfl⟩ := hw9) | intro y1
          clear La
          go_wp2_with fail
          go_roundg 1
          case measure => omega
          case rel => exact ⟨N1.out.call y1.has, .inr ⟨rfl, rfl, Nat.le_refl _, T2.out.call y1.has⟩⟩
    · skip
      go_wp2_with fail
      go_loopg [30] m.length (fun kx s30 wr => ∃ k : Nat, s30 = .int .i64 k ∧ k ≤ m.length ∧ m.length - k ≤ kx ∧ Aside (NK w g v1 v2 S M wr) ∧ Aside (Tab wr g v1 v2 dc tr (fillT S (fun _ => 0)) (fillT (M.take k) (fun _ => 0))))
      case atStart => exact ⟨0, rfl, Nat.zero_le _, Nat.le_refl _, N0, T0⟩
      case round =>
        clear T0 N0
        obtain ⟨k, rfl, hkl, hk, N1, T1⟩ := hrel
        by_cases hlt : k < m.length
        · have hltz : (k : Int) < (m.length : Int) := by omega
          have hkL : k < M.length := by omega
          obtain ⟨b0, off, ha, hb0, -, hcell⟩ := (show Rd ES wr _ (.slice a2 m.length q2) M from (by have h := N1.out.rm; rw [HV2.out] at h; exact h)).cells hkL
          obtain ⟨y, hy⟩ : ∃ y, M[k]? = some y := ⟨M[k], List.getElem?_eq_getElem hkL⟩
          have hyb := LM.out y (List.mem_of_getElem? hy)
          obtain ⟨fn, hfn⟩ : ∃ fn : Nat, y.f = fn := ⟨y.f.toNat, by omega⟩
          obtain ⟨tn, htn⟩ : ∃ tn : Nat, y.t = tn := ⟨y.t.toNat, by omega⟩
          have c0 : wr.cell? ⟨b0, off + k * 3, none⟩ = some (.int .i64 (fn : Int)) := by rw [← hfn]; exact hcell k y hy 0 _ rfl
          have c1 : wr.cell? ⟨b0, off + k * 3 + 1, none⟩ = some (.int .i64 (tn : Int)) := by rw [← htn]; exact hcell k y hy 1 _ rfl
          have c2 : wr.cell? ⟨b0, off + k * 3 + 2, none⟩ = some (.int .u8 y.b) := hcell k y hy 2 _ rfl
          have hft : fn ≤ tn := by omega
          have htb : tn < 65536 := by omega
          have HTK : Aside (pt y (fillT (M.take k) (fun _ => 0)) = fillT (M.take (k + 1)) (fun _ => 0)) := by
            show _ = _
            rw [← fillT_snoc, List.take_add_one, hy]; rfl
          have HPT : Aside (ptn fn (tn + 1) y.b (fillT (M.take k) (fun _ => 0)) = pt y (fillT (M.take k) (fun _ => 0))) := ptn_pt y fn tn hfn htn _
          have HZ0 : Aside (ptn fn fn y.b (fillT (M.take k) (fun _ => 0)) = fillT (M.take k) (fun _ => 0)) := ptn_zero _ _ _
          generalize y.b = yb at *
          have hgl := T1.out.lt
          obtain ⟨hx, hhx⟩ : ∃ hx, hx = wr.heap.size := ⟨_, rfl⟩
          obtain ⟨W1, hW1⟩ : ∃ W1, W1 = wr.alloc (.cells #[.int .i64 (fn : Int), .int .i64 (tn : Int), .int .u8 yb] 91) := ⟨_, rfl⟩
          have bW1 : Below wr.heap.size wr W1 := by rw [hW1]; exact Q.alloc (Below.refl _ _) _
          have X1 : Aside (Blk W1 hx 91 #[.int .i64 (fn : Int), .int .i64 (tn : Int), .int .u8 yb]) := by show Blk _ _ _ _; rw [hW1]; exact Blk.new' hhx
          have N2 : Aside (NK w g v1 v2 S M W1) := N1.out.call bW1
          have T2 : Aside (Tab W1 g v1 v2 dc tr (fillT S (fun _ => 0)) (ptn fn fn yb (fillT (M.take k) (fun _ => 0)))) := (T1.out.call bW1).congr rfl HZ0.out.symm
          have hxg : hx ≠ g := by omega
          have b0' : W1.cell? ⟨hx, 0, none⟩ = some (.int .i64 (fn : Int)) := X1.out.cell 0
          clear hcell hy hyb T1 N1 bW1 hfn htn HZ0
          subst ha
          go_wp2_with fail
          rw [← hW1, ← hhx]
          clear hW1 hhx c0 c1 c2
          go_wp2_with fail
          go_loopg [10] (tn + 1 - fn) (fun kx s10 wr => ∃ at_ : Nat, s10 = .int .i64 at_ ∧ fn ≤ at_ ∧ at_ ≤ tn + 1 ∧ tn + 1 - at_ ≤ kx ∧ Aside (NK w g v1 v2 S M wr) ∧ Aside (Blk wr hx 91 #[.int .i64 (fn : Int), .int .i64 (tn : Int), .int .u8 yb]) ∧ Aside (Tab wr g v1 v2 dc tr (fillT S (fun _ => 0)) (ptn fn at_ yb (fillT (M.take k) (fun _ => 0)))))
          case atStart => exact ⟨fn, rfl, Nat.le_refl _, by omega, Nat.le_refl _, N2, X1, T2⟩
          case round =>
            clear N2 X1 T2 b0' hgl
            obtain ⟨at_, rfl, ha1, ha2, hka, N2, X1, T2⟩ := hrel
            have e1 : wr.cell? ⟨hx, 1, none⟩ = some (.int .i64 (tn : Int)) := X1.out.cell 1
            by_cases hat : at_ ≤ tn
            · have hatz : (at_ : Int) ≤ (tn : Int) := by omega
              have hab : at_ < 65536 := by omega
              have habz : (at_ : Int) < 65536 := by omega
              have rat : IntKind.i64.wrap (at_ : Int) = (at_ : Int) := by rw [IntKind.wrap_i64]; omega
              have e2 : wr.cell? ⟨hx, 2, none⟩ = some (.int .u8 yb) := X1.out.cell 2
              have e3 := T2.out.cb hab
              have e4 : wr.frozen? ⟨g, 65540 + at_, none⟩ = false := T2.out.fr _
              have e5 := T2.out.lt
              have e6 := X1.out.lt
              have C3 : Chg (fun b => b = g) wr (wr.setCell ⟨g, 65540 + at_, none⟩ (.int .u8 yb)) := chg_setCell _ _ _ _
              have N3 : Aside (NK w g v1 v2 S M (wr.setCell ⟨g, 65540 + at_, none⟩ (.int .u8 yb))) := N2.out.chg C3 hgw
              have X3 : Aside (Blk (wr.setCell ⟨g, 65540 + at_, none⟩ (.int .u8 yb)) hx 91 #[.int .i64 (fn : Int), .int .i64 (tn : Int), .int .u8 yb]) := X1.out.chg C3 hxg
              have T3 : Aside (Tab (wr.setCell ⟨g, 65540 + at_, none⟩ (.int .u8 yb)) g v1 v2 dc tr (fillT S (fun _ => 0)) (ptn fn (at_ + 1) yb (fillT (M.take k) (fun _ => 0)))) := (T2.out.setB hab yb).congr rfl (ptn_step fn at_ yb _ ha1)
              have D : Below (wr.setCell ⟨g, 65540 + at_, none⟩ (.int .u8 yb)).heap.size (wr.setCell ⟨g, 65540 + at_, none⟩ (.int .u8 yb)) (wr.setCell ⟨g, 65540 + at_, none⟩ (.int .u8 yb)).drew := Q.drew (Below.refl _ _)
              have HD := Lib.hid D
              clear N2 X1 T2 C3 D
              go_wp2_with fail
              go_big_region
              all_goals
                go_wp2_with fail
                go_roundg (tn + 1 - (at_ + 1))
                case measure => omega
                case rel =>
                  first
                    | exact ⟨at_ + 1, by go_num, by omega, by omega, Nat.le_refl _, N3, X3, T3⟩
                    | exact ⟨at_ + 1, by go_num, by omega, by omega, Nat.le_refl _, N3.out.call HD.out, X3.out.call HD.out, T3.out.call HD.out⟩
            · have hatz : ¬ (at_ : Int) ≤ (tn : Int) := by omega
              have hae : at_ = tn + 1 := by omega
              have T4 : Aside (Tab wr g v1 v2 dc tr (fillT S (fun _ => 0)) (fillT (M.take (k + 1)) (fun _ => 0))) := T2.out.congr rfl (by rw [hae, HPT.out, HTK.out])
              clear T2 hae
              go_wp2_with fail
              go_roundg (m.length - (k + 1))
              case measure => omega
              case rel => exact ⟨k + 1, by go_num, by omega, Nat.le_refl _, N2, T4⟩
        · have hltz : ¬ (k : Int) < (m.length : Int) := by omega
          have T2 : Aside (Tab wr g v1 v2 dc tr (fillT S (fun _ => 0)) (fillT M (fun _ => 0))) := T1.out.congr rfl (by rw [List.take_of_length_le (by omega)])
          clear T1
          have EQ := HEQ2.out wr
          go_wp2_with fail
          (try simp only [Exit.noGoto_ret])
          go_ret2
          exact ⟨g, _, _, rfl, hgw, N1.out, T2.out⟩
end Go.Proofs.YtggnkkmlabhofaaDoor
