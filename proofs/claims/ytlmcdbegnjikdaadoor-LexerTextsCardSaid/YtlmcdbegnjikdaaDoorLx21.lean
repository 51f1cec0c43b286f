/- The document's lexer: a line. (printed by gen/lx21.py) -/
import Derived.Test.YtlmcdbegnjikdaaDoorLx20
import Derived.Test.YtlmcdbegnjikdaaDoorLx13
namespace Go.Proofs.YtlmcdbegnjikdaaDoor
set_option linter.unusedVariables false
set_option linter.unusedSimpArgs false
open Go.RowKit
attribute [local go_sem ↓] Go.wp_at_zero Go.wp_at_succ

theorem rtok_info : (Tryd.prog.info? 34).map (fun i => (i.zero, i.size, i.bytes)) = some (some (.agg #[.int .i64 0, .string ByteArray.empty, .int .i64 0, .int .i64 0, .int .i64 0]), 5, 48) := by kernel_rfl
theorem one_bad (w : World) (s : ByteArray) (k : Nat) (hk : k < s.size) (hs : s.size ≤ 1000) (c : Int) (h : one (from_ s k) = .bad c) :
    Calls Tryd.prog 31 #[.string s, .int .i64 k] w fun e w' => e = .returned (.tuple #[.agg #[.int .i64 0, .string ⟨#[]⟩, .int .i64 0, .int .i64 0, .int .i64 0], .int .i64 0, .int .i64 c]) ∧ Below w.heap.size w w' :=
  (one_eq w s k hk hs).mono fun e w' hp => by unfold OnePost at hp; rw [h] at hp; exact hp
theorem one_ok (w : World) (s : ByteArray) (k : Nat) (hk : k < s.size) (hs : s.size ≤ 1000) (kk v : Int) (t r : By) (h : one (from_ s k) = .ok kk t v r) :
    Calls Tryd.prog 31 #[.string s, .int .i64 k] w fun e w' => e = .returned (.tuple #[.agg #[.int .i64 kk, .string (str t), .int .i64 v, .int .i64 0, .int .i64 0], .int .i64 ((s.size - r.length : Nat) : Int), .int .i64 0]) ∧ Below w.heap.size w w' :=
  (one_eq w s k hk hs).mono fun e w' hp => by unfold OnePost at hp; rw [h] at hp; exact hp
/-- What line answers. -/
def RefLine (w : World) (res : RL) (e : Ending) (w' : World) : Prop :=
  match res with
  | .bad c er => e = .returned (.tuple #[.slice none 0 0, .int .i64 c, .int .i64 er]) ∧ Below w.heap.size w w'
  | .ok l => ∃ sv, e = .returned (.tuple #[sv, .int .i64 0, .int .i64 0]) ∧ w'.ownsRow w.heap.size 34 5 sv l.length (ET.row l) ∧ Below w.heap.size w w'
set_option maxRecDepth 100000 in
set_option maxHeartbeats 6400000 in
theorem refline_eq (w : World) (s : ByteArray) (n : Int) : Calls Tryd.prog 17 #[.string s, .int .i64 n] w (RefLine w (lineT n s.data.toList)) := by
  by_cases hlong : 1000 < s.size
  · have hli : (1000 : Int) < (s.size : Int) := by omega
    have HE := Lib.hid (lineT_long (n := n) (l := s.data.toList) (by simpa using hlong))
    go_enter Tryd.func17, Tryd.ntmps17
    go_wp2_with fail
    refine bodyPost_ret (results_tmp3 rfl _ _ _) rfl ?_
    unfold RefLine
    rw [HE.out]
    exact ⟨rfl, Below.refl _ _⟩
  · have hli : ¬ (1000 : Int) < (s.size : Int) := by omega
    rw [lineT_short (by simpa using hlong)]
    obtain ⟨FIN, HFI⟩ : ∃ FIN, FIN = sc n (from_ s 0) 0 0 [] := ⟨_, rfl⟩
    rw [← from_zero, ← HFI]
    have HFI2 := Lib.hid HFI
    clear HFI
    have hs : s.size ≤ 1000 := by omega
    obtain ⟨i0, hi0, hz0, hz1', hz2⟩ := info_parts rtok_info
    go_enter Tryd.func17, Tryd.ntmps17
    go_wp2_with fail
    go_loopw [7, 8, 9] (fun ov iv lv wr => ∃ (at_ last : Nat) (out : List Tok), iv = .int .i64 (at_ : Int) ∧ lv = .int .i64 (last : Int) ∧ at_ ≤ s.size ∧ last ≤ at_ ∧ out.length ≤ at_ ∧ Hid (sc n (from_ s at_) at_ last out = FIN) ∧ wr.ownsRow w.heap.size 34 5 ov out.length (ET.row out) ∧ Below w.heap.size w wr) (fun _ iv _ _ => s.size - (intOf iv).toNat)
    case atStart => exact ⟨0, 0, [], rfl, rfl, Nat.zero_le _, Nat.le_refl _, Nat.le_refl _, Lib.hid HFI2.out.symm, World.ownsRow_nil _ _ _ _, Below.refl _ _⟩
    case round =>
      obtain ⟨at_, last, out, rfl, rfl, hle, hlast, hlen, HT, hown, hbw⟩ := hrel
      clear HFI2
      by_cases hend : at_ = s.size
      · subst hend
        have HE := Lib.hid (show FIN = .ok (fin n last out) from by rw [← HT.out, from_ge (Nat.le_refl _)]; rfl)
        by_cases hl0 : out.length = 0
        · have hl : out = [] := List.eq_nil_of_length_eq_zero hl0
          subst hl
          obtain ⟨a7, cap7, rfl⟩ := own_zero hown
          go_wp2_with fail
          refine bodyPost_ret (results_tmp3 rfl _ _ _) rfl ?_
          unfold RefLine
          rw [HE.out, fin_nil]
          exact ⟨_, rfl, hown, hbw⟩
        · have hl1 : 0 < out.length := by omega
          have hl2 : (0 : Int) < (out.length : Int) := by omega
          have HB := Lib.hid hbw
          have HO := Lib.hid (hown.alloc (.cells #[.int .i64 4, .string (ByteArray.mk #[]), .int .i64 0, .int .i64 n, .int .i64 ((last : Int) + 1)] 34))
          have HX := Lib.hid (fun b (e : u7.ownBlock = some b) => (own_lt hown e).2)
          have hsz := hbw.size
          obtain ⟨a7, cap7, e7, -⟩ := own_slice hown
          subst e7
          clear hown hbw
          go_wp2_with (at_builtin; refine wpList_append_own _ rfl _ _ 29 rfl w.heap.size 34 i0 _ 5 48 Tryd.underlying29 hi0 hz0 hz1' hz2 rfl (by decide) (.slice a7 out.length cap7) out.length (ET.row out) rfl (by exact HO.out) ⟨wr.heap.size, 0, none⟩ 1 1 [.int .i64 4, .string (ByteArray.mk #[]), .int .i64 0, .int .i64 n, .int .i64 ((last : Int) + 1)] rfl (by rfl) (World.news_of_block (cs := #[.int .i64 4, .string (ByteArray.mk #[]), .int .i64 0, .int .i64 n, .int .i64 ((last : Int) + 1)]) (t := 34) (fr := (0, 0)) (Blk.new' (by simp))) (by simp [Value.oneCell']) (by unfold maxLen; omega) (by omega) (by simp; omega) ?_; intro sv2 w2 hown2 hgrow _)
          refine bodyPost_ret (results_tmp3 rfl _ _ _) rfl ?_
          unfold RefLine
          rw [HE.out, fin_some hl1]
          exact ⟨_, rfl, by rw [List.length_append, ET_snoc]; exact hown2, (Q.alloc HB.out _).grown hgrow (by simp; omega) (fun g hg => HX.out g hg)⟩
      · have hk : at_ < s.size := by omega
        have hki : (at_ : Int) < (s.size : Int) := by omega
        have HF := Lib.hid (from_lt hk)
        by_cases h35 : s[at_].toNat = 35
        · have HE := Lib.hid (show FIN = .ok (fin n last out) from by rw [← HT.out, HF.out, sc_hash h35])
          have b35 : ((s[at_].toNat : Int) == 35) = true := by rw [beq_iff_eq]; omega
          have b35' : ((s[at_].toNat : Int) != 35) = false := by simp; omega
          clear h35
          by_cases hl0 : out.length = 0
          · have hl : out = [] := List.eq_nil_of_length_eq_zero hl0
            subst hl
            obtain ⟨a7, cap7, rfl⟩ := own_zero hown
            go_wp2_with fail
            refine bodyPost_ret (results_tmp3 rfl _ _ _) rfl ?_
            unfold RefLine
            rw [HE.out, fin_nil]
            exact ⟨_, rfl, hown, hbw⟩
          · have hl1 : 0 < out.length := by omega
            have hl2 : (0 : Int) < (out.length : Int) := by omega
            have HB := Lib.hid hbw
            have HO := Lib.hid (hown.alloc (.cells #[.int .i64 4, .string (ByteArray.mk #[]), .int .i64 0, .int .i64 n, .int .i64 ((last : Int) + 1)] 34))
            have HX := Lib.hid (fun b (e : u7.ownBlock = some b) => (own_lt hown e).2)
            have hsz := hbw.size
            obtain ⟨a7, cap7, e7, -⟩ := own_slice hown
            subst e7
            clear hown hbw
            go_wp2_with (at_builtin; refine wpList_append_own _ rfl _ _ 29 rfl w.heap.size 34 i0 _ 5 48 Tryd.underlying29 hi0 hz0 hz1' hz2 rfl (by decide) (.slice a7 out.length cap7) out.length (ET.row out) rfl (by exact HO.out) ⟨wr.heap.size, 0, none⟩ 1 1 [.int .i64 4, .string (ByteArray.mk #[]), .int .i64 0, .int .i64 n, .int .i64 ((last : Int) + 1)] rfl (by rfl) (World.news_of_block (cs := #[.int .i64 4, .string (ByteArray.mk #[]), .int .i64 0, .int .i64 n, .int .i64 ((last : Int) + 1)]) (t := 34) (fr := (0, 0)) (Blk.new' (by simp))) (by simp [Value.oneCell']) (by unfold maxLen; omega) (by omega) (by simp; omega) ?_; intro sv2 w2 hown2 hgrow _)
            refine bodyPost_ret (results_tmp3 rfl _ _ _) rfl ?_
            unfold RefLine
            rw [HE.out, fin_some hl1]
            exact ⟨_, rfl, by rw [List.length_append, ET_snoc]; exact hown2, (Q.alloc HB.out _).grown hgrow (by simp; omega) (fun g hg => HX.out g hg)⟩
        · have b35 : ((s[at_].toNat : Int) == 35) = false := by rw [beq_eq_false_iff_ne]; omega
          have b35' : ((s[at_].toNat : Int) != 35) = true := by simp; omega
          by_cases hbl : s[at_].toNat = 32 ∨ s[at_].toNat = 9
          · have HBL := Lib.hid hbl
            have hbb : ((s[at_].toNat : Int) == 32) = true ∨ (((s[at_].toNat : Int) == 32) = false ∧ ((s[at_].toNat : Int) == 9) = true) := by
              rcases hbl with h | h
              · exact .inl (by rw [beq_iff_eq]; omega)
              · exact .inr ⟨by rw [beq_eq_false_iff_ne]; omega, by rw [beq_iff_eq]; omega⟩
            clear hbl h35
            rcases hbb with c1 | ⟨c1, c2⟩
            all_goals
              have HB := Lib.hid hbw
              have HO := Lib.hid hown
              clear hown hbw
              go_wp2_with fail
              refine ⟨⟨at_ + 1, last, out, by go_num, rfl, by omega, by omega, by omega, Lib.hid (by have h := HT.out; rw [HF.out, sc_blank HBL.out] at h; exact h), HO.out, HB.out⟩, by simp [intOf]; omega⟩
          · have c1 : ((s[at_].toNat : Int) == 32) = false := by rw [beq_eq_false_iff_ne]; omega
            have c2 : ((s[at_].toNat : Int) == 9) = false := by rw [beq_eq_false_iff_ne]; omega
            cases ho : one (from_ s at_) with
            | bad c =>
              have NB := fun V => one_bad V s at_ hk (by omega) c ho
              have HE := Lib.hid (show FIN = .bad ((at_ : Int) + 1) c from by have h := HT.out; rw [HF.out, sc_bad h35 hbl (by rw [← HF.out]; exact ho)] at h; exact h.symm)
              have hc0 : ((c : Int) == 0) = false := by rw [beq_eq_false_iff_ne]; exact bad_pos (by rw [← from_lt hk]; exact ho)
              have HB := Lib.hid hbw
              clear hown hbw h35 hbl ho
              go_wp2_with (go_at_call 31; (with_reducible refine (NB _).mono ?_); rintro e w1 ⟨rfl, hb1⟩; obtain ⟨hc1, hf1, hz1⟩ := bcell hb1)
              refine bodyPost_ret (results_tmp3 rfl _ _ _) rfl ?_
              unfold RefLine
              rw [HE.out]
              exact ⟨rfl, Q.alloc (Q.call HB.out hb1) _⟩
            | ok kk t v r =>
              have NO := fun V => one_ok V s at_ hk (by omega) kk v t r ho
              have hr0 : r.length < (from_ s at_).length := by rw [HF.out] at ho ⊢; exact one_len ho
              have hsf : r = (from_ s at_).drop ((from_ s at_).length - r.length) := by rw [HF.out] at ho ⊢; exact one_suffix ho
              have hfl := from_len s at_
              have hbk := from_back hsf (by omega) (by omega)
              have HT2 := Lib.hid (show sc n (from_ s (s.size - r.length)) (s.size - r.length) (s.size - r.length) (out ++ [⟨kk, t, v, n, at_ + 1⟩]) = FIN from by
                have h := HT.out
                rw [HF.out, sc_ok h35 hbl (by rw [← HF.out]; exact ho), ← HF.out, hfl, show at_ + (s.size - at_ - r.length) = s.size - r.length by omega] at h
                rw [hbk]; exact h)
              have HB := Lib.hid hbw
              have HO := Lib.hid hown
              have HX := Lib.hid (fun b (e : u7.ownBlock = some b) => (own_lt hown e).2)
              have hsz := hbw.size
              obtain ⟨nx, hnx⟩ : ∃ nx, nx = s.size - r.length := ⟨_, rfl⟩
              rw [← hnx] at HT2 NO
              have hn1 : at_ < nx := by omega
              have hn2 : nx ≤ s.size := by omega
              clear hown hbw h35 hbl ho hr0 hsf hbk hnx hfl
              go_wp2_with (first
                | (go_at_call 31; (with_reducible refine (NO _).mono ?_); rintro e w1 ⟨rfl, hb1⟩; obtain ⟨hc1, hf1, hz1⟩ := bcell hb1; have B1 := Lib.hid (Q.call HB.out hb1); have S1 := hb1.size; have O1 := Lib.hid (own_call HO.out hb1))
                | (at_builtin; refine wpList_append_own _ rfl _ _ 29 rfl w.heap.size 34 i0 _ 5 48 Tryd.underlying29 hi0 hz0 hz1' hz2 rfl (by decide) u7 out.length (ET.row out) rfl (by exact (O1.out.alloc _).alloc _) ⟨(w1.heap.size + 1), 0, none⟩ 1 1 [.int .i64 kk, .string (str t), .int .i64 v, .int .i64 n, .int .i64 ((at_ : Int) + 1)] rfl (by rfl) (World.news_of_block (cs := #[.int .i64 kk, .string (str t), .int .i64 v, .int .i64 n, .int .i64 ((at_ : Int) + 1)]) (t := 34) (fr := (0, 0)) (Blk.new' (by simp))) (by simp [Value.oneCell']) (by unfold maxLen; omega) (by omega) (by simp; omega) ?_; intro sv2 w2 hown2 hgrow _))
              refine ⟨⟨nx, nx, out ++ [⟨kk, t, v, n, at_ + 1⟩], rfl, rfl, by omega, by omega, by simp; omega, HT2, by rw [List.length_append, ET_snoc]; exact hown2, (Q.alloc (Q.alloc B1.out _) _).grown hgrow (by simp; omega) (fun g hg => HX.out g hg)⟩, by simp [intOf]; omega⟩
end Go.Proofs.YtlmcdbegnjikdaaDoor
