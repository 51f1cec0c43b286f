/- The document's lexer: a text. (printed by gen/lx22.py) -/
import Derived.Test.YtlmcdbegnjikdaaDoorLx21
import Derived.Test.YtlmcdbegnjikdaaDoorLx16
namespace Go.Proofs.YtlmcdbegnjikdaaDoor
set_option linter.unusedVariables false
set_option linter.unusedSimpArgs false
open Go.RowKit
attribute [local go_sem ↓] Go.wp_at_zero Go.wp_at_succ

/-- What the document's Scan answers. -/
def RefText (w : World) (res : RT) (e : Ending) (w' : World) : Prop :=
  match res with
  | .bad l c er => e = .returned (.tuple #[.slice none 0 0, .agg #[.int .i64 l, .int .i64 c], .int .i64 er]) ∧ Below w.heap.size w w'
  | .ok l => ∃ sv, e = .returned (.tuple #[sv, .agg #[.int .i64 0, .int .i64 0], .int .i64 0]) ∧ w'.ownsRow w.heap.size 34 5 sv l.length (ET.row l) ∧ Below w.heap.size w w'
theorem refline_bad (w : World) (s : ByteArray) (n c er : Int) (h : lineT n s.data.toList = .bad c er) :
    Calls Tryd.prog 17 #[.string s, .int .i64 n] w fun e w' => e = .returned (.tuple #[.slice none 0 0, .int .i64 c, .int .i64 er]) ∧ Below w.heap.size w w' :=
  (refline_eq w s n).mono fun e w' hp => by unfold RefLine at hp; rw [h] at hp; exact hp
theorem refline_ok (w : World) (s : ByteArray) (n : Int) (l : List Tok) (h : lineT n s.data.toList = .ok l) :
    Calls Tryd.prog 17 #[.string s, .int .i64 n] w fun e w' => ∃ sv, e = .returned (.tuple #[sv, .int .i64 0, .int .i64 0]) ∧ w'.ownsRow w.heap.size 34 5 sv l.length (ET.row l) ∧ Below w.heap.size w w' :=
  (refline_eq w s n).mono fun e w' hp => by unfold RefLine at hp; rw [h] at hp; exact hp
theorem rtext_ret {W : World} {b : Nat} {x y er : Int} {v : Value} {tmps : Array Value} {R : Ending → World → Prop} (h2 : tmps.getD 2 undef = v) (h3 : tmps.getD 3 undef = .pointer (some ⟨b, 0, none⟩)) (h4 : tmps.getD 4 undef = .int .i64 er) (hx : Blk W b 30 #[.int .i64 x, .int .i64 y])
    (hR : R (.returned (.tuple #[v, .agg #[.int .i64 x, .int .i64 y], .int .i64 er])) W) : bodyPost Tryd.prog Tryd.f9 R .ret { tmps := tmps, defers := [] } W := by
  refine bodyPost_ret ?_ rfl hR
  have h2' : tmps[2]?.getD undef = v := by simpa using h2
  have h3' : tmps[3]?.getD undef = .pointer (some ⟨b, 0, none⟩) := by simpa using h3
  have h4' : tmps[4]?.getD undef = .int .i64 er := by simpa using h4
  have c0 := hx.cell 0
  have c1 := hx.cell 1
  simp [results, Tryd.results9, go_sem, h2', h3', h4', c0, c1]
theorem rres_done {w V : World} (x y : Int) (hb : Below w.heap.size w V) (res : Blk V w.heap.size 30 #[.int .i64 0, .int .i64 0]) :
    (V.setCell ⟨w.heap.size, 0, none⟩ (.int .i64 x)).setCell ⟨w.heap.size, 1, none⟩ (.int .i64 y) = V.setRow w.heap.size #[.int .i64 x, .int .i64 y] ∧
    Blk (V.setRow w.heap.size #[.int .i64 x, .int .i64 y]) w.heap.size 30 #[.int .i64 x, .int .i64 y] ∧ Below w.heap.size w (V.setRow w.heap.size #[.int .i64 x, .int .i64 y]) :=
  ⟨by rw [res.setCell, res.setCell_setRow]; rfl, res.setRow _, below_setRow hb (Nat.le_refl _) _⟩
/-- At the head of the loop over bytes. -/
structure RxW (w : World) (s : ByteArray) (FIN : RT) (i fr : Nat) (n : Int) (out : List Tok) (sv : Value) (wr : World) : Prop where
  le : i ≤ s.size + 1
  fl : fr ≤ i
  toks : (i ≤ s.size ∧ scan n (lines (from_ s fr)) out = FIN ∧ (10 : UInt8) ∉ (from_ s fr).take (i - fr)) ∨ (i = s.size + 1 ∧ FIN = .ok out)
  len : out.length ≤ 1001 * fr
  num : 1 ≤ n ∧ n ≤ fr + 1
  own : wr.ownsRow (w.heap.size + 1) 34 5 sv out.length (ET.row out)
  res : Blk wr w.heap.size 30 #[.int .i64 0, .int .i64 0]
  blo : Below w.heap.size w wr
/-- The line that ends here. -/
theorem line_here {s : ByteArray} {i fr : Nat} (hf : fr ≤ i) (hi : i ≤ s.size) (hn : (10 : UInt8) ∉ (from_ s fr).take (i - fr)) :
    (i = s.size → lines (from_ s fr) = [(from_ s fr).take (i - fr)]) ∧ (∀ h : i < s.size, s[i].toNat = 10 → lines (from_ s fr) = (from_ s fr).take (i - fr) :: lines (from_ s (i + 1))) := by
  have hl := from_len s fr
  refine ⟨fun h => ?_, fun h hc => ?_⟩
  · have e : (from_ s fr).take (i - fr) = from_ s fr := List.take_of_length_le (by omega)
    rw [e] at hn ⊢
    exact lines_plain hn
  · have e : from_ s fr = (from_ s fr).take (i - fr) ++ 10 :: from_ s (i + 1) := by
      have e1 : (from_ s fr).drop (i - fr) = from_ s i := by
        unfold from_
        rw [List.drop_drop, show fr + (i - fr) = i by omega]
      have e2 := from_lt h
      rw [show s[i] = 10 from UInt8.toNat_inj.1 hc] at e2
      rw [← e2, ← e1, List.take_append_drop]
    have := lines_cut (y := from_ s (i + 1)) hn
    rw [← e] at this
    exact this
theorem take_next {s : ByteArray} {i fr : Nat} (hf : fr ≤ i) (hi : i < s.size) : (from_ s fr).take (i + 1 - fr) = (from_ s fr).take (i - fr) ++ [s[i]] := by
  have e1 : (from_ s fr).drop (i - fr) = from_ s i := by
    unfold from_
    rw [List.drop_drop, show fr + (i - fr) = i by omega]
  rw [show i + 1 - fr = (i - fr) + 1 by omega, List.take_add_one]
  congr 1
  have : (from_ s fr)[i - fr]? = (from_ s i)[0]? := by rw [← e1, List.getElem?_drop, Nat.add_zero]
  rw [this, from_lt hi]; rfl
set_option maxRecDepth 100000 in
set_option maxHeartbeats 6400000 in
theorem reftext_eq (w : World) (s : ByteArray) (hs : s.size ≤ 65536) : Calls Tryd.prog 9 #[.string s] w (RefText w (text s.data.toList)) := by
  obtain ⟨FIN, HFI⟩ : ∃ FIN, FIN = text s.data.toList := ⟨_, rfl⟩
  rw [← HFI]
  have HFI2 := Lib.hid HFI
  clear HFI
  obtain ⟨i0, hi0, hz0, hz1', hz2⟩ := info_parts rtok_info
  go_enter Tryd.func9, Tryd.ntmps9
  go_wp2_with fail
  go_loopw [5, 6, 7, 8] (fun ov nv fv iv wr => ∃ (i fr : Nat) (n : Int) (out : List Tok), iv = .int .i64 (i : Int) ∧ fv = .int .i64 (fr : Int) ∧ nv = .int .i64 n ∧ Hid (RxW w s FIN i fr n out ov wr)) (fun _ _ _ iv _ => s.size + 1 - (intOf iv).toNat)
  case atStart => exact ⟨0, 0, 1, [], rfl, rfl, rfl, Lib.hid ⟨by omega, Nat.le_refl _, .inl ⟨Nat.zero_le _, HFI2.out.symm, by simp⟩, by simp, by omega, World.ownsRow_nil _ _ _ _, Blk.new _ _ _, Q.alloc (Below.refl _ _) _⟩⟩
  case round =>
    obtain ⟨i, fr, n, out, rfl, rfl, rfl, HS⟩ := hrel
    clear HFI2
    have hle := HS.out.le
    have hfl := HS.out.fl
    have hnum := HS.out.num
    have hlen := HS.out.len
    obtain ⟨hn1, hn2⟩ := hnum
    by_cases hk : i ≤ s.size
    · have hki : (i : Int) ≤ (s.size : Int) := by omega
      obtain ⟨ht1, ht2⟩ := (HS.out.toks.resolve_right (by omega)).2
      have HT1 := Lib.hid ht1
      have HT2 := Lib.hid ht2
      clear ht1 ht2
      by_cases hgo : ∃ h : i < s.size, s[i].toNat ≠ 10
      · obtain ⟨hlt, hc⟩ := hgo
        have hlti : (i : Int) < (s.size : Int) := by omega
        have hce : ((s[i].toNat : Int) != 10) = true := by simp; omega
        have HC := Lib.hid hc
        clear hc
        go_wp2_with fail
        refine ⟨⟨i + 1, fr, n, out, by go_num, rfl, rfl, Lib.hid ⟨by omega, by omega, .inl ⟨by omega, HT1.out, ?_⟩, HS.out.len, HS.out.num, HS.out.own, HS.out.res, HS.out.blo⟩⟩, by simp [intOf]; omega⟩
        rw [take_next hfl hlt]
        intro hm
        rcases List.mem_append.1 hm with hm | hm
        · exact HT2.out hm
        · simp at hm
          exact HC.out (by rw [← hm]; rfl)
      · have hstop : i = s.size ∨ ∃ h : i < s.size, s[i].toNat = 10 := by
          by_cases h : i < s.size
          · exact .inr ⟨h, by by_cases h2 : s[i].toNat = 10; exact h2; exact absurd ⟨h, h2⟩ hgo⟩
          · exact .inl (by omega)
        obtain ⟨tl, htl⟩ : ∃ tl, lines (from_ s fr) = (from_ s fr).take (i - fr) :: tl := by
          rcases hstop with h | ⟨h, h2⟩
          · exact ⟨_, (line_here hfl hk HT2.out).1 h⟩
          · exact ⟨_, (line_here hfl hk HT2.out).2 h h2⟩
        have htl2 : (i = s.size → tl = []) ∧ (∀ h : i < s.size, s[i].toNat = 10 → tl = lines (from_ s (i + 1))) := by
          refine ⟨fun h => ?_, fun h h2 => ?_⟩
          · have := (line_here hfl hk HT2.out).1 h; rw [htl] at this; injection this
          · have := (line_here hfl hk HT2.out).2 h h2; rw [htl] at this; injection this
        have HTL := Lib.hid htl
        have HTL2 := Lib.hid htl2
        obtain ⟨x, hx⟩ : ∃ x, x = s.extract fr i := ⟨_, rfl⟩
        have hxd : x.data.toList = (from_ s fr).take (i - fr) := by rw [hx, extract_str s fr i hk]; rfl
        have HXD := Lib.hid hxd
        have HX := Lib.hid hx
        have z1 : (fr : Int) ≤ (i : Int) := by omega
        have HST := Lib.hid hstop
        have hbb : (i = s.size ∧ ¬ (i : Int) < (s.size : Int)) ∨ ∃ h : i < s.size, (i : Int) < (s.size : Int) ∧ ((s[i].toNat : Int) != 10) = false := by
          rcases hstop with h | ⟨h, h2⟩
          · exact .inl ⟨h, by omega⟩
          · exact .inr ⟨h, by omega, by simp; omega⟩
        have hi2 : s.size + 1 - (i + 1) < s.size + 1 - i := by omega
        clear hgo hstop htl htl2 hx hxd
        cases hL : lineT n x.data.toList with
        | bad c er =>
          have NB := fun V => refline_bad V x n c er hL
          rw [HX.out] at NB
          have HE := Lib.hid (show FIN = .bad n c er from by rw [← HT1.out, HTL.out, scan_bad (by rw [← HXD.out]; exact hL)])
          have hc0 : ((er : Int) == 0) = false := by rw [beq_eq_false_iff_ne]; exact lineT_bad hL
          clear hL
          rcases hbb with ⟨g1, g2⟩ | ⟨g1, g2, g3⟩
          all_goals
            have G := Lib.hid g1
            (try clear g1)
            go_wp2_with (go_at_call 17; (with_reducible refine (NB _).mono ?_); rintro e w1 ⟨rfl, hb1⟩; refine Hid.out ?_)
            refine Lib.hid ?_
            have RES := HS.out.res.call hb1
            have r0 := RES.cell 0
            have r1 := RES.cell 1
            have r2 := RES.frozen 0
            have r3 := RES.frozen 1
            have HRES := Lib.hid RES
            have HB1 := Lib.hid hb1
            clear RES hb1
            go_wp2_with fail
            obtain ⟨e1, e2, e3⟩ := rres_done (V := w1) n c (Q.call HS.out.blo HB1.out) HRES.out
            rw [e1]
            refine rtext_ret rfl rfl rfl e2 ?_
            unfold RefText
            rw [HE.out]
            exact ⟨rfl, e3⟩
        | ok toks =>
          have NO := fun V => refline_ok V x n toks hL
          rw [HX.out] at NO
          have HT3 := Lib.hid (show scan (n + 1) tl (out ++ toks) = FIN from by rw [← HT1.out, HTL.out, scan_ok (by rw [← HXD.out]; exact hL)])
          have TK := Lib.hid (show (i + 1 ≤ s.size ∧ scan (n + 1) (lines (from_ s (i + 1))) (out ++ toks) = FIN ∧ (10 : UInt8) ∉ (from_ s (i + 1)).take (i + 1 - (i + 1))) ∨ (i + 1 = s.size + 1 ∧ FIN = .ok (out ++ toks)) from by
            rcases HST.out with h | ⟨h, h2⟩
            · have e := HTL2.out.1 h
              subst e
              exact .inr ⟨by omega, by rw [← HT3.out]; rfl⟩
            · have e := HTL2.out.2 h h2
              subst e
              exact .inl ⟨by omega, HT3.out, by simp⟩)
          have htk := lineT_len hL
          have HOL := Lib.hid (fun b (e : u5.ownBlock = some b) => (own_lt HS.out.own e).2)
          clear hL
          rcases hbb with ⟨g1, g2⟩ | ⟨g1, g2, g3⟩
          all_goals
            have G := Lib.hid g1
            (try clear g1)
            go_wp2_with (go_at_call 17; (with_reducible refine (NO _).mono ?_); rintro e w1 ⟨sv1, rfl, hown1, hb1⟩; refine Hid.out ?_)
            refine Lib.hid ?_
            have RD : Rd ET w1 (fun _ => True) sv1 toks := Ow.rd (T := 34) (S := fun _ => True) ⟨own_lower hown1 (Nat.zero_le _), fun _ _ => trivial⟩
            have SRC := Lib.hid RD.src
            have OWN := Lib.hid (own_call HS.out.own hb1)
            have HB1 := Lib.hid hb1
            have s0 := HS.out.res.lt
            have s1 := hb1.size
            clear RD hown1 hb1
            go_wp2_with (at_builtin; refine wpList_append_src rfl _ _ 29 rfl (w.heap.size + 1) 34 i0 _ 5 48 Tryd.underlying29 hi0 hz0 hz1' hz2 rfl (by decide) u5 out.length (ET.row out) rfl OWN.out _ toks.length (ET.row toks) rfl SRC.out (ET.row_length _) (ET.row_one _) (by unfold maxLen; omega) (by omega) (by omega) ?_; intro sv2 w2 hown2 hgrow)
            have s2 := hgrow.size
            refine ⟨⟨i + 1, i + 1, n + 1, out ++ toks, by go_num, by go_num, rfl, Lib.hid ⟨by omega, Nat.le_refl _, TK.out, by simp; omega, by omega, by rw [List.length_append, ET.row_append]; exact hown2, ?_, ?_⟩⟩, by simp [intOf] <;> omega⟩
            · exact (hgrow.block _ (by omega) (fun e => by have := HOL.out _ e.symm; omega)).trans (HS.out.res.call HB1.out)
            · exact (Q.call HS.out.blo HB1.out).grown hgrow (by omega) (fun g hg => by have := HOL.out _ hg; omega)
    · have hki : ¬ (i : Int) ≤ (s.size : Int) := by omega
      have HE := Lib.hid ((HS.out.toks.resolve_left (by omega)).2)
      have RES := HS.out.res
      have r0 := RES.cell 0
      have r1 := RES.cell 1
      have r2 := RES.frozen 0
      have r3 := RES.frozen 1
      have HRES := Lib.hid RES
      clear RES
      go_wp2_with fail
      obtain ⟨e1, e2, e3⟩ := rres_done (V := wr) 0 0 HS.out.blo HRES.out
      rw [e1]
      refine rtext_ret rfl rfl rfl e2 ?_
      unfold RefText
      rw [HE.out]
      exact ⟨_, rfl, own_lower (own_keep HS.out.own (fun b hb _ => setRow_other wr _ b _ (fun e => by have := (own_lt HS.out.own hb).2; omega)) (by simp)) (by omega), e3⟩
end Go.Proofs.YtlmcdbegnjikdaaDoor
