/- The lexer: a text. (printed by gen/lx12.py) -/
import Derived.Test.YtlmcdbegnjikdaaDoorLx10
import Derived.Test.YtlmcdbegnjikdaaDoorLx11
import Derived.Test.YtlmcdbegnjikdaaDoorShp
namespace Go.Proofs.YtlmcdbegnjikdaaDoor
set_option linter.unusedVariables false
set_option linter.unusedSimpArgs false
open Go.RowKit
attribute [local go_sem ↓] Go.wp_at_zero Go.wp_at_succ

/-- What Scan answers. -/
def TextPost (w : World) (res : RT) (e : Ending) (w' : World) : Prop :=
  match res with
  | .bad l c er => e = .returned (.tuple #[.slice none 0 0, .agg #[.int .i64 l, .int .i64 c], .int .i64 er]) ∧ Below w.heap.size w w'
  | .ok l => ∃ sv, e = .returned (.tuple #[sv, .agg #[.int .i64 0, .int .i64 0], .int .i64 0]) ∧ w'.ownsRow w.heap.size 37 5 sv l.length (ET.row l) ∧ Below w.heap.size w w'
theorem from_zero (s : ByteArray) : from_ s 0 = s.data.toList := rfl
theorem lineT_short {n : Int} {l : By} (h : l.length ≤ 1000) : lineT n l = sc n l 0 0 [] := if_neg (by omega)
theorem lineT_long {n : Int} {l : By} (h : 1000 < l.length) : lineT n l = .bad 1001 12 := if_pos h
theorem scan_bad {n : Int} {l : By} {ls : List By} {out : List Tok} {c e : Int} (h : lineT n l = .bad c e) : scan n (l :: ls) out = .bad n c e := by rw [scan, h]
theorem scan_ok {n : Int} {l : By} {ls : List By} {out x : List Tok} (h : lineT n l = .ok x) : scan n (l :: ls) out = scan (n + 1) ls (out ++ x) := by rw [scan, h]
theorem lineT_bad {n : Int} {l : By} {c e : Int} (h : lineT n l = .bad c e) : e ≠ 0 := by
  unfold lineT at h
  split at h
  · injection h with _ h; omega
  · have key : ∀ (m : Nat) (l : By) (a last : Nat) (out : List Tok), l.length ≤ m → sc n l a last out = .bad c e → e ≠ 0 := by
      intro m
      induction m with
      | zero =>
        intro l a last out hl h
        have : l = [] := List.eq_nil_of_length_eq_zero (by omega)
        subst this; cases h
      | succ m ih =>
        intro l a last out hl h
        cases l with
        | nil => cases h
        | cons b l =>
          simp only [List.length_cons] at hl
          by_cases h35 : b.toNat = 35
          · rw [sc_hash h35] at h; cases h
          · by_cases hb : b.toNat = 32 ∨ b.toNat = 9
            · rw [sc_blank hb] at h; exact ih l _ _ _ (by omega) h
            · cases ho : one (b :: l) with
              | bad e' => rw [sc_bad h35 hb ho] at h; injection h with _ h; subst h; exact bad_pos ho
              | ok k t v r =>
                rw [sc_ok h35 hb ho] at h
                have hr := one_len ho
                simp only [List.length_cons] at hr
                exact ih r _ _ _ (by omega) h
    exact key _ l 0 0 [] (Nat.le_refl _) h
theorem drop_at {α : Type} {l : List α} {k : Nat} {x : α} (h : l[k]? = some x) : l.drop k = x :: l.drop (k + 1) := by
  obtain ⟨hk, rfl⟩ := List.getElem?_eq_some_iff.1 h
  exact List.drop_eq_getElem_cons hk
theorem scan_line (w : World) (g : Nat) (s : ByteArray) (n : Int) (hb : Blk w g 51 #[.string s, .int .i64 n, .int .i64 0, .slice none 0 0]) (hs : s.size ≤ 1000) :
    Calls Tryd.prog 16 #[.pointer (some ⟨g, 0, none⟩)] w (ScanPost w g s n (lineT n s.data.toList)) := by
  rw [lineT_short (by simpa using hs)]
  exact scan_eq w g s n hb hs
theorem scanPost_bad {w w' : World} {g : Nat} {s : ByteArray} {n : Int} {l : By} {e : Ending} {c er : Int} (h : ScanPost w g s n (lineT n l) e w') (hL : lineT n l = .bad c er) : e = .returned (.tuple #[.agg #[.int .i64 n, .int .i64 c], .int .i64 er]) ∧ Chg (· = g) w w' := by
  rw [hL] at h; exact h
theorem scanPost_ok {w w' : World} {g : Nat} {s : ByteArray} {n : Int} {l : By} {e : Ending} {x : List Tok} (h : ScanPost w g s n (lineT n l) e w') (hL : lineT n l = .ok x) : e = .returned (.tuple #[.agg #[.int .i64 0, .int .i64 0], .int .i64 0]) ∧ ∃ k sv, Blk w' g 51 #[.string s, .int .i64 n, k, sv] ∧ w'.ownsRow w.heap.size 37 5 sv x.length (ET.row x) ∧ Chg (· = g) w w' := by
  rw [hL] at h; exact h
theorem scan_line_bad (w : World) (g : Nat) (s : ByteArray) (n c er : Int) (hb : Blk w g 51 #[.string s, .int .i64 n, .int .i64 0, .slice none 0 0]) (hs : s.size ≤ 1000) (hL : lineT n s.data.toList = .bad c er) :
    Calls Tryd.prog 16 #[.pointer (some ⟨g, 0, none⟩)] w fun e w' => e = .returned (.tuple #[.agg #[.int .i64 n, .int .i64 c], .int .i64 er]) ∧ Chg (· = g) w w' :=
  (scan_line w g s n hb hs).mono fun _ _ h => scanPost_bad h hL
theorem scan_line_ok (w : World) (g : Nat) (s : ByteArray) (n : Int) (x : List Tok) (hb : Blk w g 51 #[.string s, .int .i64 n, .int .i64 0, .slice none 0 0]) (hs : s.size ≤ 1000) (hL : lineT n s.data.toList = .ok x) :
    Calls Tryd.prog 16 #[.pointer (some ⟨g, 0, none⟩)] w fun e w' => e = .returned (.tuple #[.agg #[.int .i64 0, .int .i64 0], .int .i64 0]) ∧ ∃ k sv, Blk w' g 51 #[.string s, .int .i64 n, k, sv] ∧ w'.ownsRow w.heap.size 37 5 sv x.length (ET.row x) ∧ Chg (· = g) w w' :=
  (scan_line w g s n hb hs).mono fun _ _ h => scanPost_ok h hL
theorem text_ret {W : World} {b : Nat} {x y er : Int} {v : Value} {tmps : Array Value} {R : Ending → World → Prop} (h2 : tmps.getD 2 undef = v) (h3 : tmps.getD 3 undef = .pointer (some ⟨b, 0, none⟩)) (h4 : tmps.getD 4 undef = .int .i64 er) (hx : Blk W b 25 #[.int .i64 x, .int .i64 y])
    (hR : R (.returned (.tuple #[v, .agg #[.int .i64 x, .int .i64 y], .int .i64 er])) W) : bodyPost Tryd.prog Tryd.f8 R .ret { tmps := tmps, defers := [] } W := by
  refine bodyPost_ret ?_ rfl hR
  have h2' : tmps[2]?.getD undef = v := by simpa using h2
  have h3' : tmps[3]?.getD undef = .pointer (some ⟨b, 0, none⟩) := by simpa using h3
  have h4' : tmps[4]?.getD undef = .int .i64 er := by simpa using h4
  have c0 := hx.cell 0
  have c1 := hx.cell 1
  simp [results, Tryd.results8, go_sem, h2', h3', h4', c0, c1]
/-- Behind the last store. -/
theorem res_done {w V : World} (x y : Int) (hb : Below w.heap.size w V) (res : Blk V w.heap.size 25 #[.int .i64 0, .int .i64 0]) :
    (V.setCell ⟨w.heap.size, 0, none⟩ (.int .i64 x)).setCell ⟨w.heap.size, 1, none⟩ (.int .i64 y) = V.setRow w.heap.size #[.int .i64 x, .int .i64 y] ∧
    Blk (V.setRow w.heap.size #[.int .i64 x, .int .i64 y]) w.heap.size 25 #[.int .i64 x, .int .i64 y] ∧ Below w.heap.size w (V.setRow w.heap.size #[.int .i64 x, .int .i64 y]) :=
  ⟨by rw [res.setCell, res.setCell_setRow]; rfl, res.setRow _, below_setRow hb (Nat.le_refl _) _⟩
/-- At the head of the loop over lines. -/
structure TxW (w : World) (ls : List By) (ps : List ByteArray) (FIN : RT) (k : Nat) (out : List Tok) (sv : Value) (wr : World) : Prop where
  le : k ≤ ls.length
  toks : scan ((k : Int) + 1) (ls.drop k) out = FIN
  len : out.length ≤ 1001 * k
  own : wr.ownsRow (w.heap.size + 2) 37 5 sv out.length (ET.row out)
  res : Blk wr w.heap.size 25 #[.int .i64 0, .int .i64 0]
  pcs : Blk wr (w.heap.size + 1) 9 (ps.map Value.string).toArray
  blo : Below w.heap.size w wr
theorem split_eq (s : ByteArray) (m : Int) (ps : List ByteArray) (hps : ps = Lib.splitB ⟨#[10]⟩ 0 (Lib.countB s ⟨#[10]⟩) s) (w : World) (hs : s.size < 4294967281) (hm : w.cell? ⟨0, 0, none⟩ = some (.int .i64 m)) :
    Calls Tryd.prog 15 #[.string s, .string ⟨#[10]⟩] w fun e w' => e = .returned (.slice (some ⟨w.heap.size, 0, none⟩) (Lib.countB s ⟨#[10]⟩ + 1) (Lib.countB s ⟨#[10]⟩ + 1)) ∧ w.alloc (.cells (ps.map Value.string).toArray 9) = w' := by
  subst hps
  refine (Any.strings_Split Tryd.lays146 (by kernel_rfl) s ⟨#[10]⟩ m w hs hm (by decide)).mono fun e w' ⟨h1, h2⟩ => ⟨h1, h2.symm⟩
set_option maxRecDepth 100000 in
set_option maxHeartbeats 6400000 in
theorem text_eq (w : World) (s : ByteArray) (m : Int) (hm : w.cell? ⟨0, 0, none⟩ = some (.int .i64 m)) (hs : s.size ≤ 65536) :
    Calls Tryd.prog 8 #[.string s] w (TextPost w (text s.data.toList)) := by
  obtain ⟨FIN, HFI⟩ : ∃ FIN, FIN = text s.data.toList := ⟨_, rfl⟩
  rw [← HFI]
  obtain ⟨ps, hps⟩ : ∃ ps, ps = Lib.splitB ⟨#[10]⟩ 0 (Lib.countB s ⟨#[10]⟩) s := ⟨_, rfl⟩
  have HPS := split_lines s
  rw [← hps] at HPS
  have hpl : ps.length = (lines s.data.toList).length := by rw [← HPS, List.length_map]
  have hlc : Lib.countB s ⟨#[10]⟩ + 1 = ps.length := by rw [hps]; exact (Lib.splitB_all ⟨#[10]⟩ (by decide) 0 _ s rfl).symm
  have hcnt := lines_count s.data.toList
  have hsz : s.data.toList.length = s.size := by simp
  have hlt0 : 0 < w.heap.size := World.block_lt_of_cell? w _ hm |> fun h => by have := h; omega
  obtain ⟨i0, hi0, hz0, hz1', hz2⟩ := info_parts tok_info
  have SP := fun (V : World) (hV : Below w.heap.size w V) => split_eq s m ps hps V (by omega) ((hV.cell (p := ⟨0, 0, none⟩) (World.block_lt_of_cell? w _ hm)).trans hm)
  rw [hlc] at SP
  have hlt1 : 0 < ps.length := by omega
  generalize hls : lines s.data.toList = ls at *
  have hFI : FIN = scan ((0 : Nat) + 1 : Int) ls [] := by rw [HFI]; unfold text; rw [hls]; rfl
  have HFI2 := Lib.hid hFI
  have HP := Lib.hid HPS
  clear hps hlc hm HFI hFI HPS hls
  go_enter Tryd.func8, Tryd.ntmps8
  go_wp2_with (go_at_call 15; (with_reducible refine (SP _ (by repeat' (first | with_reducible exact Below.refl _ _ | with_reducible assumption | with_reducible refine Q.alloc ?_ _ | with_reducible refine Q.drew ?_ | with_reducible refine Q.drewN ?_ _ | with_reducible refine Q.call ?_ (by assumption)))).mono ?_); rintro e w1 ⟨rfl, rfl⟩)
  go_loopw [5, 18] (fun sv i wr => ∃ (k : Nat) (out : List Tok), i = .int .i64 (k : Int) ∧ Hid (TxW w ls ps FIN k out sv wr)) (fun _ i _ => ps.length - (intOf i).toNat)
  case atStart =>
    refine ⟨0, [], rfl, Lib.hid ⟨Nat.zero_le _, HFI2.out.symm, by simp, World.ownsRow_nil _ _ _ _, (Blk.new _ _ _).alloc _, Blk.new' (by simp), Q.alloc (Q.alloc (Below.refl _ _) _) _⟩⟩
  case round =>
    obtain ⟨k, out, rfl, HS⟩ := hrel
    clear HFI2 SP
    have hkl := HS.out.le
    by_cases hk : k < ps.length
    · have hki : (k : Int) < (ps.length : Int) := by omega
      obtain ⟨t, ht⟩ : ∃ t, ps[k]? = some t := ⟨_, List.getElem?_eq_getElem hk⟩
      have hkt : ls[k]? = some t.data.toList := by rw [← HP.out, List.getElem?_map, ht]; rfl
      have htl : t.data.toList.length = t.size := by simp
      have c0 : wr.cell? ⟨w.heap.size + 1, k, none⟩ = some (.string t) := by
        rw [HS.out.pcs.cell k, List.getElem?_toArray, List.getElem?_map, ht]; rfl
      by_cases hlong : 1000 < t.size
      · have hli : (1000 : Int) < (t.size : Int) := by omega
        have HT := HS.out.toks
        rw [drop_at hkt, scan_bad (lineT_long (by omega))] at HT
        replace HT := Lib.hid HT
        have r0 := HS.out.res.cell 0
        have r1 := HS.out.res.cell 1
        have r2 := HS.out.res.frozen 0
        have r3 := HS.out.res.frozen 1
        go_wp2_with fail
        obtain ⟨e1, e2, e3⟩ := res_done (V := wr) ((k : Int) + 1) 1001 (HS.out.blo) (HS.out.res)
        rw [e1]
        refine text_ret rfl rfl rfl e2 ?_
        unfold TextPost
        rw [← HT.out]
        exact ⟨rfl, e3⟩
      · have hli : ¬ (1000 : Int) < (t.size : Int) := by omega
        cases hL : lineT ((k : Int) + 1) t.data.toList with
        | bad c er =>
          have SC := fun V (hV : Blk V wr.heap.size 51 #[.string t, .int .i64 ((k : Int) + 1), .int .i64 0, .slice none 0 0]) => scan_line_bad V wr.heap.size t ((k : Int) + 1) c er hV (by omega) hL
          have hz := lineT_bad hL
          have HT := HS.out.toks
          rw [drop_at hkt, scan_bad hL] at HT
          replace HT := Lib.hid HT
          have er0 : ((er : Int) == 0) = false := by rw [beq_eq_false_iff_ne]; exact hz
          clear hL hz
          go_wp2_with (go_at_call 16; (with_reducible refine (SC _ (Blk.new _ _ _)).mono ?_); rintro e w1 ⟨rfl, hch⟩; refine Hid.out ?_)
          refine Lib.hid ?_
          have hB1 : Below wr.heap.size wr w1 := hch.below (Q.alloc (Below.refl _ _) _) (by simp) (fun b hb => by subst hb; exact Nat.le_refl _)
          have hsz2 : w.heap.size < wr.heap.size := HS.out.res.lt
          have hsz3 : w.heap.size < w1.heap.size := by have := hB1.size; omega
          have r0 := (HS.out.res.call hB1).cell 0
          have r1 := (HS.out.res.call hB1).cell 1
          have r2 := (HS.out.res.call hB1).frozen 0
          have r3 := (HS.out.res.call hB1).frozen 1
          have RES := Lib.hid (HS.out.res.call hB1)
          have BLO := Lib.hid (Q.call HS.out.blo hB1)
          clear hch hB1
          go_wp2_with fail
          go_region
          all_goals
            go_wp2_with fail
            obtain ⟨e1, e2, e3⟩ := res_done (V := w1) ((k : Int) + 1) c BLO.out RES.out
            rw [e1]
            refine text_ret rfl rfl rfl ((e2.alloc _).drew) ?_
            unfold TextPost
            rw [← HT.out]
            exact ⟨rfl, Q.drew (Q.alloc e3 _)⟩
        | ok toks =>
          have SC := fun V (hV : Blk V wr.heap.size 51 #[.string t, .int .i64 ((k : Int) + 1), .int .i64 0, .slice none 0 0]) => scan_line_ok V wr.heap.size t ((k : Int) + 1) toks hV (by omega) hL
          have htk := lineT_len hL
          have hol := HS.out.len
          have HT := HS.out.toks
          rw [drop_at hkt, scan_ok hL] at HT
          replace HT := Lib.hid HT
          clear hL
          go_wp2_with (go_at_call 16; (with_reducible refine (SC _ (Blk.new _ _ _)).mono ?_); rintro e w1 ⟨rfl, kv, sv1, hbk, hown1, hch⟩; refine Hid.out ?_)
          refine Lib.hid ?_
          have hB1 : Below wr.heap.size wr w1 := hch.below (Q.alloc (Below.refl _ _) _) (by simp) (fun b hb => by subst hb; exact Nat.le_refl _)
          have hsz2 : w.heap.size < wr.heap.size := HS.out.res.lt
          have hsz3 : w.heap.size < w1.heap.size := by have := hB1.size; omega
          have hsz4 := hbk.lt
          have d3 := hbk.cell 3
          have hown2 := own_call HS.out.own hB1
          have RD : Rd ET w1 (fun _ => True) sv1 toks := Ow.rd (T := 37) (S := fun _ => True) ⟨own_lower hown1 (Nat.zero_le _), fun _ _ => trivial⟩
          have SRC := Lib.hid ((RD.below (Q.alloc (Below.refl _ _) (.cells #[.int .i64 0, .int .i64 0] 25))).src)
          have OWN := Lib.hid (own_call hown2 (Q.alloc (Below.refl _ _) (.cells #[.int .i64 0, .int .i64 0] 25)))
          have HB1 := Lib.hid hB1
          obtain ⟨a1, cap1, rfl, -⟩ := own_slice hown1
          clear hch hB1 hown1 hown2 RD
          have HOL := Lib.hid (fun b (e : u5.ownBlock = some b) => (own_lt HS.out.own e).2)
          go_wp2_with (at_builtin; refine wpList_append_src rfl _ _ 23 rfl (w.heap.size + 2) 37 i0 _ 5 48 Tryd.underlying23 hi0 hz0 hz1' hz2 rfl (by decide) u5 out.length (ET.row out) rfl OWN.out _ toks.length (ET.row toks) rfl SRC.out (ET.row_length _) (ET.row_one _) (by unfold maxLen; omega) (by omega) (by simp; omega) ?_; intro sv2 w2 hown2 hgrow)
          have BB : Below wr.heap.size wr (w1.alloc (.cells #[.int .i64 0, .int .i64 0] 25)) := Q.alloc HB1.out _
          have hs2 := hgrow.size
          refine ⟨⟨k + 1, out ++ toks, by go_num, Lib.hid ⟨by omega, by rw [show (((k + 1 : Nat) : Int) + 1) = (k : Int) + 1 + 1 by omega]; exact HT.out, by simp; omega, by rw [List.length_append, ET.row_append]; exact hown2, ?_, ?_, ?_⟩⟩, by simp [intOf]; omega⟩
          · exact (hgrow.block _ (by simp; omega) (fun e => by have := HOL.out _ e.symm; omega)).trans (HS.out.res.call BB)
          · exact (hgrow.block _ (by have := HS.out.pcs.lt; have := HB1.out.size; simp; omega) (fun e => by have := HOL.out _ e.symm; omega)).trans (HS.out.pcs.call BB)
          · exact (Q.call HS.out.blo BB).grown hgrow (by simp; omega) (fun g hg => by have := HOL.out _ hg; omega)
    · have hke : ¬ (k : Int) < (ps.length : Int) := by omega
      have HT := HS.out.toks
      rw [List.drop_of_length_le (by omega)] at HT
      replace HT := Lib.hid HT
      have r0 := HS.out.res.cell 0
      have r1 := HS.out.res.cell 1
      have r2 := HS.out.res.frozen 0
      have r3 := HS.out.res.frozen 1
      go_wp2_with fail
      obtain ⟨e1, e2, e3⟩ := res_done (V := wr) 0 0 HS.out.blo HS.out.res
      rw [e1]
      refine text_ret rfl rfl rfl e2 ?_
      unfold TextPost
      rw [← HT.out]
      exact ⟨_, rfl, own_lower (own_keep HS.out.own (fun b hb _ => setRow_other wr _ b _ (fun e => by have := (own_lt HS.out.own hb).2; omega)) (by simp)) (by omega), e3⟩
end Go.Proofs.YtlmcdbegnjikdaaDoor
