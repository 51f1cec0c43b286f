/- Verdicts: the document's text, its walk. (printed by gen/cp5.py) -/
import Derived.Test.YtggnkkmlabhofaaDoorCp4
namespace Go.Proofs.YtggnkkmlabhofaaDoor
set_option linter.unusedVariables false
set_option linter.unusedSimpArgs false
open Go.RowKit
attribute [local go_sem ↓] Go.wp_at_zero Go.wp_at_succ
attribute [local go_sem high] cat_ok

theorem sz_cat (a b : ByteArray) : (a ++ b).size = a.size + b.size := by simp
theorem sz_one (x : UInt8) : (ByteArray.mk #[x]).size = 1 := rfl
theorem base_len (lw : Bool) : (baseT lw).length ≤ 4 := by cases lw <;> decide
theorem pl_len (n : Int) (h1 : n ≤ 9223372036854775807) : (plT n).length ≤ 21 := by
  unfold plT
  split
  · simp
  · have := dec_len n.toNat (by omega)
    simp only [List.length_cons]; omega
set_option maxRecDepth 100000 in
set_option maxHeartbeats 6400000 in
theorem rtext_eq (w : World) (lw : Bool) (n0 n1 : Nat) (y0 y1 ap ou lo wh : Int) (hn0 : n0 ≤ 3) (hn1 : n1 ≤ 3) (hy0 : 0 ≤ y0) (hy1 : 0 ≤ y1) (r0 : y0 ≤ 9223372036854775807) (r1 : y1 ≤ 9223372036854775807) (r2 : ap ≤ 9223372036854775807) (r3 : ou ≤ 9223372036854775807) (r4 : lo ≤ 9223372036854775807) (r5 : wh ≤ 9223372036854775807) :
    Calls Tryd.prog 23 #[.agg #[.bool lw, .int .i64 (n0 : Int), .int .i64 (n1 : Int), .int .i64 y0, .int .i64 y1, .int .i64 ap, .int .i64 ou, .int .i64 lo, .int .i64 wh]] w fun e w' => e = .returned (.string (str (rpc lw n0 n1 y0 y1 ap ou lo wh))) ∧ Below w.heap.size w w' := by
  cases lw
  · skip
    have BB := Lib.hid (Blk.alloc (Blk.new w 36 #[.bool false, .int .i64 (n0 : Int), .int .i64 (n1 : Int), .int .i64 y0, .int .i64 y1, .int .i64 ap, .int .i64 ou, .int .i64 lo, .int .i64 wh]) (.cells #[.string ⟨#[100, 111, 110, 101]⟩, .string ⟨#[104, 97, 108, 116]⟩, .string ⟨#[97, 108, 97, 114, 109]⟩, .string ⟨#[102, 117, 108, 108]⟩] 9))
    have WC := Lib.hid (show ∀ n : Nat, n ≤ 3 → ((w.alloc (.cells #[.bool false, .int .i64 (n0 : Int), .int .i64 (n1 : Int), .int .i64 y0, .int .i64 y1, .int .i64 ap, .int .i64 ou, .int .i64 lo, .int .i64 wh] 36)).alloc (.cells #[.string ⟨#[100, 111, 110, 101]⟩, .string ⟨#[104, 97, 108, 116]⟩, .string ⟨#[97, 108, 97, 114, 109]⟩, .string ⟨#[102, 117, 108, 108]⟩] 9)).cell? ⟨w.heap.size + 1, n, none⟩ = some (.string (str (wordT n))) from fun n hn => by
      have hb : Blk ((w.alloc (.cells #[.bool false, .int .i64 (n0 : Int), .int .i64 (n1 : Int), .int .i64 y0, .int .i64 y1, .int .i64 ap, .int .i64 ou, .int .i64 lo, .int .i64 wh] 36)).alloc (.cells #[.string ⟨#[100, 111, 110, 101]⟩, .string ⟨#[104, 97, 108, 116]⟩, .string ⟨#[97, 108, 97, 114, 109]⟩, .string ⟨#[102, 117, 108, 108]⟩] 9)) (w.heap.size + 1) 9 #[.string ⟨#[100, 111, 110, 101]⟩, .string ⟨#[104, 97, 108, 116]⟩, .string ⟨#[97, 108, 97, 114, 109]⟩, .string ⟨#[102, 117, 108, 108]⟩] := by have := Blk.new (w.alloc (.cells #[.bool false, .int .i64 (n0 : Int), .int .i64 (n1 : Int), .int .i64 y0, .int .i64 y1, .int .i64 ap, .int .i64 ou, .int .i64 lo, .int .i64 wh] 36)) 9 #[.string ⟨#[100, 111, 110, 101]⟩, .string ⟨#[104, 97, 108, 116]⟩, .string ⟨#[97, 108, 97, 114, 109]⟩, .string ⟨#[102, 117, 108, 108]⟩]; simpa using this
      have hc : n = 0 ∨ n = 1 ∨ n = 2 ∨ n = 3 := by omega
      rcases hc with rfl | rfl | rfl | rfl
      · exact hb.cell 0
      · exact hb.cell 1
      · exact hb.cell 2
      · exact hb.cell 3)
    go_enter Tryd.func23, Tryd.ntmps23
    go_wp2_with fail
    go_loopw [3, 5] (fun sv iv wr => ∃ (acc : By), sv = .string (str acc) ∧ Hid (Below (w.heap.size + 2) ((w.alloc (.cells #[.bool false, .int .i64 (n0 : Int), .int .i64 (n1 : Int), .int .i64 y0, .int .i64 y1, .int .i64 ap, .int .i64 ou, .int .i64 lo, .int .i64 wh] 36)).alloc (.cells #[.string ⟨#[100, 111, 110, 101]⟩, .string ⟨#[104, 97, 108, 116]⟩, .string ⟨#[97, 108, 97, 114, 109]⟩, .string ⟨#[102, 117, 108, 108]⟩] 9)) wr) ∧ ((iv = .int .i64 0 ∧ acc = baseT false) ∨ (iv = .int .i64 1 ∧ acc = (baseT false ++ [32] ++ wordT n0 ++ [32] ++ Lib.decDigits y0.toNat)) ∨ (iv = .int .i64 2 ∧ acc = ((baseT false ++ [32] ++ wordT n0 ++ [32] ++ Lib.decDigits y0.toNat) ++ [32] ++ wordT n1 ++ [32] ++ Lib.decDigits y1.toNat)))) (fun _ iv _ => 2 - (intOf iv).toNat)
    case atStart => exact ⟨baseT false, rfl, Lib.hid (Below.refl _ _), .inl ⟨rfl, rfl⟩⟩
    case round =>
      obtain ⟨acc, rfl, HB, hrel⟩ := hrel
      rcases hrel with ⟨f1, f3⟩ | ⟨f1, f3⟩ | ⟨f1, f3⟩
      · subst f1
        obtain ⟨S, hS⟩ : ∃ S, S = str acc := ⟨_, rfl⟩
        rw [← hS]
        have HS := Lib.hid (show S = str (baseT false) from by rw [hS, f3])
        have hz : S.size ≤ 500 := by rw [HS.out, str_size]; unfold baseT; simp
        clear hS f3
        have hw1 := HB.out.size
        have hwz : w.heap.size + 2 ≤ wr.heap.size := by simpa using hw1
        have LL : ∀ (y : BW wr) (b o : Nat) (v : Value), b < w.heap.size + 2 → ((w.alloc (.cells #[.bool false, .int .i64 (n0 : Int), .int .i64 (n1 : Int), .int .i64 y0, .int .i64 y1, .int .i64 ap, .int .i64 ou, .int .i64 lo, .int .i64 wh] 36)).alloc (.cells #[.string ⟨#[100, 111, 110, 101]⟩, .string ⟨#[104, 97, 108, 116]⟩, .string ⟨#[97, 108, 97, 114, 109]⟩, .string ⟨#[102, 117, 108, 108]⟩] 9)).cell? ⟨b, o, none⟩ = some v → y.val.cell? ⟨b, o, none⟩ = some v := fun y b o v hb hv => (y.has.cell (p := ⟨b, o, none⟩) (by simp only; omega)).trans ((HB.out.cell (p := ⟨b, o, none⟩) hb).trans hv)
        have L1 := fun y => LL y w.heap.size 1 _ (by omega) (BB.out.cell 1)
        have L2 := fun y => LL y w.heap.size 3 _ (by omega) (BB.out.cell 3)
        have L3 := fun y => LL y (w.heap.size + 1) n0 (.string (str (wordT n0))) (by omega) (WC.out n0 (by omega))
        have DE : ∀ V : World, Calls Tryd.prog 46 #[.int .i64 y0] V fun e w' => e = .returned (.string (str (Lib.decDigits y0.toNat))) ∧ Below V.heap.size V w' := by
          have h := dec_eq y0.toNat (by omega)
          rw [show ((y0.toNat : Nat) : Int) = y0 by omega] at h
          exact h
        have q1 := dec_len y0.toNat (by omega)
        have q2 := word_len n0
        have s1 : S.size ≤ 1000000 := by omega
        have s2 : (S ++ ByteArray.mk #[32]).size ≤ 1000000 := by rw [sz_cat]; simp only [sz_one]; omega
        have s3 : (str (wordT n0)).size ≤ 1000000 := by rw [str_size]; omega
        have s4 : (S ++ ByteArray.mk #[32] ++ str (wordT n0)).size ≤ 1000000 := by rw [sz_cat, sz_cat, str_size]; simp only [sz_one]; omega
        have s5 : (S ++ ByteArray.mk #[32] ++ str (wordT n0) ++ ByteArray.mk #[32]).size ≤ 1000000 := by rw [sz_cat, sz_cat, sz_cat, str_size]; simp only [sz_one]; omega
        have s6 : (str (Lib.decDigits y0.toNat)).size ≤ 1000000 := by rw [str_size]; omega
        have HE := Lib.hid (show S ++ ByteArray.mk #[32] ++ str (wordT n0) ++ ByteArray.mk #[32] ++ str (Lib.decDigits y0.toNat) = str ((baseT false ++ [32] ++ wordT n0 ++ [32] ++ Lib.decDigits y0.toNat)) from by rw [HS.out, show ByteArray.mk #[32] = str [32] from rfl, str_app, str_app, str_app, str_app])
        have hNi : (n0 : Int) ≤ 3 := by omega
        have hNn : (n0 : Nat) < 4 := by omega
        have hNz : (n0 : Int) < 4 := by omega
        clear LL q1 q2
        go_wp2_with fail
        refine wp_region_below (by kernel_rfl) (by kernel_rfl) ?_
        repeat (go_big_quiet_step ((go_at_call 46; exact calls_bw (DE _))))
        refine wpQuiet_nil ?_
        intro w9 hw9
        obtain ⟨y9, rfl⟩ := hw9
        go_wp2_with fail
        refine ⟨⟨_, HE.out ▸ rfl, Lib.hid (HB.out.trans (y9.has.mono (by omega))), .inr (.inl ⟨rfl, rfl⟩)⟩, by simp [intOf]⟩
      · subst f1
        obtain ⟨S, hS⟩ : ∃ S, S = str acc := ⟨_, rfl⟩
        rw [← hS]
        have HS := Lib.hid (show S = str ((baseT false ++ [32] ++ wordT n0 ++ [32] ++ Lib.decDigits y0.toNat)) from by rw [hS, f3])
        have hz : S.size ≤ 500 := by rw [HS.out, str_size]; have := dec_len y0.toNat (by omega); have := word_len n0; unfold baseT; simp only [List.length_append, List.length_cons, List.length_nil]; (try split); all_goals (try simp only [List.length_cons, List.length_nil]); omega
        clear hS f3
        have hw1 := HB.out.size
        have hwz : w.heap.size + 2 ≤ wr.heap.size := by simpa using hw1
        have LL : ∀ (y : BW wr) (b o : Nat) (v : Value), b < w.heap.size + 2 → ((w.alloc (.cells #[.bool false, .int .i64 (n0 : Int), .int .i64 (n1 : Int), .int .i64 y0, .int .i64 y1, .int .i64 ap, .int .i64 ou, .int .i64 lo, .int .i64 wh] 36)).alloc (.cells #[.string ⟨#[100, 111, 110, 101]⟩, .string ⟨#[104, 97, 108, 116]⟩, .string ⟨#[97, 108, 97, 114, 109]⟩, .string ⟨#[102, 117, 108, 108]⟩] 9)).cell? ⟨b, o, none⟩ = some v → y.val.cell? ⟨b, o, none⟩ = some v := fun y b o v hb hv => (y.has.cell (p := ⟨b, o, none⟩) (by simp only; omega)).trans ((HB.out.cell (p := ⟨b, o, none⟩) hb).trans hv)
        have L1 := fun y => LL y w.heap.size 2 _ (by omega) (BB.out.cell 2)
        have L2 := fun y => LL y w.heap.size 4 _ (by omega) (BB.out.cell 4)
        have L3 := fun y => LL y (w.heap.size + 1) n1 (.string (str (wordT n1))) (by omega) (WC.out n1 (by omega))
        have DE : ∀ V : World, Calls Tryd.prog 46 #[.int .i64 y1] V fun e w' => e = .returned (.string (str (Lib.decDigits y1.toNat))) ∧ Below V.heap.size V w' := by
          have h := dec_eq y1.toNat (by omega)
          rw [show ((y1.toNat : Nat) : Int) = y1 by omega] at h
          exact h
        have q1 := dec_len y1.toNat (by omega)
        have q2 := word_len n1
        have s1 : S.size ≤ 1000000 := by omega
        have s2 : (S ++ ByteArray.mk #[32]).size ≤ 1000000 := by rw [sz_cat]; simp only [sz_one]; omega
        have s3 : (str (wordT n1)).size ≤ 1000000 := by rw [str_size]; omega
        have s4 : (S ++ ByteArray.mk #[32] ++ str (wordT n1)).size ≤ 1000000 := by rw [sz_cat, sz_cat, str_size]; simp only [sz_one]; omega
        have s5 : (S ++ ByteArray.mk #[32] ++ str (wordT n1) ++ ByteArray.mk #[32]).size ≤ 1000000 := by rw [sz_cat, sz_cat, sz_cat, str_size]; simp only [sz_one]; omega
        have s6 : (str (Lib.decDigits y1.toNat)).size ≤ 1000000 := by rw [str_size]; omega
        have HE := Lib.hid (show S ++ ByteArray.mk #[32] ++ str (wordT n1) ++ ByteArray.mk #[32] ++ str (Lib.decDigits y1.toNat) = str (((baseT false ++ [32] ++ wordT n0 ++ [32] ++ Lib.decDigits y0.toNat) ++ [32] ++ wordT n1 ++ [32] ++ Lib.decDigits y1.toNat)) from by rw [HS.out, show ByteArray.mk #[32] = str [32] from rfl, str_app, str_app, str_app, str_app])
        have hNi : (n1 : Int) ≤ 3 := by omega
        have hNn : (n1 : Nat) < 4 := by omega
        have hNz : (n1 : Int) < 4 := by omega
        clear LL q1 q2
        go_wp2_with fail
        refine wp_region_below (by kernel_rfl) (by kernel_rfl) ?_
        repeat (go_big_quiet_step ((go_at_call 46; exact calls_bw (DE _))))
        refine wpQuiet_nil ?_
        intro w9 hw9
        obtain ⟨y9, rfl⟩ := hw9
        go_wp2_with fail
        refine ⟨⟨_, HE.out ▸ rfl, Lib.hid (HB.out.trans (y9.has.mono (by omega))), .inr (.inr ⟨rfl, rfl⟩)⟩, by simp [intOf]⟩
      · subst f1
        obtain ⟨S, hS⟩ : ∃ S, S = str acc := ⟨_, rfl⟩
        rw [← hS]
        have HS := Lib.hid (show S = str (((baseT false ++ [32] ++ wordT n0 ++ [32] ++ Lib.decDigits y0.toNat) ++ [32] ++ wordT n1 ++ [32] ++ Lib.decDigits y1.toNat)) from by rw [hS, f3])
        have hz : S.size ≤ 500 := by
          rw [HS.out, str_size]
          have := dec_len y0.toNat (by omega)
          have := dec_len y1.toNat (by omega)
          have := word_len n0
          have := word_len n1
          have := base_len false
          simp only [List.length_append, List.length_cons, List.length_nil]
          omega
        clear hS f3
        have hw1 := HB.out.size
        have hwz : w.heap.size + 2 ≤ wr.heap.size := by simpa using hw1
        have LL : ∀ (y : BW wr) (b o : Nat) (v : Value), b < w.heap.size + 2 → ((w.alloc (.cells #[.bool false, .int .i64 (n0 : Int), .int .i64 (n1 : Int), .int .i64 y0, .int .i64 y1, .int .i64 ap, .int .i64 ou, .int .i64 lo, .int .i64 wh] 36)).alloc (.cells #[.string ⟨#[100, 111, 110, 101]⟩, .string ⟨#[104, 97, 108, 116]⟩, .string ⟨#[97, 108, 97, 114, 109]⟩, .string ⟨#[102, 117, 108, 108]⟩] 9)).cell? ⟨b, o, none⟩ = some v → y.val.cell? ⟨b, o, none⟩ = some v := fun y b o v hb hv => (y.has.cell (p := ⟨b, o, none⟩) (by simp only; omega)).trans ((HB.out.cell (p := ⟨b, o, none⟩) hb).trans hv)
        have L1 := fun y => LL y w.heap.size 5 _ (by omega) (BB.out.cell 5)
        have L2 := fun y => LL y w.heap.size 6 _ (by omega) (BB.out.cell 6)
        have L3 := fun y => LL y w.heap.size 7 _ (by omega) (BB.out.cell 7)
        have L4 := fun y => LL y w.heap.size 8 _ (by omega) (BB.out.cell 8)
        have P1 := fun V => place_eq V ap r2
        have P2 := fun V => place_eq V ou r3
        have P3 := fun V => place_eq V lo r4
        have P4 := fun V => place_eq V wh r5
        have q1 := pl_len ap r2
        have q2 := pl_len ou r3
        have q3 := pl_len lo r4
        have q4 := pl_len wh r5
        have s1 : S.size ≤ 1000000 := by omega
        have t1 : (str (plT ap)).size ≤ 1000000 := by rw [str_size]; omega
        have t2 : (str (plT ou)).size ≤ 1000000 := by rw [str_size]; omega
        have t3 : (str (plT lo)).size ≤ 1000000 := by rw [str_size]; omega
        have t4 : (str (plT wh)).size ≤ 1000000 := by rw [str_size]; omega
        have s2 : (S ++ str (plT ap)).size ≤ 1000000 := by rw [sz_cat, str_size]; omega
        have s3 : (S ++ str (plT ap) ++ str (plT ou)).size ≤ 1000000 := by rw [sz_cat, sz_cat, str_size, str_size]; omega
        have s4 : (S ++ str (plT ap) ++ str (plT ou) ++ str (plT lo)).size ≤ 1000000 := by rw [sz_cat, sz_cat, sz_cat, str_size, str_size, str_size]; omega
        have HE := Lib.hid (show S ++ str (plT ap) ++ str (plT ou) ++ str (plT lo) ++ str (plT wh) = str (rpc false n0 n1 y0 y1 ap ou lo wh) from by rw [HS.out, str_app, str_app, str_app, str_app]; rfl)
        clear LL q1 q2 q3 q4
        go_wp2_with fail
        refine wp_region_below (by kernel_rfl) (by kernel_rfl) ?_
        repeat (go_big_quiet_step ((go_at_call 50; first | exact calls_bw (P1 _) | exact calls_bw (P2 _) | exact calls_bw (P3 _) | exact calls_bw (P4 _))))
        refine wpQuiet_nil ?_
        intro w9 hw9
        obtain ⟨y9, rfl⟩ := hw9
        go_wp2_with fail
        go_ret
        exact ⟨by rw [← HE.out]; rfl, Q.call (Q.call (Q.alloc (Q.alloc (Below.refl _ _) _) _) (HB.out.mono (by simp))) y9.has⟩
  · skip
    have BB := Lib.hid (Blk.alloc (Blk.new w 36 #[.bool true, .int .i64 (n0 : Int), .int .i64 (n1 : Int), .int .i64 y0, .int .i64 y1, .int .i64 ap, .int .i64 ou, .int .i64 lo, .int .i64 wh]) (.cells #[.string ⟨#[100, 111, 110, 101]⟩, .string ⟨#[104, 97, 108, 116]⟩, .string ⟨#[97, 108, 97, 114, 109]⟩, .string ⟨#[102, 117, 108, 108]⟩] 9))
    have WC := Lib.hid (show ∀ n : Nat, n ≤ 3 → ((w.alloc (.cells #[.bool true, .int .i64 (n0 : Int), .int .i64 (n1 : Int), .int .i64 y0, .int .i64 y1, .int .i64 ap, .int .i64 ou, .int .i64 lo, .int .i64 wh] 36)).alloc (.cells #[.string ⟨#[100, 111, 110, 101]⟩, .string ⟨#[104, 97, 108, 116]⟩, .string ⟨#[97, 108, 97, 114, 109]⟩, .string ⟨#[102, 117, 108, 108]⟩] 9)).cell? ⟨w.heap.size + 1, n, none⟩ = some (.string (str (wordT n))) from fun n hn => by
      have hb : Blk ((w.alloc (.cells #[.bool true, .int .i64 (n0 : Int), .int .i64 (n1 : Int), .int .i64 y0, .int .i64 y1, .int .i64 ap, .int .i64 ou, .int .i64 lo, .int .i64 wh] 36)).alloc (.cells #[.string ⟨#[100, 111, 110, 101]⟩, .string ⟨#[104, 97, 108, 116]⟩, .string ⟨#[97, 108, 97, 114, 109]⟩, .string ⟨#[102, 117, 108, 108]⟩] 9)) (w.heap.size + 1) 9 #[.string ⟨#[100, 111, 110, 101]⟩, .string ⟨#[104, 97, 108, 116]⟩, .string ⟨#[97, 108, 97, 114, 109]⟩, .string ⟨#[102, 117, 108, 108]⟩] := by have := Blk.new (w.alloc (.cells #[.bool true, .int .i64 (n0 : Int), .int .i64 (n1 : Int), .int .i64 y0, .int .i64 y1, .int .i64 ap, .int .i64 ou, .int .i64 lo, .int .i64 wh] 36)) 9 #[.string ⟨#[100, 111, 110, 101]⟩, .string ⟨#[104, 97, 108, 116]⟩, .string ⟨#[97, 108, 97, 114, 109]⟩, .string ⟨#[102, 117, 108, 108]⟩]; simpa using this
      have hc : n = 0 ∨ n = 1 ∨ n = 2 ∨ n = 3 := by omega
      rcases hc with rfl | rfl | rfl | rfl
      · exact hb.cell 0
      · exact hb.cell 1
      · exact hb.cell 2
      · exact hb.cell 3)
    go_enter Tryd.func23, Tryd.ntmps23
    go_wp2_with fail
    go_loopw [3, 5] (fun sv iv wr => ∃ (acc : By), sv = .string (str acc) ∧ Hid (Below (w.heap.size + 2) ((w.alloc (.cells #[.bool true, .int .i64 (n0 : Int), .int .i64 (n1 : Int), .int .i64 y0, .int .i64 y1, .int .i64 ap, .int .i64 ou, .int .i64 lo, .int .i64 wh] 36)).alloc (.cells #[.string ⟨#[100, 111, 110, 101]⟩, .string ⟨#[104, 97, 108, 116]⟩, .string ⟨#[97, 108, 97, 114, 109]⟩, .string ⟨#[102, 117, 108, 108]⟩] 9)) wr) ∧ ((iv = .int .i64 0 ∧ acc = baseT true) ∨ (iv = .int .i64 1 ∧ acc = (baseT true ++ [32] ++ wordT n0 ++ [32] ++ Lib.decDigits y0.toNat)) ∨ (iv = .int .i64 2 ∧ acc = ((baseT true ++ [32] ++ wordT n0 ++ [32] ++ Lib.decDigits y0.toNat) ++ [32] ++ wordT n1 ++ [32] ++ Lib.decDigits y1.toNat)))) (fun _ iv _ => 2 - (intOf iv).toNat)
    case atStart => exact ⟨baseT true, rfl, Lib.hid (Below.refl _ _), .inl ⟨rfl, rfl⟩⟩
    case round =>
      obtain ⟨acc, rfl, HB, hrel⟩ := hrel
      rcases hrel with ⟨f1, f3⟩ | ⟨f1, f3⟩ | ⟨f1, f3⟩
      · subst f1
        obtain ⟨S, hS⟩ : ∃ S, S = str acc := ⟨_, rfl⟩
        rw [← hS]
        have HS := Lib.hid (show S = str (baseT true) from by rw [hS, f3])
        have hz : S.size ≤ 500 := by rw [HS.out, str_size]; unfold baseT; simp
        clear hS f3
        have hw1 := HB.out.size
        have hwz : w.heap.size + 2 ≤ wr.heap.size := by simpa using hw1
        have LL : ∀ (y : BW wr) (b o : Nat) (v : Value), b < w.heap.size + 2 → ((w.alloc (.cells #[.bool true, .int .i64 (n0 : Int), .int .i64 (n1 : Int), .int .i64 y0, .int .i64 y1, .int .i64 ap, .int .i64 ou, .int .i64 lo, .int .i64 wh] 36)).alloc (.cells #[.string ⟨#[100, 111, 110, 101]⟩, .string ⟨#[104, 97, 108, 116]⟩, .string ⟨#[97, 108, 97, 114, 109]⟩, .string ⟨#[102, 117, 108, 108]⟩] 9)).cell? ⟨b, o, none⟩ = some v → y.val.cell? ⟨b, o, none⟩ = some v := fun y b o v hb hv => (y.has.cell (p := ⟨b, o, none⟩) (by simp only; omega)).trans ((HB.out.cell (p := ⟨b, o, none⟩) hb).trans hv)
        have L1 := fun y => LL y w.heap.size 1 _ (by omega) (BB.out.cell 1)
        have L2 := fun y => LL y w.heap.size 3 _ (by omega) (BB.out.cell 3)
        have L3 := fun y => LL y (w.heap.size + 1) n0 (.string (str (wordT n0))) (by omega) (WC.out n0 (by omega))
        have DE : ∀ V : World, Calls Tryd.prog 46 #[.int .i64 y0] V fun e w' => e = .returned (.string (str (Lib.decDigits y0.toNat))) ∧ Below V.heap.size V w' := by
          have h := dec_eq y0.toNat (by omega)
          rw [show ((y0.toNat : Nat) : Int) = y0 by omega] at h
          exact h
        have q1 := dec_len y0.toNat (by omega)
        have q2 := word_len n0
        have s1 : S.size ≤ 1000000 := by omega
        have s2 : (S ++ ByteArray.mk #[32]).size ≤ 1000000 := by rw [sz_cat]; simp only [sz_one]; omega
        have s3 : (str (wordT n0)).size ≤ 1000000 := by rw [str_size]; omega
        have s4 : (S ++ ByteArray.mk #[32] ++ str (wordT n0)).size ≤ 1000000 := by rw [sz_cat, sz_cat, str_size]; simp only [sz_one]; omega
        have s5 : (S ++ ByteArray.mk #[32] ++ str (wordT n0) ++ ByteArray.mk #[32]).size ≤ 1000000 := by rw [sz_cat, sz_cat, sz_cat, str_size]; simp only [sz_one]; omega
        have s6 : (str (Lib.decDigits y0.toNat)).size ≤ 1000000 := by rw [str_size]; omega
        have HE := Lib.hid (show S ++ ByteArray.mk #[32] ++ str (wordT n0) ++ ByteArray.mk #[32] ++ str (Lib.decDigits y0.toNat) = str ((baseT true ++ [32] ++ wordT n0 ++ [32] ++ Lib.decDigits y0.toNat)) from by rw [HS.out, show ByteArray.mk #[32] = str [32] from rfl, str_app, str_app, str_app, str_app])
        have hNi : (n0 : Int) ≤ 3 := by omega
        have hNn : (n0 : Nat) < 4 := by omega
        have hNz : (n0 : Int) < 4 := by omega
        clear LL q1 q2
        go_wp2_with fail
        refine wp_region_below (by kernel_rfl) (by kernel_rfl) ?_
        repeat (go_big_quiet_step ((go_at_call 46; exact calls_bw (DE _))))
        refine wpQuiet_nil ?_
        intro w9 hw9
        obtain ⟨y9, rfl⟩ := hw9
        go_wp2_with fail
        refine ⟨⟨_, HE.out ▸ rfl, Lib.hid (HB.out.trans (y9.has.mono (by omega))), .inr (.inl ⟨rfl, rfl⟩)⟩, by simp [intOf]⟩
      · subst f1
        obtain ⟨S, hS⟩ : ∃ S, S = str acc := ⟨_, rfl⟩
        rw [← hS]
        have HS := Lib.hid (show S = str ((baseT true ++ [32] ++ wordT n0 ++ [32] ++ Lib.decDigits y0.toNat)) from by rw [hS, f3])
        have hz : S.size ≤ 500 := by rw [HS.out, str_size]; have := dec_len y0.toNat (by omega); have := word_len n0; unfold baseT; simp only [List.length_append, List.length_cons, List.length_nil]; (try split); all_goals (try simp only [List.length_cons, List.length_nil]); omega
        clear hS f3
        have hw1 := HB.out.size
        have hwz : w.heap.size + 2 ≤ wr.heap.size := by simpa using hw1
        have LL : ∀ (y : BW wr) (b o : Nat) (v : Value), b < w.heap.size + 2 → ((w.alloc (.cells #[.bool true, .int .i64 (n0 : Int), .int .i64 (n1 : Int), .int .i64 y0, .int .i64 y1, .int .i64 ap, .int .i64 ou, .int .i64 lo, .int .i64 wh] 36)).alloc (.cells #[.string ⟨#[100, 111, 110, 101]⟩, .string ⟨#[104, 97, 108, 116]⟩, .string ⟨#[97, 108, 97, 114, 109]⟩, .string ⟨#[102, 117, 108, 108]⟩] 9)).cell? ⟨b, o, none⟩ = some v → y.val.cell? ⟨b, o, none⟩ = some v := fun y b o v hb hv => (y.has.cell (p := ⟨b, o, none⟩) (by simp only; omega)).trans ((HB.out.cell (p := ⟨b, o, none⟩) hb).trans hv)
        have L1 := fun y => LL y w.heap.size 2 _ (by omega) (BB.out.cell 2)
        have L2 := fun y => LL y w.heap.size 4 _ (by omega) (BB.out.cell 4)
        have L3 := fun y => LL y (w.heap.size + 1) n1 (.string (str (wordT n1))) (by omega) (WC.out n1 (by omega))
        have DE : ∀ V : World, Calls Tryd.prog 46 #[.int .i64 y1] V fun e w' => e = .returned (.string (str (Lib.decDigits y1.toNat))) ∧ Below V.heap.size V w' := by
          have h := dec_eq y1.toNat (by omega)
          rw [show ((y1.toNat : Nat) : Int) = y1 by omega] at h
          exact h
        have q1 := dec_len y1.toNat (by omega)
        have q2 := word_len n1
        have s1 : S.size ≤ 1000000 := by omega
        have s2 : (S ++ ByteArray.mk #[32]).size ≤ 1000000 := by rw [sz_cat]; simp only [sz_one]; omega
        have s3 : (str (wordT n1)).size ≤ 1000000 := by rw [str_size]; omega
        have s4 : (S ++ ByteArray.mk #[32] ++ str (wordT n1)).size ≤ 1000000 := by rw [sz_cat, sz_cat, str_size]; simp only [sz_one]; omega
        have s5 : (S ++ ByteArray.mk #[32] ++ str (wordT n1) ++ ByteArray.mk #[32]).size ≤ 1000000 := by rw [sz_cat, sz_cat, sz_cat, str_size]; simp only [sz_one]; omega
        have s6 : (str (Lib.decDigits y1.toNat)).size ≤ 1000000 := by rw [str_size]; omega
        have HE := Lib.hid (show S ++ ByteArray.mk #[32] ++ str (wordT n1) ++ ByteArray.mk #[32] ++ str (Lib.decDigits y1.toNat) = str (((baseT true ++ [32] ++ wordT n0 ++ [32] ++ Lib.decDigits y0.toNat) ++ [32] ++ wordT n1 ++ [32] ++ Lib.decDigits y1.toNat)) from by rw [HS.out, show ByteArray.mk #[32] = str [32] from rfl, str_app, str_app, str_app, str_app])
        have hNi : (n1 : Int) ≤ 3 := by omega
        have hNn : (n1 : Nat) < 4 := by omega
        have hNz : (n1 : Int) < 4 := by omega
        clear LL q1 q2
        go_wp2_with fail
        refine wp_region_below (by kernel_rfl) (by kernel_rfl) ?_
        repeat (go_big_quiet_step ((go_at_call 46; exact calls_bw (DE _))))
        refine wpQuiet_nil ?_
        intro w9 hw9
        obtain ⟨y9, rfl⟩ := hw9
        go_wp2_with fail
        refine ⟨⟨_, HE.out ▸ rfl, Lib.hid (HB.out.trans (y9.has.mono (by omega))), .inr (.inr ⟨rfl, rfl⟩)⟩, by simp [intOf]⟩
      · subst f1
        obtain ⟨S, hS⟩ : ∃ S, S = str acc := ⟨_, rfl⟩
        rw [← hS]
        have HS := Lib.hid (show S = str (((baseT true ++ [32] ++ wordT n0 ++ [32] ++ Lib.decDigits y0.toNat) ++ [32] ++ wordT n1 ++ [32] ++ Lib.decDigits y1.toNat)) from by rw [hS, f3])
        have hz : S.size ≤ 500 := by
          rw [HS.out, str_size]
          have := dec_len y0.toNat (by omega)
          have := dec_len y1.toNat (by omega)
          have := word_len n0
          have := word_len n1
          have := base_len true
          simp only [List.length_append, List.length_cons, List.length_nil]
          omega
        clear hS f3
        have hw1 := HB.out.size
        have hwz : w.heap.size + 2 ≤ wr.heap.size := by simpa using hw1
        have LL : ∀ (y : BW wr) (b o : Nat) (v : Value), b < w.heap.size + 2 → ((w.alloc (.cells #[.bool true, .int .i64 (n0 : Int), .int .i64 (n1 : Int), .int .i64 y0, .int .i64 y1, .int .i64 ap, .int .i64 ou, .int .i64 lo, .int .i64 wh] 36)).alloc (.cells #[.string ⟨#[100, 111, 110, 101]⟩, .string ⟨#[104, 97, 108, 116]⟩, .string ⟨#[97, 108, 97, 114, 109]⟩, .string ⟨#[102, 117, 108, 108]⟩] 9)).cell? ⟨b, o, none⟩ = some v → y.val.cell? ⟨b, o, none⟩ = some v := fun y b o v hb hv => (y.has.cell (p := ⟨b, o, none⟩) (by simp only; omega)).trans ((HB.out.cell (p := ⟨b, o, none⟩) hb).trans hv)
        have L1 := fun y => LL y w.heap.size 5 _ (by omega) (BB.out.cell 5)
        have L2 := fun y => LL y w.heap.size 6 _ (by omega) (BB.out.cell 6)
        have L3 := fun y => LL y w.heap.size 7 _ (by omega) (BB.out.cell 7)
        have L4 := fun y => LL y w.heap.size 8 _ (by omega) (BB.out.cell 8)
        have P1 := fun V => place_eq V ap r2
        have P2 := fun V => place_eq V ou r3
        have P3 := fun V => place_eq V lo r4
        have P4 := fun V => place_eq V wh r5
        have q1 := pl_len ap r2
        have q2 := pl_len ou r3
        have q3 := pl_len lo r4
        have q4 := pl_len wh r5
        have s1 : S.size ≤ 1000000 := by omega
        have t1 : (str (plT ap)).size ≤ 1000000 := by rw [str_size]; omega
        have t2 : (str (plT ou)).size ≤ 1000000 := by rw [str_size]; omega
        have t3 : (str (plT lo)).size ≤ 1000000 := by rw [str_size]; omega
        have t4 : (str (plT wh)).size ≤ 1000000 := by rw [str_size]; omega
        have s2 : (S ++ str (plT ap)).size ≤ 1000000 := by rw [sz_cat, str_size]; omega
        have s3 : (S ++ str (plT ap) ++ str (plT ou)).size ≤ 1000000 := by rw [sz_cat, sz_cat, str_size, str_size]; omega
        have s4 : (S ++ str (plT ap) ++ str (plT ou) ++ str (plT lo)).size ≤ 1000000 := by rw [sz_cat, sz_cat, sz_cat, str_size, str_size, str_size]; omega
        have HE := Lib.hid (show S ++ str (plT ap) ++ str (plT ou) ++ str (plT lo) ++ str (plT wh) = str (rpc true n0 n1 y0 y1 ap ou lo wh) from by rw [HS.out, str_app, str_app, str_app, str_app]; rfl)
        clear LL q1 q2 q3 q4
        go_wp2_with fail
        refine wp_region_below (by kernel_rfl) (by kernel_rfl) ?_
        repeat (go_big_quiet_step ((go_at_call 50; first | exact calls_bw (P1 _) | exact calls_bw (P2 _) | exact calls_bw (P3 _) | exact calls_bw (P4 _))))
        refine wpQuiet_nil ?_
        intro w9 hw9
        obtain ⟨y9, rfl⟩ := hw9
        go_wp2_with fail
        go_ret
        exact ⟨by rw [← HE.out]; rfl, Q.call (Q.call (Q.alloc (Q.alloc (Below.refl _ _) _) _) (HB.out.mono (by simp))) y9.has⟩
end Go.Proofs.YtggnkkmlabhofaaDoor
