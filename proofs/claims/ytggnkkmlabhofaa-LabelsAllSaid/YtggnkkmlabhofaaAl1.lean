/- The law LabelsAll: the walk. (printed by gen/al1.py) -/
import Derived.Test.YtggnkkmlabhofaaAl0
import Derived.Test.YtggnkkmlabhofaaLa8
import Derived.Test.YtggnkkmlabhofaaRf2
import Derived.Test.YtggnkkmlabhofaaRf8
import Derived.Test.YtggnkkmlabhofaaSecQ
namespace Go.Proofs.Ytggnkkmlabhofaa
set_option linter.unusedVariables false
set_option linter.unusedSimpArgs false
open Go.RowKit Go.Shelf
attribute [local go_sem ↓] Go.wp_at_zero Go.wp_at_succ
attribute [local go_sem] Oper.semAt_some eql_seq_nil

theorem field_rp0 (a b : Value) (c d : Int) (w : World) : (Instr.field 35 (.agg #[a, b, .int .i64 c, .int .i64 d]) 0).run Try.prog w = .ok a w := by
  simp [Instr.field, asAgg, run_underlying Try.underlying35, go_sem]
attribute [local go_sem] field_rp0
theorem blk_kept {A B : World} {row : Option Nat} {b : Nat} {t : TypeId} {cs : Array Value} (h : Blk A b t cs) (hg : A.grownBy B row) (hr : ∀ r, row = some r → ∃ o : Obj, A.heap[r]? = some o ∧ o.isCells = false) : Blk B b t cs :=
  (hg.block b h.lt (fun e => by
    obtain ⟨o, ho, hc⟩ := hr b e.symm
    unfold Blk at h
    rw [h] at ho
    cases ho
    cases hc)).trans h
def StR (w : World) (hr : Nat) (W : World) : Prop := W.cell? ⟨hr, 0, none⟩ = some (.bool true) ∧ Below w.heap.size w W
def JL (L : List Sp) (bi bx bn : Nat) (w6 : World) (pre : List (Nat × Int)) (W : World) : Prop := (Blk W bi 3 #[.int .i64 ((stt L pre.length).1 : Int)] ∧ Blk W bx 3 #[.int .i64 (stt L pre.length).2] ∧ Blk W bn 3 #[.int .i64 (pre.length : Int)]) ∧ Below bi w6 W
theorem stop_own {B hr : Nat} {w0 : World} {c : Code} {p : List (Nat × Int) → Prop} (hn : w0.heap.size ≤ B) : OwnFrom B (fun (pre : List (Nat × Int)) W => c = Code.ret ∧ (p pre ∨ StR w0 hr W)) :=
  fun s A X row hs hg hr' => ⟨hs.1, hs.2.imp id (fun h => ⟨cell_kept h.1 hg (fun r e => (hr' r e).2), (ownFrom_below (β := List (Nat × Int)) (Nat.le_refl _) hn) s A X row h.2 hg hr'⟩)⟩
def StL (L : List Sp) (pre : List (Nat × Int)) : Prop := ∃ (q : List (Nat × Int)) (y : Nat × Int), pre = q ++ [y] ∧ ¬ GoodL L q y
theorem jl_own {L : List Sp} {bi bx bn : Nat} {w6 : World} (h : bi ≤ w6.heap.size) : OwnFrom w6.heap.size (JL L bi bx bn w6) := by
  show OwnFrom w6.heap.size (fun (pre : List (Nat × Int)) (W : World) => (Blk W bi 3 #[.int .i64 ((stt L pre.length).1 : Int)] ∧ Blk W bx 3 #[.int .i64 (stt L pre.length).2] ∧ Blk W bn 3 #[.int .i64 (pre.length : Int)]) ∧ Below bi w6 W)
  exact OwnFrom.and (Own.from (fun s A B row hs hg hr => ⟨blk_kept hs.1 hg hr, blk_kept hs.2.1 hg hr, blk_kept hs.2.2 hg hr⟩) _) (ownFrom_below h h)
theorem keeps_call {W E w9 : World} (hK : KeepsOthers W E) (b9 : Below E.heap.size E w9) : KeepsOthers W w9 := hK.trans ⟨b9.size, fun k o hk _ => (b9.block k (Array.getElem?_eq_some_iff.1 hk).1).trans hk⟩
theorem jl_end {L : List Sp} {bi bx bn : Nat} {w6 E : World} {pre : List (Nat × Int)} {x : Nat × Int} {a : Nat} {v : Int} (hs : stt L (pre.length + 1) = (a, v)) (hI : Blk E bi 3 #[.int .i64 (a : Int)]) (hX : Blk E bx 3 #[.int .i64 v]) (hN : Blk E bn 3 #[.int .i64 ((pre.length : Int) + 1)]) (hB : Below bi w6 E) : JL L bi bx bn w6 (pre ++ [x]) E := by
  have hl : (pre ++ [x]).length = pre.length + 1 := by simp
  refine ⟨⟨?_, ?_, ?_⟩, hB⟩
  · rw [hl, hs]; exact hI
  · rw [hl, hs]; exact hX
  · rw [hl]; exact hN
theorem w64_of (x : Int) : wrap64 x = IntKind.i64.wrap x := by first | rfl | (rw [IntKind.wrap_i64]; rfl) | (rw [IntKind.wrap_i64, RowKit.wrap64]) | (simp [IntKind.wrap_i64, RowKit.wrap64])
theorem RdN.at2 {w : World} {R : Nat → Prop} {b off m cap : Nat} {l : List Sp} (h : Rd EN w R (.slice (some ⟨b, off, none⟩) m cap) l) {k : Nat} {x : Sp} (hk : l[k]? = some x) : w.cell? ⟨b, off + k * 3, none⟩ = some (.int .i64 x.f) := by
  obtain ⟨b', off', cap', hv, _, _, h0, _⟩ := RdN.cellAt h hk
  cases hv
  simpa using h0
theorem blk_put {W : World} {g : Nat} {t : TypeId} {c : Value} (h : Blk W g t #[c]) (v : Value) : Blk (W.setCell ⟨g, 0, none⟩ v) g t #[v] := by rw [h.setCell]; exact h.setRow _
theorem blk_oth {W : World} {g k : Nat} {t u : TypeId} {c d : Value} (h : Blk W g t #[c]) (hk : Blk W k u #[d]) (hne : g ≠ k) (v : Value) : Blk (W.setCell ⟨k, 0, none⟩ v) g t #[c] := by rw [hk.setCell]; exact h.other hne _
theorem spG_bnd {L : List Sp} {a : Nat → Int} (h : Told L a) {i : Nat} (hi : i < L.length) : 0 ≤ (spG L i).f ∧ (spG L i).f ≤ (spG L i).t ∧ (spG L i).t < 65536 := by rw [spG_of (List.getElem?_eq_getElem hi)]; exact h.bnd _ (List.getElem_mem hi)
theorem stt_le {L : List Sp} {a : Nat → Int} (h : Told L a) : ∀ n, (stt L n).1 < L.length → 0 ≤ (stt L n).2 ∧ (stt L n).2 ≤ (spG L (stt L n).1).t
  | 0, hl => by
    have hl : 0 < L.length := hl
    have e : (stt L 0).2 = (spG L 0).f := if_pos hl
    have b := spG_bnd h hl
    rw [e]
    exact ⟨b.1, b.2.1⟩
  | n + 1, hl => by
    have ih := stt_le h n
    have e : stt L (n + 1) = stp L (stt L n) := rfl
    rw [e] at hl ⊢
    generalize stt L n = q at ih hl ⊢
    unfold stp at hl ⊢
    by_cases c : (spG L q.1).t < q.2 + 1
    · rw [if_pos c] at hl ⊢
      have hl : q.1 + 1 < L.length := hl
      have b := spG_bnd h hl
      simp only
      rw [if_pos hl]
      omega
    · rw [if_neg c] at hl ⊢
      have ih := ih hl
      simp only
      omega
theorem stp_on {L : List Sp} {i : Nat} {n : Int} {y : Sp} (hy : L[i]? = some y) (c : ¬ y.t < n + 1) : stp L (i, n) = (i, n + 1) := by unfold stp; simp only; rw [spG_of hy, if_neg c]
theorem stp_next {L : List Sp} {i : Nat} {n : Int} {y z : Sp} (hy : L[i]? = some y) (hz : L[i + 1]? = some z) (c : y.t < n + 1) : stp L (i, n) = (i + 1, z.f) := by
  unfold stp; simp only; rw [spG_of hy, if_pos c, if_pos (List.getElem?_eq_some_iff.1 hz).1, spG_of hz]
theorem stp_last {L : List Sp} {i : Nat} {n : Int} {y : Sp} (hy : L[i]? = some y) (hl : ¬ i + 1 < L.length) (c : y.t < n + 1) : stp L (i, n) = (i + 1, n + 1) := by
  unfold stp; simp only; rw [spG_of hy, if_pos c, if_neg hl]
set_option maxRecDepth 100000 in
set_option maxHeartbeats 3200000 in
theorem al_long (w : World) (R : Nat → Prop) (sa ma : Option Addr) (sc mc : Nat) (s m : List Sp) (dc tr most : Int) (hs : Rd ES w R (.slice sa s.length sc) s) (hm : Rd ES w R (.slice ma m.length mc) m) (hf : ¬ (s.length ≤ 80 ∧ m.length ≤ 80)) : Calls Try.prog 3 #[.agg #[.slice sa s.length sc, .slice ma m.length mc, .int .i64 dc, .int .i64 tr], .int .i64 most] w fun e w' => e = .returned (.bool true) ∧ Below w.heap.size w w' := by
  have FW := fun V => few_eq V sa ma s.length m.length sc mc dc tr false (decide_eq_false hf).symm
  clear hs hm hf
  go_enter Try.func3, Try.ntmps3
  go_wp2_with (go_at_call 5; (with_reducible refine (FW _).mono ?_); rintro e w1 ⟨rfl, hb1⟩; refine Hid.out ?_)
  refine Lib.hid ?_
  have RB : Blk w1 (w.heap.size + 2) 4 #[.bool false] := (Blk.new' (by simp)).call hb1
  have PB : Blk w1 w.heap.size 24 #[.slice sa s.length sc, .slice ma m.length mc, .int .i64 dc, .int .i64 tr] := (Blk.alloc (Blk.alloc (Blk.new w _ _) _) _).call hb1
  have MB : Blk w1 (w.heap.size + 1) 3 #[.int .i64 most] := (Blk.alloc (Blk.new' (by simp)) _).call hb1
  have HB1 := Lib.hid (show Below w.heap.size w w1 from (by repeat' (first | with_reducible exact Below.refl _ _ | with_reducible assumption | with_reducible refine Q.alloc ?_ _ | with_reducible refine Q.drew ?_ | with_reducible refine Q.drewN ?_ _ | with_reducible refine Q.call ?_ (by assumption))))
  obtain ⟨hp, hhp⟩ : ∃ hp, hp = w.heap.size := ⟨_, rfl⟩
  obtain ⟨hx, hhx⟩ : ∃ hx, hx = w.heap.size + 1 := ⟨_, rfl⟩
  obtain ⟨hr, hhr⟩ : ∃ hr, hr = w.heap.size + 2 := ⟨_, rfl⟩
  have HHR := Lib.hid (show w.heap.size ≤ hr ∧ hr < w.heap.size + 3 by omega)
  rw [← hhp] at PB
  rw [← hhx] at MB
  rw [← hhr] at RB
  have hPE : (Value.pointer (some ⟨w.heap.size, 0, none⟩)) = Value.pointer (some ⟨hp, 0, none⟩) := by rw [hhp]
  rw [← hhr, ← hhx, hPE]
  have RB1 := Lib.hid RB
  have PB1 := Lib.hid PB
  have MB1 := Lib.hid MB
  clear hb1 RB PB MB hhp hhx hhr hPE
  go_wp2_with (go_at_call 6; (with_reducible refine (lawake_eq _).mono ?_); rintro e w9 ⟨rfl, hb9⟩; refine Hid.out ?_)
  refine Lib.hid ?_
  have RB9 := RB1.out.call hb9
  have hB9 : Below w.heap.size w w9 := Q.call HB1.out hb9
  have z0 := RB9.cell 0
  have z1 := RB9.frozen 0
  clear hb9
  go_wp2_with fail
  have hc5 := World.cell?_setCell_same' w9 ⟨hr, 0, none⟩ (.bool true) (by rw [z0]; rfl)
  refine bodyPost_ret (show _ = Result.ok (Value.bool true) _ by simp [results, Try.f3, go_sem, hc5]) rfl ?_
  exact ⟨rfl, hB9.setCell (p := ⟨hr, 0, none⟩) (by have := HHR.out; simp only; omega) _⟩
set_option maxRecDepth 100000 in
set_option maxHeartbeats 3200000 in
theorem al_bad (w : World) (R : Nat → Prop) (sa ma : Option Addr) (sc mc : Nat) (s m : List Sp) (dc tr most : Int) (hs : Rd ES w R (.slice sa s.length sc) s) (hm : Rd ES w R (.slice ma m.length mc) m) (hf : s.length ≤ 80 ∧ m.length ≤ 80) (hC : chk s m dc tr ≠ 0) : Calls Try.prog 3 #[.agg #[.slice sa s.length sc, .slice ma m.length mc, .int .i64 dc, .int .i64 tr], .int .i64 most] w fun e w' => e = .returned (.bool true) ∧ Below w.heap.size w w' := by
  have FW := fun V => few_eq V sa ma s.length m.length sc mc dc tr true (decide_eq_true hf).symm
  have NW := fun V (hV : Below w.heap.size w V) => new_bad V R _ _ s m dc tr (hs.below hV) (hm.below hV) (by omega) (by omega) _ rfl hC
  have CK := fun (V : World) (h : Below w.heap.size w V) => check_eq V R _ _ s m dc tr (hs.below h) (hm.below h) (by omega) (by omega)
  obtain ⟨C, hC'⟩ : ∃ C, C = chk s m dc tr := ⟨_, rfl⟩
  rw [← hC'] at hC
  simp only [← hC'] at NW CK
  have hcb : (C == 0) = false := by simp [hC]
  have hcn : (C != 0) = true := by simp [bne, hcb]
  clear hs hm hf hC hC'
  go_enter Try.func3, Try.ntmps3
  go_wp2_with (go_at_call 5; (with_reducible refine (FW _).mono ?_); rintro e w1 ⟨rfl, hb1⟩; refine Hid.out ?_)
  refine Lib.hid ?_
  have RB : Blk w1 (w.heap.size + 2) 4 #[.bool false] := (Blk.new' (by simp)).call hb1
  have PB : Blk w1 w.heap.size 24 #[.slice sa s.length sc, .slice ma m.length mc, .int .i64 dc, .int .i64 tr] := (Blk.alloc (Blk.alloc (Blk.new w _ _) _) _).call hb1
  have MB : Blk w1 (w.heap.size + 1) 3 #[.int .i64 most] := (Blk.alloc (Blk.new' (by simp)) _).call hb1
  have HB1 := Lib.hid (show Below w.heap.size w w1 from (by repeat' (first | with_reducible exact Below.refl _ _ | with_reducible assumption | with_reducible refine Q.alloc ?_ _ | with_reducible refine Q.drew ?_ | with_reducible refine Q.drewN ?_ _ | with_reducible refine Q.call ?_ (by assumption))))
  obtain ⟨hp, hhp⟩ : ∃ hp, hp = w.heap.size := ⟨_, rfl⟩
  obtain ⟨hx, hhx⟩ : ∃ hx, hx = w.heap.size + 1 := ⟨_, rfl⟩
  obtain ⟨hr, hhr⟩ : ∃ hr, hr = w.heap.size + 2 := ⟨_, rfl⟩
  have HHR := Lib.hid (show w.heap.size ≤ hr ∧ hr < w.heap.size + 3 by omega)
  rw [← hhp] at PB
  rw [← hhx] at MB
  rw [← hhr] at RB
  have hPE : (Value.pointer (some ⟨w.heap.size, 0, none⟩)) = Value.pointer (some ⟨hp, 0, none⟩) := by rw [hhp]
  rw [← hhr, ← hhx, hPE]
  have RB1 := Lib.hid RB
  have PB1 := Lib.hid PB
  have MB1 := Lib.hid MB
  clear hb1 RB PB MB hhp hhx hhr hPE
  have p0 := PB1.out.cell 0
  have p1 := PB1.out.cell 1
  have p2 := PB1.out.cell 2
  have p3 := PB1.out.cell 3
  have pl := PB1.out.lt
  have NW1 := NW w1 HB1.out
  go_wp2_with (go_at_call 7; (with_reducible refine NW1.mono ?_); rintro e w2 ⟨rfl, hb2⟩; refine Hid.out ?_)
  refine Lib.hid ?_
  have HB2 := Lib.hid (Q.call HB1.out hb2)
  have PB2 := PB1.out.call hb2
  have RB2 := Lib.hid (RB1.out.call hb2)
  have CK2 := CK w2 HB2.out
  clear p0 p1 p2 p3 pl hb2 NW1 NW CK RB1 PB1 MB1
  have p0 := PB2.cell 0
  have p1 := PB2.cell 1
  have p2 := PB2.cell 2
  have p3 := PB2.cell 3
  have pl := PB2.lt
  go_wp2_with (go_at_call 8; (with_reducible refine CK2.mono ?_); rintro e w5 ⟨rfl, hb5⟩; refine Hid.out ?_)
  refine Lib.hid ?_
  have HB5 := Lib.hid (Q.call HB2.out hb5)
  have RB1 := Lib.hid (RB2.out.call hb5)
  clear hb5 CK2 RB2 HB2 HB1 PB2 p0 p1 p2 p3 pl
  go_wp2_with (go_at_call 6; (with_reducible refine (lawake_eq _).mono ?_); rintro e w9 ⟨rfl, hb9⟩; refine Hid.out ?_)
  refine Lib.hid ?_
  have RB9 := RB1.out.call hb9
  have hB9 : Below w.heap.size w w9 := Q.call HB5.out hb9
  have z0 := RB9.cell 0
  have z1 := RB9.frozen 0
  clear hb9
  go_wp2_with fail
  have hc5 := World.cell?_setCell_same' w9 ⟨hr, 0, none⟩ (.bool true) (by rw [z0]; rfl)
  refine bodyPost_ret (show _ = Result.ok (Value.bool true) _ by simp [results, Try.f3, go_sem, hc5]) rfl ?_
  exact ⟨rfl, hB9.setCell (p := ⟨hr, 0, none⟩) (by have := HHR.out; simp only; omega) _⟩
end Go.Proofs.Ytggnkkmlabhofaa
