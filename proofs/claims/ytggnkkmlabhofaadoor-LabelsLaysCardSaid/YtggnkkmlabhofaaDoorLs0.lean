/- Secret, and the contract of the iterator that it gives. -/
import Derived.Test.YtggnkkmlabhofaaDoorMem6
import Derived.Test.YtggnkkmlabhofaaDoorMem1
import Derived.Test.YtggnkkmlabhofaaDoorTb1
import Derived.RangeFuncBox
namespace Go.Proofs.YtggnkkmlabhofaaDoor
set_option linter.unusedVariables false
set_option linter.unusedSimpArgs false
open Go.RowKit Go.Shelf
attribute [local go_sem] Oper.semAt_some

theorem eql_func_nil (f : FuncId) (cs : Array Value) (w : World) : (binOp .eql 76 (.func (.func f) #[] cs) .nilFunc).run Tryd.prog w = .ok (.bool false) w := by
  have h : ∀ d : Nat, (Op.equalIn (d + 1) 76 (.func (.func f) #[] cs) .nilFunc).run Tryd.prog w = .ok false w := fun d => by
    simp [Op.equalIn, run_underlying Tryd.underlying76, go_sem]
  simp only [binOp]
  simp [Op.equal, Op.maxDepth, h 9999]
theorem secret_calls (g : Nat) (f : Nat → Int × Int) (w : World) (hm : Mem w g f) :
    Calls Tryd.prog 41 #[.pointer (some ⟨g, 0, none⟩)] w fun e w' => ∃ gb gm, e = .returned (.func (.func 65) #[] #[.pointer (some ⟨gb, 0, none⟩)]) ∧ w'.cell? ⟨gb, 0, none⟩ = some (.pointer (some ⟨gm, 0, none⟩)) ∧ Mem w' gm f ∧ w.heap.size ≤ gm ∧ w.heap.size ≤ gb ∧ gb < w'.heap.size ∧ Below w.heap.size w w' := by
  have C := clone_calls g f w hm
  clear hm
  go_enter Tryd.func41, Tryd.ntmps41
  go_wp2_with (go_at_call 64; (with_reducible refine C.mono ?_); rintro e w1 ⟨rfl, hm1, hb1⟩)
  go_returns
  exact ⟨w1.heap.size, w.heap.size, rfl, by simp, hm1.call (Q.alloc (Below.refl _ _) _), Nat.le_refl _, hb1.size, by simp, Q.alloc hb1 _⟩

/-- The bytes below k of which a bit is secret, with their addresses. -/
def secs (f : Nat → Int × Int) : Nat → List (Nat × Int × Int)
  | 0 => []
  | k + 1 => secs f k ++ (if (f k).2 = 0 then [] else [(k, f k)])
theorem secs_length (f : Nat → Int × Int) : ∀ k, (secs f k).length ≤ k
  | 0 => Nat.le_refl _
  | k + 1 => by
    have := secs_length f k
    rw [secs, List.length_append]
    split
    · simp; omega
    · simp; omega
abbrev encS (x : Nat × Int × Int) : Array Value := #[.int .i64 (x.1 : Int), .agg #[.int .u8 x.2.1, .int .u8 x.2.2]]
/-- A round keeps the memory that is read, and its box. -/
def KM (gm gb : Nat) (W W' : World) : Prop := W'.heap[gm]? = W.heap[gm]? ∧ W'.heap[gb]? = W.heap[gb]?
theorem KM.t {gm gb : Nat} {A B C : World} (h : KM gm gb A B) (k : KM gm gb B C) : KM gm gb A C := ⟨k.1.trans h.1, k.2.trans h.2⟩
theorem KM.b {gm gb : Nat} {w : World} (h1 : gm < w.heap.size) (h2 : gb < w.heap.size) (W : World) (l : Nat) (o o' : Obj) (hl : w.heap.size ≤ l) (_ : W.heap[l]? = some o) (_ : o.isCells = false) (_ : o.isWalk = false) : KM gm gb W (W.putObj l o') :=
  ⟨World.putObj_heap_other (by omega), World.putObj_heap_other (by omega)⟩
theorem Mem.heap {w w' : World} {g : Nat} {f : Nat → Int × Int} (h : Mem w g f) (hb : w'.heap[g]? = w.heap[g]?) : Mem w' g f := by
  obtain ⟨M, hs, hM, hf⟩ := h.blk
  exact ⟨M, hs, hb.trans hM, hf⟩

/-- What has come where a round said 'no more'. -/
def SpS (f : Nat → Int × Int) (N : Nat) (pre : List (Nat × Int × Int)) : Prop := ∃ k, k < N ∧ (f k).2 ≠ 0 ∧ pre = secs f k ++ [(k, f k)]

set_option maxRecDepth 4000000 in
set_option maxHeartbeats 2000000 in
theorem sec1_in (F : Fence) (n : Nat) (hF : F.fn 65) (hro : F.round = none) (hn : 1 ≤ n) (l gb gm N : Nat) (hN : N = 65536) (f : Nat → Int × Int) (J Jx : List (Nat × Int × Int) → World → Prop) (W : World)
    (hY : ∀ pre x W, J pre W → pre.length < N → YieldAt F (n - 1) Tryd.prog l (encS x) W fun e W' =>
      (e = .returned (.bool true) ∧ J (pre ++ [x]) W' ∧ KM gm gb W W') ∨ (e = .returned (.bool false) ∧ Jx (pre ++ [x]) W'))
    (T : List (Nat × Int × Int)) (hT : secs f N = T) (hB : W.cell? ⟨gb, 0, none⟩ = some (.pointer (some ⟨gm, 0, none⟩))) (hM : Mem W gm f) (h0 : J [] W) :
    CallsIn F n Tryd.prog 65 #[.func (.yield l) #[] #[], .pointer (some ⟨gb, 0, none⟩)] W fun e W' => (∃ v, e = .returned v) ∧
      ((∃ ys, ys = T ∧ J ys W') ∨ (∃ pre, SpS f N pre ∧ Jx pre W')) := by
  have HT := Lib.hid hT
  have HN := Lib.hid hN
  have hN1 : (N : Int) ≤ 65536 := by omega
  have hN2 : (65536 : Int) ≤ (N : Int) := by omega
  clear hT hN
  have HM := Lib.hid hM
  have hgl := hM.lt
  clear hM
  refine callsIn_of_wp Tryd.func65 rfl hF ?_ hro
  simp only [Tryd.ntmps65, List.size_toArray, List.length_cons, List.length_nil, Nat.reduceAdd, Nat.reduceSub, Array.replicate_succ, Array.replicate_zero, List.push_toArray, List.append_toArray, List.nil_append, List.cons_append]
  gi_wp2
  gi_loopw [6] (fun i wr => ∃ k : Nat, i = .int .i64 k ∧ k ≤ N ∧ J (secs f k) wr ∧ KM gm gb W wr)
    (fun i _ => N - (intOf i).toNat)
  case atStart => exact ⟨0, rfl, Nat.zero_le _, h0, rfl, rfl⟩
  case round =>
    obtain ⟨k, rfl, hk, hJs, hkm⟩ := hrel
    have hbr : wr.cell? ⟨gb, 0, none⟩ = some (.pointer (some ⟨gm, 0, none⟩)) := by
      rw [← hB]
      simp only [World.cell?, hkm.2]
    by_cases hlt : k < N
    · obtain ⟨c0, c1⟩ := (HM.out.heap hkm.1).at_ (show k < 65536 by omega)
      have hki : (k : Int) < 65536 := by omega
      have hlen : (secs f k).length < N := Nat.lt_of_le_of_lt (secs_length f k) hlt
      have hsu : secs f (k + 1) = secs f k ++ (if (f k).2 = 0 then [] else [(k, f k)]) := rfl
      have HSU := Lib.hid hsu
      clear hsu hB
      obtain ⟨v, t, hvt⟩ : ∃ v t, f k = (v, t) := ⟨_, _, rfl⟩
      have HV := Lib.hid hvt
      rw [hvt] at c0 c1
      clear hvt
      simp only at c0 c1
      by_cases ht : t = 0
      · subst ht
        have HJ := Lib.hid hJs
        have HKM := Lib.hid hkm
        clear hJs hkm hY h0 hlen
        gi_wp2
        refine ⟨fun _ h => (by cases h), ?_⟩
        gi_wp2
        refine ⟨⟨k + 1, by simp, by omega, ?_, HKM.out⟩, by simp [intOf]; omega⟩
        rw [HSU.out, HV.out, if_pos rfl, List.append_nil]
        exact HJ.out
      · have ht1 : (t == 0) = false := beq_eq_false_iff_ne.2 ht
        have ht2 : decide (t = 0) = false := decide_eq_false ht
        obtain ⟨fn, tmps, assign, body, hy, hR⟩ := hY _ (k, v, t) wr hJs hlen
        dsimp only [encS] at hy
        gi_wp2
        refine hR.mono ?_
        rintro e W3 (⟨rfl, hJ3, hk3⟩ | ⟨rfl, hJx3⟩)
        · gi_wp2
          refine ⟨⟨k + 1, by simp, by omega, ?_, hkm.t hk3⟩, by simp [intOf]; omega⟩
          rw [HSU.out, HV.out, if_neg ht]
          exact hJ3
        · gi_wp2
          refine bodyPost_ret (results_none rfl _ _ _) rfl ?_
          exact ⟨⟨_, rfl⟩, .inr ⟨_, ⟨k, hlt, by rw [HV.out]; exact ht, by rw [HV.out]⟩, hJx3⟩⟩
    · obtain rfl : k = N := by omega
      rw [HT.out] at hJs
      have hk6 : (65536 : Int) ≤ (k : Int) := hN2
      gi_wp2
      go_end0
      exact ⟨⟨_, rfl⟩, .inl ⟨_, rfl, hJs⟩⟩

theorem sec_stops (F : Fence) (n : Nat) (hF : F.fn 65) (hro : F.round = none) (hn : 1 ≤ n) (gb gm N : Nat) (hN : N = 65536) (f : Nat → Int × Int) (T : List (Nat × Int × Int)) (hT : secs f N = T) (w : World) (hgb : gb < w.heap.size)
    (hB : w.cell? ⟨gb, 0, none⟩ = some (.pointer (some ⟨gm, 0, none⟩))) (hM : Mem w gm f) :
    SeqStopsK F n Tryd.prog 65 #[.pointer (some ⟨gb, 0, none⟩)] encS (KM gm gb) (fun ys => ys = T) (SpS f N) N w := fun l J Jx W hW _ _ hY h0 =>
  sec1_in F n hF hro hn l gb gm N hN f J Jx W hY T hT ((hW.cell (p := ⟨gb, 0, none⟩) hgb).trans hB) (hM.call hW) h0
end Go.Proofs.YtggnkkmlabhofaaDoor
