/- slices.Clone, slices.All, the recorder's All, Get, Erased. -/
import Derived.Test.YtijlmdpcbclmaaaRec6
import Derived.RangeFuncNested
import Derived.RangeFuncBound
import Derived.RangeFuncCalls
import Derived.RangeFuncLeaves
import Derived.Shelf.Abstract
import Derived.Shelf.RegionOpen
import Derived.OwnWalkIn
import Derived.TacticsInMore
import Derived.LoopNIn
import Derived.LoopIn
namespace Go.Proofs.Ytijlmdpcbclmaaa
set_option linter.unusedVariables false
set_option linter.unusedSimpArgs false
open Go.RowKit Go.Shelf

theorem eql_slice_some (ad : Addr) (n c : Nat) (w : World) : (binOp .eql 22 (.slice (some ad) n c) (.slice none 0 0)).run Try.prog w = .ok (.bool false) w := by
  have h : ∀ d : Nat, (Op.equalIn (d + 1) 22 (.slice (some ad) n c) (.slice none 0 0)).run Try.prog w = .ok false w := fun d => by
    simp [Op.equalIn, run_underlying Try.underlying22, go_sem]
  simp only [binOp]
  simp [Op.equal, Op.maxDepth, h 9999]
theorem eql_slice_none (w : World) : (binOp .eql 22 (.slice none 0 0) (.slice none 0 0)).run Try.prog w = .ok (.bool true) w := by
  have h : ∀ d : Nat, (Op.equalIn (d + 1) 22 (.slice none 0 0) (.slice none 0 0)).run Try.prog w = .ok true w := fun d => by
    simp [Op.equalIn, run_underlying Try.underlying22, go_sem]
  simp only [binOp]
  simp [Op.equal, Op.maxDepth, h 9999]
attribute [local go_sem] eql_slice_some eql_slice_none

set_option maxHeartbeats 800000 in
theorem sclone_calls (a : Option Addr) (len cap : Nat) (l : List RD) (hl : len ≤ 4096) (w : World) (hr : Reads w w.heap.size a len l) (hc : a = none → cap = 0) (hn : a = none → len = 0) :
    Calls Try.prog 42 #[.slice a len cap] w fun e w' => ∃ sv, e = .returned sv ∧ w'.ownsRow w.heap.size 35 4 sv l.length (rows l) ∧ Below w.heap.size w w' := by
  obtain ⟨i0, hi0, hz0, hz1, hz2⟩ := info_parts rec_info
  obtain rfl := hr.1
  cases a with
  | none =>
    have h0 := hc rfl
    have h1 := hn rfl
    obtain rfl : l = [] := List.eq_nil_of_length_eq_zero h1
    subst h0
    go_enter Try.func42, Try.ntmps42
    go_wp2
    go_returns
    exact ⟨_, rfl, World.ownsRow_nil _ _ _ _, Below.refl _ _⟩
  | some ad =>
    have hba : Below w.heap.size w (w.alloc (.cells #[] 35)) := (Below.refl _ _).alloc (Nat.le_refl _) _
    have hsrc := (hr.call hba).src hc hn
    have HO : (w.alloc (.cells #[] 35)).ownsRow w.heap.size 35 4 (.slice (some ⟨w.heap.size, 0, none⟩) 0 0) 0 [] := ⟨rfl, .inr ⟨w.heap.size, 0, #[], rfl, Nat.le_refl _, heap_alloc_new w _, Nat.le_refl _, Nat.zero_le _, rfl, rfl⟩⟩
    go_enter Try.func42, Try.ntmps42
    go_wp2_with (at_builtin; refine wpList_append_src rfl _ _ 22 rfl w.heap.size 35 i0 _ 4 16 Try.underlying22 hi0 hz0 hz1 hz2 rfl (by decide) (.slice (some ⟨w.heap.size, 0, none⟩) 0 0) 0 [] rfl HO _ l.length (rows l) rfl hsrc (rows_length _) (rows_one _) (by unfold maxLen; omega) (by omega) (by simp) ?_; intro v1 w1 hown1 hgrow1; simp only [Nat.zero_add, List.nil_append] at hown1)
    go_returns
    exact ⟨_, rfl, hown1, hba.grown hgrow1 (by simp) (by simp [Value.ownBlock])⟩

/-- A recorder's records, with what a nil one has. -/
theorem reads_some {w : World} {a : Option Addr} {l : List RD} (h : Reads w w.heap.size a l.length l) : (a = none → l.length = 0) := by
  intro ha
  by_cases h0 : 0 < l.length
  · obtain ⟨b, off, e, _⟩ := h.2 h0
    rw [ha] at e
    cases e
  · omega

set_option maxHeartbeats 800000 in
theorem sall_calls (v : Value) (w : World) (hv : ∃ a n c, v = .slice a n c) :
    Calls Try.prog 44 #[v] w fun e w' => e = .returned (.func (.func 46) #[] #[.pointer (some ⟨w.heap.size, 0, none⟩)]) ∧ w' = w.alloc (.cells #[v] 22) := by
  obtain ⟨a, n, c, rfl⟩ := hv
  go_enter Try.func44, Try.ntmps44
  go_wp2
  go_returns
  exact ⟨rfl, rfl⟩
theorem own_slice {w : World} {B n : Nat} {v : Value} {xs : List Value} {e size : Nat} (h : w.ownsRow B e size v n xs) : ∃ a c, v = .slice a n c := by
  rcases h.2 with ⟨rfl, rfl⟩ | ⟨g, cap, cur, rfl, hrest⟩
  · exact ⟨none, 0, rfl⟩
  · exact ⟨_, cap, rfl⟩
set_option maxHeartbeats 800000 in
theorem rall_calls (p : Value) (l : List RD) (w : World) (h : PRec w p l) (hl : l.length ≤ 4096) :
    Calls Try.prog 32 #[p] w fun e w' => ∃ g sv, e = .returned (.func (.func 46) #[] #[.pointer (some ⟨g, 0, none⟩)]) ∧ w'.cell? ⟨g, 0, none⟩ = some sv ∧ w.heap.size ≤ g ∧ g < w'.heap.size ∧ sv.ownBlock ≠ some g ∧
      w'.ownsRow w.heap.size 35 4 sv l.length (rows l) ∧ Below w.heap.size w w' := by
  go_enter Try.func32, Try.ntmps32
  go_wp2_with (go_at_call 41; (with_reducible refine (records_any p l _ h).mono ?_); rintro e w' ⟨a, n, rfl, hr, rfl⟩)
  have hB0 : Below w.heap.size w (w.drewN n) := Q.drewN (Below.refl _ _) n
  have hr0 : Reads (w.drewN n) (w.drewN n).heap.size a l.length l := hr
  (with_reducible refine (sclone_calls a l.length l.length l hl _ hr0 (reads_some hr) (reads_some hr)).mono ?_)
  rintro e w1 ⟨sv, rfl, hown, hb1⟩
  have hB1 := Q.call hB0 hb1
  go_wp2_with fail
  obtain ⟨a2, c2, rfl⟩ := own_slice hown
  (with_reducible refine (sall_calls _ _ ⟨a2, _, c2, rfl⟩).mono ?_)
  rintro e w2 ⟨rfl, hw2⟩
  go_wp2_with fail
  go_returns
  have hlt : ∀ b, (Value.slice a2 l.length c2).ownBlock = some b → b < w1.heap.size := fun b hb => (own_lt hown hb).1
  refine ⟨w1.heap.size, _, rfl, (Blk.new w1 _ _).cell 0, hB1.size, by simp, fun hc => absurd (hlt _ hc) (Nat.lt_irrefl _), ?_, Q.alloc hB1 _⟩
  exact own_keep hown (fun b _ hb => Below.heap_alloc w1 _ b hb) (by simp)

set_option maxHeartbeats 800000 in
theorem rget_nil (i : Int) (w : World) :
    Calls Try.prog 31 #[.pointer none, .int .i64 i] w fun e w' => e = .returned (.tuple #[.agg #[.int .i64 0, .bool false, .int .u8 0, .int .u8 0], .int .i64 2]) ∧ Below w.heap.size w w' := by
  go_enter Try.func31, Try.ntmps31
  go_wp2
  go_returns
  exact ⟨rfl, Q.alloc (Below.refl _ _) _⟩

set_option maxHeartbeats 1600000 in
theorem rget_in (B g : Nat) (sv : Value) (l : List RD) (most : Int) (full : Bool) (k : Nat) (r : RD) (w : World) (hr : IsRec w B g sv l most full) (hl : l.length ≤ 4096) (hk : l[k]? = some r) :
    Calls Try.prog 31 #[.pointer (some ⟨g, 0, none⟩), .int .i64 k] w fun e w' => e = .returned (.tuple #[.agg #[.int .i64 r.addr, .bool r.wr, .int .u8 r.v, .int .u8 r.t], .int .i64 0]) ∧ Below w.heap.size w w' := by
  have hkl := (List.getElem?_eq_some_iff.1 hk).1
  obtain ⟨a, cap, rfl, hcap, hrd⟩ := hr.reads
  obtain ⟨b, off, rfl, hb, hc⟩ := hrd.2 (by omega)
  obtain ⟨c0, c1, c2, c3⟩ := hc k r hk
  have x0 := hr.blk.cell 0
  have hgl := hr.blk.lt
  have hki : (k : Int) < (l.length : Int) := by omega
  have HP := Lib.hid (hr.prec hl)
  clear hc hrd hr hk
  obtain ⟨ad, bb, vv, tt⟩ := r
  simp only at c0 c1 c2 c3
  go_enter Try.func31, Try.ntmps31
  go_wp2_with (go_at_call 34; (with_reducible refine (len_any _ _ _ (HP.out.call (Q.alloc (Below.refl _ _) _))).mono ?_); rintro e w' ⟨rfl, n3, rfl⟩)
  have r1 := (Blk.new w 35 #[.int .i64 0, .bool false, .int .u8 0, .int .u8 0]).drewN n3
  have hBV : Below w.heap.size w ((w.alloc (.cells #[.int .i64 0, .bool false, .int .u8 0, .int .u8 0] 35)).drewN n3) := Q.drewN (Q.alloc (Below.refl _ _) _) _
  generalize (w.alloc (.cells #[.int .i64 0, .bool false, .int .u8 0, .int .u8 0] 35)).drewN n3 = V at r1 hBV ⊢
  have E : (((V.setCell ⟨w.heap.size, 0, none⟩ (.int .i64 ad)).setCell ⟨w.heap.size, 1, none⟩ (.bool bb)).setCell ⟨w.heap.size, 2, none⟩ (.int .u8 vv)).setCell ⟨w.heap.size, 3, none⟩ (.int .u8 tt) = V.setRow w.heap.size #[.int .i64 ad, .bool bb, .int .u8 vv, .int .u8 tt] := by
    rw [r1.setCell, r1.setCell_setRow, r1.setCell_setRow, r1.setCell_setRow]
    rfl
  rw [E]
  have r2 := r1.setRow #[.int .i64 ad, .bool bb, .int .u8 vv, .int .u8 tt]
  have hB2 := below_setRow hBV (Nat.le_refl _) #[.int .i64 ad, .bool bb, .int .u8 vv, .int .u8 tt]
  generalize V.setRow w.heap.size #[.int .i64 ad, .bool bb, .int .u8 vv, .int .u8 tt] = W at r2 hB2 ⊢
  have y0 := r2.cell 0
  have y1 := r2.cell 1
  have y2 := r2.cell 2
  have y3 := r2.cell 3
  refine bodyPost_ret (v := .tuple #[.agg #[.int .i64 ad, .bool bb, .int .u8 vv, .int .u8 tt], .int .i64 0]) ?_ rfl ⟨rfl, hB2⟩
  simp [results, Try.results31, go_sem, y0, y1, y2, y3]

/-- A record of which nothing is secret. -/
def RD.plain (r : RD) : RD := ⟨r.addr, r.wr, r.v, 0⟩
set_option maxHeartbeats 3200000 in
theorem rerased_calls (p : Value) (l : List RD) (w : World) (h : PRec w p l) (hl : l.length ≤ 4096) :
    Calls Try.prog 33 #[p] w fun e w' => ∃ sv, e = .returned sv ∧ w'.ownsRow w.heap.size 35 4 sv (l.map RD.plain).length (rows (l.map RD.plain)) ∧ Below w.heap.size w w' := by
  obtain ⟨i0, hi0, hz0, hz1, hz2⟩ := info_parts rec_info
  rcases h with ⟨rfl, rfl⟩ | ⟨B, g, sv0, most, full, rfl, hr, -⟩
  · have CL := len_any (.pointer none) [] w (.inl ⟨rfl, rfl⟩)
    simp only [List.length_nil] at CL
    go_enter Try.func33, Try.ntmps33
    go_wp2_with (go_at_call 34; (with_reducible refine CL.mono ?_); rintro e w' ⟨rfl, n3, rfl⟩)
    go_loopw [3, 8] (fun o v wr => o = .slice none 0 0 ∧ v = .int .i64 0 ∧ Below w.heap.size w wr) (fun _ _ _ => 0)
    case atStart => exact ⟨rfl, rfl, Q.drewN (Below.refl _ _) _⟩
    case round =>
      obtain ⟨rfl, rfl, hb⟩ := hrel
      go_wp2
      go_returns
      exact ⟨_, rfl, World.ownsRow_nil _ _ _ _, hb⟩
  · have HP := Lib.hid (hr.prec hl)
    go_enter Try.func33, Try.ntmps33
    go_wp2_with (go_at_call 34; (with_reducible refine (len_any _ _ _ HP.out).mono ?_); rintro e w' ⟨rfl, n3, rfl⟩)
    go_loopw [3, 8] (fun o v wr => ∃ (k : Nat), v = .int .i64 (k : Int) ∧ k ≤ l.length ∧ wr.ownsRow w.heap.size 35 4 o ((l.take k).map RD.plain).length (rows ((l.take k).map RD.plain)) ∧ Below w.heap.size w wr)
      (fun _ v _ => l.length - (intOf v).toNat)
    case atStart => exact ⟨0, rfl, Nat.zero_le _, World.ownsRow_nil _ _ _ _, Q.drewN (Below.refl _ _) _⟩
    case round =>
      obtain ⟨k, rfl, hk, hown, hbw⟩ := hrel
      by_cases hlt : k < l.length
      · have hr2 := hr.call hbw
        obtain ⟨a, cap, rfl, hcap, hrd⟩ := hr2.reads
        obtain ⟨b, off, r, rfl, hbl, hget, c0, c1, c2, c3⟩ := hrd.at_ hlt
        have HG := Lib.hid hget
        have x0 := hr2.blk.cell 0
        have hgl := hr2.blk.lt
        have hki : (k : Int) < (l.length : Int) := by omega
        have hlen : ((l.take k).map RD.plain).length ≤ 4095 := by
          rw [List.length_map, List.length_take]; omega
        have hB := hbw.size
        clear hget hrd
        obtain ⟨ad, bb, vv, tt⟩ := r
        simp only at c0 c1 c2 c3
        go_wp2_with (at_builtin; refine wpList_append_own _ rfl _ _ 22 rfl w.heap.size 35 i0 _ 4 16 Try.underlying22 hi0 hz0 hz1 hz2 rfl (by decide) _ _ _ rfl ((hown.alloc _).alloc _) ⟨wr.heap.size + 1, 0, none⟩ 1 1 [.int .i64 ad, .bool bb, .int .u8 vv, .int .u8 0] rfl rfl (World.news_of_block (cs := #[.int .i64 ad, .bool bb, .int .u8 vv, .int .u8 0]) (t := 35) (fr := (0, 0)) (Blk.new' (by simp))) (by simp [Value.oneCell']) (by unfold maxLen; omega) (by omega) (by simp; omega) ?_; intro v' w1 hown' hgrow _)
        refine ⟨⟨k + 1, by simp, by omega, ?_, ?_⟩, by simp [intOf]; omega⟩
        · rw [take_snoc l k _ HG.out, List.map_append, List.length_append, List.map_cons, List.map_nil, rows_snoc]
          exact hown'
        · exact ((hbw.alloc hB _).alloc (by simp; omega) _).grown hgrow (by simp; omega) (fun q hq => (own_lt hown hq).2)
      · obtain rfl : k = l.length := by omega
        go_wp2
        go_returns
        refine ⟨_, rfl, ?_, hbw⟩
        rw [List.take_length] at hown
        exact hown
end Go.Proofs.Ytijlmdpcbclmaaa
