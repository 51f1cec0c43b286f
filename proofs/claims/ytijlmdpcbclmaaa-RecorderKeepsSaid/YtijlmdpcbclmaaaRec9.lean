/- The library's iterator over a row of records: its contract. -/
import Derived.Test.YtijlmdpcbclmaaaRec8
namespace Go.Proofs.Ytijlmdpcbclmaaa
set_option linter.unusedVariables false
set_option linter.unusedSimpArgs false
open Go.RowKit Go.Shelf
attribute [local go_sem] Oper.semAt_some

def rd0 : RD := ⟨0, false, 0, 0⟩
/-- What has come when k rounds are over. -/
def uptoR (zs : List RD) (k : Nat) : List (Nat × RD) := (List.range k).map fun j => (j, zs[j]?.getD rd0)
theorem uptoR_succ (zs : List RD) (k : Nat) : uptoR zs (k + 1) = uptoR zs k ++ [(k, zs[k]?.getD rd0)] := by simp [uptoR, List.range_succ]
theorem uptoR_length (zs : List RD) (k : Nat) : (uptoR zs k).length = k := by simp [uptoR]
abbrev encR (x : Nat × RD) : Array Value := #[.int .i64 (x.1 : Int), .agg #[.int .i64 x.2.addr, .bool x.2.wr, .int .u8 x.2.v, .int .u8 x.2.t]]
/-- A round keeps the row's block. -/
def KB (sv : Value) (W W' : World) : Prop := ∀ b, sv.ownBlock = some b → W'.heap[b]? = W.heap[b]?
theorem KB.t {sv : Value} {A B C : World} (h : KB sv A B) (k : KB sv B C) : KB sv A C := fun b hb => (k b hb).trans (h b hb)
theorem KB.b {sv : Value} {w : World} (hs : ∀ b, sv.ownBlock = some b → b < w.heap.size) (W : World) (l : Nat) (o o' : Obj) (hl : w.heap.size ≤ l) (_ : W.heap[l]? = some o) (_ : o.isCells = false) (_ : o.isWalk = false) : KB sv W (W.putObj l o') :=
  fun b hb => World.putObj_heap_other (by have := hs b hb; omega)

theorem own_keep2 {w w' : World} {B e size n : Nat} {v : Value} {xs : List Value} (h : w.ownsRow B e size v n xs) (hk : KB v w w') : w'.ownsRow B e size v n xs := by
  refine ⟨h.1, ?_⟩
  rcases h.2 with ⟨rfl, hx⟩ | ⟨g, cap, cur, rfl, hB, hg, hrest⟩
  · exact .inl ⟨rfl, hx⟩
  · exact .inr ⟨g, cap, cur, rfl, hB, (hk g rfl).trans hg, hrest⟩

set_option maxRecDepth 100000 in
set_option maxHeartbeats 2000000 in
theorem sall1_in (F : Fence) (n : Nat) (hF : F.fn 46) (hro : F.round = none) (hn : 1 ≤ n) (l Bs : Nat) (sv : Value) (zs : List RD) (hz : zs.length ≤ 4096) (J Jx : List (Nat × RD) → World → Prop) (W : World)
    (hJ : AbidesFrom W.heap.size J)
    (hY : ∀ pre x W, J pre W → pre.length < zs.length → YieldAt F (n - 1) Try.prog l (encR x) W fun e W' =>
      (e = .returned (.bool true) ∧ J (pre ++ [x]) W' ∧ KB sv W W') ∨ (e = .returned (.bool false) ∧ Jx (pre ++ [x]) W'))
    (B0 : Nat) (hBs : W.cell? ⟨Bs, 0, none⟩ = some sv) (ho : W.ownsRow B0 35 4 sv zs.length (rows zs)) (h0 : J [] W) :
    CallsIn F n Try.prog 46 #[.func (.yield l) #[] #[], .pointer (some ⟨Bs, 0, none⟩)] W fun e W' => (∃ v, e = .returned v) ∧
      ((∃ ys, ys = uptoR zs zs.length ∧ J ys W') ∨ (∃ pre, (∃ k, k ≤ zs.length ∧ pre = uptoR zs k) ∧ Jx pre W')) := by
  obtain ⟨a, cap, rfl, hcap, hrd⟩ := own_reads ho
  refine callsIn_of_wp Try.func46 rfl hF ?_ hro
  simp only [Try.ntmps46, List.size_toArray, List.length_cons, List.length_nil, Nat.reduceAdd, Nat.reduceSub, Array.replicate_succ, Array.replicate_zero, List.push_toArray, List.append_toArray, List.nil_append, List.cons_append]
  gi_wp2
  gi_loopw [7] (fun i wr => ∃ k : Nat, k ≤ zs.length ∧ i = .int .i64 k ∧ J (uptoR zs k) wr ∧ KB (.slice a zs.length cap) W wr)
    (fun i _ => zs.length - (intOf i).toNat)
  case atStart => exact ⟨0, Nat.zero_le _, rfl, h0, fun _ _ => rfl⟩
  case round =>
    obtain ⟨k, hk, rfl, hJs, hkb⟩ := hrel
    by_cases hlt : k < zs.length
    · have hown := own_keep2 ho hkb
      have HKa := Lib.hid (show ∀ o, KB (.slice a zs.length cap) wr (wr.alloc o) from fun o b hb => Below.heap_alloc wr o b (own_lt hown hb).1)
      obtain ⟨a2, cap2, e2, _, hrd2⟩ := own_reads hown
      cases e2
      obtain ⟨b, off, r, rfl, hbl, hget, c0, c1, c2, c3⟩ := hrd2.at_ hlt
      have hge : zs[k]?.getD rd0 = r := by rw [hget]; rfl
      have hki : (k : Int) < (zs.length : Int) := by omega
      have HG := Lib.hid hge
      have HG2 := Lib.hid hget
      clear hge hget hrd2 hown
      obtain ⟨ad, bb, vv, tt⟩ := r
      simp only at c0 c1 c2 c3
      have hJa : J (uptoR zs k) (wr.alloc (.cells #[.int .i64 ad, .bool bb, .int .u8 vv, .int .u8 tt] 35)) := hJ _ _ _ none hJs (World.grownBy_alloc _ _ _) (fun r e => by cases e)
      obtain ⟨fn, tmps, assign, body, hy, hR⟩ := hY _ (k, ⟨ad, bb, vv, tt⟩) (wr.alloc (.cells #[.int .i64 ad, .bool bb, .int .u8 vv, .int .u8 tt] 35)) hJa (by rw [uptoR_length]; exact hlt)
      dsimp only [encR] at hy
      gi_wp2
      refine hR.mono ?_
      rintro e W3 (⟨rfl, hJ3, hk3⟩ | ⟨rfl, hJx3⟩)
      · gi_wp2
        go_roundw
        case rel => exact ⟨k + 1, by omega, by simp, by rw [uptoR_succ, HG.out]; exact hJ3, hkb.t ((HKa.out _).t hk3)⟩
        case measure => simp [intOf]; omega
      · gi_wp2
        refine bodyPost_ret (results_none rfl _ _ _) rfl ?_
        exact ⟨⟨_, rfl⟩, .inr ⟨_, ⟨k + 1, by omega, by rw [uptoR_succ, HG.out]⟩, hJx3⟩⟩
    · obtain rfl : k = zs.length := by omega
      gi_wp2
      go_end0
      exact ⟨⟨_, rfl⟩, .inl ⟨_, rfl, hJs⟩⟩

theorem sall_stops (F : Fence) (n : Nat) (hF : F.fn 46) (hro : F.round = none) (hn : 1 ≤ n) (Bs B0 : Nat) (sv : Value) (zs : List RD) (hz : zs.length ≤ 4096) (w : World) (hBs : Bs < w.heap.size)
    (hc : w.cell? ⟨Bs, 0, none⟩ = some sv) (ho : w.ownsRow B0 35 4 sv zs.length (rows zs)) :
    SeqStopsK F n Try.prog 46 #[.pointer (some ⟨Bs, 0, none⟩)] encR (KB sv) (fun ys => ys = uptoR zs zs.length) (fun pre => ∃ k, k ≤ zs.length ∧ pre = uptoR zs k) zs.length w := fun l J Jx W hW hJ _ hY h0 =>
  sall1_in F n hF hro hn l Bs sv zs hz J Jx W hJ hY B0 ((hW.cell (p := ⟨Bs, 0, none⟩) hBs).trans hc) (own_keep2 ho (fun b hb => hW.block b (own_lt ho hb).1)) h0
end Go.Proofs.Ytijlmdpcbclmaaa

