/- An append that tells whether the row moved; the document's Add by it. -/
import Derived.Test.YtijlmdpcbclmaaaRec13
namespace Go.Proofs.Ytijlmdpcbclmaaa
set_option linter.unusedVariables false
set_option linter.unusedSimpArgs false
open Go.RowKit

section
variable {P : Program} (w : World)
/-- An append to a row of one's own: it stays in its block, or all old blocks are as they were. -/
theorem step_append_keeps {ops : Array Oper} {o : Oper} {a : Act} {K : Act → World → Prop} {Q : Exit → Act → World → Prop} {E : Prop} (hgd : o.guard = none) (s x : Operand) (t : TypeId)
    (ho : o.op = .call { callee := .builtin .append, args := #[s, x], argTypes := #[t, t] })
    (base : Nat) (e : TypeId) (i : TypeInfo) (z : Value) (size bytes : Nat) (ht : P.underlying t = some (.slice e)) (hi : P.info? e = some i) (hz : i.zero = some z)
    (hsize : i.size = size) (hby : i.bytes = bytes) (hzs : z.cells.size = size) (hsz : 0 < size)
    (v : Value) (n : Nat) (xs : List Value) (hs : a.eval s = v) (hown : w.ownsRow base e size v n xs)
    (ad : Addr) (m c : Nat) (news : List Value) (hx : a.eval x = .slice (some ad) m c) (hl : news.length = m * size) (hnews : ∀ j u, news[j]? = some u → w.cell? (ad.add j) = some u) (h1 : ∀ u ∈ news, u.oneCell' = true)
    (hm : 0 < m) (h63 : n + m ≤ maxLen) (hbytes : (n + m) * bytes ≤ 140737488355328) (hbase : base ≤ w.heap.size) (H : Nat) (hH : w.heap.size = H)
    (h : ∀ g cap w', w'.ownsRow base e size (.slice (some ⟨g, 0, none⟩) (n + m) cap) (n + m) (xs ++ news) → w.grownBy w' v.ownBlock → (v.ownBlock = some g ∨ (g = H ∧ ∀ k, k < w.heap.size → w'.heap[k]? = w.heap[k]?)) → g < w'.heap.size → K (a.put o.dst (.slice (some ⟨g, 0, none⟩) (n + m) cap)) w') :
    if Region.wanted o (yielded ops a.tmps) = true then Oper.wp P o a w K Q else E := by
  have hw : Region.wanted o (yielded ops a.tmps) = true := by simp [Region.wanted, hgd]
  rw [if_pos hw]
  obtain ⟨g, cap, w', hr, h2, h3, h4, h5⟩ := run_append_lies (P := P) w t o.type base e i z size bytes ht hi hz hsize hby hzs hsz v n xs hown ad m c news hl hnews h1 hm h63 hbytes hbase H hH
  have h4' : v.ownBlock = some g ∨ (g = H ∧ ∀ k, k < w.heap.size → w'.heap[k]? = w.heap[k]?) := by
    rcases h4 with h4 | h4
    · exact .inl h4
    · subst hsize
      subst hby
      rcases hown.2 with ⟨rfl, _⟩ | ⟨g0, cap0, cur, rfl, hbg, hg, hnc, hcm, hcs, htake⟩
      · exact .inr ⟨h4, fun k hk => h3.block k hk (by simp [Value.ownBlock])⟩
      · by_cases hroom : n + m ≤ cap0
        · have hfit : n * i.size + news.length ≤ cur.size := by rw [hl, hcs, ← Nat.add_mul]; exact Nat.mul_le_mul_right _ hroom
          have hr2 := run_append_room (P := P) w t o.type e i ht hi g0 n cap0 cur hg ad m c news hl hnews h1 hroom hfit
          rw [hr] at hr2
          injection hr2 with e1 e2
          injection e1 with e3 _ _
          injection e3 with e4
          injection e4 with e5
          exact .inl (by rw [e5]; rfl)
        · have holds : ∀ j u, xs[j]? = some u → w.cell? ((⟨g0, 0, none⟩ : Addr).add j) = some u := hown.cells (g := g0) rfl
          have hr2 := run_append_grow (P := P) w t o.type e i z ht hi hz ⟨g0, 0, none⟩ n cap0 xs hown.1 holds ad m c news hl hnews (by omega) (by simp only [maxLen] at h63; omega) (growslice_fits (by omega) hbytes)
          rw [hr] at hr2
          injection hr2 with e1 e2
          exact .inr ⟨h4, fun k hk => by rw [e2]; exact Below.heap_alloc w.drew _ k hk⟩
  unfold Oper.wp execOp
  simp only [ho, resolve, invoke, builtin, Sem.run_bind, Sem.run_pure, Result.andThen_ok, List.map_toArray, List.map_cons, List.map_nil, hs, hx, hr]
  exact h g cap w' h2 h3 h4' h5
end

set_option maxHeartbeats 1600000 in
theorem xadd_ok2 (B g : Nat) (sv : Value) (l : List RD) (most : Int) (full : Bool) (r : RD) (h0 : 0 ≤ r.addr) (h1 : r.addr ≤ 65535) (w : World) (hr : IsRR w B g sv l most full) (hB : B ≤ w.heap.size) (hl : (l.length : Int) < most) (hm : most ≤ 4096) :
    Calls Try.prog 29 #[.pointer (some ⟨g, 0, none⟩), .agg r.cells] w fun e w' => e = .returned (.int .i64 0) ∧ ∃ sv', IsRR w' B g sv' (l ++ [r]) most full ∧ Chg (RRF g sv) w w' ∧ (∀ b, RRF g sv' b → RRF g sv b ∨ w.heap.size ≤ b) ∧ (sv'.ownBlock = sv.ownBlock ∨ ∀ b, b < w.heap.size → b ≠ g → w'.heap[b]? = w.heap[b]?) := by
  obtain ⟨a, cap, rfl, hcap, hrd⟩ := hr.reads
  have c0 := hr.blk.cell 0
  have c1 := hr.blk.cell 1
  have f0 := hr.blk.frozen 0
  have hlt := hr.blk.lt
  obtain ⟨i0, hi0, hz0, hz1, hz2⟩ := info_parts rec_info
  obtain ⟨x, b, v, t⟩ := r
  simp only [RD.cells] at h0 h1 ⊢
  go_enter Try.func29, Try.ntmps29
  go_wp2
  go_quiet (fail)
  go_wp2
  go_region_law (refine step_append_keeps _ (by rfl) _ _ _ (by rfl) B 35 i0 _ 4 16 Try.underlying22 hi0 hz0 hz1 hz2 rfl (by omega) (.slice a l.length cap) l.length (rows l) (by rfl) (by exact (hr.own.alloc _).alloc _) ⟨w.heap.size + 1, 0, none⟩ 1 1 [.int .i64 x, .bool b, .int .u8 v, .int .u8 t] (by rfl) (by rfl) (World.news_of_block (cs := #[.int .i64 x, .bool b, .int .u8 v, .int .u8 t]) (t := 35) (fr := (0, 0)) (Blk.new' (by simp))) (by simp [Value.oneCell']) (by omega) (by unfold maxLen; omega) (by omega) (by simp; omega) (w.heap.size + 2) (by simp) ?_; intro gg cap1 w1 hown1 hgrow hat hlt1; have hg1 : Blk w1 g 54 #[.slice a l.length cap, .int .i64 most, .bool full] := (hgrow.block g (by simp; omega) (Ne.symm hr.ne)).trans ((hr.blk.alloc _).alloc _); have k0 := hg1.cell 0; have k1 := hg1.frozen 0)
  all_goals
    go_wp2
    go_returns
    have hgg : gg ≠ g := by
      rcases hat with h | ⟨h, _⟩
      · exact fun e => hr.ne (by rw [h, e])
      · omega
    refine ⟨rfl, .slice (some ⟨gg, 0, none⟩) (l.length + 1) cap1, ⟨?_, ?_, hr.ge, ?_⟩, ⟨hgrow.os, hgrow.tape, hgrow.output, ?_, ?_⟩, ?_, ?_⟩
    · rw [hg1.setCell]
      exact hg1.setRow _
    · rw [List.length_append, rows_snoc]
      exact own_keep hown1 (fun k hk _ => Below.heap_setCell _ _ _ k (by
        have : gg = k := by simpa [Value.ownBlock] using hk
        rw [← this]; exact hgg)) (by simp)
    · simp [Value.ownBlock, hgg]
    · have := hgrow.size
      simp at this ⊢
      omega
    · intro k hk hS
      have h1 : k ≠ g := fun h => hS (.inl h)
      have h2 : some k ≠ (Value.slice a l.length cap).ownBlock := fun h => hS (.inr h.symm)
      rw [Below.heap_setCell _ _ _ k h1, hgrow.block k (by simp; omega) h2]
      exact (Below.heap_alloc _ _ k (by simp; omega)).trans (Below.heap_alloc w _ k hk)
    · rintro k (h | h)
      · exact .inl (.inl h)
      · have h : gg = k := by simpa [Value.ownBlock] using h
        subst h
        rcases hat with h | ⟨h, _⟩
        · exact .inl (.inr h)
        · exact .inr (by omega)
    · rcases hat with h | ⟨_, h⟩
      · exact .inl h.symm
      · right
        intro k hk hne
        rw [Below.heap_setCell _ _ _ k hne, h k (by simp; omega)]
        exact (Below.heap_alloc _ _ k (by simp; omega)).trans (Below.heap_alloc w _ k hk)

end Go.Proofs.Ytijlmdpcbclmaaa
