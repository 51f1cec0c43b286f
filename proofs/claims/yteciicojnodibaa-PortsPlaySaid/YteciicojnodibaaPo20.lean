/- An append that tells whether the row moved; the document's Write by it, in part. (printed by gen/po20.py) -/
import Derived.Test.YteciicojnodibaaPo19
namespace Go.Proofs.Yteciicojnodibaa
set_option linter.unusedVariables false
set_option linter.unusedSimpArgs false
open Go.RowKit
attribute [local go_sem ↓] Go.wp_at_zero Go.wp_at_succ
section
variable {P : Program} (w : World)
/-- An append to a row of one's own: it stays in its block, or all old blocks are as they were. -/
theorem step_append_keeps {ops : Array Oper} {o : Oper} {a : Act} {K : Act → World → Prop} {Q : Exit → Act → World → Prop} {E : Prop} (hgd : o.guard = none) (s x : Operand) (t : TypeId)
    (ho : o.op = .call { callee := .builtin .append, args := #[s, x], argTypes := #[t, t] })
    (base : Nat) (e : TypeId) (i : TypeInfo) (z : Value) (size bytes : Nat) (ht : P.underlying t = some (.slice e)) (hi : P.info? e = some i) (hz : i.zero = some z)
    (hsize : i.size = size) (hby : i.bytes = bytes) (hzs : z.cells.size = size) (hsz : 0 < size)
    (v : Value) (n : Nat) (xs : List Value) (hs : a.eval s = v) (hown : w.ownsRow base e size v n xs)
    (ad : Addr) (m c : Nat) (news : List Value) (hx : a.eval x = .slice (some ad) m c) (hl : news.length = m * size) (hnews : ∀ j u, news[j]? = some u → w.cell? (ad.add j) = some u) (h1 : ∀ u ∈ news, u.oneCell' = true)
    (hm : 0 < m) (h63 : n + m ≤ maxLen) (hbytes : (n + m) * bytes ≤ 140737488355328) (hbase : base ≤ w.heap.size) (H : Nat) (hH : w.heap.size = H)
    (h : ∀ g cap w', w'.ownsRow base e size (.slice (some ⟨g, 0, none⟩) (n + m) cap) (n + m) (xs ++ news) → w.grownBy w' v.ownBlock → (v.ownBlock = some g ∨ (g = H ∧ ∀ k, k < w.heap.size → w'.heap[k]? = w.heap[k]?)) → g < w'.heap.size → K (a.put o.dst (.slice (some ⟨g, 0, none⟩) (n + m) cap)) w') :
    if Region.wanted o (yielded ops a.tmps) = true then Oper.wp P o a w K Q else E := by
  have hw : Region.wanted o (yielded ops a.tmps) = true := by simp [Region.wanted, hgd]
  rw [if_pos hw]
  obtain ⟨g, cap, w', hr, h2, h3, h4, h5⟩ := run_append_lies (P := P) w t o.type base e i z size bytes ht hi hz hsize hby hzs hsz v n xs hown ad m c news hl hnews h1 hm h63 hbytes hbase H hH
  have h4' : v.ownBlock = some g ∨ (g = H ∧ ∀ k, k < w.heap.size → w'.heap[k]? = w.heap[k]?) := by
    rcases h4 with h4 | h4
    · exact .inl h4
    · subst hsize
      subst hby
      rcases hown.2 with ⟨rfl, _⟩ | ⟨g0, cap0, cur, rfl, hbg, hg, hnc, hcm, hcs, htake⟩
      · exact .inr ⟨h4, fun k hk => h3.block k hk (by simp [Value.ownBlock])⟩
      · by_cases hroom : n + m ≤ cap0
        · have hfit : n * i.size + news.length ≤ cur.size := by rw [hl, hcs, ← Nat.add_mul]; exact Nat.mul_le_mul_right _ hroom
          have hr2 := run_append_room (P := P) w t o.type e i ht hi g0 n cap0 cur hg ad m c news hl hnews h1 hroom hfit
          rw [hr] at hr2
          injection hr2 with e1 e2
          injection e1 with e3 _ _
          injection e3 with e4
          injection e4 with e5
          exact .inl (by rw [e5]; rfl)
        · have holds : ∀ j u, xs[j]? = some u → w.cell? ((⟨g0, 0, none⟩ : Addr).add j) = some u := hown.cells (g := g0) rfl
          have hr2 := run_append_grow (P := P) w t o.type e i z ht hi hz ⟨g0, 0, none⟩ n cap0 xs hown.1 holds ad m c news hl hnews (by omega) (by simp only [maxLen] at h63; omega) (growslice_fits (by omega) hbytes)
          rw [hr] at hr2
          injection hr2 with e1 e2
          exact .inr ⟨h4, fun k hk => by rw [e2]; exact Below.heap_alloc w.drew _ k hk⟩
  unfold Oper.wp execOp
  simp only [ho, resolve, invoke, builtin, Sem.run_bind, Sem.run_pure, Result.andThen_ok, List.map_toArray, List.map_cons, List.map_nil, hs, hx, hr]
  exact h g cap w' h2 h3 h4' h5
end
theorem wpList_append_keeps {P : Program} (w : World) {ops : Array Oper} {rest : List Oper} {o : Oper} {a : Act} {Q : Exit → Act → World → Prop} (hgd : o.guard = none) (s x : Operand) (t : TypeId)
    (ho : o.op = .call { callee := .builtin .append, args := #[s, x], argTypes := #[t, t] })
    (base : Nat) (e : TypeId) (i : TypeInfo) (z : Value) (size bytes : Nat) (ht : P.underlying t = some (.slice e)) (hi : P.info? e = some i) (hz : i.zero = some z)
    (hsize : i.size = size) (hby : i.bytes = bytes) (hzs : z.cells.size = size) (hsz : 0 < size)
    (v : Value) (n : Nat) (xs : List Value) (hs : a.eval s = v) (hown : w.ownsRow base e size v n xs)
    (ad : Addr) (m c : Nat) (news : List Value) (hx : a.eval x = .slice (some ad) m c) (hl : news.length = m * size) (hnews : ∀ j u, news[j]? = some u → w.cell? (ad.add j) = some u) (h1 : ∀ u ∈ news, u.oneCell' = true)
    (hm : 0 < m) (h63 : n + m ≤ maxLen) (hbytes : (n + m) * bytes ≤ 140737488355328) (hbase : base ≤ w.heap.size) (H : Nat) (hH : w.heap.size = H)
    (h : ∀ g cap w', w'.ownsRow base e size (.slice (some ⟨g, 0, none⟩) (n + m) cap) (n + m) (xs ++ news) → w.grownBy w' v.ownBlock → (v.ownBlock = some g ∨ (g = H ∧ ∀ k, k < w.heap.size → w'.heap[k]? = w.heap[k]?)) → g < w'.heap.size → wpList P ops Q rest (a.put o.dst (.slice (some ⟨g, 0, none⟩) (n + m) cap)) w') : wpList P ops Q (o :: rest) a w :=
  wpList_plain hgd fun K hK => by
    have hw : Region.wanted o (yielded #[] a.tmps) = true := by simp [Region.wanted, hgd]
    have hh := step_append_keeps (E := True) (ops := #[]) (K := K) (Q := Q) w hgd s x t ho base e i z size bytes ht hi hz hsize hby hzs hsz v n xs hs hown ad m c news hx hl hnews h1 hm h63 hbytes hbase H hH (fun g cap w' h2 h3 h4 h5 => hK _ _ (h g cap w' h2 h3 h4 h5))
    rwa [if_pos hw] at hh
/-- As APost; and the row stayed in its block, or all old blocks but g are as they were. -/
def APostK (w : World) (g : Nat) (cs : Array Value) (j : Nat) (T : TypeId) (n : Nat) (v : Value) (m : Nat) (xs : List Value) (w' : World) : Prop :=
  ∃ v', Blk w' g 34 (cs.setIfInBounds j v') ∧ w'.ownsRow 0 T n v' m xs ∧ Chg (fun b => b = g ∨ v.ownBlock = some b) w w' ∧ (∀ b, v'.ownBlock = some b → v.ownBlock = some b ∨ w.heap.size ≤ b) ∧ ((∃ b, v.ownBlock = some b ∧ v'.ownBlock = some b) ∨ Chg (fun b => b = g) w w')
theorem apostk_of {w w1 : World} {g j gg cap1 l m H : Nat} {cs : Array Value} {T : TypeId} {n : Nat} {v : Value} {xs : List Value} {W : World} (hB : Below w.heap.size w W) (hH : W.heap.size = H) (hne : v.ownBlock ≠ some g) (hg : g < w.heap.size)
    (hown : w1.ownsRow 0 T n (.slice (some ⟨gg, 0, none⟩) l cap1) m xs) (hgrow : W.grownBy w1 v.ownBlock) (hat0 : v.ownBlock = some gg ∨ (gg = H ∧ ∀ k, k < W.heap.size → w1.heap[k]? = W.heap[k]?)) (hg1 : Blk w1 g 34 cs) :
    APostK w g cs j T n v m xs (w1.setCell ⟨g, j, none⟩ (.slice (some ⟨gg, 0, none⟩) l cap1)) := by
  have hsz := hB.size
  have hat : v.ownBlock = some gg ∨ gg = H := hat0.imp id (fun h => h.1)
  have hgg : gg ≠ g := by
    rcases hat with h | h
    · exact fun e => hne (by rw [h, e])
    · omega
  refine ⟨.slice (some ⟨gg, 0, none⟩) l cap1, ?_, ?_, ⟨hgrow.os.trans hB.os, hgrow.tape.trans hB.tape, hgrow.output.trans hB.output, ?_, ?_⟩, ?_, ?_⟩
  · rw [hg1.setCell]
    exact hg1.setRow _
  · exact own_keep hown (fun k hk _ => Below.heap_setCell _ _ _ k (by
      have : gg = k := by simpa [Value.ownBlock] using hk
      rw [← this]; exact hgg)) (by simp)
  · have := hgrow.size
    simp at this ⊢
    omega
  · intro k hk hS
    have h1 : k ≠ g := fun h => hS (.inl h)
    have h2 : some k ≠ v.ownBlock := fun h => hS (.inr h.symm)
    rw [Below.heap_setCell _ _ _ k h1, hgrow.block k (by omega) h2]
    exact hB.block k hk
  · intro k h
    have h : gg = k := by simpa [Value.ownBlock] using h
    subst h
    rcases hat with h | h
    · exact .inl h
    · exact .inr (by omega)
  · rcases hat0 with h | ⟨h, hk⟩
    · exact .inl ⟨gg, h, rfl⟩
    · refine .inr ⟨hgrow.os.trans hB.os, hgrow.tape.trans hB.tape, hgrow.output.trans hB.output, ?_, ?_⟩
      · have := hgrow.size
        simp at this ⊢
        omega
      · intro k hk' hS
        rw [Below.heap_setCell _ _ _ k hS, hk k (by omega)]
        exact hB.block k hk'
set_option maxRecDepth 100000 in
set_option maxHeartbeats 3200000 in
theorem rw_app2k (w : World) (col : Nat → Nat) (c g : Nat) (v : RV) (s : PS) (b cyc : Int) (hp : IsR w col c g v s) (hl : s.out.length < 4096) :
    Calls Try.prog 23 #[.pointer (some ⟨g, 0, none⟩), .int .i64 2, .agg #[.int .u8 b, .int .u8 0], .int .i64 cyc] w fun e w' => e = .returned (.tuple #[.int .i64 0, .int .i64 0]) ∧ APostK w g v.cells 2 5 1 v.out (s.out ++ [b]).length (EU.row (s.out ++ [b])) w' := by
  have hb := hp.blk
  have hr := hp.out.1
  obtain ⟨a, cap, hv, hcap⟩ := own_slice hr
  have c0 : w.cell? ⟨g, 2, none⟩ = some v.out := hb.cell 2
  have hlt := hb.lt
  have hne : v.out.ownBlock ≠ some g := own_ne hr hb (by decide)
  have hl' : (s.out.length : Int) < (4096 : Int) := by omega
  obtain ⟨i0, hi0, hz0, hz1, hz2⟩ := info_parts info_U
  have HV := Lib.hid hv
  rw [hv] at c0 hr
  have HNE := Lib.hid hne
  have HB := Lib.hid hb
  clear hp hv hne hb
  rw [EU.row_append, List.length_append]
  go_enter Try.func23, Try.ntmps23
  go_wp2_with fail
  go_region_law (refine step_append_keeps _ (by rfl) _ _ _ (by rfl) 0 5 i0 _ 1 1 Try.underlying29 hi0 hz0 hz1 hz2 rfl (by omega) (.slice a s.out.length cap) s.out.length (EU.row s.out) (by rfl) (by exact (own_keep hr (fun b _ hlt => (Below.heap_alloc _ _ b (by simp; omega)).trans (Below.heap_alloc w _ b hlt)) (by simp; omega))) ⟨w.heap.size + 1, 0, none⟩ 1 1 [.int .u8 b] (by rfl) (by rfl) (World.news_of_block (cs := #[.int .u8 b]) (t := 5) (fr := (0, 0)) (Blk.new' (by simp))) (by simp [Value.oneCell']) (by omega) (by unfold maxLen; omega) (by omega) (by simp) (w.heap.size + 2) (by simp) ?_; intro gg cap1 w1 hown1 hgrow hat hlt1; have hg1 : Blk w1 g 34 v.cells := (hgrow.block g (by simp; omega) (by rw [← HV.out]; exact Ne.symm HNE.out)).trans ((HB.out.alloc _).alloc _); have k1 := hg1.frozen 2; have k0 := hg1.cell 2)
  all_goals
    go_wp2
    go_returns
    rw [← HV.out] at hgrow hat
    exact ⟨rfl, apostk_of (Q.drew (Q.alloc (Q.alloc (Below.refl _ _) _) _)) (by simp) HNE.out hlt hown1 hgrow hat hg1⟩
set_option maxRecDepth 100000 in
set_option maxHeartbeats 3200000 in
theorem rw_app3k (w : World) (col : Nat → Nat) (c g : Nat) (v : RV) (s : PS) (b t cyc : Int) (hp : IsR w col c g v s) (hl : s.kept.length < 4096) :
    Calls Try.prog 23 #[.pointer (some ⟨g, 0, none⟩), .int .i64 3, .agg #[.int .u8 b, .int .u8 t], .int .i64 cyc] w fun e w' => e = .returned (.tuple #[.int .i64 0, .int .i64 0]) ∧ APostK w g v.cells 3 23 2 v.kept (s.kept ++ [(b, t)]).length (EB.row (s.kept ++ [(b, t)])) w' := by
  have hb := hp.blk
  have hr := hp.kept.1
  obtain ⟨a, cap, hv, hcap⟩ := own_slice hr
  have c0 : w.cell? ⟨g, 3, none⟩ = some v.kept := hb.cell 3
  have hlt := hb.lt
  have hne : v.kept.ownBlock ≠ some g := own_ne hr hb (by decide)
  have hl' : (s.kept.length : Int) < (4096 : Int) := by omega
  obtain ⟨i0, hi0, hz0, hz1, hz2⟩ := info_parts info_B
  have HV := Lib.hid hv
  rw [hv] at c0 hr
  have HNE := Lib.hid hne
  have HB := Lib.hid hb
  clear hp hv hne hb
  rw [EB.row_append, List.length_append]
  go_enter Try.func23, Try.ntmps23
  go_wp2_with fail
  go_region_law (refine step_append_keeps _ (by rfl) _ _ _ (by rfl) 0 23 i0 _ 2 2 Try.underlying31 hi0 hz0 hz1 hz2 rfl (by omega) (.slice a s.kept.length cap) s.kept.length (EB.row s.kept) (by rfl) (by exact (own_keep hr (fun b _ hlt => (Below.heap_alloc _ _ b (by simp; omega)).trans (Below.heap_alloc w _ b hlt)) (by simp; omega))) ⟨w.heap.size + 1, 0, none⟩ 1 1 [.int .u8 b, .int .u8 t] (by rfl) (by rfl) (World.news_of_block (cs := #[.int .u8 b, .int .u8 t]) (t := 23) (fr := (0, 0)) (Blk.new' (by simp))) (by simp [Value.oneCell']) (by omega) (by unfold maxLen; omega) (by omega) (by simp) (w.heap.size + 2) (by simp) ?_; intro gg cap1 w1 hown1 hgrow hat hlt1; have hg1 : Blk w1 g 34 v.cells := (hgrow.block g (by simp; omega) (by rw [← HV.out]; exact Ne.symm HNE.out)).trans ((HB.out.alloc _).alloc _); have k1 := hg1.frozen 3; have k0 := hg1.cell 3)
  all_goals
    go_wp2
    go_returns
    rw [← HV.out] at hgrow hat
    exact ⟨rfl, apostk_of (Q.drew (Q.alloc (Q.alloc (Below.refl _ _) _) _)) (by simp) HNE.out hlt hown1 hgrow hat hg1⟩
end Go.Proofs.Yteciicojnodibaa
