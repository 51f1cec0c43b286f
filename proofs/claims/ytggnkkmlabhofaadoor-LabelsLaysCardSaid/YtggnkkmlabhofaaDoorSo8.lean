/- Policies in order: policy.sorted. (printed by gen/so8.py) -/
import Derived.Test.YtggnkkmlabhofaaDoorSo7
import Derived.Lib.SliceRun
namespace Go.Proofs.YtggnkkmlabhofaaDoor
set_option linter.unusedVariables false
set_option linter.unusedSimpArgs false
open Go.RowKit Go.Sort Go.Shelf Go.Lib
attribute [local go_sem ↓] Go.wp_at_zero Go.wp_at_succ

theorem follows_mixed : Tryd.prog.follows .mixedOrders = true := by kernel_rfl
theorem slp : SLP Tryd.prog :=
  { mixed := follows_mixed
    t0 := Tryd.underlying0
    a0 := Tryd.isAgg0
    z0 := Tryd.sizeOf0
    v0 := Tryd.zeroValue0
    t3 := Tryd.underlying3
    a3 := Tryd.isAgg3
    z3 := Tryd.sizeOf3
    v3 := Tryd.zeroValue3
    t4 := Tryd.underlying4
    a4 := Tryd.isAgg4
    z4 := Tryd.sizeOf4
    v4 := Tryd.zeroValue4
    tS := Tryd.underlying42
    aS := Tryd.isAgg42
    zS := Tryd.sizeOf42
    vS := Tryd.zeroValue42
    tF := Tryd.underlying137
    aF := Tryd.isAgg137
    zF := Tryd.sizeOf137
    vF := Tryd.zeroValue137
    tU := Tryd.underlying143
    aU := Tryd.isAgg143
    zU := Tryd.sizeOf143
    vU := Tryd.zeroValue143
    sw := Tryd.func100
    esw := fun args w => by go_simp
    ro := Tryd.func99
    ero := fun args w => by go_simp
    sm := Tryd.func98
    esm := fun args w => by go_simp
    st := Tryd.func93
    est := fun args w => by go_simp
    so := Tryd.func82
    eso := fun args w => by go_simp
    it := Tryd.func97
    eit := fun args w => by go_simp }
theorem cmpInt_eq (w : World) (x y : Int) : Calls Tryd.prog 84 #[.int .i64 x, .int .i64 y] w fun e w' => e = .returned (.int .i64 (if x < y then -1 else if y < x then 1 else 0)) ∧ w = w' := by
  by_cases h1 : x < y
  · rw [if_pos h1]
    go_enter Tryd.func84, Tryd.ntmps84
    go_wp2
    go_ret
    exact ⟨rfl, rfl⟩
  · rw [if_neg h1]
    by_cases h2 : y < x
    · rw [if_pos h2]
      go_enter Tryd.func84, Tryd.ntmps84
      go_wp2
      go_ret
      exact ⟨rfl, rfl⟩
    · rw [if_neg h2]
      go_enter Tryd.func84, Tryd.ntmps84
      go_wp2
      go_ret
      exact ⟨rfl, rfl⟩
def encT (x : Sp × Nat) : List Value := ES.enc x.1
theorem encT_len (x : Sp × Nat) : (encT x).length = 3 := rfl
theorem encT_one (x : Sp × Nat) : ∀ v ∈ encT x, v.oneCell' = true := ES.one x.1
theorem cmpSp_eq (w : World) (f t b f' t' b' : Int) : Calls Tryd.prog 83 #[.agg #[.int .i64 f, .int .i64 t, .int .u8 b], .agg #[.int .i64 f', .int .i64 t', .int .u8 b']] w fun e w' => e = .returned (.int .i64 (if f < f' then -1 else if f' < f then 1 else 0)) ∧ ∃ q os', w' = grow (w.drewN q) os' := by
  have CM := fun V => cmpInt_eq V f f'
  generalize (if f < f' then (-1 : Int) else if f' < f then 1 else 0) = r at CM ⊢
  go_enter Tryd.func83, Tryd.ntmps83
  go_wp2_with (go_at_call 84; (with_reducible refine (CM _).mono ?_); rintro e w1 ⟨rfl, rfl⟩)
  go_ret
  refine ⟨rfl, ?_⟩
  first
    | exact ⟨0, #[_, _], by rw [alloc_eq_grow, alloc_eq_grow, grow_grow]; rfl⟩
    | exact ⟨1, #[_, _], by rw [alloc_eq_grow, alloc_eq_grow, grow_grow]; rfl⟩
theorem cmp_lays (blk off size : Nat) (w : World) : CmpLays Tryd.prog 83 #[] encT 3 cfT blk off size w := by
  intro m os dk _ x y
  exact cmpSp_eq _ x.1.f x.1.t x.1.b y.1.f y.1.t y.1.b
theorem swk_below {α : Type} [Inhabited α] {enc : α → List Value} {k : Nat} {w0 W : World} {blk off : Nat} {d : Array α} (h : SWK enc k w0 blk off d W) {B : Nat} (hB : B ≤ blk) (hblk : blk < w0.heap.size) : Below B w0 W := by
  obtain ⟨n, os, rfl⟩ := h
  refine ⟨rfl, rfl, rfl, size_sortWorldK_c _ _ _ _ _ _ _ _, fun b hb => ?_⟩
  unfold sortWorldK grow putRowK putRow mapBlock
  rw [Array.getElem?_append_left (by simp [Sort.ahead]; omega), Array.getElem?_modify, if_neg (by omega)]
  rfl
theorem holds_zip {w : World} {B T g cap : Nat} {l : List Sp} (h : w.ownsRow B T 3 (.slice (some ⟨g, 0, none⟩) l.length cap) l.length (ES.row l)) : HoldsK encT 3 w g 0 l.zipIdx.toArray := by
  intro j hj
  rw [size_flatK] at hj
  have hj' : j < l.length * 3 := by simpa using hj
  have hk : j / 3 < l.length := by omega
  rw [get_flatK _ _ _ _ hj]
  have e : l.zipIdx.toArray[j / 3]! = (l[j / 3], j / 3) := by
    rw [getElem!_pos l.zipIdx.toArray (j / 3) (by simpa using hk)]
    simp
  rw [e]
  have h1 := ES.row_get l (j / 3) l[j / 3] (List.getElem?_eq_getElem hk) (j % 3) (Nat.mod_lt _ (by decide))
  rw [show j / 3 * 3 + j % 3 = j by omega] at h1
  have h2 := h.cellAt j hj'
  rw [h1] at h2
  have h3 := h.frozenAt j
  refine ⟨?_, by simpa using h3⟩
  rw [show (0 : Nat) + j = j by omega, h2]
  have hl : j % 3 < (ES.enc l[j / 3]).length := Nat.mod_lt _ (by decide)
  show _ = some (ES.enc l[j / 3])[j % 3]!
  rw [List.getElem?_eq_getElem hl, getElem!_pos (ES.enc l[j / 3]) (j % 3) hl]
theorem heap_new (w : World) (o : Obj) : (w.alloc o).heap[w.heap.size]? = some o := by unfold World.alloc; simp
theorem info_Sp : (Tryd.prog.info? 91).map (fun i => (i.zero, i.size, i.bytes)) = some (some (.agg #[.int .i64 0, .int .i64 0, .int .u8 0]), 3, 24) := by kernel_rfl
theorem info_sp {t : TypeId} {z : Value} {s b : Nat} (h : (Tryd.prog.info? t).map (fun i => (i.zero, i.size, i.bytes)) = some (some z, s, b)) : ∃ i, Tryd.prog.info? t = some i ∧ i.zero = some z ∧ i.size = s ∧ i.bytes = b := by
  cases hi : Tryd.prog.info? t with
  | none => rw [hi] at h; cases h
  | some i =>
    rw [hi] at h
    simp only [Option.map_some, Option.some.injEq, Prod.mk.injEq] at h
    exact ⟨i, rfl, h.1, h.2.1, h.2.2⟩
/-- slices.Clone of spans that are read. -/
theorem cloneSp_eq (w : World) (R : Nat → Prop) (v : Value) (l : List Sp) (hr : Rd ES w R v l) (hl : l.length ≤ 1000) : Calls Tryd.prog 81 #[v] w fun e w' => ∃ v', e = .returned v' ∧ w'.ownsRow w.heap.size 91 3 v' l.length (ES.row l) ∧ Below w.heap.size w w' := by
  obtain ⟨i0, hi0, hz0, hz1, hz2⟩ := info_sp info_Sp
  have hr' := hr
  obtain ⟨a, cap, rfl, hc, hn, -⟩ := hr
  have q22 : ∀ (w : World) (a : Option Addr) (n c n' c' : Nat), (binOp .eql 42 (.slice a n c) (.slice none n' c')).run Tryd.prog w = .ok (.bool a.isNone) w := fun w a n c n' c' => Lib.run_eql_slice_nil w _ _ a n c n' c' Tryd.underlying42
  cases a with
  | none =>
    have h0 := hn rfl
    subst h0
    obtain rfl : l = [] := List.eq_nil_of_length_eq_zero (by omega)
    go_enter Tryd.func81, Tryd.ntmps81
    go_wp2_with fail
    go_ret
    exact ⟨_, rfl, World.ownsRow_nil _ _ _ _, Below.refl _ _⟩
  | some ad =>
    have hba : Below w.heap.size w (w.alloc (.cells #[] 91)) := (Below.refl _ _).alloc (Nat.le_refl _) _
    have hsrc := (hr'.below hba).src
    have HO : (w.alloc (.cells #[] 91)).ownsRow w.heap.size 91 3 (.slice (some ⟨w.heap.size, 0, none⟩) 0 0) 0 [] := ⟨rfl, .inr ⟨w.heap.size, 0, #[], rfl, Nat.le_refl _, heap_new w _, Nat.le_refl _, Nat.zero_le _, rfl, rfl⟩⟩
    clear hr'
    go_enter Tryd.func81, Tryd.ntmps81
    go_wp2_with (at_builtin; refine wpList_append_src rfl _ _ 42 rfl w.heap.size 91 i0 _ 3 24 Tryd.underlying42 hi0 hz0 hz1 hz2 rfl (by decide) (.slice (some ⟨w.heap.size, 0, none⟩) 0 0) 0 [] rfl HO _ l.length (ES.row l) rfl hsrc (ES.row_length _) (ES.row_one _) (by unfold maxLen; omega) (by omega) (by simp) ?_; intro v1 w1 hown1 hgrow1; simp only [Nat.zero_add, List.nil_append] at hown1)
    go_ret
    exact ⟨_, rfl, hown1, hba.grown hgrow1 (by simp) (by simp [Value.ownBlock])⟩
set_option maxHeartbeats 800000 in
/-- policy.sorted: the spans in order, in a row of the call's own. -/
theorem sorted_eq (w : World) (R : Nat → Prop) (v : Value) (l : List Sp) (hr : Rd ES w R v l) (hl : l.length ≤ 1000) : Calls Tryd.prog 72 #[v] w fun e w' => ∃ v', e = .returned v' ∧ Rd ES w' (fun b => w.heap.size ≤ b) v' (srt l) ∧ Below w.heap.size w w' := by
  have CL := cloneSp_eq w R v l hr hl
  clear hr
  have KEY : ∀ (v' : Value) (w1 : World), w1.ownsRow w.heap.size 91 3 v' l.length (ES.row l) → Below w.heap.size w w1 → Calls Tryd.prog 82 #[v', .func (.func 83) #[] #[]] w1 fun e w' => e = .returned (.tuple #[]) ∧ Rd ES w' (fun b => w.heap.size ≤ b) v' (srt l) ∧ Below w.heap.size w w' := by
    intro v' w1 hown hb
    by_cases h0 : l.length = 0
    · obtain rfl : l = [] := List.eq_nil_of_length_eq_zero h0
      have hrd : Rd ES w1 (fun b => w.heap.size ≤ b) v' [] := Ow.rd (T := 91) (S := fun b => w.heap.size ≤ b) ⟨own_lower hown (Nat.zero_le _), fun b hb => (own_lt hown hb).2⟩
      obtain ⟨a, cap, rfl, _⟩ := own_slice hown
      refine (sortStable_none slp a cap _ w1).mono ?_
      rintro e w2 ⟨rfl, rfl⟩
      exact ⟨rfl, hrd, hb⟩
    · have hown' := hown
      rcases hown.2 with ⟨rfl, hx⟩ | ⟨g, cap, cur, rfl, hB, hg, hnc, hcap, hsz, htk⟩
      · omega
      · have hgl : g < w1.heap.size := (Array.getElem?_eq_some_iff.1 hg).1
        have HZ := holds_zip hown'
        have RK : RowK encT 3 w1 g 0 l.zipIdx.toArray := ⟨encT_len, encT_one, HZ, hgl⟩
        refine (sortStable_eq slp 3 Tryd.isAgg91 Tryd.sizeOf91 encT cfT rkT g 0 cap 83 #[] (fun args w => by go_simp) l.zipIdx.toArray w1 l.length (by simpa using cmp_lays g 0 l.length w1) RK (by simp) hl l.zipIdx.toArray w1 (by simp) (SWK.start HZ) (ord_zip l hl)).mono ?_
        rintro e w2 ⟨rfl, d', S2, P2, R2⟩
        have hds : d'.size = l.length := by rw [P2.1]; simp
        have HD := S2.holds hgl HZ (by simp [hds])
        have hmap := sort_is l hl d' P2 R2
        refine ⟨rfl, ⟨some ⟨g, 0, none⟩, cap, by rw [srt_length], by rw [srt_length]; exact hnc, (fun h => by cases h), fun _ => ⟨g, 0, rfl, S2.lt hgl, hB, ?_⟩⟩, hb.trans (swk_below S2 hB hgl)⟩
        intro k x hk j u hu
        have hkl : k < d'.size := by rw [hds, ← srt_length l]; exact (List.getElem?_eq_some_iff.1 hk).1
        have hj : j < 3 := by have := (List.getElem?_eq_some_iff.1 hu).1; rw [ES.len] at this; exact this
        have hc := (HD.cell (i := k) (c := j) hkl hj).1
        rw [← hmap, List.getElem?_map] at hk
        have e1 : d'[k]!.1 = x := by
          rw [getElem!_pos d' k hkl]
          rw [List.getElem?_eq_getElem (by simpa using hkl)] at hk
          simpa using hk
        rw [hc]
        show some (ES.enc d'[k]!.1)[j]! = some u
        rw [e1]
        have hjl : j < (ES.enc x).length := by rw [ES.len]; exact hj
        rw [getElem!_pos (ES.enc x) j hjl]
        rw [List.getElem?_eq_getElem hjl] at hu
        exact hu
  have HK := Lib.hid KEY
  clear KEY
  go_enter Tryd.func72, Tryd.ntmps72
  go_wp2_with (first
    | (go_at_call 81; (with_reducible refine CL.mono ?_); rintro e w1 ⟨v1, rfl, hown, hb1⟩)
    | (go_at_call 82; (with_reducible refine (HK.out _ _ hown hb1).mono ?_); rintro e w2 ⟨rfl, hrd, hb2⟩))
  go_ret
  exact ⟨_, rfl, hrd, hb2⟩
end Go.Proofs.YtggnkkmlabhofaaDoor
