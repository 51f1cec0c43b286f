/- The walk of MemorySecrets. -/
import Derived.Test.YtjjebkgljgfecaaDoorSec4
import Derived.Deep.RegionHeld3
import Derived.Test.YtjjebkgljgfecaaDoorSecQ
namespace Go.Proofs.YtjjebkgljgfecaaDoor
set_option linter.unusedVariables false
set_option linter.unusedSimpArgs false
open Go.RowKit Go.Shelf
attribute [local go_sem] Oper.semAt_some eql_func_nil

theorem blk_own {β : Type} (B g : Nat) (t : TypeId) (cs : Array Value) : OwnFrom B (fun (_ : β) W => Blk W g t cs) := fun _ X Y row hs hg hr =>
  (hg.block g hs.lt (fun e => by obtain ⟨_, o, ho, hc⟩ := hr g e.symm; unfold Blk at hs; rw [hs] at ho; cases ho; cases hc)).trans hs
/-- The frame behind the assignment to the loop's variables (i; y in a box). -/
def afterAssign (a : Act) (x : Nat × Int × Int) (Bx : Nat) : Act :=
  { tmps := (((a.tmps.setIfInBounds 89 (.int .i64 (x.1 : Int))).setIfInBounds 90 (.agg #[.int .u8 x.2.1, .int .u8 x.2.2])).setIfInBounds 16 (.int .i64 (x.1 : Int))).setIfInBounds 17 (.pointer (some ⟨Bx, 0, none⟩)), defers := [] }
/-- The law of a range over a function with a boxed variable, at this function's loop. -/
theorem ownH_boxed {n : Nat} {g : Operand} {assign body : Code} {Q : Exit → Act → World → Prop} {a : Act} {w : World} (h1 : 1 ≤ n) {gf : Nat} {lb : Array Value} (hg : a.eval g = .func (.func gf) #[] lb) (eg : ∀ args w, (callFunc gf args).run Tryd.prog w = .ok (.enter gf args) w)
    {Kp : World → World → Prop} {S Sp : List (Nat × Int × Int) → Prop} {N : Nat} {w0 : World} (hseq : SeqStopsK Fence.wide (n - 1) Tryd.prog gf lb encS Kp S Sp N w0)
    (hKt : ∀ {A B C : World}, Kp A B → Kp B C → Kp A C) (hKb : ∀ (W : World) (l : Nat) (o o' : Obj), w.heap.size ≤ l → W.heap[l]? = some o → o.isCells = false → o.isWalk = false → Kp W (W.putObj l o')) (hb0 : Below w0.heap.size w0 w)
    (I : List (Nat × Int × Int) → World → Prop) (Ix : Code → List (Nat × Int × Int) → World → Prop) (hI : OwnFrom w.heap.size I) (hIx : ∀ c, OwnFrom w.heap.size (Ix c)) (h0 : I [] w) (B1 : Nat)
    (hassign : ∀ (l : Nat) (pre : List (Nat × Int × Int)) (x : Nat × Int × Int) (W : World) (K : Act → World → Prop), I pre W → (∀ a' W', KeepsFrom w.heap.size W W' → Kp W W' → I pre W' → (∃ Bx, B1 < Bx ∧ Blk W' Bx 24 #[.int .u8 x.2.1, .int .u8 x.2.2] ∧ a' = afterAssign a x Bx) → K a' W') →
      assign.wpIn (Fence.wide.inRound l) (n - 1 - 1) Tryd.prog (Exit.then K (fun _ _ _ => False)) { tmps := ((#[89, 90] : Array Tmp).zip (encS x)).foldl (fun t (p, v) => t.setIfInBounds p v) a.tmps, defers := [] } W)
    (hbody : ∀ (l : Nat) (pre : List (Nat × Int × Int)) (x : Nat × Int × Int) (a' : Act) (W : World), w.heap.size ≤ l → (∃ r, W.heap[l]? = some (.loop r)) → I pre W → (∃ Bx, B1 < Bx ∧ Blk W Bx 24 #[.int .u8 x.2.1, .int .u8 x.2.2] ∧ a' = afterAssign a x Bx) → pre.length < N → body.wpIn (Fence.wide.inRound l) (n - 1 - 1) Tryd.prog (ownPostG w.heap.size Kp I Ix (pre ++ [x]) W) a' W)
    (hdone : ∀ (D : Nat) (xs : List (Nat × Int × Int)) (W : World), w.heap.size ≤ D → S xs → I xs W → W.heap[D]? = some (.deferred (some [])) → Q .normal { a with defers := { target := .collected D, args := #[] } :: a.defers } W)
    (hstop : ∀ (D : Nat) (c : Code) (pre : List (Nat × Int × Int)) (W : World), w.heap.size ≤ D → Sp pre → Ix c pre W → W.heap[D]? = some (.deferred (some [])) → c.wpIn Fence.wide n Tryd.prog Q { a with defers := { target := .collected D, args := #[] } :: a.defers } W) :
    (Code.rangeFunc g #[89, 90] assign body).wpIn Fence.wide n Tryd.prog Q a w :=
  wpIn_rangeFunc_ownH rfl h1 hg trivial eg hseq hKt hKb hb0 (fun _ => rfl) I Ix hI hIx h0 (fun x a' W => ∃ Bx, B1 < Bx ∧ Blk W Bx 24 #[.int .u8 x.2.1, .int .u8 x.2.2] ∧ a' = afterAssign a x Bx)
    (fun x a' _ X Y row hs hg hr => by obtain ⟨Bx, h1, h2, h3⟩ := hs; exact ⟨Bx, h1, blk_own w.heap.size Bx _ _ () X Y row h2 hg hr, h3⟩) hassign hbody hdone hstop

theorem cell_set_ne {W : World} {g i b o : Nat} {v : Value} (h : b ≠ g) : (W.setCell ⟨g, i, none⟩ v).cell? ⟨b, o, none⟩ = W.cell? ⟨b, o, none⟩ := by
  simp only [World.cell?, Below.heap_setCell W ⟨g, i, none⟩ v b h]
theorem pair_eta (p : Int × Int) : ∃ a b, p = (a, b) := ⟨p.1, p.2, rfl⟩
/-- The last address that came. -/
def lastOf (pre : List (Nat × Int × Int)) : Int := pre.foldl (fun _ x => (x.1 : Int)) (-1)
theorem lastOf_snoc (pre : List (Nat × Int × Int)) (x : Nat × Int × Int) : lastOf (pre ++ [x]) = (x.1 : Int) := by simp [lastOf, List.foldl_append]
theorem lastOf_secs (f : Nat → Int × Int) : ∀ k, lastOf (secs f k) < (k : Int)
  | 0 => by simp [secs, lastOf]
  | k + 1 => by
    rw [secs]
    split
    · rw [List.append_nil]
      have := lastOf_secs f k
      omega
    · rw [lastOf_snoc]
      simp only
      omega
/-- What each one that comes must be. -/
def GoodS (l : List PD) (pre : List (Nat × Int × Int)) (x : Nat × Int × Int) : Prop := lastOf pre < (x.1 : Int) ∧ x.2 = refAt l x.1 ∧ x.2.2 ≠ 0 ∧ (isRAM x.1 = true ∨ (isRAM x.1 = false ∧ isROM x.1 = true))

theorem cntK_le (l : List PD) (P : Int → Bool) : ∀ k, cntK l P k ≤ k
  | 0 => Nat.le_refl _
  | k + 1 => by
    have ih := cntK_le l P k
    cases hp : l[k]? with
    | none =>
      have hk := List.getElem?_eq_none_iff.1 hp
      unfold cntK at ih ⊢
      rw [List.take_of_length_le (by omega)]
      rw [List.take_of_length_le (by omega)] at ih
      omega
    | some p =>
      rw [cntK_succ l P k p hp]
      split <;> omega
theorem field_vi1 (a b : Int) (w : World) : (Instr.field 24 (.agg #[.int .u8 a, .int .u8 b]) 1).run Tryd.prog w = .ok (.int .u8 b) w := by
  simp [Instr.field, asAgg, run_underlying Tryd.underlying24, go_sem]
attribute [local go_sem] field_vi1

theorem Chg.setCell {S : Nat → Prop} (w : World) (g i : Nat) (u : Value) (hg : S g) : Chg S w (w.setCell ⟨g, i, none⟩ u) :=
  ⟨rfl, rfl, rfl, by simp, fun k _ hs => Below.heap_setCell _ _ _ k (fun h => hs (h ▸ hg))⟩
/-- One drawn region told once, whatever its slots hold behind it. -/
theorem region_key {P : Program} {c : Code} {K : Act → World → Prop} {Kx : Exit → Act → World → Prop} {t : Array Value} {w : World}
    (key : ∀ (u73 u74 u75 u76 u77 u78 u79 u80 u81 u82 u83 u84 u85 u86 : Value) (w8 : World), Below w.heap.size w w8 → Exit.then K Kx .normal { tmps := ((((((((((((((t.setIfInBounds 73 u73).setIfInBounds 74 u74).setIfInBounds 75 u75).setIfInBounds 76 u76).setIfInBounds 77 u77).setIfInBounds 78 u78).setIfInBounds 79 u79).setIfInBounds 80 u80).setIfInBounds 81 u81).setIfInBounds 82 u82).setIfInBounds 83 u83).setIfInBounds 84 u84).setIfInBounds 85 u85).setIfInBounds 86 u86).setIfInBounds 87 (.bool false), defers := [] } w8)
    (reg : ∀ K' : Act → World → Prop, (∀ (u73 u74 u75 u76 u77 u78 u79 u80 u81 u82 u83 u84 u85 u86 : Value) (w8 : World), Below w.heap.size w w8 → K' { tmps := ((((((((((((((t.setIfInBounds 73 u73).setIfInBounds 74 u74).setIfInBounds 75 u75).setIfInBounds 76 u76).setIfInBounds 77 u77).setIfInBounds 78 u78).setIfInBounds 79 u79).setIfInBounds 80 u80).setIfInBounds 81 u81).setIfInBounds 82 u82).setIfInBounds 83 u83).setIfInBounds 84 u84).setIfInBounds 85 u85).setIfInBounds 86 u86).setIfInBounds 87 (.bool false), defers := [] } w8) → c.wp P (Exit.then K' Kx) { tmps := t, defers := [] } w) :
    c.wp P (Exit.then K Kx) { tmps := t, defers := [] } w :=
  reg K key

set_option maxRecDepth 100000 in
set_option maxHeartbeats 3200000 in
theorem memorySecrets_walk (a : Option Addr) (len cap : Nat) (ops : List OpD) (at_ : Int) (b : Int × Int) (w : World) (hk : KIN w) (hlen : len ≤ maxLen) (hr : ReadsO w w.heap.size a len ops) :
    Calls Tryd.prog 6 #[.slice a len cap, .int .i64 at_, .agg #[.int .u8 b.1, .int .u8 b.2]] w fun e w' => e = .returned (.bool true) ∧ Below w.heap.size w w' := by
  have HR := Lib.hid hr
  clear hr
  refine (callsIn_wide (n := 3)).1 ?_
  refine callsIn_of_wp_marks Tryd.func6 rfl trivial ?_
  simp only [Tryd.ntmps6, List.size_toArray, List.length_cons, List.length_nil, Nat.reduceAdd, Nat.reduceSub, Array.replicate_succ, Array.replicate_zero, List.push_toArray, List.append_toArray, List.nil_append, List.cons_append]
  refine wpIn_wide.2 ?_
  go_wp2_with fail
  have hBw0 : Below w.heap.size w ((w.alloc (.cells #[.int .u8 b.1, .int .u8 b.2] 24)).alloc (.cells #[.bool false] 4)) := Q.alloc (Q.alloc (Below.refl _ _) _) _
  have kb0 := (Blk.new w 24 #[.int .u8 b.1, .int .u8 b.2]).alloc (.cells #[.bool false] 4)
  have kR0 : Blk ((w.alloc (.cells #[.int .u8 b.1, .int .u8 b.2] 24)).alloc (.cells #[.bool false] 4)) (w.heap.size + 1) 4 #[.bool false] := Blk.new' (by simp)
  have hs0 : ((w.alloc (.cells #[.int .u8 b.1, .int .u8 b.2] 24)).alloc (.cells #[.bool false] 4)).heap.size = w.heap.size + 1 + 1 := by simp
  generalize (w.alloc (.cells #[.int .u8 b.1, .int .u8 b.2] 24)).alloc (.cells #[.bool false] 4) = w0 at hBw0 kb0 kR0 hs0 ⊢
  have HR0 := Lib.hid ((HR.out.below hBw0).wide hBw0.size)
  have hk0 := hk.q hBw0
  have HS0 := Lib.hid hs0
  have hs0' : w.heap.size + 1 < w0.heap.size := by omega
  clear HR hs0
  (with_reducible refine (new_fresh _).mono ?_)
  rintro e w1 ⟨rfl, hm1, hb1⟩
  go_wp2_with fail
  (with_reducible refine (few_calls a len cap ops w1 hlen ((HR0.out.below hb1).wide hb1.size)).mono ?_)
  rintro e w2 ⟨c, rfl, hc, hb2⟩
  have hB2 := Q.call hb1 hb2
  have hm2 := hm1.call hb2
  clear hm1 hb1 hb2
  cases c
  · go_wp2_with fail
    (with_reducible refine (awake08_calls _ (hk0.q hB2)).mono ?_)
    rintro e w3 ⟨rfl, hb3⟩
    have kR3 := (kR0.call hB2).call hb3
    have hB3 := Q.call hBw0 (Q.call hB2 hb3)
    have z0 := kR3.cell 0
    have z1 := kR3.frozen 0
    go_wp2_with fail
    have hc5 := World.cell?_setCell_same' w3 ⟨w.heap.size + 1, 0, none⟩ (.bool true) (by rw [z0]; rfl)
    refine ⟨.bool true, ?_, rfl, hB3.setCell (p := ⟨w.heap.size + 1, 0, none⟩) (by simp) _⟩
    simp [results, Tryd.f6, go_sem, hc5]
  · obtain ⟨h30, hsm⟩ := hc rfl
    have HS := Lib.hid hsm
    have hg2 := hm2.lt
    clear hsm hc
    have hx0 : IsRef ((w2.alloc (.cells #[.slice none 0 0] 39)).alloc (.cells #[.pointer (some ⟨w2.heap.size, 0, none⟩)] 36)) w0.heap.size w2.heap.size (.slice none 0 0) [] := ⟨(Blk.new _ _ _).alloc _, World.ownsRow_nil _ _ _ _, hB2.size, by simp [Value.ownBlock]⟩
    have hb0 : Below w0.heap.size w0 ((w2.alloc (.cells #[.slice none 0 0] 39)).alloc (.cells #[.pointer (some ⟨w2.heap.size, 0, none⟩)] 36)) := Q.alloc (Q.alloc hB2 _) _
    have hm0 : Mem ((w2.alloc (.cells #[.slice none 0 0] 39)).alloc (.cells #[.pointer (some ⟨w2.heap.size, 0, none⟩)] 36)) w0.heap.size (fun _ => (0, 0)) := hm2.call (Q.alloc (Q.alloc (Below.refl _ _) _) _)
    have hy0 : Blk ((w2.alloc (.cells #[.slice none 0 0] 39)).alloc (.cells #[.pointer (some ⟨w2.heap.size, 0, none⟩)] 36)) (w2.heap.size + 1) 36 #[.pointer (some ⟨w2.heap.size, 0, none⟩)] := Blk.new' (by simp)
    go_wp2_with fail
    generalize (w2.alloc (.cells #[.slice none 0 0] 39)).alloc (.cells #[.pointer (some ⟨w2.heap.size, 0, none⟩)] 36) = W0 at hx0 hm0 hb0 hy0 ⊢
    obtain ⟨y8, hy8⟩ : ∃ y8, y8 = w2.heap.size + 1 := ⟨_, rfl⟩
    rw [← hy8] at hy0 ⊢
    have hyx : y8 ≠ w2.heap.size := by omega
    have hyg : y8 ≠ w0.heap.size := by omega
    have hyB : w0.heap.size ≤ y8 := by omega
    clear hy8
    generalize w2.heap.size = x at hx0 hg2 hy0 hyx ⊢
    clear hm2 hB2
    go_loopw [9] (fun v wr => ∃ (k : Nat) (sv : Value) (f : Nat → Int × Int) (l : List PD), v = .int .i64 (k : Int) ∧ k ≤ len ∧ Mem wr w0.heap.size f ∧ IsRef wr w0.heap.size x sv l ∧ Rel f l ∧ InR l ∧ Zero f ∧ l.length ≤ 61 * k ∧ ¬ RefF x sv w0.heap.size ∧ ¬ RefF x sv y8 ∧ Blk wr y8 36 #[.pointer (some ⟨x, 0, none⟩)] ∧ Below w0.heap.size w0 wr)
      (fun v _ => len - (intOf v).toNat)
    case atStart => exact ⟨0, _, _, _, rfl, Nat.zero_le _, hm0, hx0, fun y _ => rfl, fun p h => by simp at h, fun _ _ _ => rfl, by simp, fun h => by rcases h with h | h; omega; simp [Value.ownBlock] at h, fun h => by rcases h with h | h; exact hyx h; simp [Value.ownBlock] at h, hy0, hb0⟩
    case round =>
      obtain ⟨k, sv, f, l, rfl, hkl, hm, hx, hR, hI, hZ, hl, hgx, hyr, hy, hb⟩ := hrel
      clear hx0 hm0 hb0 hy0
      by_cases hkn : k < len
      · obtain ⟨b1, off, o, rfl, hbl, hget, c0, c1, c2, c3, c4, c5, hlies⟩ := (HR0.out.below hb).at_ hkn
        have hos : o.small := HS.out k o hkn hget
        have hki : (k : Int) < (len : Int) := by omega
        have hdrew : Below wr.heap.size wr wr.drew := Q.drew (Below.refl _ _)
        have C := does_calls w0.heap.size w0.heap.size x sv f l o wr.drew ((hk0.q hb).q hdrew) (hm.call hdrew) (hx.call hdrew) hk0.lt hb.size (Nat.le_refl _) hgx (by omega) hR hos (hlies.keep (hdrew.mono hb.size))
        have hlen2 := refStep_length l o hos
        have HN := Lib.hid (show Rel (memStep f o) (refStep l o) ∧ InR (refStep l o) ∧ Zero (memStep f o) ∧ (refStep l o).length ≤ 61 * (k + 1) from ⟨rel_step hR o hos, inR_step hI o hos, zero_step hZ o hos, by omega⟩)
        have HX := Lib.hid (show ∀ b, RefF x sv b → w0.heap.size ≤ b from fun b h => (hx.lt h).2)
        have HG := Lib.hid hgx
        have HYR := Lib.hid hyr
        have hgl := hm.lt
        have hyl := hy.lt
        have HY := Lib.hid hy
        have HCD := Lib.hid (Chg.of (S := BothF w0.heap.size x sv) hdrew)
        have hC0 : Chg (BothF w0.heap.size x sv) wr wr.drew := HCD.out
        have hbs := hb.size
        have HB := Lib.hid hb
        clear hget hR hI hZ hl hos hlies hlen2 hm hx hgx hyr hb
        generalize memStep f o = f' at C HN
        generalize refStep l o = l' at C HN
        obtain ⟨ask, oat, oto, ov, ot, oa, on, oca, obs⟩ := o
        simp only at c0 c1 c2 c3 c4 c5
        simp only [OpD.cells] at C
        have ST : ∀ w' : World, Chg (BothF w0.heap.size x sv) wr w' → ((fun w' : World => w'.cell? ⟨y8, 0, none⟩ = some (.pointer (some ⟨x, 0, none⟩)) ∧ w'.cell? ⟨b1, off + k * 6, none⟩ = some (.int .i64 ask) ∧ w'.cell? ⟨b1, off + k * 6 + 1, none⟩ = some (.int .i64 oat) ∧ w'.cell? ⟨b1, off + k * 6 + 2, none⟩ = some (.int .i64 oto) ∧ w'.cell? ⟨b1, off + k * 6 + 3, none⟩ = some (.int .u8 ov) ∧ w'.cell? ⟨b1, off + k * 6 + 4, none⟩ = some (.int .u8 ot) ∧ w'.cell? ⟨b1, off + k * 6 + 5, none⟩ = some (.slice oa on oca) ∧ Chg (BothF w0.heap.size x sv) wr w') w') := fun w' h => by
          have hnb : ¬ BothF w0.heap.size x sv b1 := by
            rintro (h | h)
            · omega
            · have := HX.out b1 h; omega
          have hbb := h.block b1 (by omega) hnb
          have hcl : ∀ o, w'.cell? ⟨b1, o, none⟩ = wr.cell? ⟨b1, o, none⟩ := fun o => by simp only [World.cell?, hbb]
          exact ⟨(HY.out.chg h (fun hb => by rcases hb with hb | hb; exact hyg hb; exact HYR.out hb)).cell 0, (hcl _).trans c0, (hcl _).trans c1, (hcl _).trans c2, (hcl _).trans c3, (hcl _).trans c4, (hcl _).trans c5, h⟩
        clear hy
        go_wp2_with fail
        go_region_held3 (fun w' : World => w'.cell? ⟨y8, 0, none⟩ = some (.pointer (some ⟨x, 0, none⟩)) ∧ w'.cell? ⟨b1, off + k * 6, none⟩ = some (.int .i64 ask) ∧ w'.cell? ⟨b1, off + k * 6 + 1, none⟩ = some (.int .i64 oat) ∧ w'.cell? ⟨b1, off + k * 6 + 2, none⟩ = some (.int .i64 oto) ∧ w'.cell? ⟨b1, off + k * 6 + 3, none⟩ = some (.int .u8 ov) ∧ w'.cell? ⟨b1, off + k * 6 + 4, none⟩ = some (.int .u8 ot) ∧ w'.cell? ⟨b1, off + k * 6 + 5, none⟩ = some (.slice oa on oca) ∧ Chg (BothF w0.heap.size x sv) wr w')
          (exact ST _ (by assumption))
          (first
            | (go_at_call 15; (with_reducible refine C.mono ?_); rintro e w5 ⟨rfl, sv', hm5, hx5, hc5, hf5⟩; have hC5 : Chg (BothF w0.heap.size x sv) wr w5 := HCD.out.trans hc5))
        go_wp2
        refine ⟨⟨k + 1, sv', f', l', by simp, by omega, hm5, hx5, HN.out.1, HN.out.2.1, HN.out.2.2.1, HN.out.2.2.2, fun h => ?_, fun h => ?_, HY.out.chg hC5 (fun hb => by rcases hb with hb | hb; exact hyg hb; exact HYR.out hb), hC5.below HB.out HB.out.size (fun b h => ?_)⟩, by simp [intOf]; omega⟩
        · rcases hf5 _ h with h1 | h1
          · exact HG.out h1
          · exact absurd (Nat.lt_of_lt_of_le hgl h1) (Nat.lt_irrefl _)
        · rcases hf5 _ h with h1 | h1
          · exact HYR.out h1
          · exact absurd (Nat.lt_of_lt_of_le hyl h1) (Nat.lt_irrefl _)
        · rcases h with rfl | h
          · exact Nat.le_refl _
          · exact HX.out b h
      · obtain rfl : k = len := by omega
        have hl2 : l.length ≤ 1000000 := by omega
        have kb1 := kb0.call hb
        have kR1 := kR0.call hb
        have hgw := hm.lt
        have hyw := hy.lt
        have hkbw := kb1.lt
        have hkRw := kR1.lt
        have HXw := Lib.hid (show ∀ b, RefF x sv b → b < wr.heap.size ∧ w0.heap.size ≤ b from fun b h => hx.lt h)
        clear hl
        go_wp2_with fail
        (with_reducible refine (secret_calls w0.heap.size f wr hm).mono ?_)
        rintro e w3 ⟨gb, gm, rfl, hcb, hmm, hgm, hgb, hgbl, hb3⟩
        have hm3 := hm.call hb3
        have hx3 := hx.call hb3
        have hy3 := hy.call hb3
        have kb3 := kb1.call hb3
        have kR3 := kR1.call hb3
        have hB3 := Q.call hb hb3
        have hs3 := hb3.size
        clear hm hx hy kb1 kR1 hb hb3
        go_wp2_with fail
        (with_reducible refine (clone_calls w0.heap.size f w3 hm3).mono ?_)
        rintro e w4 ⟨rfl, hn4, hb4⟩
        have hm4 := hm3.call hb4
        have hx4 := hx3.call hb4
        have hy4 := hy3.call hb4
        have kb4 := kb3.call hb4
        have kR4 := kR3.call hb4
        have hB4 := Q.call hB3 hb4
        have hmm4 := hmm.call hb4
        have hcb4 : w4.cell? ⟨gb, 0, none⟩ = some (.pointer (some ⟨gm, 0, none⟩)) := (hb4.cell (p := ⟨gb, 0, none⟩) hgbl).trans hcb
        have hgml := hmm.lt
        have hs4 := hb4.size
        have hnl := hn4.lt
        clear hm3 hx3 hy3 kb3 kR3 hmm hcb hb4
        go_wp2_with fail
        (with_reducible refine (same_calls w0.heap.size w3.heap.size f w4 hm4 hn4).mono ?_)
        rintro e w5 ⟨rfl, hb5⟩
        have hm5 := hm4.call hb5
        have hn5 := hn4.call hb5
        have hx5 := hx4.call hb5
        have hy5 := hy4.call hb5
        have kb5 := kb4.call hb5
        have kR5 := kR4.call hb5
        have hB5 := Q.call hB4 hb5
        have hmm5 := hmm4.call hb5
        have hcb5 : w5.cell? ⟨gb, 0, none⟩ = some (.pointer (some ⟨gm, 0, none⟩)) := (hb5.cell (p := ⟨gb, 0, none⟩) (by simp only; omega)).trans hcb4
        have hs5 := hb5.size
        have y0 := hy5.cell 0
        clear hm4 hn4 hx4 hy4 kb4 kR4 hmm4 hcb4 hb5
        go_wp2_with fail
        (with_reducible refine (refAt_calls w0.heap.size x sv l at_ w5 hx5 hl2).mono ?_)
        rintro e w6 ⟨rfl, hb6⟩
        have hm6 := hm5.call hb6
        have hn6 := hn5.call hb6
        have hx6 := hx5.call hb6
        have hy6 := hy5.call hb6
        have kb6 := kb5.call hb6
        have kR6 := kR5.call hb6
        have hB6 := Q.call hB5 hb6
        have hmm6 := hmm5.call hb6
        have hcb6 : w6.cell? ⟨gb, 0, none⟩ = some (.pointer (some ⟨gm, 0, none⟩)) := (hb6.cell (p := ⟨gb, 0, none⟩) (by simp only; omega)).trans hcb5
        have hs6 := hb6.size
        have x0 := kb6.cell 0
        have x1 := kb6.cell 1
        have xl := kb6.lt
        clear hm5 hn5 hx5 hy5 kb5 kR5 hmm5 hcb5 hb6 y0
        go_wp2_with fail
        have hba : Below w6.heap.size w6 (w6.alloc (.cells #[.int .u8 (refAt l at_).1, .int .u8 (refAt l at_).2] 24)) := Q.alloc (Below.refl _ _) _
        have CW := write_calls w3.heap.size f at_ b _ ((hk0.q hB6).q hba) (hn6.call hba)
        obtain ⟨c7, hc7e⟩ : ∃ c, errOf at_ = c := ⟨_, rfl⟩
        rw [hc7e] at CW
        (with_reducible refine CW.mono ?_)
        rintro e w7 ⟨rfl, hn7, hc7⟩
        have hm7 := (hm6.call hba).chg hc7 (by omega)
        have hx7 := (hx6.call hba).chg hc7 (fun b hb => by have := (HXw.out b hb).1; omega)
        have hy7 := (hy6.call hba).chg hc7 (by omega)
        have kb7 := (kb6.call hba).chg hc7 (by omega)
        have kR7 := (kR6.call hba).chg hc7 (by omega)
        have hmm7 := (hmm6.call hba).chg hc7 (by omega)
        have k12 : Blk w7 w6.heap.size 24 #[.int .u8 (refAt l at_).1, .int .u8 (refAt l at_).2] := (Blk.new w6 _ _).chg hc7 (by omega)
        have hcb7 : w7.cell? ⟨gb, 0, none⟩ = some (.pointer (some ⟨gm, 0, none⟩)) := (hc7.cell (b := gb) (by simp; omega) (show ¬ (gb = w3.heap.size) by omega) 0).trans ((hba.cell (p := ⟨gb, 0, none⟩) (by simp only; omega)).trans hcb6)
        have hB7 : Below w0.heap.size w0 w7 := hc7.below (Q.call hB6 hba) (by have := (Q.call hB6 hba).size; omega) (fun b hb => by omega)
        have hs7 : w6.heap.size + 1 ≤ w7.heap.size := by have := hc7.size; simp at this; omega
        clear hm6 hn6 hx6 hy6 kb6 kR6 hmm6 hcb6 hB6 hba CW hc7 x0 x1 xl
        go_wp2_with fail
        have HI := Lib.hid hI
        have HRel := Lib.hid hR
        have HZ := Lib.hid hZ
        refine region_key ?key ?reg
        case reg =>
          intro K' hK'
          simp only [List.setIfInBounds_toArray, List.set_cons_zero, List.set_cons_succ] at hK'
          by_cases hc0 : c7 = 0
          · subst hc0
            cases hram : isRAM at_ with
            | false =>
              have CRam : ∀ V, Calls Tryd.prog 12 #[.int .i64 at_] V (fun e w' => e = .returned (.bool false) ∧ w' = V) := fun V => by rw [← hram]; exact isRAM_calls at_ V
              clear hn7 k12 kb7
              refine wp_region_below (by kernel_rfl) (by kernel_rfl) ?_
              repeat (go_big_quiet_step (exact calls_bw' (CRam _)))
              refine wpQuiet_nil ?_
              intro w9 hw9
              obtain ⟨y9, rfl⟩ := hw9
              exact hK' _ _ _ _ _ _ _ _ _ _ _ _ _ _ y9.val y9.has
            | true =>
              have CRam : ∀ V, Calls Tryd.prog 12 #[.int .i64 at_] V (fun e w' => e = .returned (.bool true) ∧ w' = V) := fun V => by rw [← hram]; exact isRAM_calls at_ V
              have hri := (isRAM_iff at_).1 hram
              obtain ⟨ka, rfl⟩ : ∃ ka : Nat, at_ = (ka : Int) := ⟨at_.toNat, by omega⟩
              have hkd : kindOf (ka : Int) = 0 := kind_ram ka (by omega)
              have hwr : wrote f (ka : Int) b = upd f (ka : Int) b := by unfold wrote; rw [if_pos ⟨hc7e, hkd⟩]
              rw [hwr] at hn7
              have hfk : f ka = refAt l (ka : Int) := by
                have := rel_at HRel.out (y := (ka : Int)) (.inl hram)
                rwa [Int.toNat_natCast] at this
              obtain ⟨S, hS⟩ : ∃ S, sameB (refAt l (ka : Int)) b = S := ⟨_, rfl⟩
              have CS : ∀ y : BW w7, Calls Tryd.prog 19 #[.pointer (some ⟨w0.heap.size, 0, none⟩), .pointer (some ⟨w3.heap.size, 0, none⟩)] y.val (fun e w' => e = .returned (.bool S) ∧ Below y.val.heap.size y.val w') := fun y => by
                have := same_upd w0.heap.size w3.heap.size ka f b y.val (by omega) (hm7.call y.has) (hn7.call y.has)
                rw [hfk, hS] at this
                exact this
              have CT : ∀ y : BW w7, Calls Tryd.prog 23 #[.agg #[.int .u8 (refAt l (ka : Int)).1, .int .u8 (refAt l (ka : Int)).2], .agg #[.int .u8 b.1, .int .u8 b.2]] y.val (fun e w' => e = .returned (.bool S) ∧ Below y.val.heap.size y.val w') := fun y => by
                have := tsame_calls (refAt l (ka : Int)) b y.val
                rw [hS] at this
                exact this
              have L0 : ∀ y : BW w7, y.val.cell? ⟨w6.heap.size, 0, none⟩ = some (.int .u8 (refAt l (ka : Int)).1) := fun y => (k12.call y.has).cell 0
              have L1 : ∀ y : BW w7, y.val.cell? ⟨w6.heap.size, 1, none⟩ = some (.int .u8 (refAt l (ka : Int)).2) := fun y => (k12.call y.has).cell 1
              have L2 : ∀ y : BW w7, y.val.cell? ⟨w.heap.size, 0, none⟩ = some (.int .u8 b.1) := fun y => (kb7.call y.has).cell 0
              have L3 : ∀ y : BW w7, y.val.cell? ⟨w.heap.size, 1, none⟩ = some (.int .u8 b.2) := fun y => (kb7.call y.has).cell 1
              clear hn7 k12 kb7 hwr hkd hS hfk hri hm7 hx7 hy7 kR7 hmm7
              cases S
              ·
                refine wp_region_below (by kernel_rfl) (by kernel_rfl) ?_
                repeat (go_big_quiet_step (first | exact calls_bw' (CRam _) | exact calls_bw (CS _) | exact calls_bw (CT _)))
                refine wpQuiet_nil ?_
                intro w9 hw9
                obtain ⟨y9, rfl⟩ := hw9
                exact hK' _ _ _ _ _ _ _ _ _ _ _ _ _ _ y9.val y9.has
              ·
                refine wp_region_below (by kernel_rfl) (by kernel_rfl) ?_
                repeat (go_big_quiet_step (first | exact calls_bw' (CRam _) | exact calls_bw (CS _) | exact calls_bw (CT _)))
                refine wpQuiet_nil ?_
                intro w9 hw9
                obtain ⟨y9, rfl⟩ := hw9
                exact hK' _ _ _ _ _ _ _ _ _ _ _ _ _ _ y9.val y9.has
          · have hcz : (c7 == 0) = false := beq_eq_false_iff_ne.2 hc0
            have hcd : decide (c7 = 0) = false := decide_eq_false hc0
            clear hn7 k12 kb7
            refine wp_region_below (by kernel_rfl) (by kernel_rfl) ?_
            repeat (go_big_quiet_step (fail))
            refine wpQuiet_nil ?_
            intro w9 hw9
            obtain ⟨y9, rfl⟩ := hw9
            exact hK' _ _ _ _ _ _ _ _ _ _ _ _ _ _ y9.val y9.has
        case key =>
          intro u73 u74 u75 u76 u77 u78 u79 u80 u81 u82 u83 u84 u85 u86 w8 hb8
          clear hn7 k12 kb7
          simp only [List.setIfInBounds_toArray, List.set_cons_zero, List.set_cons_succ]
          have hm8 := hm7.call hb8
          have hx8 := hx7.call hb8
          have hy8 := hy7.call hb8
          have kR8 := kR7.call hb8
          have hmm8 := hmm7.call hb8
          have hcb8 : w8.cell? ⟨gb, 0, none⟩ = some (.pointer (some ⟨gm, 0, none⟩)) := (hb8.cell (p := ⟨gb, 0, none⟩) (by simp only; omega)).trans hcb7
          have hB8 := Q.call hB7 hb8
          have hs8 := hb8.size
          clear hm7 hx7 hy7 kR7 hmm7 hcb7 hB7 hb8
          go_wp2_with fail
          have k14 := (Blk.new w8 3 #[.int .i64 0]).alloc (.cells #[.int .i64 (-1)] 3)
          have k15 : Blk ((w8.alloc (.cells #[.int .i64 0] 3)).alloc (.cells #[.int .i64 (-1)] 3)) (w8.heap.size + 1) 3 #[.int .i64 (-1)] := Blk.new' (by simp)
          have hb9 : Below w8.heap.size w8 ((w8.alloc (.cells #[.int .i64 0] 3)).alloc (.cells #[.int .i64 (-1)] 3)) := Q.alloc (Q.alloc (Below.refl _ _) _) _
          have hs9 : ((w8.alloc (.cells #[.int .i64 0] 3)).alloc (.cells #[.int .i64 (-1)] 3)).heap.size = w8.heap.size + 1 + 1 := by simp
          generalize (w8.alloc (.cells #[.int .i64 0] 3)).alloc (.cells #[.int .i64 (-1)] 3) = w9 at k14 k15 hb9 hs9 ⊢
          have hx9 := hx8.call hb9
          have hy9 := hy8.call hb9
          have kR9 := kR8.call hb9
          have hmm9 := hmm8.call hb9
          have hcb9 : w9.cell? ⟨gb, 0, none⟩ = some (.pointer (some ⟨gm, 0, none⟩)) := (hb9.cell (p := ⟨gb, 0, none⟩) (by simp only; omega)).trans hcb8
          have hB9 := Q.call hB8 hb9
          have HS9 := Lib.hid hs9
          have hs9' : w8.heap.size + 1 < w9.heap.size := by omega
          obtain ⟨T, hT⟩ : ∃ T, secs f 65536 = T := ⟨_, rfl⟩
          have HT := Lib.hid hT
          clear hm8 hx8 hy8 kR8 hmm8 hcb8 hB8 hb9 hT hs9
          refine (wpIn_wide (n := 3)).1 ?_
          refine ownH_boxed (by decide) (gf := 34) (lb := #[.pointer (some ⟨gb, 0, none⟩)]) rfl (enters_of Tryd.func34 (by kernel_rfl) rfl)
            (sec_stops Fence.wide 2 trivial rfl (by decide) gb gm 65536 rfl f T HT.out w9 (by omega) hcb9 hmm9) KM.t (KM.b (by omega) (by omega)) (Below.refl _ _)
            (fun pre W => (W.cell? ⟨w8.heap.size, 0, none⟩ = some (.int .i64 (pre.length : Int)) ∧ W.frozen? ⟨w8.heap.size, 0, none⟩ = false ∧ W.cell? ⟨w8.heap.size + 1, 0, none⟩ = some (.int .i64 (lastOf pre)) ∧ W.frozen? ⟨w8.heap.size + 1, 0, none⟩ = false) ∧ Below w8.heap.size w9 W)
            (fun c pre _ => c = .ret ∧ ∃ (q : List (Nat × Int × Int)) (y : Nat × Int × Int), pre = q ++ [y] ∧ ¬ GoodS l q y)
            (OwnFrom.and (Own.from (fun s A B row hs hg hr => ⟨cell_kept hs.1 hg hr, (frozen_kept hs.1 hg hr).trans hs.2.1, cell_kept hs.2.2.1 hg hr, (frozen_kept hs.2.2.1 hg hr).trans hs.2.2.2⟩) _) (ownFrom_below (by omega) (by omega)))
            (fun c => ownFrom_pure _ (fun pre => c = .ret ∧ ∃ (q : List (Nat × Int × Int)) (y : Nat × Int × Int), pre = q ++ [y] ∧ ¬ GoodS l q y))
            ⟨⟨k14.cell 0, k14.frozen 0, k15.cell 0, k15.frozen 0⟩, Below.refl _ _⟩
            (w8.heap.size + 1) ?assign ?body ?done ?stop
          case assign =>
            rintro lp pre x2 W K ⟨⟨h1, h2, h3, h4⟩, hBW⟩ hK
            have hWs := hBW.size
            gi_wp2
            have hal : Below W.heap.size W (W.alloc (.cells #[.int .u8 x2.2.1, .int .u8 x2.2.2] 24)) := Q.alloc (Below.refl _ _) _
            have hJ := hK _ _ ((KeepsOthers.alloc W (.cells #[.int .u8 x2.2.1, .int .u8 x2.2.2] 24)).from _) ⟨hal.block gm (by omega), hal.block gb (by omega)⟩ ⟨⟨(hal.cell (p := ⟨_, 0, none⟩) (by simp only; omega)).trans h1, (hal.frozen (p := ⟨_, 0, none⟩) (by simp only; omega)).trans h2, (hal.cell (p := ⟨_, 0, none⟩) (by simp only; omega)).trans h3, (hal.frozen (p := ⟨_, 0, none⟩) (by simp only; omega)).trans h4⟩, hBW.alloc (by omega) _⟩ ⟨W.heap.size, by omega, Blk.new W _ _, rfl⟩
            simp only [afterAssign, List.setIfInBounds_toArray, List.set_cons_zero, List.set_cons_succ] at hJ
            exact hJ
          case body =>
            rintro lp pre x2 a' W hlp ⟨rr, hrr⟩ ⟨⟨h14, f14, h15, f15⟩, hBW⟩ ⟨Bx, hBx, bx, rfl⟩ hlt
            obtain ⟨xi, xv, xt⟩ := x2
            simp only at bx
            simp only [afterAssign, List.setIfInBounds_toArray, List.set_cons_zero, List.set_cons_succ]
            have hWs := hBW.size
            have hxW : IsRef W w0.heap.size x sv l := hx9.keep (fun b hb _ => hBW.block b (by have := (HXw.out b hb).1; omega)) hBW.size
            have hyW := hy9.below hBW (by omega)
            have L0 : ∀ y : BW W, y.val.cell? ⟨w8.heap.size + 1, 0, none⟩ = some (.int .i64 (lastOf pre)) := fun y => (y.has.cell (p := ⟨_, 0, none⟩) (by simp only; omega)).trans h15
            have L1 : ∀ y : BW W, y.val.cell? ⟨Bx, 0, none⟩ = some (.int .u8 xv) := fun y => (bx.call y.has).cell 0
            have L2 : ∀ y : BW W, y.val.cell? ⟨Bx, 1, none⟩ = some (.int .u8 xt) := fun y => (bx.call y.has).cell 1
            have L3 : ∀ y : BW W, y.val.cell? ⟨y8, 0, none⟩ = some (.pointer (some ⟨x, 0, none⟩)) := fun y => (hyW.call y.has).cell 0
            have kRW := kR9.below hBW (by omega)
            obtain ⟨rv, rt, hrr2⟩ := pair_eta (refAt l (xi : Int))
            have CAt : ∀ y : BW W, Calls Tryd.prog 22 #[.pointer (some ⟨x, 0, none⟩), .int .i64 (xi : Int)] y.val (fun e w' => e = .returned (.agg #[.int .u8 rv, .int .u8 rt]) ∧ Below y.val.heap.size y.val w') := fun y => by
              have := refAt_calls w0.heap.size x sv l xi y.val (hxW.call y.has) hl2
              rw [hrr2] at this
              exact this
            have HRR := Lib.hid hrr2
            clear hrr2
            have CRam := fun V => isRAM_calls (xi : Int) V
            have CRom := fun V => isROM_calls (xi : Int) V
            have hplt : pre.length < 65536 := hlt
            have hplt2 : (pre.length : Int) < 65536 := by omega
            by_cases hle : (xi : Int) ≤ lastOf pre
            · have hle' : decide ((xi : Int) ≤ lastOf pre) = true := decide_eq_true hle
              have NGH : Hid (¬ GoodS l pre (xi, xv, xt)) := by
                show ¬ GoodS l pre (xi, xv, xt)
                rintro ⟨h1, _⟩
                simp only at h1
                omega
              gi_wp2
              refine wpIn_region_below (by kernel_rfl) (by kernel_rfl) (by kernel_rfl) ?_
              repeat (go_big_quiet_step (first | exact calls_bw (CAt _) | exact calls_bw' (CRam _) | exact calls_bw' (CRom _)))
              refine wpQuiet_nil ?_
              intro w9' hw9'
              obtain ⟨y9', rfl⟩ := hw9'
              have hbW := y9'.has
              have kRW2 := kRW.call hbW
              have hWb := hbW.size
              have q0 := kRW2.cell 0
              have q1 := kRW2.frozen 0
              have g14 : y9'.val.cell? ⟨w8.heap.size, 0, none⟩ = some (.int .i64 (pre.length : Int)) := (hbW.cell (p := ⟨_, 0, none⟩) (by simp only; omega)).trans h14
              have g15 : y9'.val.cell? ⟨w8.heap.size + 1, 0, none⟩ = some (.int .i64 (lastOf pre)) := (hbW.cell (p := ⟨_, 0, none⟩) (by simp only; omega)).trans h15
              have p14 : y9'.val.frozen? ⟨w8.heap.size, 0, none⟩ = false := (hbW.frozen (p := ⟨_, 0, none⟩) (by simp only; omega)).trans f14
              have p15 : y9'.val.frozen? ⟨w8.heap.size + 1, 0, none⟩ = false := (hbW.frozen (p := ⟨_, 0, none⟩) (by simp only; omega)).trans f15
              have hKO : KeepsOthers W y9'.val := ⟨hbW.size, fun k o hk _ => (hbW.block k (Array.getElem?_eq_some_iff.1 hk).1).trans hk⟩
              generalize y9'.val = W9 at hbW q0 q1 g14 g15 p14 p15 hWb hKO ⊢
              clear L0 L1 L2 L3 CAt CRam CRom kRW2
              gi_wp2
              exact ⟨(hKO.trans (KeepsOthers.setCell _ _ _)).from _, rfl, pre, _, rfl, NGH.out⟩
            · have hle' : decide ((xi : Int) ≤ lastOf pre) = false := decide_eq_false hle
              have hle2 : lastOf pre < (xi : Int) := by omega
              by_cases hv : xv = rv
              · simp only [← hv] at CAt
                clear hv
                by_cases ht : xt = rt
                · simp only [← ht] at CAt
                  clear ht
                  by_cases h0 : xt = 0
                  · subst h0
                    have NGH : Hid (¬ GoodS l pre (xi, xv, (0 : Int))) := by
                      show ¬ GoodS l pre (xi, xv, (0 : Int))
                      rintro ⟨_, _, h1, _⟩
                      exact h1 rfl
                    gi_wp2
                    refine wpIn_region_below (by kernel_rfl) (by kernel_rfl) (by kernel_rfl) ?_
                    repeat (go_big_quiet_step (first | exact calls_bw (CAt _) | exact calls_bw' (CRam _) | exact calls_bw' (CRom _)))
                    refine wpQuiet_nil ?_
                    intro w9' hw9'
                    obtain ⟨y9', rfl⟩ := hw9'
                    have hbW := y9'.has
                    have kRW2 := kRW.call hbW
                    have hWb := hbW.size
                    have q0 := kRW2.cell 0
                    have q1 := kRW2.frozen 0
                    have g14 : y9'.val.cell? ⟨w8.heap.size, 0, none⟩ = some (.int .i64 (pre.length : Int)) := (hbW.cell (p := ⟨_, 0, none⟩) (by simp only; omega)).trans h14
                    have g15 : y9'.val.cell? ⟨w8.heap.size + 1, 0, none⟩ = some (.int .i64 (lastOf pre)) := (hbW.cell (p := ⟨_, 0, none⟩) (by simp only; omega)).trans h15
                    have p14 : y9'.val.frozen? ⟨w8.heap.size, 0, none⟩ = false := (hbW.frozen (p := ⟨_, 0, none⟩) (by simp only; omega)).trans f14
                    have p15 : y9'.val.frozen? ⟨w8.heap.size + 1, 0, none⟩ = false := (hbW.frozen (p := ⟨_, 0, none⟩) (by simp only; omega)).trans f15
                    have hKO : KeepsOthers W y9'.val := ⟨hbW.size, fun k o hk _ => (hbW.block k (Array.getElem?_eq_some_iff.1 hk).1).trans hk⟩
                    generalize y9'.val = W9 at hbW q0 q1 g14 g15 p14 p15 hWb hKO ⊢
                    clear L0 L1 L2 L3 CAt CRam CRom kRW2
                    gi_wp2
                    exact ⟨(hKO.trans (KeepsOthers.setCell _ _ _)).from _, rfl, pre, _, rfl, NGH.out⟩
                  · have h01 : (xt == 0) = false := beq_eq_false_iff_ne.2 h0
                    have h02 : decide (xt = 0) = false := decide_eq_false h0
                    cases hra : isRAM (xi : Int) with
                    | true =>
                      rw [hra] at CRam
                      gi_wp2
                      refine wpIn_region_below (by kernel_rfl) (by kernel_rfl) (by kernel_rfl) ?_
                      repeat (go_big_quiet_step (first | exact calls_bw (CAt _) | exact calls_bw' (CRam _) | exact calls_bw' (CRom _)))
                      refine wpQuiet_nil ?_
                      intro w9' hw9'
                      obtain ⟨y9', rfl⟩ := hw9'
                      have hbW := y9'.has
                      have kRW2 := kRW.call hbW
                      have hWb := hbW.size
                      have q0 := kRW2.cell 0
                      have q1 := kRW2.frozen 0
                      have g14 : y9'.val.cell? ⟨w8.heap.size, 0, none⟩ = some (.int .i64 (pre.length : Int)) := (hbW.cell (p := ⟨_, 0, none⟩) (by simp only; omega)).trans h14
                      have g15 : y9'.val.cell? ⟨w8.heap.size + 1, 0, none⟩ = some (.int .i64 (lastOf pre)) := (hbW.cell (p := ⟨_, 0, none⟩) (by simp only; omega)).trans h15
                      have p14 : y9'.val.frozen? ⟨w8.heap.size, 0, none⟩ = false := (hbW.frozen (p := ⟨_, 0, none⟩) (by simp only; omega)).trans f14
                      have p15 : y9'.val.frozen? ⟨w8.heap.size + 1, 0, none⟩ = false := (hbW.frozen (p := ⟨_, 0, none⟩) (by simp only; omega)).trans f15
                      have hKO : KeepsOthers W y9'.val := ⟨hbW.size, fun k o hk _ => (hbW.block k (Array.getElem?_eq_some_iff.1 hk).1).trans hk⟩
                      generalize y9'.val = W9 at hbW q0 q1 g14 g15 p14 p15 hWb hKO ⊢
                      clear L0 L1 L2 L3 CAt CRam CRom kRW2
                      gi_wp2
                      refine ⟨((hKO.trans (KeepsOthers.setCell _ _ _)).trans (KeepsOthers.setCell _ _ _)).from _, ⟨?_, ?_⟩, ⟨?_, ?_, ?_, ?_⟩, ((hBW.trans (hbW.mono (by omega))).setCell (p := ⟨w8.heap.size + 1, 0, none⟩) (by simp) _).setCell (p := ⟨w8.heap.size, 0, none⟩) (Nat.le_refl _) _⟩
                      · rw [Below.heap_setCell _ _ _ gm (by simp only; omega), Below.heap_setCell _ _ _ gm (by simp only; omega)]
                        exact hbW.block gm (by omega)
                      · rw [Below.heap_setCell _ _ _ gb (by simp only; omega), Below.heap_setCell _ _ _ gb (by simp only; omega)]
                        exact hbW.block gb (by omega)
                      · rw [List.length_append]
                        refine World.cell?_setCell_same' _ _ _ ?_
                        rw [cell_set_ne (by omega), g14]
                        rfl
                      · rw [World.frozen?_setCell, World.frozen?_setCell]
                        exact p14
                      · rw [lastOf_snoc, cell_set_ne (by omega)]
                        exact World.cell?_setCell_same' _ _ _ (by rw [g15]; rfl)
                      · rw [World.frozen?_setCell, World.frozen?_setCell]
                        exact p15
                    | false =>
                      rw [hra] at CRam
                      cases hro : isROM (xi : Int) with
                      | true =>
                        rw [hro] at CRom
                        gi_wp2
                        refine wpIn_region_below (by kernel_rfl) (by kernel_rfl) (by kernel_rfl) ?_
                        repeat (go_big_quiet_step (first | exact calls_bw (CAt _) | exact calls_bw' (CRam _) | exact calls_bw' (CRom _)))
                        refine wpQuiet_nil ?_
                        intro w9' hw9'
                        obtain ⟨y9', rfl⟩ := hw9'
                        have hbW := y9'.has
                        have kRW2 := kRW.call hbW
                        have hWb := hbW.size
                        have q0 := kRW2.cell 0
                        have q1 := kRW2.frozen 0
                        have g14 : y9'.val.cell? ⟨w8.heap.size, 0, none⟩ = some (.int .i64 (pre.length : Int)) := (hbW.cell (p := ⟨_, 0, none⟩) (by simp only; omega)).trans h14
                        have g15 : y9'.val.cell? ⟨w8.heap.size + 1, 0, none⟩ = some (.int .i64 (lastOf pre)) := (hbW.cell (p := ⟨_, 0, none⟩) (by simp only; omega)).trans h15
                        have p14 : y9'.val.frozen? ⟨w8.heap.size, 0, none⟩ = false := (hbW.frozen (p := ⟨_, 0, none⟩) (by simp only; omega)).trans f14
                        have p15 : y9'.val.frozen? ⟨w8.heap.size + 1, 0, none⟩ = false := (hbW.frozen (p := ⟨_, 0, none⟩) (by simp only; omega)).trans f15
                        have hKO : KeepsOthers W y9'.val := ⟨hbW.size, fun k o hk _ => (hbW.block k (Array.getElem?_eq_some_iff.1 hk).1).trans hk⟩
                        generalize y9'.val = W9 at hbW q0 q1 g14 g15 p14 p15 hWb hKO ⊢
                        clear L0 L1 L2 L3 CAt CRam CRom kRW2
                        gi_wp2
                        refine ⟨((hKO.trans (KeepsOthers.setCell _ _ _)).trans (KeepsOthers.setCell _ _ _)).from _, ⟨?_, ?_⟩, ⟨?_, ?_, ?_, ?_⟩, ((hBW.trans (hbW.mono (by omega))).setCell (p := ⟨w8.heap.size + 1, 0, none⟩) (by simp) _).setCell (p := ⟨w8.heap.size, 0, none⟩) (Nat.le_refl _) _⟩
                        · rw [Below.heap_setCell _ _ _ gm (by simp only; omega), Below.heap_setCell _ _ _ gm (by simp only; omega)]
                          exact hbW.block gm (by omega)
                        · rw [Below.heap_setCell _ _ _ gb (by simp only; omega), Below.heap_setCell _ _ _ gb (by simp only; omega)]
                          exact hbW.block gb (by omega)
                        · rw [List.length_append]
                          refine World.cell?_setCell_same' _ _ _ ?_
                          rw [cell_set_ne (by omega), g14]
                          rfl
                        · rw [World.frozen?_setCell, World.frozen?_setCell]
                          exact p14
                        · rw [lastOf_snoc, cell_set_ne (by omega)]
                          exact World.cell?_setCell_same' _ _ _ (by rw [g15]; rfl)
                        · rw [World.frozen?_setCell, World.frozen?_setCell]
                          exact p15
                      | false =>
                        rw [hro] at CRom
                        have NGH : Hid (¬ GoodS l pre (xi, xv, xt)) := by
                          show ¬ GoodS l pre (xi, xv, xt)
                          rintro ⟨_, _, _, h1⟩
                          simp only at h1
                          rw [hra, hro] at h1
                          simp at h1
                        gi_wp2
                        refine wpIn_region_below (by kernel_rfl) (by kernel_rfl) (by kernel_rfl) ?_
                        repeat (go_big_quiet_step (first | exact calls_bw (CAt _) | exact calls_bw' (CRam _) | exact calls_bw' (CRom _)))
                        refine wpQuiet_nil ?_
                        intro w9' hw9'
                        obtain ⟨y9', rfl⟩ := hw9'
                        have hbW := y9'.has
                        have kRW2 := kRW.call hbW
                        have hWb := hbW.size
                        have q0 := kRW2.cell 0
                        have q1 := kRW2.frozen 0
                        have g14 : y9'.val.cell? ⟨w8.heap.size, 0, none⟩ = some (.int .i64 (pre.length : Int)) := (hbW.cell (p := ⟨_, 0, none⟩) (by simp only; omega)).trans h14
                        have g15 : y9'.val.cell? ⟨w8.heap.size + 1, 0, none⟩ = some (.int .i64 (lastOf pre)) := (hbW.cell (p := ⟨_, 0, none⟩) (by simp only; omega)).trans h15
                        have p14 : y9'.val.frozen? ⟨w8.heap.size, 0, none⟩ = false := (hbW.frozen (p := ⟨_, 0, none⟩) (by simp only; omega)).trans f14
                        have p15 : y9'.val.frozen? ⟨w8.heap.size + 1, 0, none⟩ = false := (hbW.frozen (p := ⟨_, 0, none⟩) (by simp only; omega)).trans f15
                        have hKO : KeepsOthers W y9'.val := ⟨hbW.size, fun k o hk _ => (hbW.block k (Array.getElem?_eq_some_iff.1 hk).1).trans hk⟩
                        generalize y9'.val = W9 at hbW q0 q1 g14 g15 p14 p15 hWb hKO ⊢
                        clear L0 L1 L2 L3 CAt CRam CRom kRW2
                        gi_wp2
                        exact ⟨(hKO.trans (KeepsOthers.setCell _ _ _)).from _, rfl, pre, _, rfl, NGH.out⟩
                · have h01 : (xt == rt) = false := beq_eq_false_iff_ne.2 ht
                  have h02 : decide (xt = rt) = false := decide_eq_false ht
                  have NGH : Hid (¬ GoodS l pre (xi, xv, xt)) := by
                    show ¬ GoodS l pre (xi, xv, xt)
                    rintro ⟨_, h1, _⟩
                    simp only at h1
                    rw [HRR.out] at h1
                    injection h1 with h2 h3
                    exact ht h3
                  gi_wp2
                  refine wpIn_region_below (by kernel_rfl) (by kernel_rfl) (by kernel_rfl) ?_
                  repeat (go_big_quiet_step (first | exact calls_bw (CAt _) | exact calls_bw' (CRam _) | exact calls_bw' (CRom _)))
                  refine wpQuiet_nil ?_
                  intro w9' hw9'
                  obtain ⟨y9', rfl⟩ := hw9'
                  have hbW := y9'.has
                  have kRW2 := kRW.call hbW
                  have hWb := hbW.size
                  have q0 := kRW2.cell 0
                  have q1 := kRW2.frozen 0
                  have g14 : y9'.val.cell? ⟨w8.heap.size, 0, none⟩ = some (.int .i64 (pre.length : Int)) := (hbW.cell (p := ⟨_, 0, none⟩) (by simp only; omega)).trans h14
                  have g15 : y9'.val.cell? ⟨w8.heap.size + 1, 0, none⟩ = some (.int .i64 (lastOf pre)) := (hbW.cell (p := ⟨_, 0, none⟩) (by simp only; omega)).trans h15
                  have p14 : y9'.val.frozen? ⟨w8.heap.size, 0, none⟩ = false := (hbW.frozen (p := ⟨_, 0, none⟩) (by simp only; omega)).trans f14
                  have p15 : y9'.val.frozen? ⟨w8.heap.size + 1, 0, none⟩ = false := (hbW.frozen (p := ⟨_, 0, none⟩) (by simp only; omega)).trans f15
                  have hKO : KeepsOthers W y9'.val := ⟨hbW.size, fun k o hk _ => (hbW.block k (Array.getElem?_eq_some_iff.1 hk).1).trans hk⟩
                  generalize y9'.val = W9 at hbW q0 q1 g14 g15 p14 p15 hWb hKO ⊢
                  clear L0 L1 L2 L3 CAt CRam CRom kRW2
                  gi_wp2
                  exact ⟨(hKO.trans (KeepsOthers.setCell _ _ _)).from _, rfl, pre, _, rfl, NGH.out⟩
              · have h01 : (xv == rv) = false := beq_eq_false_iff_ne.2 hv
                have h02 : decide (xv = rv) = false := decide_eq_false hv
                have NGH : Hid (¬ GoodS l pre (xi, xv, xt)) := by
                  show ¬ GoodS l pre (xi, xv, xt)
                  rintro ⟨_, h1, _⟩
                  simp only at h1
                  rw [HRR.out] at h1
                  injection h1 with h2 h3
                  exact hv h2
                gi_wp2
                refine wpIn_region_below (by kernel_rfl) (by kernel_rfl) (by kernel_rfl) ?_
                repeat (go_big_quiet_step (first | exact calls_bw (CAt _) | exact calls_bw' (CRam _) | exact calls_bw' (CRom _)))
                refine wpQuiet_nil ?_
                intro w9' hw9'
                obtain ⟨y9', rfl⟩ := hw9'
                have hbW := y9'.has
                have kRW2 := kRW.call hbW
                have hWb := hbW.size
                have q0 := kRW2.cell 0
                have q1 := kRW2.frozen 0
                have g14 : y9'.val.cell? ⟨w8.heap.size, 0, none⟩ = some (.int .i64 (pre.length : Int)) := (hbW.cell (p := ⟨_, 0, none⟩) (by simp only; omega)).trans h14
                have g15 : y9'.val.cell? ⟨w8.heap.size + 1, 0, none⟩ = some (.int .i64 (lastOf pre)) := (hbW.cell (p := ⟨_, 0, none⟩) (by simp only; omega)).trans h15
                have p14 : y9'.val.frozen? ⟨w8.heap.size, 0, none⟩ = false := (hbW.frozen (p := ⟨_, 0, none⟩) (by simp only; omega)).trans f14
                have p15 : y9'.val.frozen? ⟨w8.heap.size + 1, 0, none⟩ = false := (hbW.frozen (p := ⟨_, 0, none⟩) (by simp only; omega)).trans f15
                have hKO : KeepsOthers W y9'.val := ⟨hbW.size, fun k o hk _ => (hbW.block k (Array.getElem?_eq_some_iff.1 hk).1).trans hk⟩
                generalize y9'.val = W9 at hbW q0 q1 g14 g15 p14 p15 hWb hKO ⊢
                clear L0 L1 L2 L3 CAt CRam CRom kRW2
                gi_wp2
                exact ⟨(hKO.trans (KeepsOthers.setCell _ _ _)).from _, rfl, pre, _, rfl, NGH.out⟩
          case stop =>
            rintro D c pre W _ ⟨k2, hk2, ht2, rfl⟩ ⟨rfl, q, y, hq, hy⟩ _
            exfalso
            obtain ⟨h1, h2⟩ := List.append_inj' hq rfl
            cases h2
            subst h1
            have hrr : isRAM (k2 : Int) = true ∨ (isRAM (k2 : Int) = false ∧ isROM (k2 : Int) = true) := by
              cases h1 : isRAM (k2 : Int)
              · cases h2 : isROM (k2 : Int)
                · rw [HZ.out k2 h1 h2] at ht2
                  exact absurd rfl ht2
                · exact .inr ⟨rfl, rfl⟩
              · exact .inl rfl
            refine hy ⟨lastOf_secs f k2, ?_, ht2, hrr⟩
            have := rel_at HRel.out (y := (k2 : Int)) (by rcases hrr with h | h; exact .inl h; exact .inr h.2)
            rw [Int.toNat_natCast] at this
            exact this
          case done =>
            rintro D ys w10 hD hys ⟨⟨h14, f14, -, -⟩, hBW⟩ hK10
            rw [show ys = T from hys] at h14
            clear hys
            have hw10 := hBW.size
            have hx10 : IsRef w10 w0.heap.size x sv l := hx9.keep (fun b hb _ => hBW.block b (by have := (HXw.out b hb).1; omega)) hBW.size
            have hy10 := hy9.below hBW (by omega)
            have kR10 := kR9.below hBW (by omega)
            have hB10 : Below w0.heap.size w0 w10 := hB9.trans (hBW.mono (by omega))
            have HTOT := Lib.hid (show cntK l (fun a => decide ((refAt l a).2 ≠ 0)) l.length = T.length from HT.out ▸ cnt_total HRel.out HZ.out HI.out)
            have hD' : w.heap.size ≤ D := by omega
            have hDw : D < w10.heap.size := (Array.getElem?_eq_some_iff.1 hK10).1
            clear hx9 hy9 kR9 hB9 hBW hmm9 hcb9 k14 k15
            go_wp2_with fail
            go_loopw [18] (fun v wr2 => ∃ i : Nat, v = .int .i64 (i : Int) ∧ i ≤ l.length ∧ wr2.cell? ⟨w8.heap.size, 0, none⟩ = some (.int .i64 ((T.length : Int) - (cntK l (fun a => decide ((refAt l a).2 ≠ 0)) i : Int))) ∧ wr2.frozen? ⟨w8.heap.size, 0, none⟩ = false ∧ Chg (· = w8.heap.size) w10 wr2)
              (fun v _ => l.length - (intOf v).toNat)
            case atStart => exact ⟨0, rfl, Nat.zero_le _, by rw [cntK_zero, h14]; simp, f14, Chg.refl _ _⟩
            case round =>
              obtain ⟨i, rfl, hi, hcm, hfm, hcr⟩ := hrel
              have hxr := hx10.chg hcr (fun b hb e => by have := (HXw.out b hb).1; omega)
              have hyr2 := hy10.chg hcr (by omega)
              have hrs := hcr.size
              obtain ⟨a', cap', hsv, hcap', hrd⟩ := hxr.reads
              have y0 := hyr2.cell 0
              have x0 : wr.cell? ⟨x, 0, none⟩ = some (.slice a' l.length cap') := by rw [← hsv]; exact hxr.blk.cell 0
              clear hsv
              by_cases hin : i < l.length
              · have hii : (i : Int) < (l.length : Int) := by omega
                obtain ⟨b', rfl, hbl', hcs⟩ := hrd (by omega)
                obtain ⟨p, hp⟩ : ∃ p, l[i]? = some p := ⟨_, List.getElem?_eq_getElem hin⟩
                have hq0 := (hcs i p hp).1
                have HP := Lib.hid hp
                have HCS := Lib.hid hcs
                have HFM := Lib.hid hcm
                have HX0 := Lib.hid x0
                have HB8 := Lib.hid (show w8.heap.size < wr.heap.size by omega)
                clear hrd hp hcs hcm
                go_wp2_with fail
                clear y0 x0
                go_loopw [19, 20] (fun u v wr3 => ∃ (k3 : Nat) (bb : Bool), v = .int .i64 (k3 : Int) ∧ u = .bool bb ∧ k3 ≤ i ∧ (bb = true ↔ p.at_ ∉ ats (l.take k3)) ∧ Below wr.heap.size wr wr3)
                  (fun _ v _ => i - (intOf v).toNat)
                case atStart => exact ⟨0, true, rfl, rfl, Nat.zero_le _, by simp [ats], Below.refl _ _⟩
                case round =>
                  obtain ⟨k3, bb, rfl, rfl, hk3, hbb, hb3⟩ := hrel
                  have HBB := Lib.hid hbb
                  clear hbb
                  have hx3r := hxr.call hb3
                  have hy3r := hyr2.call hb3
                  by_cases hk3i : k3 < i
                  · have hk3l : k3 < l.length := by omega
                    have hkk : (k3 : Int) < (i : Int) := by omega
                    have hkk2 : (k3 : Int) < (l.length : Int) := by omega
                    obtain ⟨q, hq⟩ : ∃ q, l[k3]? = some q := ⟨_, List.getElem?_eq_getElem hk3l⟩
                    have hqc := (HCS.out k3 q hq).1
                    have hsn := take_snoc l k3 q hq
                    have HSN := Lib.hid (show ∀ bb' : Bool, (bb' = true ↔ (bb = true ∧ q.at_ ≠ p.at_)) → (bb' = true ↔ p.at_ ∉ ats (l.take (k3 + 1))) from fun bb' h => by
                      rw [h, HBB.out, hsn, ats, ats, List.map_append, List.mem_append, List.map_cons, List.map_nil, List.mem_singleton]
                      constructor
                      · rintro ⟨h1, h2⟩ (h3 | h3)
                        · exact h1 h3
                        · exact h2 h3.symm
                      · intro h1
                        exact ⟨fun h2 => h1 (.inl h2), fun h2 => h1 (.inr h2.symm)⟩)
                    have L0 : ∀ y : BW wr, y.val.cell? ⟨y8, 0, none⟩ = some (.pointer (some ⟨x, 0, none⟩)) := fun y => (hy3r.call y.has).cell 0
                    have L1 : ∀ y : BW wr, y.val.cell? ⟨x, 0, none⟩ = some (.slice (some ⟨b', 0, none⟩) l.length cap') := fun y => ((Q.call hb3 y.has).cell (p := ⟨_, 0, none⟩) hxr.blk.lt).trans HX0.out
                    have L2 : ∀ y : BW wr, y.val.cell? ⟨b', k3 * 3, none⟩ = some (.int .i64 q.at_) := fun y => ((Q.call hb3 y.has).cell (p := ⟨_, _, none⟩) hbl').trans hqc
                    have L3 : ∀ y : BW wr, y.val.cell? ⟨b', i * 3, none⟩ = some (.int .i64 p.at_) := fun y => ((Q.call hb3 y.has).cell (p := ⟨_, _, none⟩) hbl').trans hq0
                    clear hsn hq hqc
                    cases bb with
                    | false =>
                      go_wp2
                      refine wp_region_below (by kernel_rfl) (by kernel_rfl) ?_
                      repeat (go_big_quiet_step (fail))
                      refine wpQuiet_nil ?_
                      intro w9' hw9'
                      obtain ⟨y9', rfl⟩ := hw9'
                      have hb4 := Q.call hb3 y9'.has
                      generalize y9'.val = W9 at hb4 ⊢
                      clear L0 L1 L2 L3
                      go_wp2
                      exact ⟨⟨k3 + 1, false, by simp, rfl, by omega, HSN.out false (by simp), hb4⟩, by simp [intOf]; omega⟩
                    | true =>
                      by_cases hqp : q.at_ = p.at_
                      · have L2' : ∀ y : BW wr, y.val.cell? ⟨b', k3 * 3, none⟩ = some (.int .i64 p.at_) := fun y => by rw [L2 y, hqp]
                        have HF := Lib.hid (HSN.out false (by simp [hqp]))
                        clear hqp L2
                        go_wp2
                        refine wp_region_below (by kernel_rfl) (by kernel_rfl) ?_
                        repeat (go_big_quiet_step (fail))
                        refine wpQuiet_nil ?_
                        intro w9' hw9'
                        obtain ⟨y9', rfl⟩ := hw9'
                        have hb4 := Q.call hb3 y9'.has
                        generalize y9'.val = W9 at hb4 ⊢
                        clear L0 L1 L2' L3
                        go_wp2
                        exact ⟨⟨k3 + 1, false, by simp, rfl, by omega, HF.out, hb4⟩, by simp [intOf]; omega⟩
                      · have hd1 : (q.at_ == p.at_) = false := beq_eq_false_iff_ne.2 hqp
                        have hd2 : decide (q.at_ = p.at_) = false := decide_eq_false hqp
                        go_wp2
                        refine wp_region_below (by kernel_rfl) (by kernel_rfl) ?_
                        repeat (go_big_quiet_step (fail))
                        refine wpQuiet_nil ?_
                        intro w9' hw9'
                        obtain ⟨y9', rfl⟩ := hw9'
                        have hb4 := Q.call hb3 y9'.has
                        generalize y9'.val = W9 at hb4 ⊢
                        clear L0 L1 L2 L3
                        go_wp2
                        exact ⟨⟨k3 + 1, _, by simp, rfl, by omega, HSN.out _ (by simp [hqp]), hb4⟩, by simp [intOf]; omega⟩
                  · obtain rfl : k3 = i := by omega
                    clear hx3r hy3r
                    have hxr3 := hxr.call hb3
                    have L0 : ∀ y : BW wr, y.val.cell? ⟨y8, 0, none⟩ = some (.pointer (some ⟨x, 0, none⟩)) := fun y => ((hyr2.call hb3).call y.has).cell 0
                    have L1 : ∀ y : BW wr, y.val.cell? ⟨x, 0, none⟩ = some (.slice (some ⟨b', 0, none⟩) l.length cap') := fun y => ((Q.call hb3 y.has).cell (p := ⟨_, 0, none⟩) hxr.blk.lt).trans HX0.out
                    have L3 : ∀ y : BW wr, y.val.cell? ⟨b', k3 * 3, none⟩ = some (.int .i64 p.at_) := fun y => ((Q.call hb3 y.has).cell (p := ⟨_, _, none⟩) hbl').trans hq0
                    obtain ⟨rv, rt, hrr2⟩ := pair_eta (refAt l p.at_)
                    have CAt : ∀ y : BW wr, Calls Tryd.prog 22 #[.pointer (some ⟨x, 0, none⟩), .int .i64 p.at_] y.val (fun e w' => e = .returned (.agg #[.int .u8 rv, .int .u8 rt]) ∧ Below y.val.heap.size y.val w') := fun y => by
                      have := refAt_calls w0.heap.size x sv l p.at_ y.val (hxr3.call y.has) hl2
                      rw [hrr2] at this
                      exact this
                    have HSUC := Lib.hid (cntK_succ l (fun a => decide ((refAt l a).2 ≠ 0)) k3 p HP.out)
                    have HLE := Lib.hid (show cntK l (fun a => decide ((refAt l a).2 ≠ 0)) k3 ≤ k3 ∧ T.length ≤ l.length from ⟨cntK_le _ _ _, HTOT.out ▸ cntK_le _ _ _⟩)
                    have HRR := Lib.hid (show (refAt l p.at_).2 = rt by rw [hrr2])
                    clear hrr2
                    cases bb with
                    | false =>
                      have HZC := Lib.hid (show cntK l (fun a => decide ((refAt l a).2 ≠ 0)) (k3 + 1) = cntK l (fun a => decide ((refAt l a).2 ≠ 0)) k3 by
                        rw [HSUC.out, if_neg (fun h => by have := HBB.out.2 h.1; cases this)]
                        rfl)
                      go_wp2
                      refine wp_region_below (by kernel_rfl) (by kernel_rfl) ?_
                      repeat (go_big_quiet_step (exact calls_bw (CAt _)))
                      refine wpQuiet_nil ?_
                      intro w9' hw9'
                      obtain ⟨y9', rfl⟩ := hw9'
                      have hb4 := Q.call hb3 y9'.has
                      have g14 := (hb4.cell (p := ⟨w8.heap.size, 0, none⟩) HB8.out).trans HFM.out
                      have p14 : y9'.val.frozen? ⟨w8.heap.size, 0, none⟩ = false := (hb4.frozen (p := ⟨w8.heap.size, 0, none⟩) HB8.out).trans hfm
                      generalize y9'.val = W9 at hb4 g14 p14 ⊢
                      clear L0 L1 L3 CAt
                      go_wp2
                      exact ⟨⟨k3 + 1, by simp, by omega, by rw [HZC.out]; exact g14, p14, hcr.trans (Chg.of hb4)⟩, by simp [intOf]; omega⟩
                    | true =>
                      by_cases hrt : rt = 0
                      · subst hrt
                        have HZC := Lib.hid (show cntK l (fun a => decide ((refAt l a).2 ≠ 0)) (k3 + 1) = cntK l (fun a => decide ((refAt l a).2 ≠ 0)) k3 by
                          rw [HSUC.out, if_neg (fun h => by have := of_decide_eq_true h.2; exact this HRR.out)]
                          rfl)
                        go_wp2
                        refine wp_region_below (by kernel_rfl) (by kernel_rfl) ?_
                        repeat (go_big_quiet_step (exact calls_bw (CAt _)))
                        refine wpQuiet_nil ?_
                        intro w9' hw9'
                        obtain ⟨y9', rfl⟩ := hw9'
                        have hb4 := Q.call hb3 y9'.has
                        have g14 := (hb4.cell (p := ⟨w8.heap.size, 0, none⟩) HB8.out).trans HFM.out
                        have p14 : y9'.val.frozen? ⟨w8.heap.size, 0, none⟩ = false := (hb4.frozen (p := ⟨w8.heap.size, 0, none⟩) HB8.out).trans hfm
                        generalize y9'.val = W9 at hb4 g14 p14 ⊢
                        clear L0 L1 L3 CAt
                        go_wp2
                        exact ⟨⟨k3 + 1, by simp, by omega, by rw [HZC.out]; exact g14, p14, hcr.trans (Chg.of hb4)⟩, by simp [intOf]; omega⟩
                      · have hd1 : (rt == 0) = false := beq_eq_false_iff_ne.2 hrt
                        have hd2 : decide (rt = 0) = false := decide_eq_false hrt
                        have HZC := Lib.hid (show cntK l (fun a => decide ((refAt l a).2 ≠ 0)) (k3 + 1) = cntK l (fun a => decide ((refAt l a).2 ≠ 0)) k3 + 1 by
                          rw [HSUC.out, if_pos ⟨HBB.out.1 rfl, decide_eq_true (by rw [HRR.out]; exact hrt)⟩])
                        go_wp2
                        refine wp_region_below (by kernel_rfl) (by kernel_rfl) ?_
                        repeat (go_big_quiet_step (exact calls_bw (CAt _)))
                        refine wpQuiet_nil ?_
                        intro w9' hw9'
                        obtain ⟨y9', rfl⟩ := hw9'
                        have hb4 := Q.call hb3 y9'.has
                        have g14 := (hb4.cell (p := ⟨w8.heap.size, 0, none⟩) HB8.out).trans HFM.out
                        have p14 : y9'.val.frozen? ⟨w8.heap.size, 0, none⟩ = false := (hb4.frozen (p := ⟨w8.heap.size, 0, none⟩) HB8.out).trans hfm
                        generalize y9'.val = W9 at hb4 g14 p14 ⊢
                        clear L0 L1 L3 CAt
                        obtain ⟨N, hN⟩ : ∃ N : Int, (T.length : Int) - (cntK l (fun a => decide ((refAt l a).2 ≠ 0)) k3 : Int) = N := ⟨_, rfl⟩
                        rw [hN] at g14
                        have HN := Lib.hid (show (T.length : Int) - (cntK l (fun a => decide ((refAt l a).2 ≠ 0)) (k3 + 1) : Int) = N - 1 by rw [HZC.out]; omega)
                        have hN1 : -1000000 ≤ N := by have := HLE.out; omega
                        have hN2 : N ≤ 1000000 := by have := HLE.out; omega
                        clear hN
                        rw [show (rt != 0) = true by simp [bne, hd1]]
                        clear hd1 hd2
                        go_wp2
                        exact ⟨⟨k3 + 1, by simp, by omega, by rw [HN.out]; exact World.cell?_setCell_same' _ _ _ (by rw [g14]; rfl), by rw [World.frozen?_setCell]; exact p14, (hcr.trans (Chg.of hb4)).trans (Chg.setCell _ _ _ _ rfl)⟩, by simp [intOf]; omega⟩
              · obtain rfl : i = l.length := by omega
                have hz0 : ((T.length : Int) - (cntK l (fun a => decide ((refAt l a).2 ≠ 0)) l.length : Int)) = 0 := by
                  rw [HTOT.out]
                  exact Int.sub_self _
                rw [hz0] at hcm
                have kRr := kR10.chg hcr (by omega)
                have hBr := hcr.below hB10 hB10.size (fun b hb => by omega)
                have hKr : wr.heap[D]? = some (.deferred (some [])) := (hcr.block D hDw (fun e => by
                  have e : D = w8.heap.size := e
                  rw [e] at hK10
                  have := World.block_lt_of_cell? w10 _ h14
                  simp only [World.cell?, hK10] at h14
                  cases h14)).trans hK10
                clear hz0 hxr hyr2 hrd
                go_wp2_with fail
                (with_reducible refine (awake08_calls _ (hk0.q hBr)).mono ?_)
                rintro e w11 ⟨rfl, hb11⟩
                have kR11 := kRr.call hb11
                have hB11 := Q.call hBw0 (Q.call hBr hb11)
                have hK11 := heap_call hKr hb11
                have z0 := kR11.cell 0
                have z1 := kR11.frozen 0
                go_wp2_with fail
                have hK' := (KeepsOthers.setCell w11 ⟨w.heap.size + 1, 0, none⟩ (.bool true)).same D _ hK11 rfl
                refine ⟨by simp, .inl ⟨_, _, rfl, run_takeDeferred hK', ?_⟩⟩
                have hc5 := cell_kept (World.cell?_setCell_same' w11 ⟨w.heap.size + 1, 0, none⟩ (.bool true) (by rw [z0]; rfl)) (grownBy_putObj' _ D (.deferred none)) (fun r e => by cases e; exact ⟨_, hK', rfl⟩)
                refine ⟨.bool true, ?_, rfl, (hB11.setCell (p := ⟨w.heap.size + 1, 0, none⟩) (by simp) _).trans (belowK_b (w := w) (Nat.le_refl _) _ D _ _ hD' hK' rfl rfl)⟩
                simp [results, Tryd.f6, go_sem, hc5]
end Go.Proofs.YtjjebkgljgfecaaDoor
