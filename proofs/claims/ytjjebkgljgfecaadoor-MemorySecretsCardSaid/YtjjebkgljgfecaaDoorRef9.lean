/- The walk of MemoryPlays. -/
import Derived.Test.YtjjebkgljgfecaaDoorRef8
namespace Go.Proofs.YtjjebkgljgfecaaDoor
set_option linter.unusedVariables false
set_option linter.unusedSimpArgs false
open Go.RowKit

/-- All puts are at addresses that there are. -/
def InR (l : List PD) : Prop := ∀ p ∈ l, 0 ≤ p.at_ ∧ p.at_ < 65536
theorem InR.snoc {l : List PD} (h : InR l) (p : PD) (hp : 0 ≤ p.at_ ∧ p.at_ < 65536) : InR (l ++ [p]) := by
  intro q hq
  rcases List.mem_append.1 hq with h1 | h1
  · exact h q h1
  · simp at h1; rw [h1]; exact hp
theorem inR_loaded {l : List PD} (h : InR l) (x : Int) (bs : List Int) (n : Nat) (hx : 0 ≤ x) (hn : x + n ≤ 65536) : ∀ k, k ≤ n → InR (refLoaded l x bs k)
  | 0, _ => h
  | k + 1, hk => (inR_loaded h x bs n hx hn k (by omega)).snoc _ ⟨by simp only; omega, by simp only; omega⟩
theorem inR_labelled {l : List PD} (h : InR l) (x t : Int) (n : Nat) (hx : 0 ≤ x) (hn : x + n ≤ 65536) : ∀ k, k ≤ n → InR (refLabelled l x t k)
  | 0, _ => h
  | k + 1, hk => (inR_labelled h x t n hx hn k (by omega)).snoc _ ⟨by simp only; omega, by simp only; omega⟩
theorem inR_step {l : List PD} (h : InR l) (o : OpD) (hs : o.small) : InR (refStep l o) := by
  unfold refStep
  split
  · split
    · rename_i he
      rw [← load_same _ _ (by have := hs.1; omega)] at he
      unfold loadErr at he
      split at he
      · rename_i hc
        obtain ⟨h1, h2, h3⟩ := hc
        have h4 := (span_ok h3).2
        rw [loads_iff, isRAM_iff, isROM_iff] at h1
        refine inR_loaded h _ _ o.n (by omega) ?_ _ (Nat.le_refl _)
        omega
      · exact absurd he (by decide)
    · exact h
  · split
    · split
      · rename_i he
        rw [← span_same, span_iff] at he
        have h1 := (isOne_iff _ _).1 he.2
        exact inR_labelled h _ _ (o.to - o.at_ + 1).toNat (by omega) (by omega) _ (Nat.le_refl _)
      · exact h
    · split
      · split
        · rename_i hr
          exact h.snoc _ (by have := (isRAM_iff _).1 hr; simp only; omega)
        · exact h
      · exact h

theorem refRead_as (B g x : Nat) (sv : Value) (f : Nat → Int × Int) (l : List PD) (y : Int) (hR : Rel f l) (hl : l.length ≤ 1000000) :
    ∃ (r : Int × Int) (c : Int), (∀ V, KIN V → Mem V g f → Calls Tryd.prog 10 #[.pointer (some ⟨g, 0, none⟩), .int .i64 y] V fun e w' => e = .returned (.tuple #[.agg #[.int .u8 r.1, .int .u8 r.2], .int .i64 c]) ∧ Below V.heap.size V w') ∧
      (∀ V, IsRef V B x sv l → Calls Tryd.prog 16 #[.pointer (some ⟨x, 0, none⟩), .int .i64 y] V fun e w' => e = .returned (.tuple #[.agg #[.int .u8 r.1, .int .u8 r.2], .int .i64 c]) ∧ Below V.heap.size V w') := by
  refine ⟨refRead l y, refErr y, fun V h h2 => ?_, fun V h => refRead_calls B x sv l y V h hl⟩
  rw [← read_same hR, ← err_same]
  exact read_calls g f y V h h2

theorem OpD.lies.wide {w : World} {B B' : Nat} {o : OpD} (h : o.lies w B) (hB : B ≤ B') : o.lies w B' :=
  ⟨h.1, h.2.1, fun hl => by obtain ⟨b, off, e, hb, hc⟩ := h.2.2 hl; exact ⟨b, off, e, by omega, hc⟩⟩
theorem ReadsO.wide {w : World} {B B' : Nat} {a : Option Addr} {len : Nat} {ops : List OpD} (h : ReadsO w B a len ops) (hB : B ≤ B') : ReadsO w B' a len ops := by
  refine ⟨h.1, fun hl => ?_⟩
  obtain ⟨b, off, e, hb, hc⟩ := h.2 hl
  refine ⟨b, off, e, by omega, fun k o hk => ?_⟩
  obtain ⟨c0, c1, c2, c3, c4, c5, hl⟩ := hc k o hk
  exact ⟨c0, c1, c2, c3, c4, c5, hl.wide hB⟩

set_option maxRecDepth 100000 in
set_option maxHeartbeats 3200000 in
theorem memoryPlays_walk (a : Option Addr) (len cap : Nat) (ops : List OpD) (w : World) (hk : KIN w) (hlen : len ≤ maxLen) (hr : ReadsO w w.heap.size a len ops) :
    Calls Tryd.prog 4 #[.slice a len cap] w fun e w' => e = .returned (.bool true) ∧ Below w.heap.size w w' := by
  have HR := Lib.hid hr
  clear hr
  go_enter Tryd.func4, Tryd.ntmps4
  go_wp2_with fail
  (with_reducible refine (new_fresh _).mono ?_)
  rintro e w1 ⟨rfl, hm1, hb1⟩
  go_wp2_with fail
  (with_reducible refine (few_calls a len cap ops w1 hlen ?_).mono ?_)
  · exact (HR.out.below hb1).wide hb1.size
  rintro e w2 ⟨c, rfl, hc, hb2⟩
  cases c
  · go_wp2_with (go_at_call 13; (with_reducible refine (awake08_calls _ (hk.q (Q.call hb1 hb2))).mono ?_); rintro e w3 ⟨rfl, hb3⟩)
    go_returns
    exact ⟨rfl, Q.call (Q.call hb1 hb2) hb3⟩
  · obtain ⟨h30, hsm⟩ := hc rfl
    have HS := Lib.hid hsm
    have hB2 := Q.call hb1 hb2
    have hm2 := hm1.call hb2
    have hg2 := hm2.lt
    clear hsm hc hm1 hb1 hb2
    have hx0 : IsRef (w2.alloc (.cells #[.slice none 0 0] 39)) w.heap.size w2.heap.size (.slice none 0 0) [] := ⟨Blk.new _ _ _, World.ownsRow_nil _ _ _ _, hB2.size, by simp [Value.ownBlock]⟩
    have hm0 : Mem (w2.alloc (.cells #[.slice none 0 0] 39)) w.heap.size (fun _ => (0, 0)) := hm2.call (Q.alloc (Below.refl _ _) _)
    have hb0 : Below w.heap.size w (w2.alloc (.cells #[.slice none 0 0] 39)) := Q.alloc hB2 _
    go_wp2_with fail
    generalize w2.alloc (.cells #[.slice none 0 0] 39) = W0 at hx0 hm0 hb0 ⊢
    generalize w2.heap.size = x at hx0 hg2 ⊢
    clear hm2 hB2
    go_loopw [5] (fun v wr => ∃ (k : Nat) (sv : Value) (f : Nat → Int × Int) (l : List PD), v = .int .i64 (k : Int) ∧ k ≤ len ∧ Mem wr w.heap.size f ∧ IsRef wr w.heap.size x sv l ∧ Rel f l ∧ InR l ∧ l.length ≤ 61 * k ∧ ¬ RefF x sv w.heap.size ∧ Below w.heap.size w wr)
      (fun v _ => len - (intOf v).toNat)
    case atStart => exact ⟨0, _, _, _, rfl, Nat.zero_le _, hm0, hx0, fun y _ => rfl, fun p h => by simp at h, by simp, fun h => by rcases h with h | h; omega; simp [Value.ownBlock] at h, hb0⟩
    case round =>
      obtain ⟨k, sv, f, l, rfl, hkl, hm, hx, hR, hI, hl, hgx, hb⟩ := hrel
      clear hx0 hm0 hb0
      by_cases hkn : k < len
      · obtain ⟨b, off, o, rfl, hbl, hget, c0, c1, c2, c3, c4, c5, hlies⟩ := (HR.out.below hb).at_ hkn
        have hos : o.small := HS.out k o hkn hget
        have hki : (k : Int) < (len : Int) := by omega
        have C := does_calls w.heap.size w.heap.size x sv f l o wr (hk.q hb) hm hx hk.lt hb.size (Nat.le_refl _) hgx (by omega) hR hos hlies
        have hlen2 := refStep_length l o hos
        have HN := Lib.hid (show Rel (memStep f o) (refStep l o) ∧ InR (refStep l o) ∧ (refStep l o).length ≤ 61 * (k + 1) from ⟨rel_step hR o hos, inR_step hI o hos, by omega⟩)
        have HX := Lib.hid (show ∀ b, RefF x sv b → w.heap.size ≤ b from fun b h => (hx.lt h).2)
        have HG := Lib.hid hgx
        have hgl := hm.lt
        clear hget hR hI hl hos hlies hlen2 hm hx hgx
        go_wp2_with (go_at_call 15; (with_reducible refine C.mono ?_); rintro e w5 ⟨rfl, sv', hm5, hx5, hc5, hf5⟩)
        refine ⟨⟨k + 1, sv', memStep f o, refStep l o, by simp, by omega, hm5, hx5, HN.out.1, HN.out.2.1, HN.out.2.2, ?_, ?_⟩, by simp [intOf]; omega⟩
        · intro h
          rcases hf5 _ h with h1 | h1
          · exact HG.out h1
          · omega
        · refine hc5.below hb hb.size (fun b h => ?_)
          rcases h with rfl | h
          · exact Nat.le_refl _
          · exact HX.out b h
      · obtain rfl : k = len := by omega
        have hl2 : l.length ≤ 1000000 := by omega
        have HRel := Lib.hid hR
        have HI := Lib.hid hI
        clear hR hI hl hgx
        obtain ⟨a', cap', rfl, hcap', hrd0⟩ := hx.reads
        clear hrd0
        go_wp2_with fail
        go_loopw [6] (fun v wr => ∃ i : Nat, v = .int .i64 (i : Int) ∧ i ≤ l.length ∧ Mem wr w.heap.size f ∧ IsRef wr w.heap.size x (.slice a' l.length cap') l ∧ Below w.heap.size w wr)
          (fun v _ => l.length - (intOf v).toNat)
        case atStart => exact ⟨0, rfl, Nat.zero_le _, hm, hx, hb⟩
        case round =>
          clear hm hx hb
          obtain ⟨i, rfl, hi, hm, hx, hb⟩ := hrel
          have x0 := hx.blk.cell 0
          by_cases hin : i < l.length
          · have hii : (i : Int) < (l.length : Int) := by omega
            go_wp2_with fail
            clear x0
            go_loopw [7] (fun v wr => ∃ j : Int, v = .int .i64 j ∧ -1 ≤ j ∧ j ≤ 2 ∧ Mem wr w.heap.size f ∧ IsRef wr w.heap.size x (.slice a' l.length cap') l ∧ Below w.heap.size w wr)
              (fun v _ => (2 - intOf v).toNat)
            case atStart => exact ⟨-1, rfl, by omega, by omega, hm, hx, hb⟩
            case round =>
              clear hm hx hb
              obtain ⟨j, rfl, hj1, hj2, hm, hx, hb⟩ := hrel
              by_cases hjn : j < 2
              · obtain ⟨a2, cap2, e, _, hrd⟩ := hx.reads
                cases e
                obtain ⟨b', rfl, hbl, hcs⟩ := hrd (by omega)
                obtain ⟨q0, q1, q2⟩ := hcs i l[i] (List.getElem?_eq_getElem hin)
                have hqr := HI.out l[i] (List.getElem_mem _)
                generalize l[i] = q at q0 q1 q2 hqr
                obtain ⟨hqr0, hqr1⟩ := hqr
                have hwr := wrap_i64 (q.at_ + j) (by omega) (by omega)
                obtain ⟨r, c, CM, CX⟩ := refRead_as w.heap.size w.heap.size x (.slice (some ⟨b', 0, none⟩) l.length cap') f l (q.at_ + j) HRel.out hl2
                have x0 := hx.blk.cell 0
                have HX := Lib.hid hx
                have HM := Lib.hid hm
                clear hcs hrd q1 q2 hx hm
                go_wp2_with fail
                (with_reducible refine (CM _ (hk.q hb) HM.out).mono ?_)
                rintro e w5 ⟨rfl, hb5⟩
                have hx5 := HX.out.call hb5
                have y0 := hx5.blk.cell 0
                have y1 := hx5.blk.lt
                have hbl5 := Nat.lt_of_lt_of_le hbl hb5.size
                have y2 : w5.cell? ⟨b', i * 3, none⟩ = some (.int .i64 q.at_) := (hb5.cell (p := ⟨b', _, none⟩) hbl).trans q0
                have hB5 := Q.call hb hb5
                have hm5 := HM.out.call hb5
                clear x0 q0 CM HX HM hbl hb hb5
                go_wp2_with fail
                (with_reducible refine (CX _ (hx5.call (Q.alloc (Below.refl _ _) _))).mono ?_)
                rintro e w6 ⟨rfl, hb6⟩
                have k6 := (Blk.new w5 24 #[.int .u8 r.1, .int .u8 r.2]).call hb6
                have d0 := k6.cell 0
                have d1 := k6.cell 1
                have l6 := k6.lt
                have hx6 := (hx5.call (Q.alloc (Below.refl _ _) _)).call hb6
                have hm6 := (hm5.call (Q.alloc (Below.refl _ _) _)).call hb6
                have hB6 := Q.call (Q.alloc hB5 _) hb6
                clear CX y0 y2 hx5 hm5 hB5 hb6
                go_wp2
                refine ⟨⟨j + 1, rfl, by omega, by omega, hm6.call (Q.alloc (Below.refl _ _) _), hx6.call (Q.alloc (Below.refl _ _) _), Q.alloc hB6 _⟩, by simp [intOf]; omega⟩
              · obtain rfl : j = 2 := by omega
                go_wp2
                refine ⟨⟨i + 1, by simp, by omega, hm, hx, hb⟩, by simp [intOf]; omega⟩
          · obtain rfl : i = l.length := by omega
            go_wp2_with (go_at_call 13; (with_reducible refine (awake08_calls _ (hk.q hb)).mono ?_); rintro e w7 ⟨rfl, hb7⟩)
            go_returns
            exact ⟨rfl, Q.call hb hb7⟩
end Go.Proofs.YtjjebkgljgfecaaDoor
