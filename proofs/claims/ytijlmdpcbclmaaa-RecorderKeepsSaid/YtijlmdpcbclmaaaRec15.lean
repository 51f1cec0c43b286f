/- One Add of both recorders, in all its ways; what stays of a clone and of what was kept. -/
import Derived.Test.YtijlmdpcbclmaaaRec14
namespace Go.Proofs.Ytijlmdpcbclmaaa
set_option linter.unusedVariables false
set_option linter.unusedSimpArgs false
open Go.RowKit

def RD.out (r : RD) : Bool := decide (r.addr < 0) || decide (65535 < r.addr)
def addL (l : List RD) (most : Int) (r : RD) : List RD := if r.out = true then l else if (l.length : Int) = most then l else l ++ [r]
def addF (l : List RD) (most : Int) (full : Bool) (r : RD) : Bool := if r.out = true then full else if (l.length : Int) = most then true else full
def addE (l : List RD) (most : Int) (r : RD) : Int := if r.out = true then 10 else if (l.length : Int) = most then 18 else 0
theorem addL_length (l : List RD) (most : Int) (r : RD) (h : (l.length : Int) ≤ most) : (addL l most r).length ≤ l.length + 1 ∧ ((addL l most r).length : Int) ≤ most := by
  unfold addL
  split
  · omega
  · split
    · omega
    · rw [List.length_append, List.length_singleton]; omega
theorem addL_prefix (l lc : List RD) (most : Int) (r : RD) (h : lc <+: l) : lc <+: addL l most r := by
  unfold addL
  split
  · exact h
  · split
    · exact h
    · exact h.trans (List.prefix_append _ _)
theorem out_iff (r : RD) : r.out = true ↔ (r.addr < 0 ∨ 65535 < r.addr) := by
  unfold RD.out
  simp

theorem radd_all (B g : Nat) (sv : Value) (l : List RD) (most : Int) (full : Bool) (r : RD) (w : World) (hr : IsRec w B g sv l most full) (hB : B ≤ w.heap.size) (hl : (l.length : Int) ≤ most) (hm : most ≤ 4096) :
    Calls Try.prog 28 #[.pointer (some ⟨g, 0, none⟩), .agg r.cells] w fun e w' => e = .returned (.int .i64 (addE l most r)) ∧ ∃ sv', IsRec w' B g sv' (addL l most r) most (addF l most full r) ∧ Chg (RecF g sv) w w' ∧ (∀ b, RecF g sv' b → RecF g sv b ∨ w.heap.size ≤ b) := by
  unfold addE addL addF
  by_cases ho : r.out = true
  · rw [if_pos ho, if_pos ho, if_pos ho]
    exact (radd_out g r ((out_iff r).1 ho) w).mono fun e w' ⟨he, hb⟩ => ⟨he, sv, hr.call hb, .of hb, fun b h => .inl h⟩
  · have ho2 : 0 ≤ r.addr ∧ r.addr ≤ 65535 := by
      have h3 : ¬ (r.addr < 0 ∨ 65535 < r.addr) := fun h => ho ((out_iff r).2 h)
      omega
    rw [if_neg ho, if_neg ho, if_neg ho]
    by_cases hf : (l.length : Int) = most
    · rw [if_pos hf, if_pos hf, if_pos hf]
      exact (radd_full B g sv l most full r ho2.1 ho2.2 w hr hf).mono fun e w' ⟨he, h1, h2⟩ => ⟨he, sv, h1, ⟨h2.os, h2.tape, h2.output, h2.size, fun b hb hS => h2.block b hb (fun e => hS (.inl e))⟩, fun b h => .inl h⟩
    · rw [if_neg hf, if_neg hf, if_neg hf]
      exact radd_ok B g sv l most full r ho2.1 ho2.2 w hr hB (by omega) hm
theorem xadd_all (B g : Nat) (sv : Value) (l : List RD) (most : Int) (full : Bool) (r : RD) (w : World) (hr : IsRR w B g sv l most full) (hB : B ≤ w.heap.size) (hl : (l.length : Int) ≤ most) (hm : most ≤ 4096) :
    Calls Try.prog 29 #[.pointer (some ⟨g, 0, none⟩), .agg r.cells] w fun e w' => e = .returned (.int .i64 (addE l most r)) ∧ ∃ sv', IsRR w' B g sv' (addL l most r) most (addF l most full r) ∧ Chg (RRF g sv) w w' ∧ (∀ b, RRF g sv' b → RRF g sv b ∨ w.heap.size ≤ b) ∧ (sv'.ownBlock = sv.ownBlock ∨ ∀ b, b < w.heap.size → b ≠ g → w'.heap[b]? = w.heap[b]?) := by
  unfold addE addL addF
  by_cases ho : r.out = true
  · rw [if_pos ho, if_pos ho, if_pos ho]
    exact (xadd_out g r ((out_iff r).1 ho) w).mono fun e w' ⟨he, hb⟩ => ⟨he, sv, hr.call hb, .of hb, fun b h => .inl h, .inl rfl⟩
  · have ho2 : 0 ≤ r.addr ∧ r.addr ≤ 65535 := by
      have h3 : ¬ (r.addr < 0 ∨ 65535 < r.addr) := fun h => ho ((out_iff r).2 h)
      omega
    rw [if_neg ho, if_neg ho, if_neg ho]
    by_cases hf : (l.length : Int) = most
    · rw [if_pos hf, if_pos hf, if_pos hf]
      exact (xadd_full B g sv l most full r ho2.1 ho2.2 w hr hf).mono fun e w' ⟨he, h1, h2⟩ => ⟨he, sv, h1, ⟨h2.os, h2.tape, h2.output, h2.size, fun b hb hS => h2.block b hb (fun e => hS (.inl e))⟩, fun b h => .inl h, .inl rfl⟩
    · rw [if_neg hf, if_neg hf, if_neg hf]
      exact xadd_ok2 B g sv l most full r ho2.1 ho2.2 w hr hB (by omega) hm

theorem Reads.cells_of {w w' : World} {a : Option Addr} {len : Nat} {l : List RD} (h : Reads w w.heap.size a len l) (hs : w.heap.size ≤ w'.heap.size) (hb : ∀ b off, a = some ⟨b, off, none⟩ → 0 < len → b < w.heap.size → w'.heap[b]? = w.heap[b]?) : Reads w' w'.heap.size a len l := by
  refine ⟨h.1, fun hl => ?_⟩
  obtain ⟨b, off, rfl, hlt, hc⟩ := h.2 hl
  have hbb := hb b off rfl hl hlt
  have hcell : ∀ o, w'.cell? ⟨b, o, none⟩ = w.cell? ⟨b, o, none⟩ := fun o => by simp only [World.cell?, hbb]
  refine ⟨b, off, rfl, by omega, fun k r hk => ?_⟩
  obtain ⟨c0, c1, c2, c3⟩ := hc k r hk
  exact ⟨(hcell _).trans c0, (hcell _).trans c1, (hcell _).trans c2, (hcell _).trans c3⟩

theorem IsRR.prefix_reads {w : World} {B g b : Nat} {sv : Value} {l lc : List RD} {most : Int} {full : Bool} (h : IsRR w B g sv l most full) (hb : sv.ownBlock = some b) (hp : lc <+: l) : Reads w w.heap.size (some ⟨b, 0, none⟩) lc.length lc := by
  obtain ⟨a, cap, rfl, hcap, hrd⟩ := h.reads
  refine ⟨rfl, fun hl => ?_⟩
  have hlen := hp.length_le
  obtain ⟨b2, off, rfl, hlt, hc⟩ := hrd.2 (by omega)
  have hb2 : b2 = b := by simpa [Value.ownBlock] using hb
  subst hb2
  have hoff : off = 0 := by
    rcases h.own.2 with ⟨e, _⟩ | ⟨g', _, _, e, _⟩
    · cases e
    · injection e with e1 e2 e3
      injection e1 with e4
      injection e4
  subst hoff
  refine ⟨b2, 0, rfl, hlt, fun k r hk => hc k r ?_⟩
  have hkl := (List.getElem?_eq_some_iff.1 hk).1
  obtain ⟨t, rfl⟩ := hp
  rw [List.getElem?_append_left hkl]
  exact hk

/-- Where what was kept lies. -/
def KP (w : World) (g x : Nat) (svr svx : Value) (lk : List RD) (a : Option Addr) (lc : List RD) : Prop :=
  (∃ b, a = some ⟨b, 0, none⟩ ∧ svx.ownBlock = some b ∧ lc <+: lk) ∨ (Reads w w.heap.size a lc.length lc ∧ ∀ b off, a = some ⟨b, off, none⟩ → 0 < lc.length → ¬ RecF g svr b ∧ ¬ RRF x svx b)
/-- The clone (or none yet), and what was kept. -/
def KC (w : World) (B g x y : Nat) (svr svx : Value) (lk : List RD) (most : Int) (c : Value) : Prop :=
  (c = .pointer none ∧ Blk w y 54 #[.slice none 0 0, .int .i64 0, .bool false]) ∨
  ∃ gc svc lc fc a cap, c = .pointer (some ⟨gc, 0, none⟩) ∧ IsRec w B gc svc lc most fc ∧ Blk w y 54 #[.slice a lc.length cap, .int .i64 most, .bool fc] ∧ lc.length ≤ 60 ∧ (lc.length : Int) ≤ most ∧
    (∀ b, RecF gc svc b → ¬ RecF g svr b ∧ ¬ RRF x svx b) ∧ KP w g x svr svx lk a lc

theorem KC.call {w w' : World} {B g x y : Nat} {svr svx c : Value} {lk : List RD} {most : Int} (h : KC w B g x y svr svx lk most c) (hb : Below w.heap.size w w') : KC w' B g x y svr svx lk most c := by
  rcases h with ⟨h1, h2⟩ | ⟨gc, svc, lc, fc, a, cap, h1, h2, h3, h4, h4', h5, h6⟩
  · exact .inl ⟨h1, h2.call hb⟩
  · refine .inr ⟨gc, svc, lc, fc, a, cap, h1, h2.call hb, h3.call hb, h4, h4', h5, ?_⟩
    rcases h6 with h6 | ⟨h6, h7⟩
    · exact .inl h6
    · exact .inr ⟨h6.call hb, h7⟩
theorem KC.radd {w w' : World} {B g x y : Nat} {svr svr' svx c : Value} {lk : List RD} {most : Int} (h : KC w B g x y svr svx lk most c) (hc : Chg (RecF g svr) w w') (hf : ∀ b, RecF g svr' b → RecF g svr b ∨ w.heap.size ≤ b) (hy : ¬ RecF g svr y) :
    KC w' B g x y svr' svx lk most c := by
  rcases h with ⟨h1, h2⟩ | ⟨gc, svc, lc, fc, a, cap, h1, h2, h3, h4, h4', h5, h6⟩
  · exact .inl ⟨h1, h2.chg hc hy⟩
  · refine .inr ⟨gc, svc, lc, fc, a, cap, h1, h2.chg hc (fun b hb => (h5 b hb).1), h3.chg hc hy, h4, h4', fun b hb => ⟨fun h => ?_, (h5 b hb).2⟩, ?_⟩
    · rcases hf b h with h | h
      · exact (h5 b hb).1 h
      · have := (h2.lt hb).1; omega
    · rcases h6 with h6 | ⟨h6, h7⟩
      · exact .inl h6
      · refine .inr ⟨h6.cells_of hc.size (fun b off ha hl hlt => hc.block b hlt (h7 b off ha hl).1), fun b off ha hl => ⟨fun h => ?_, (h7 b off ha hl).2⟩⟩
        obtain ⟨b2, off2, ha2, hlt, _⟩ := h6.2 hl
        rw [ha] at ha2
        cases ha2
        rcases hf b h with h | h
        · exact (h7 b off ha hl).1 h
        · omega
theorem KC.xadd {w w' : World} {B g x y : Nat} {svr svx svx' c : Value} {lk lk' : List RD} {most : Int} {full : Bool} (h : KC w B g x y svr svx lk most c) (hx : IsRR w B x svx lk most full) (hdj : ∀ b, RecF g svr b → ¬ RRF x svx b)
    (hc : Chg (RRF x svx) w w') (hf : ∀ b, RRF x svx' b → RRF x svx b ∨ w.heap.size ≤ b) (hmv : svx'.ownBlock = svx.ownBlock ∨ ∀ b, b < w.heap.size → b ≠ x → w'.heap[b]? = w.heap[b]?) (hne : svx'.ownBlock ≠ some x) (hp : ∀ lc : List RD, lc <+: lk → lc <+: lk') (hy : ¬ RRF x svx y) :
    KC w' B g x y svr svx' lk' most c := by
  have hx' : svx'.ownBlock = svx.ownBlock ∨ ∀ b, svx.ownBlock = some b → svx'.ownBlock ≠ some b := by
    by_cases e : svx'.ownBlock = svx.ownBlock
    · exact .inl e
    · exact .inr (fun b hb h => e (h.trans hb.symm))
  rcases h with ⟨h1, h2⟩ | ⟨gc, svc, lc, fc, a, cap, h1, h2, h3, h4, h4', h5, h6⟩
  · exact .inl ⟨h1, h2.chg hc hy⟩
  · refine .inr ⟨gc, svc, lc, fc, a, cap, h1, h2.chg hc (fun b hb => (h5 b hb).2), h3.chg hc hy, h4, h4', fun b hb => ⟨(h5 b hb).1, fun h => ?_⟩, ?_⟩
    · rcases hf b h with h | h
      · exact (h5 b hb).2 h
      · have := (h2.lt hb).1; omega
    · rcases h6 with ⟨b, ha, hb, hpre⟩ | ⟨h6, h7⟩
      · rcases hx' with e | e
        · exact .inl ⟨b, ha, e.trans hb, hp _ hpre⟩
        · have hbx : b ≠ x := fun e2 => hx.ne (by rw [hb, e2])
          have hblt := (hx.lt (b := b) (.inr hb)).1
          have hrd := hx.prefix_reads hb hpre
          rw [← ha] at hrd
          have hmv2 : ∀ b, b < w.heap.size → b ≠ x → w'.heap[b]? = w.heap[b]? := by
            rcases hmv with e3 | e3
            · exact absurd (e3.trans hb) (e b hb)
            · exact e3
          refine .inr ⟨hrd.cells_of hc.size (fun b2 off ha2 _ hlt => ?_), fun b2 off ha2 hl => ?_⟩
          · rw [ha] at ha2
            cases ha2
            exact hmv2 b hblt hbx
          · rw [ha] at ha2
            cases ha2
            refine ⟨fun h => hdj b h (.inr hb), fun h => ?_⟩
            rcases h with h | h
            · exact hbx h
            · exact e b hb h
      · refine .inr ⟨h6.cells_of hc.size (fun b off ha hl hlt => hc.block b hlt (h7 b off ha hl).2), fun b off ha hl => ⟨(h7 b off ha hl).1, fun h => ?_⟩⟩
        obtain ⟨b2, off2, ha2, hlt, _⟩ := h6.2 hl
        rw [ha] at ha2
        cases ha2
        rcases hf b h with h | h
        · exact (h7 b off ha hl).2 h
        · omega
theorem KC.reads {w : World} {B g x : Nat} {svr svx : Value} {lk lc : List RD} {most : Int} {full : Bool} {a : Option Addr} (h : KP w g x svr svx lk a lc) (hx : IsRR w B x svx lk most full) : Reads w w.heap.size a lc.length lc := by
  rcases h with ⟨b, rfl, hb, hp⟩ | ⟨h, _⟩
  · exact hx.prefix_reads hb hp
  · exact h
end Go.Proofs.Ytijlmdpcbclmaaa
