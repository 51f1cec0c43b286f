/- Records, rows of records, and recorders as they lie in memory. -/
import Derived.Test.YtijlmdpcbclmaaaBase
import Derived.OwnWalk
import Derived.Maps.AppendAt
import Derived.Deep.AppendLies
import Derived.Deep.RegionHeld3
import Derived.Deep.RegionLaw
import Derived.BigQuiet
import Derived.Deep.QuietTactic
namespace Go.Proofs.Ytijlmdpcbclmaaa
set_option linter.unusedVariables false
set_option linter.unusedSimpArgs false
open Go.RowKit

structure RD where
  addr : Int
  wr : Bool
  v : Int
  t : Int
deriving DecidableEq

@[reducible] def RD.cells (r : RD) : Array Value := #[.int .i64 r.addr, .bool r.wr, .int .u8 r.v, .int .u8 r.t]
@[reducible] def RD.list (r : RD) : List Value := [.int .i64 r.addr, .bool r.wr, .int .u8 r.v, .int .u8 r.t]
def rows (l : List RD) : List Value := l.flatMap RD.list

theorem rows_length (l : List RD) : (rows l).length = l.length * 4 := by
  induction l with
  | nil => rfl
  | cons r l ih => simp only [rows, List.flatMap_cons, List.length_append, List.length_cons] at *; rw [ih]; simp; omega
theorem rows_snoc (l : List RD) (r : RD) : rows (l ++ [r]) = rows l ++ r.list := by simp [rows]
theorem rows_get (l : List RD) (k : Nat) (r : RD) (h : l[k]? = some r) (j : Nat) (hj : j < 4) : (rows l)[k * 4 + j]? = r.list[j]? := by
  induction l generalizing k with
  | nil => simp at h
  | cons x l ih =>
    simp only [rows, List.flatMap_cons]
    cases k with
    | zero =>
      simp at h; subst h
      rw [List.getElem?_append_left (by simp; omega)]; simp
    | succ k =>
      rw [List.getElem?_append_right (by simp; omega)]
      have := ih k (by simpa using h)
      rw [rows] at this
      rw [← this]; congr 1; simp; omega

/-- A slice that reads as a list of records; below block B. -/
def Reads (w : World) (B : Nat) (a : Option Addr) (len : Nat) (l : List RD) : Prop :=
  l.length = len ∧ (0 < len → ∃ b off, a = some ⟨b, off, none⟩ ∧ b < B ∧ ∀ k r, l[k]? = some r →
    w.cell? ⟨b, off + k * 4, none⟩ = some (.int .i64 r.addr) ∧ w.cell? ⟨b, off + k * 4 + 1, none⟩ = some (.bool r.wr) ∧ w.cell? ⟨b, off + k * 4 + 2, none⟩ = some (.int .u8 r.v) ∧ w.cell? ⟨b, off + k * 4 + 3, none⟩ = some (.int .u8 r.t))

theorem Reads.call {w w' : World} {a : Option Addr} {len : Nat} {l : List RD} (h : Reads w w.heap.size a len l) (hb : Below w.heap.size w w') : Reads w' w'.heap.size a len l := by
  refine ⟨h.1, fun hl => ?_⟩
  obtain ⟨b, off, rfl, hlt, hc⟩ := h.2 hl
  refine ⟨b, off, rfl, Nat.lt_of_lt_of_le hlt hb.size, fun k r hk => ?_⟩
  obtain ⟨c0, c1, c2, c3⟩ := hc k r hk
  exact ⟨(hb.cell (p := ⟨b, _, none⟩) hlt).trans c0, (hb.cell (p := ⟨b, _, none⟩) hlt).trans c1, (hb.cell (p := ⟨b, _, none⟩) hlt).trans c2, (hb.cell (p := ⟨b, _, none⟩) hlt).trans c3⟩
theorem Reads.below {w w' : World} {B : Nat} {a : Option Addr} {len : Nat} {l : List RD} (h : Reads w B a len l) (hb : Below B w w') : Reads w' B a len l := by
  refine ⟨h.1, fun hl => ?_⟩
  obtain ⟨b, off, rfl, hlt, hc⟩ := h.2 hl
  refine ⟨b, off, rfl, hlt, fun k r hk => ?_⟩
  obtain ⟨c0, c1, c2, c3⟩ := hc k r hk
  exact ⟨(hb.cell (p := ⟨b, _, none⟩) hlt).trans c0, (hb.cell (p := ⟨b, _, none⟩) hlt).trans c1, (hb.cell (p := ⟨b, _, none⟩) hlt).trans c2, (hb.cell (p := ⟨b, _, none⟩) hlt).trans c3⟩

/-- What a call may turn: blocks of S, and what is new. -/
structure Chg (S : Nat → Prop) (w w' : World) : Prop where
  os : w'.os = w.os
  tape : w'.tape = w.tape
  output : w'.output = w.output
  size : w.heap.size ≤ w'.heap.size
  block : ∀ b, b < w.heap.size → ¬ S b → w'.heap[b]? = w.heap[b]?

theorem Chg.below {S : Nat → Prop} {B : Nat} {w0 w w' : World} (h : Chg S w w') (hb : Below B w0 w) (hB : B ≤ w.heap.size) (hS : ∀ b, S b → B ≤ b) : Below B w0 w' :=
  ⟨h.os.trans hb.os, h.tape.trans hb.tape, h.output.trans hb.output, Nat.le_trans hb.size h.size, fun k hk => (h.block k (by omega) (fun hs => by have := hS k hs; omega)).trans (hb.block k hk)⟩
theorem Blk.chg {S : Nat → Prop} {w w' : World} {g : Nat} {t : TypeId} {cs : Array Value} (h : Blk w g t cs) (hc : Chg S w w') (hg : ¬ S g) : Blk w' g t cs := (hc.block g h.lt hg).trans h

/-- A recorder: its block g, the slice's value sv, its records, how many at most, and whether one was refused; all of it lies from block B on. -/
structure IsRec (w : World) (B g : Nat) (sv : Value) (l : List RD) (most : Int) (full : Bool) : Prop where
  blk : Blk w g 79 #[sv, .int .i64 most, .bool full]
  own : w.ownsRow B 35 4 sv l.length (rows l)
  ge : B ≤ g
  ne : sv.ownBlock ≠ some g

/-- The blocks of a recorder. -/
def RecF (g : Nat) (sv : Value) : Nat → Prop := fun b => b = g ∨ sv.ownBlock = some b

theorem own_keep {w w' : World} {B e size n : Nat} {v : Value} {xs : List Value} (h : w.ownsRow B e size v n xs) (hk : ∀ b, v.ownBlock = some b → b < w.heap.size → w'.heap[b]? = w.heap[b]?) (hs : w.heap.size ≤ w'.heap.size) : w'.ownsRow B e size v n xs := by
  refine ⟨h.1, ?_⟩
  rcases h.2 with ⟨rfl, hx⟩ | ⟨g, cap, cur, rfl, hB, hg, hrest⟩
  · exact .inl ⟨rfl, hx⟩
  · have hlt : g < w.heap.size := (Array.getElem?_eq_some_iff.1 hg).1
    exact .inr ⟨g, cap, cur, rfl, hB, (hk g rfl hlt).trans hg, hrest⟩
theorem own_lt {w : World} {B e size n b : Nat} {v : Value} {xs : List Value} (h : w.ownsRow B e size v n xs) (hv : v.ownBlock = some b) : b < w.heap.size ∧ B ≤ b := by
  rcases h.2 with ⟨rfl, hx⟩ | ⟨g, cap, cur, rfl, hB, hg, hrest⟩
  · simp [Value.ownBlock] at hv
  · have : g = b := by simpa [Value.ownBlock] using hv
    subst this
    exact ⟨(Array.getElem?_eq_some_iff.1 hg).1, hB⟩

theorem IsRec.keep {w w' : World} {B g : Nat} {sv : Value} {l : List RD} {most : Int} {full : Bool} (h : IsRec w B g sv l most full) (hk : ∀ b, RecF g sv b → b < w.heap.size → w'.heap[b]? = w.heap[b]?) (hs : w.heap.size ≤ w'.heap.size) : IsRec w' B g sv l most full :=
  ⟨(hk g (.inl rfl) h.blk.lt).trans h.blk, own_keep h.own (fun b hb hlt => hk b (.inr hb) hlt) hs, h.ge, h.ne⟩
theorem IsRec.call {w w' : World} {B g : Nat} {sv : Value} {l : List RD} {most : Int} {full : Bool} (h : IsRec w B g sv l most full) (hb : Below w.heap.size w w') : IsRec w' B g sv l most full :=
  h.keep (fun b _ hlt => hb.block b hlt) hb.size
theorem IsRec.alloc {w : World} {B g : Nat} {sv : Value} {l : List RD} {most : Int} {full : Bool} (h : IsRec w B g sv l most full) (o : Obj) : IsRec (w.alloc o) B g sv l most full :=
  h.call ((Below.refl _ _).alloc (Nat.le_refl _) o)
theorem IsRec.drew {w : World} {B g : Nat} {sv : Value} {l : List RD} {most : Int} {full : Bool} (h : IsRec w B g sv l most full) : IsRec w.drew B g sv l most full :=
  h.call ((Below.refl _ _).drew)
theorem IsRec.chg {S : Nat → Prop} {w w' : World} {B g : Nat} {sv : Value} {l : List RD} {most : Int} {full : Bool} (h : IsRec w B g sv l most full) (hc : Chg S w w') (hd : ∀ b, RecF g sv b → ¬ S b) : IsRec w' B g sv l most full :=
  h.keep (fun b hb hlt => hc.block b hlt (hd b hb)) hc.size
theorem IsRec.lt {w : World} {B g : Nat} {sv : Value} {l : List RD} {most : Int} {full : Bool} (h : IsRec w B g sv l most full) {b : Nat} (hb : RecF g sv b) : b < w.heap.size ∧ B ≤ b := by
  rcases hb with rfl | hb
  · exact ⟨h.blk.lt, h.ge⟩
  · exact own_lt h.own hb
/-- A row of the call's own that holds records, read. -/
theorem own_reads {w : World} {B : Nat} {sv : Value} {l : List RD} (h : w.ownsRow B 35 4 sv l.length (rows l)) : ∃ a cap, sv = .slice a l.length cap ∧ l.length ≤ cap ∧ Reads w w.heap.size a l.length l := by
  rcases h.2 with ⟨rfl, hx⟩ | ⟨gb, cap, cur, rfl, hB, hg, hn, hlen, hcur⟩
  · have : l = [] := by
      cases l with
      | nil => rfl
      | cons r l => simp [rows] at hx
    subst this
    exact ⟨none, 0, rfl, Nat.le_refl _, rfl, fun h => absurd h (by simp)⟩
  · refine ⟨some ⟨gb, 0, none⟩, cap, rfl, by omega, rfl, fun hl => ⟨gb, 0, rfl, (Array.getElem?_eq_some_iff.1 hg).1, fun k r hk => ?_⟩⟩
    have key : ∀ j u, j < 4 → r.list[j]? = some u → w.cell? ⟨gb, 0 + k * 4 + j, none⟩ = some u := by
      intro j u hj hu
      have := h.cells (g := gb) rfl (k * 4 + j) u ((rows_get l k r hk j hj).trans hu)
      rw [← this]
      congr 1
      unfold Addr.add
      split <;> (simp only [Addr.mk.injEq, true_and, and_true]; omega)
    exact ⟨key 0 _ (by omega) rfl, key 1 _ (by omega) rfl, key 2 _ (by omega) rfl, key 3 _ (by omega) rfl⟩
theorem IsRec.reads {w : World} {B g : Nat} {sv : Value} {l : List RD} {most : Int} {full : Bool} (h : IsRec w B g sv l most full) : ∃ a cap, sv = .slice a l.length cap ∧ l.length ≤ cap ∧ Reads w w.heap.size a l.length l :=
  own_reads h.own
end Go.Proofs.Ytijlmdpcbclmaaa
