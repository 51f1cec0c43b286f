/- The document's memory (a row of puts) as it lies in memory; RAM, ROM, Device, One, At. -/
import Derived.Test.YtjjebkgljgfecaaDoorMem9
import Derived.OwnWalk
import Derived.Maps.AppendAt
import Derived.Deep.AppendLies
import Derived.Deep.RegionHeld3
import Derived.Deep.RegionLaw
namespace Go.Proofs.YtjjebkgljgfecaaDoor
set_option linter.unusedVariables false
set_option linter.unusedSimpArgs false
open Go.RowKit

structure PD where
  at_ : Int
  v : Int
  t : Int
@[reducible] def PD.list (r : PD) : List Value := [.int .i64 r.at_, .int .u8 r.v, .int .u8 r.t]
def puts (l : List PD) : List Value := l.flatMap PD.list
theorem puts_length (l : List PD) : (puts l).length = l.length * 3 := by
  induction l with
  | nil => rfl
  | cons r l ih => simp only [puts, List.flatMap_cons, List.length_append, List.length_cons] at *; rw [ih]; simp; omega
theorem puts_snoc (l : List PD) (r : PD) : puts (l ++ [r]) = puts l ++ r.list := by simp [puts]
theorem puts_get (l : List PD) (k : Nat) (r : PD) (h : l[k]? = some r) (j : Nat) (hj : j < 3) : (puts l)[k * 3 + j]? = r.list[j]? := by
  induction l generalizing k with
  | nil => simp at h
  | cons x l ih =>
    simp only [puts, List.flatMap_cons]
    cases k with
    | zero =>
      simp at h; subst h
      rw [List.getElem?_append_left (by simp; omega)]; simp
    | succ k =>
      rw [List.getElem?_append_right (by simp; omega)]
      have := ih k (by simpa using h)
      rw [puts] at this
      rw [← this]; congr 1; simp; omega

theorem own_keep {w w' : World} {B e size n : Nat} {v : Value} {xs : List Value} (h : w.ownsRow B e size v n xs) (hk : ∀ b, v.ownBlock = some b → b < w.heap.size → w'.heap[b]? = w.heap[b]?) (hs : w.heap.size ≤ w'.heap.size) : w'.ownsRow B e size v n xs := by
  refine ⟨h.1, ?_⟩
  rcases h.2 with ⟨rfl, hx⟩ | ⟨g, cap, cur, rfl, hB, hg, hrest⟩
  · exact .inl ⟨rfl, hx⟩
  · have hlt : g < w.heap.size := (Array.getElem?_eq_some_iff.1 hg).1
    exact .inr ⟨g, cap, cur, rfl, hB, (hk g rfl hlt).trans hg, hrest⟩
theorem own_lt {w : World} {B e size n b : Nat} {v : Value} {xs : List Value} (h : w.ownsRow B e size v n xs) (hv : v.ownBlock = some b) : b < w.heap.size ∧ B ≤ b := by
  rcases h.2 with ⟨rfl, hx⟩ | ⟨g, cap, cur, rfl, hB, hg, hrest⟩
  · simp [Value.ownBlock] at hv
  · have : g = b := by simpa [Value.ownBlock] using hv
    subst this
    exact ⟨(Array.getElem?_eq_some_iff.1 hg).1, hB⟩

/-- The document's memory: its block g, the slice's value sv, the puts; all of it from block B on. -/
structure IsRef (w : World) (B g : Nat) (sv : Value) (l : List PD) : Prop where
  blk : Blk w g 39 #[sv]
  own : w.ownsRow B 45 3 sv l.length (puts l)
  ge : B ≤ g
  ne : sv.ownBlock ≠ some g
/-- Its blocks. -/
def RefF (g : Nat) (sv : Value) : Nat → Prop := fun b => b = g ∨ sv.ownBlock = some b
theorem IsRef.keep {w w' : World} {B g : Nat} {sv : Value} {l : List PD} (h : IsRef w B g sv l) (hk : ∀ b, RefF g sv b → b < w.heap.size → w'.heap[b]? = w.heap[b]?) (hs : w.heap.size ≤ w'.heap.size) : IsRef w' B g sv l :=
  ⟨(hk g (.inl rfl) h.blk.lt).trans h.blk, own_keep h.own (fun b hb hlt => hk b (.inr hb) hlt) hs, h.ge, h.ne⟩
theorem IsRef.call {w w' : World} {B g : Nat} {sv : Value} {l : List PD} (h : IsRef w B g sv l) (hb : Below w.heap.size w w') : IsRef w' B g sv l :=
  h.keep (fun b _ hlt => hb.block b hlt) hb.size
theorem IsRef.chg {S : Nat → Prop} {w w' : World} {B g : Nat} {sv : Value} {l : List PD} (h : IsRef w B g sv l) (hc : Chg S w w') (hd : ∀ b, RefF g sv b → ¬ S b) : IsRef w' B g sv l :=
  h.keep (fun b hb hlt => hc.block b hlt (hd b hb)) hc.size
theorem IsRef.lt {w : World} {B g : Nat} {sv : Value} {l : List PD} (h : IsRef w B g sv l) {b : Nat} (hb : RefF g sv b) : b < w.heap.size ∧ B ≤ b := by
  rcases hb with rfl | hb
  · exact ⟨h.blk.lt, h.ge⟩
  · exact own_lt h.own hb
/-- Its slice: the puts, one by one. -/
theorem IsRef.reads {w : World} {B g : Nat} {sv : Value} {l : List PD} (h : IsRef w B g sv l) : ∃ a cap, sv = .slice a l.length cap ∧ l.length ≤ cap ∧
    (0 < l.length → ∃ b, a = some ⟨b, 0, none⟩ ∧ b < w.heap.size ∧ ∀ k r, l[k]? = some r → w.cell? ⟨b, k * 3, none⟩ = some (.int .i64 r.at_) ∧ w.cell? ⟨b, k * 3 + 1, none⟩ = some (.int .u8 r.v) ∧ w.cell? ⟨b, k * 3 + 2, none⟩ = some (.int .u8 r.t)) := by
  rcases h.own.2 with ⟨rfl, hx⟩ | ⟨gb, cap, cur, rfl, hB, hg, hn, hlen, hcur⟩
  · have : l = [] := by
      cases l with
      | nil => rfl
      | cons r l => simp [puts] at hx
    subst this
    exact ⟨none, 0, rfl, Nat.le_refl _, fun h => absurd h (by simp)⟩
  · refine ⟨some ⟨gb, 0, none⟩, cap, rfl, by omega, fun hl => ⟨gb, rfl, (Array.getElem?_eq_some_iff.1 hg).1, fun k r hk => ?_⟩⟩
    have key : ∀ j u, j < 3 → r.list[j]? = some u → w.cell? ⟨gb, k * 3 + j, none⟩ = some u := by
      intro j u hj hu
      have := h.own.cells (g := gb) rfl (k * 3 + j) u ((puts_get l k r hk j hj).trans hu)
      rw [← this]
      congr 1
      unfold Addr.add
      split <;> (simp only [Addr.mk.injEq, true_and, and_true]; omega)
    exact ⟨key 0 _ (by omega) rfl, key 1 _ (by omega) rfl, key 2 _ (by omega) rfl⟩

/-- The last byte that was put at an address; nothing: (0, 0). -/
def lastAt (l : List PD) (x : Int) : Int × Int := l.foldl (fun acc p => if p.at_ = x then (p.v, p.t) else acc) (0, 0)
theorem lastAt_snoc (l : List PD) (p : PD) (x : Int) : lastAt (l ++ [p]) x = if p.at_ = x then (p.v, p.t) else lastAt l x := by simp [lastAt, List.foldl_append]
def isRAM (x : Int) : Bool := decide (0 ≤ x) && decide (x < 32768)
def isROM (x : Int) : Bool := decide (49152 ≤ x) && decide (x < 65536)
def isDev (x : Int) : Bool := decide (32768 ≤ x) && decide (x < 32784)
def isOne (x y : Int) : Bool := (isRAM x && isRAM y) || (isROM x && isROM y)
def refAt (l : List PD) (x : Int) : Int × Int := if isRAM x = false ∧ isROM x = false then (255, 0) else lastAt l x
theorem take_snoc {α : Type} (l : List α) (k : Nat) (r : α) (h : l[k]? = some r) : l.take (k + 1) = l.take k ++ [r] := by
  rw [List.take_add_one, h]
  rfl

theorem isRAM_calls (x : Int) (w : World) : Calls Tryd.prog 12 #[.int .i64 x] w fun e w' => e = .returned (.bool (isRAM x)) ∧ w' = w := ram_calls x w
set_option maxHeartbeats 400000 in
theorem isROM_calls (x : Int) (w : World) :
    Calls Tryd.prog 24 #[.int .i64 x] w fun e w' => e = .returned (.bool (isROM x)) ∧ w' = w := by
  unfold isROM
  by_cases h1 : 49152 ≤ x
  all_goals by_cases h2 : x < 65536
  all_goals
    go_enter Tryd.func24, Tryd.ntmps24
    go_wp2
    go_returns
    exact ⟨by first | rfl | (simp; omega) | simp [h1, h2], rfl⟩
set_option maxHeartbeats 400000 in
theorem isDev_calls (x : Int) (w : World) :
    Calls Tryd.prog 31 #[.int .i64 x] w fun e w' => e = .returned (.bool (isDev x)) ∧ w' = w := by
  unfold isDev
  by_cases h1 : 32768 ≤ x
  all_goals by_cases h2 : x < 32784
  all_goals
    go_enter Tryd.func31, Tryd.ntmps31
    go_wp2
    go_returns
    exact ⟨by first | rfl | (simp; omega) | simp [h1, h2], rfl⟩
set_option maxHeartbeats 800000 in
theorem isOne_calls (x y : Int) (w : World) :
    Calls Tryd.prog 27 #[.int .i64 x, .int .i64 y] w fun e w' => e = .returned (.bool (isOne x y)) ∧ w' = w := by
  have A1 := isRAM_calls x w
  have A2 := isRAM_calls y w
  have A3 := isROM_calls x w
  have A4 := isROM_calls y w
  unfold isOne
  generalize isRAM x = r1 at *
  generalize isRAM y = r2 at *
  generalize isROM x = r3 at *
  generalize isROM y = r4 at *
  · cases r1
    all_goals cases r2
    all_goals cases r3
    all_goals cases r4
    all_goals
      go_enter Tryd.func27, Tryd.ntmps27
      go_wp2_with (first
        | (go_at_call 12; (with_reducible refine A1.mono ?_); rintro e w1 ⟨rfl, rfl⟩)
        | (go_at_call 12; (with_reducible refine A2.mono ?_); rintro e w1 ⟨rfl, rfl⟩)
        | (go_at_call 24; (with_reducible refine A3.mono ?_); rintro e w1 ⟨rfl, rfl⟩)
        | (go_at_call 24; (with_reducible refine A4.mono ?_); rintro e w1 ⟨rfl, rfl⟩))
      go_returns
      exact ⟨rfl, rfl⟩
end Go.Proofs.YtjjebkgljgfecaaDoor
