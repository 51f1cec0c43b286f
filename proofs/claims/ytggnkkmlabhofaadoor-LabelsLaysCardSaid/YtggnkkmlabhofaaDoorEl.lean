/- Rows of elements of several cells, and whose block is whose: read rows, rows of one's own. No function of the program. -/
import Derived.Test.YtggnkkmlabhofaaDoorWord
import Derived.OwnWalk
import Derived.Laws.AppendOwnNone
import Derived.Maps.AppendAt
import Derived.Deep.AppendLies
import Derived.Deep.RegionHeld3
import Derived.Deep.RegionLaw
import Derived.Deep.DrawnRows
import Derived.BigQuiet
import Derived.Deep.QuietTactic
namespace Go.Proofs.YtggnkkmlabhofaaDoor
set_option linter.unusedVariables false
set_option linter.unusedSimpArgs false
open Go.RowKit

/-- How an element lies: its cells. -/
structure Enc (α : Type) (n : Nat) where
  enc : α → List Value
  len : ∀ x, (enc x).length = n
  one : ∀ x, ∀ v ∈ enc x, v.oneCell' = true
  pos : 0 < n
section
variable {α : Type} {n : Nat} (E : Enc α n)
def Enc.row (l : List α) : List Value := l.flatMap E.enc
theorem Enc.row_length (l : List α) : (E.row l).length = l.length * n := by
  induction l with
  | nil => simp [Enc.row]
  | cons r l ih => simp only [Enc.row, List.flatMap_cons, List.length_append, List.length_cons] at *; rw [ih, E.len, Nat.succ_mul]; omega
theorem Enc.row_append (l m : List α) : E.row (l ++ m) = E.row l ++ E.row m := by simp [Enc.row]
theorem Enc.row_one (l : List α) : ∀ v ∈ E.row l, v.oneCell' = true := by
  intro v hv
  obtain ⟨x, _, hx⟩ := List.mem_flatMap.1 hv
  exact E.one x v hx
theorem Enc.row_get (l : List α) (k : Nat) (r : α) (h : l[k]? = some r) (j : Nat) (hj : j < n) : (E.row l)[k * n + j]? = (E.enc r)[j]? := by
  induction l generalizing k with
  | nil => simp at h
  | cons x l ih =>
    simp only [Enc.row, List.flatMap_cons]
    cases k with
    | zero =>
      simp at h; subst h
      rw [List.getElem?_append_left (by rw [E.len]; omega)]; simp
    | succ k =>
      rw [List.getElem?_append_right (by rw [E.len, Nat.succ_mul]; omega)]
      have := ih k (by simpa using h)
      rw [Enc.row] at this
      rw [← this]; congr 1; rw [E.len, Nat.succ_mul]; omega
theorem Enc.row_at (l : List α) (i : Nat) (u : Value) (h : (E.row l)[i]? = some u) : ∃ k r j, l[k]? = some r ∧ j < n ∧ i = k * n + j ∧ (E.enc r)[j]? = some u := by
  have hi : i < l.length * n := by rw [← E.row_length]; exact (List.getElem?_eq_some_iff.1 h).1
  have hp := E.pos
  have hk : i / n < l.length := Nat.div_lt_of_lt_mul (by rw [Nat.mul_comm]; exact hi)
  have hj : i % n < n := Nat.mod_lt _ hp
  have hd : i = i / n * n + i % n := by rw [Nat.mul_comm]; exact (Nat.div_add_mod i n).symm
  refine ⟨i / n, l[i / n], i % n, List.getElem?_eq_getElem hk, hj, hd, ?_⟩
  rw [← E.row_get l (i / n) _ (List.getElem?_eq_getElem hk) _ hj, ← hd]
  exact h

/-- A slice that reads as a list, its cells in blocks of R. -/
def Rd (w : World) (R : Nat → Prop) (v : Value) (l : List α) : Prop :=
  ∃ a cap, v = .slice a l.length cap ∧ l.length ≤ cap ∧ (a = none → cap = 0) ∧ (0 < l.length → ∃ b off, a = some ⟨b, off, none⟩ ∧ b < w.heap.size ∧ R b ∧ ∀ k x, l[k]? = some x → ∀ j u, (E.enc x)[j]? = some u → w.cell? ⟨b, off + k * n + j, none⟩ = some u)
variable {E}
theorem Rd.keep {w w' : World} {R R' : Nat → Prop} {v : Value} {l : List α} (h : Rd E w R v l) (hk : ∀ b, b < w.heap.size → R b → w'.heap[b]? = w.heap[b]? ∧ R' b) (hs : w.heap.size ≤ w'.heap.size) : Rd E w' R' v l := by
  obtain ⟨a, cap, rfl, hc, hn, hr⟩ := h
  refine ⟨a, cap, rfl, hc, hn, fun hl => ?_⟩
  obtain ⟨b, off, rfl, hb, hR, hcell⟩ := hr hl
  refine ⟨b, off, rfl, by omega, (hk b hb hR).2, fun k x hx j u hu => ?_⟩
  rw [World.cell?_of_block ((hk b hb hR).1)]
  exact hcell k x hx j u hu
theorem Rd.below {w w' : World} {R : Nat → Prop} {v : Value} {l : List α} (h : Rd E w R v l) (hb : Below w.heap.size w w') : Rd E w' R v l := h.keep (fun b hlt hR => ⟨hb.block b hlt, hR⟩) hb.size
theorem Rd.cut {w : World} {R : Nat → Prop} {a : Option Addr} {m cap : Nat} {x : α} {l : List α} (h : Rd E w R (.slice a m cap) (x :: l)) :
    ∃ b off, a = some ⟨b, off, none⟩ ∧ m = l.length + 1 ∧ m ≤ cap ∧ b < w.heap.size ∧ R b ∧ (∀ j u, (E.enc x)[j]? = some u → w.cell? ⟨b, off + j, none⟩ = some u) ∧
      Rd E w R (.slice (if cap = 1 then a else some ⟨b, off + n, none⟩) l.length (cap - 1)) l := by
  obtain ⟨a', cap', e, hc, hn, hr⟩ := h
  cases e
  obtain ⟨b, off, rfl, hb, hR, hcell⟩ := hr (by simp)
  refine ⟨b, off, rfl, by simp, hc, hb, hR, fun j u hu => ?_, ?_⟩
  · have := hcell 0 x rfl j u hu
    simpa using this
  · refine ⟨_, _, rfl, by simp at hc; omega, fun hn => ?_, fun hl => ?_⟩
    · split at hn <;> cases hn
    · have h1 : ¬ cap = 1 := by simp at hc; omega
      rw [if_neg h1]
      refine ⟨b, off + n, rfl, hb, hR, fun k y hy j u hu => ?_⟩
      have := hcell (k + 1) y (by simpa using hy) j u hu
      rw [Nat.succ_mul] at this
      rw [← this]
      congr 2
      omega

/-- A row of one's own, its block one of S. -/
def Ow (E : Enc α n) (T : TypeId) (w : World) (S : Nat → Prop) (v : Value) (l : List α) : Prop := w.ownsRow 0 T n v l.length (E.row l) ∧ ∀ b, v.ownBlock = some b → S b
theorem own_keep {w w' : World} {B e size n : Nat} {v : Value} {xs : List Value} (h : w.ownsRow B e size v n xs) (hk : ∀ b, v.ownBlock = some b → b < w.heap.size → w'.heap[b]? = w.heap[b]?) (hs : w.heap.size ≤ w'.heap.size) : w'.ownsRow B e size v n xs := by
  refine ⟨h.1, ?_⟩
  rcases h.2 with ⟨rfl, hx⟩ | ⟨g, cap, cur, rfl, hB, hg, hrest⟩
  · exact .inl ⟨rfl, hx⟩
  · have hlt : g < w.heap.size := (Array.getElem?_eq_some_iff.1 hg).1
    exact .inr ⟨g, cap, cur, rfl, hB, (hk g rfl hlt).trans hg, hrest⟩
theorem own_lt {w : World} {B e size n b : Nat} {v : Value} {xs : List Value} (h : w.ownsRow B e size v n xs) (hv : v.ownBlock = some b) : b < w.heap.size ∧ B ≤ b := by
  rcases h.2 with ⟨rfl, hx⟩ | ⟨g, cap, cur, rfl, hB, hg, hrest⟩
  · simp [Value.ownBlock] at hv
  · have : g = b := by simpa [Value.ownBlock] using hv
    subst this
    exact ⟨(Array.getElem?_eq_some_iff.1 hg).1, hB⟩
theorem own_ne {w : World} {B e size n g : Nat} {v : Value} {xs : List Value} {t : TypeId} {cs : Array Value} (h : w.ownsRow B e size v n xs) (hg : Blk w g t cs) (hne : e ≠ t) : v.ownBlock ≠ some g := by
  rcases h.2 with ⟨rfl, _⟩ | ⟨g', cap, cur, rfl, _, hh, _⟩
  · simp [Value.ownBlock]
  · intro he
    have : g' = g := by simpa [Value.ownBlock] using he
    subst this
    unfold Blk at hg
    rw [hg] at hh
    injection hh with hh
    injection hh with _ ht
    exact hne ht.symm
theorem own_ne2 {w : World} {B B' e e' size size' n n' : Nat} {v v' : Value} {xs xs' : List Value} (h : w.ownsRow B e size v n xs) (h' : w.ownsRow B' e' size' v' n' xs') (hne : e ≠ e') (b : Nat) (hv : v.ownBlock = some b) : v'.ownBlock ≠ some b := by
  rcases h.2 with ⟨rfl, _⟩ | ⟨g', cap, cur, rfl, _, hh, _⟩
  · simp [Value.ownBlock] at hv
  · have : g' = b := by simpa [Value.ownBlock] using hv
    subst this
    exact fun he => own_ne (g := g') (t := e) (cs := cur) h' hh (Ne.symm hne) he
theorem own_lower {w : World} {B B' e size n : Nat} {v : Value} {xs : List Value} (h : w.ownsRow B e size v n xs) (hB : B' ≤ B) : w.ownsRow B' e size v n xs := by
  refine ⟨h.1, ?_⟩
  rcases h.2 with ⟨rfl, hx⟩ | ⟨g, cap, cur, rfl, hb, hg, hrest⟩
  · exact .inl ⟨rfl, hx⟩
  · exact .inr ⟨g, cap, cur, rfl, Nat.le_trans hB hb, hg, hrest⟩
theorem Ow.keep {T : TypeId} {w w' : World} {S S' : Nat → Prop} {v : Value} {l : List α} (h : Ow E T w S v l) (hk : ∀ b, b < w.heap.size → v.ownBlock = some b → S b → w'.heap[b]? = w.heap[b]? ∧ S' b) (hs : w.heap.size ≤ w'.heap.size) : Ow E T w' S' v l :=
  ⟨own_keep h.1 (fun b hb hlt => (hk b hlt hb (h.2 b hb)).1) hs, fun b hb => (hk b (own_lt h.1 hb).1 hb (h.2 b hb)).2⟩
theorem Ow.below {T : TypeId} {w w' : World} {S : Nat → Prop} {v : Value} {l : List α} (h : Ow E T w S v l) (hb : Below w.heap.size w w') : Ow E T w' S v l := h.keep (fun b hlt _ hS => ⟨hb.block b hlt, hS⟩) hb.size
theorem own_slice {w : World} {B e size n : Nat} {v : Value} {xs : List Value} (h : w.ownsRow B e size v n xs) : ∃ a cap, v = .slice a n cap ∧ n ≤ cap := by
  rcases h.2 with ⟨rfl, hx⟩ | ⟨gb, cap, cur, rfl, hB, hg, hn, hlen, hcur⟩
  · exact ⟨none, 0, by rw [hx], by omega⟩
  · exact ⟨_, cap, rfl, hn⟩
/-- A row of one's own is read. -/
theorem Ow.rd {T : TypeId} {w : World} {S : Nat → Prop} {v : Value} {l : List α} (h : Ow E T w S v l) : Rd E w S v l := by
  rcases h.1.2 with ⟨rfl, hx⟩ | ⟨gb, cap, cur, rfl, hB, hg, hn, hlen, hcur⟩
  · refine ⟨none, 0, by rw [hx], by omega, fun _ => rfl, fun hl => absurd hl (by omega)⟩
  · refine ⟨some ⟨gb, 0, none⟩, cap, rfl, hn, (fun h => by cases h), fun hl => ⟨gb, 0, rfl, (Array.getElem?_eq_some_iff.1 hg).1, h.2 gb rfl, fun k r hk j u hu => ?_⟩⟩
    have hj : j < n := by have := (List.getElem?_eq_some_iff.1 hu).1; rw [E.len] at this; exact this
    have := h.1.cells (g := gb) rfl (k * n + j) u ((E.row_get l k r hk j hj).trans hu)
    rw [← this]
    congr 1
    unfold Addr.add
    split <;> (simp only [Addr.mk.injEq, true_and, and_true]; omega)
theorem Ow.nil (E : Enc α n) (T : TypeId) (w : World) (S : Nat → Prop) : Ow E T w S (.slice none 0 0) [] := ⟨World.ownsRow_nil _ _ _ _, fun b h => by simp [Value.ownBlock] at h⟩

/-- What append takes. -/
def Src (w : World) (x : Value) (m : Nat) (news : List Value) : Prop :=
  (x = .slice none 0 0 ∧ m = 0 ∧ news = []) ∨ ∃ ad c, x = .slice (some ad) m c ∧ ∀ j u, news[j]? = some u → w.cell? (ad.add j) = some u
theorem wpList_append_src {P : Program} {w : World} {ops : Array Oper} {rest : List Oper} {o : Oper} {a : Act} {Q : Exit → Act → World → Prop} (hgd : o.guard = none) (s x : Operand) (t : TypeId)
    (ho : o.op = .call { callee := .builtin .append, args := #[s, x], argTypes := #[t, t] })
    (base : Nat) (e : TypeId) (i : TypeInfo) (z : Value) (size bytes : Nat) (ht : P.underlying t = some (.slice e)) (hi : P.info? e = some i) (hz : i.zero = some z)
    (hsize : i.size = size) (hby : i.bytes = bytes) (hzs : z.cells.size = size) (hsz : 0 < size)
    (v : Value) (n : Nat) (xs : List Value) (hs : a.eval s = v) (hown : w.ownsRow base e size v n xs)
    (xv : Value) (m : Nat) (news : List Value) (hx : a.eval x = xv) (hsrc : Src w xv m news) (hl : news.length = m * size) (h1 : ∀ u ∈ news, u.oneCell' = true)
    (h63 : n + m ≤ maxLen) (hbytes : (n + m) * bytes ≤ 140737488355328) (hbase : base ≤ w.heap.size)
    (h : ∀ v' w', w'.ownsRow base e size v' (n + m) (xs ++ news) → w.grownBy w' v.ownBlock → wpList P ops Q rest (a.put o.dst v') w') : wpList P ops Q (o :: rest) a w := by
  rcases hsrc with ⟨rfl, rfl, rfl⟩ | ⟨ad, c, rfl, hc⟩
  · exact wpList_append_own_none hgd s x t ho base e i size ht hi v n xs hs hown hx (h v w (by simpa using hown) (World.grownBy.refl w _))
  · exact wpList_append_own w hgd s x t ho base e i z size bytes ht hi hz hsize hby hzs hsz v n xs hs hown ad m c news hx hl hc h1 h63 hbytes hbase fun v' w' h2 h3 _ => h v' w' h2 h3
theorem add_of (b off j : Nat) : (⟨b, off, none⟩ : Addr).add j = ⟨b, off + j, none⟩ := by
  unfold Addr.add
  split <;> simp_all
theorem Rd.src {α : Type} {n : Nat} {E : Enc α n} {w : World} {R : Nat → Prop} {v : Value} {l : List α} (h : Rd E w R v l) : Src w v l.length (E.row l) := by
  obtain ⟨a, cap, rfl, hc, hn, hr⟩ := h
  cases a with
  | none =>
    have h0 := hn rfl
    subst h0
    have h1 : l = [] := List.eq_nil_of_length_eq_zero (by omega)
    subst h1
    exact .inl ⟨rfl, rfl, rfl⟩
  | some ad =>
    refine .inr ⟨ad, cap, rfl, fun j u hj => ?_⟩
    obtain ⟨k, r, i, hk, hi, rfl, hu⟩ := E.row_at l j u hj
    have hkl := (List.getElem?_eq_some_iff.1 hk).1
    obtain ⟨b, off, he, _, _, hcell⟩ := hr (by omega)
    cases he
    rw [add_of, ← Nat.add_assoc]
    exact hcell k r hk i u hu
/-- The blocks that were there keep their owner; new ones are c's. -/
def paint (col : Nat → Nat) (m c : Nat) : Nat → Nat := fun b => if b < m then col b else c
theorem paint_old {col : Nat → Nat} {m c b : Nat} (h : b < m) : paint col m c b = col b := if_pos h
theorem paint_new {col : Nat → Nat} {m c b : Nat} (h : m ≤ b) : paint col m c b = c := if_neg (by omega)
end

theorem Chg.setRow (w : World) (g : Nat) (cs : Array Value) : Chg (· = g) w (w.setRow g cs) := ⟨rfl, rfl, rfl, by simp, fun b _ hb => setRow_other w g b cs (fun e => hb e)⟩
theorem Chg.alloc {S : Nat → Prop} {w w' : World} (h : Chg S w w') (o : Obj) : Chg S w (w'.alloc o) := h.trans (.of (Q.alloc (Below.refl _ _) o))
theorem Chg.drew {S : Nat → Prop} {w w' : World} (h : Chg S w w') : Chg S w w'.drew := h.trans (.of (Q.drew (Below.refl _ _)))
theorem Chg.drewN {S : Nat → Prop} {w w' : World} (h : Chg S w w') (n : Nat) : Chg S w (w'.drewN n) := h.trans (.of (Q.drewN (Below.refl _ _) n))
/-- Bytes; pairs of a byte and its secret bits; a number and a byte. -/
def EU : Enc Int 1 := ⟨fun x => [.int .u8 x], fun _ => rfl, fun _ v hv => by simp at hv; subst hv; rfl, by decide⟩
def EB : Enc (Int × Int) 2 := ⟨fun x => [.int .u8 x.1, .int .u8 x.2], fun _ => rfl, fun _ v hv => by simp at hv; rcases hv with rfl | rfl <;> rfl, by decide⟩
def EE : Enc (Int × Int) 2 := ⟨fun x => [.int .i64 x.1, .int .u8 x.2], fun _ => rfl, fun _ v hv => by simp at hv; rcases hv with rfl | rfl <;> rfl, by decide⟩
def EI : Enc Int 1 := ⟨fun x => [.int .i64 x], fun _ => rfl, fun _ v hv => by simp at hv; subst hv; rfl, by decide⟩
end Go.Proofs.YtggnkkmlabhofaaDoor
