/- The law RecorderBlind: its plain words, and its walk. -/
import Derived.Test.YtijlmdpcbclmaaaRec5
import Derived.Laws.AppendOwnNone
namespace Go.Proofs.Ytijlmdpcbclmaaa
set_option linter.unusedVariables false
set_option linter.unusedSimpArgs false
open Go.RowKit

def RD.key (r : RD) : Int × Bool := (r.addr, r.wr)
theorem apart_keys (a b c d : List RD) (h1 : a.map RD.key = c.map RD.key) (h2 : b.map RD.key = d.map RD.key) : apart a b = apart c d := by
  induction a generalizing b c d with
  | nil =>
    cases c with
    | nil => cases b with
      | nil => cases d with
        | nil => rfl
        | cons y d => simp at h2
      | cons y b => cases d with
        | nil => simp at h2
        | cons y d => rfl
    | cons x c => simp at h1
  | cons x a ih =>
    cases c with
    | nil => simp at h1
    | cons u c =>
      cases b with
      | nil => cases d with
        | nil => rfl
        | cons y d => simp at h2
      | cons y b => cases d with
        | nil => simp at h2
        | cons v d =>
          simp only [List.map_cons, List.cons.injEq, RD.key, Prod.mk.injEq] at h1 h2
          obtain ⟨⟨e1, e2⟩, e3⟩ := h1
          obtain ⟨⟨f1, f2⟩, f3⟩ := h2
          have hs : sameAt x y = sameAt u v := by simp [sameAt, e1, e2, f1, f2]
          simp only [apart, hs, ih b c d e3 f3]
theorem apart_self (a : List RD) : apart a a = -1 := by
  induction a with
  | nil => rfl
  | cons x a ih => simp [apart, sameAt, ih]
theorem fitl_keys (a b : List RD) (h : a.map RD.key = b.map RD.key) : (fitl a).map RD.key = (fitl b).map RD.key := by
  induction a generalizing b with
  | nil => cases b with
    | nil => rfl
    | cons y b => simp at h
  | cons x a ih => cases b with
    | nil => simp at h
    | cons y b =>
      simp only [List.map_cons, List.cons.injEq, RD.key, Prod.mk.injEq] at h
      obtain ⟨⟨e1, e2⟩, e3⟩ := h
      have hf : x.fits = y.fits := by simp [RD.fits, e1]
      simp only [fitl, List.filter_cons, hf]
      have := ih b e3
      simp only [fitl] at this
      split
      · simp [this, RD.key, e1, e2]
      · exact this

theorem rows_set (l : List RD) (k j : Nat) (hj : j < 4) (r r' : RD) (hk : l[k]? = some r) (u : Value) (hr : r'.list = r.list.set j u) : (rows l).set (k * 4 + j) u = rows (l.set k r') := by
  induction l generalizing k with
  | nil => simp at hk
  | cons x l ih =>
    cases k with
    | zero =>
      simp at hk; subst hk
      simp only [rows, List.flatMap_cons, List.set_cons_zero]
      rw [hr, List.set_append_left _ _ (by simp; omega)]
      simp
    | succ k =>
      simp only [rows, List.flatMap_cons, List.set_cons_succ]
      rw [List.set_append_right _ _ (by simp; omega)]
      congr 1
      have := ih k (by simpa using hk)
      simp only [rows] at this
      rw [← this]
      congr 1
      simp
      omega

/-- A slice's value as the source of an append: nil, or it leads to its cells. -/
def Src (w : World) (x : Value) (m : Nat) (news : List Value) : Prop :=
  (x = .slice none 0 0 ∧ m = 0 ∧ news = []) ∨ ∃ ad c, x = .slice (some ad) m c ∧ ∀ j u, news[j]? = some u → w.cell? (ad.add j) = some u

theorem wpList_append_src {P : Program} {w : World} {ops : Array Oper} {rest : List Oper} {o : Oper} {a : Act} {Q : Exit → Act → World → Prop} (hgd : o.guard = none) (s x : Operand) (t : TypeId)
    (ho : o.op = .call { callee := .builtin .append, args := #[s, x], argTypes := #[t, t] })
    (base : Nat) (e : TypeId) (i : TypeInfo) (z : Value) (size bytes : Nat) (ht : P.underlying t = some (.slice e)) (hi : P.info? e = some i) (hz : i.zero = some z)
    (hsize : i.size = size) (hby : i.bytes = bytes) (hzs : z.cells.size = size) (hsz : 0 < size)
    (v : Value) (n : Nat) (xs : List Value) (hs : a.eval s = v) (hown : w.ownsRow base e size v n xs)
    (xv : Value) (m : Nat) (news : List Value) (hx : a.eval x = xv) (hsrc : Src w xv m news) (hl : news.length = m * size) (h1 : ∀ u ∈ news, u.oneCell' = true)
    (h63 : n + m ≤ maxLen) (hbytes : (n + m) * bytes ≤ 140737488355328) (hbase : base ≤ w.heap.size)
    (h : ∀ v' w', w'.ownsRow base e size v' (n + m) (xs ++ news) → w.grownBy w' v.ownBlock → wpList P ops Q rest (a.put o.dst v') w') : wpList P ops Q (o :: rest) a w := by
  rcases hsrc with ⟨rfl, rfl, rfl⟩ | ⟨ad, c, rfl, hc⟩
  · exact wpList_append_own_none hgd s x t ho base e i size ht hi v n xs hs hown hx (h v w (by simpa using hown) (World.grownBy.refl w _))
  · exact wpList_append_own w hgd s x t ho base e i z size bytes ht hi hz hsize hby hzs hsz v n xs hs hown ad m c news hx hl hc h1 h63 hbytes hbase fun v' w' h2 h3 _ => h v' w' h2 h3

theorem rows_one (l : List RD) : ∀ u ∈ rows l, u.oneCell' = true := by
  intro u hu
  simp only [rows, List.mem_flatMap] at hu
  obtain ⟨r, _, hr⟩ := hu
  simp [RD.list] at hr
  rcases hr with rfl | rfl | rfl | rfl <;> rfl
theorem rows_get' (l : List RD) (j : Nat) (u : Value) (h : (rows l)[j]? = some u) : ∃ k i r, l[k]? = some r ∧ i < 4 ∧ j = k * 4 + i ∧ r.list[i]? = some u := by
  have hj : j < l.length * 4 := by
    have := (List.getElem?_eq_some_iff.1 h).1
    rwa [rows_length] at this
  have hk : j / 4 < l.length := by omega
  refine ⟨j / 4, j % 4, l[j / 4], List.getElem?_eq_getElem hk, by omega, by omega, ?_⟩
  rw [← rows_get l (j / 4) l[j / 4] (List.getElem?_eq_getElem hk) (j % 4) (by omega), show j / 4 * 4 + j % 4 = j by omega]
  exact h
theorem Reads.src {w : World} {B len cap : Nat} {a : Option Addr} {l : List RD} (h : Reads w B a len l) (hc : a = none → cap = 0) (hn : a = none → len = 0) : Src w (.slice a len cap) len (rows l) := by
  cases a with
  | none =>
    have h0 := hn rfl
    have h1 := hc rfl
    have h2 := h.1
    subst h0 h1
    exact .inl ⟨rfl, rfl, by rw [List.eq_nil_of_length_eq_zero h2]; rfl⟩
  | some ad =>
    refine .inr ⟨ad, cap, rfl, fun j u hj => ?_⟩
    obtain ⟨k, i, r, hk, hi, rfl, hu⟩ := rows_get' l j u hj
    have hkl := (List.getElem?_eq_some_iff.1 hk).1
    obtain ⟨b, off, he, _, hcell⟩ := h.2 (by have := h.1; omega)
    cases he
    obtain ⟨c0, c1, c2, c3⟩ := hcell k r hk
    have hadd : (⟨b, off, none⟩ : Addr).add (k * 4 + i) = ⟨b, off + k * 4 + i, none⟩ := by
      unfold Addr.add
      split <;> (simp only [Addr.mk.injEq, true_and, and_true]; omega)
    rw [hadd]
    match i, hi, hu with
    | 0, _, hu => cases hu; exact c0
    | 1, _, hu => cases hu; exact c1
    | 2, _, hu => cases hu; exact c2
    | 3, _, hu => cases hu; exact c3
theorem own_src {w : World} {B n : Nat} {v : Value} {xs : List Value} {e size : Nat} (h : w.ownsRow B e size v n xs) : Src w v n xs := by
  rcases h.2 with ⟨rfl, rfl⟩ | ⟨g, cap, cur, rfl, hrest⟩
  · exact .inl ⟨rfl, rfl, List.eq_nil_of_length_eq_zero (by simpa using h.1)⟩
  · exact .inr ⟨_, cap, rfl, h.cells (g := g) rfl⟩
theorem Src.alloc {w : World} {x : Value} {m : Nat} {news : List Value} (h : Src w x m news) (hlt : ∀ ad c, x = .slice (some ad) m c → news ≠ [] → ad.block < w.heap.size) (o : Obj) : Src (w.alloc o) x m news := by
  rcases h with h | ⟨ad, c, rfl, hc⟩
  · exact .inl h
  · refine .inr ⟨ad, c, rfl, fun j u hj => ?_⟩
    have hne : news ≠ [] := by intro e; subst e; simp at hj
    have := hlt ad c rfl hne
    rw [World.cell?_alloc_lt w o _ (by unfold Addr.add; split <;> exact this)]
    exact hc j u hj
end Go.Proofs.Ytijlmdpcbclmaaa
