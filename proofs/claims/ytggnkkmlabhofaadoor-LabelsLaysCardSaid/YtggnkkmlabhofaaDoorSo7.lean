/- Spans in order: what the stable sort makes of a list, as a function (no function of the program). -/
import Derived.Test.YtggnkkmlabhofaaDoorSo6
namespace Go.Proofs.YtggnkkmlabhofaaDoor
set_option linter.unusedVariables false
set_option linter.unusedSimpArgs false
open Go.Sort

/-- A span. -/
structure Sp where
  f : Int
  t : Int
  b : Int
instance : Inhabited Sp := ⟨⟨0, 0, 0⟩⟩
theorem Sp.eq_of {x y : Sp} (h1 : x.f = y.f) (h2 : x.t = y.t) (h3 : x.b = y.b) : x = y := by
  cases x; cases y; simp_all
def ES : Enc Sp 3 := ⟨fun x => [.int .i64 x.f, .int .i64 x.t, .int .u8 x.b], fun _ => rfl, fun _ v hv => by simp at hv; rcases hv with rfl | rfl | rfl <;> rfl, by decide⟩
/-- A span laid behind those that begin no later. -/
def sins (x : Sp) : List Sp → List Sp
  | [] => [x]
  | y :: r => if y.f ≤ x.f then y :: sins x r else x :: y :: r
def srt (l : List Sp) : List Sp := l.foldl (fun o x => sins x o) []
theorem sins_perm (x : Sp) : ∀ l : List Sp, (sins x l).Perm (x :: l)
  | [] => .refl _
  | y :: r => by
    unfold sins
    split
    · exact ((sins_perm x r).cons y).trans (.swap x y r)
    · exact .refl _
theorem srt_perm_go : ∀ (l o : List Sp), (l.foldl (fun o x => sins x o) o).Perm (o ++ l)
  | [], o => by simp
  | x :: l, o => by
    refine (srt_perm_go l (sins x o)).trans ?_
    exact ((sins_perm x o).append_right l).trans (List.perm_middle.symm)
theorem srt_perm (l : List Sp) : (srt l).Perm l := srt_perm_go l []
theorem srt_length (l : List Sp) : (srt l).length = l.length := (srt_perm l).length_eq
/-- The same over marked spans. -/
def rkT (x : Sp × Nat) : Int := x.1.f * 1000 + x.2
def cfT (x y : Sp × Nat) : Int := if x.1.f < y.1.f then -1 else if y.1.f < x.1.f then 1 else 0
def insT (x : Sp × Nat) : List (Sp × Nat) → List (Sp × Nat)
  | [] => [x]
  | y :: r => if y.1.f ≤ x.1.f then y :: insT x r else x :: y :: r
theorem insT_perm (x : Sp × Nat) : ∀ l : List (Sp × Nat), (insT x l).Perm (x :: l)
  | [] => .refl _
  | y :: r => by
    unfold insT
    split
    · exact ((insT_perm x r).cons y).trans (.swap x y r)
    · exact .refl _
theorem insT_map (x : Sp × Nat) : ∀ l : List (Sp × Nat), (insT x l).map (·.1) = sins x.1 (l.map (·.1))
  | [] => rfl
  | y :: r => by
    simp only [insT, sins, List.map_cons]
    split
    · rw [List.map_cons, insT_map x r]
    · rfl
theorem insT_str (x : Sp × Nat) (hx : x.2 < 1000) : ∀ l : List (Sp × Nat), l.Pairwise (fun a b => rkT a < rkT b) → (∀ y ∈ l, y.2 < x.2) → (insT x l).Pairwise (fun a b => rkT a < rkT b)
  | [], _, _ => by simp [insT]
  | y :: r, h, hm => by
    have hy := hm y (by simp)
    rw [List.pairwise_cons] at h
    unfold insT
    split
    · rename_i hle
      rw [List.pairwise_cons]
      refine ⟨fun z hz => ?_, insT_str x hx r h.2 (fun z hz => hm z (by simp [hz]))⟩
      rcases List.mem_cons.1 ((insT_perm x r).mem_iff.1 hz) with rfl | hz
      · unfold rkT; omega
      · exact h.1 z hz
    · rename_i hle
      rw [List.pairwise_cons]
      have hxy : rkT x < rkT y := by unfold rkT; omega
      refine ⟨fun z hz => ?_, List.pairwise_cons.2 h⟩
      rcases List.mem_cons.1 hz with rfl | hz
      · exact hxy
      · exact Int.lt_trans hxy (h.1 z hz)
theorem foldT : ∀ (l : List Sp) (k : Nat) (o : List (Sp × Nat)), k + l.length ≤ 1000 → o.Pairwise (fun a b => rkT a < rkT b) → (∀ y ∈ o, y.2 < k) →
    ((l.zipIdx k).foldl (fun o x => insT x o) o).Pairwise (fun a b => rkT a < rkT b) ∧ ((l.zipIdx k).foldl (fun o x => insT x o) o).map (·.1) = l.foldl (fun o x => sins x o) (o.map (·.1)) ∧ ((l.zipIdx k).foldl (fun o x => insT x o) o).Perm (o ++ l.zipIdx k)
  | [], k, o, _, h, _ => by simpa using h
  | x :: l, k, o, hk, h, hm => by
    simp only [List.zipIdx_cons, List.foldl_cons]
    simp only [List.length_cons] at hk
    obtain ⟨h1, h2, h3⟩ := foldT l (k + 1) (insT (x, k) o) (by omega) (insT_str (x, k) (by simp only; omega) o h hm) (fun y hy => by
      rcases List.mem_cons.1 ((insT_perm (x, k) o).mem_iff.1 hy) with rfl | hy
      · simp
      · have := hm y hy; omega)
    refine ⟨h1, by rw [h2, insT_map], h3.trans ?_⟩
    exact ((insT_perm (x, k) o).append_right _).trans (List.perm_middle.symm)
theorem uniq {β : Type} {rk : β → Int} : ∀ (a b : List β), a.Perm b → a.Pairwise (fun x y => rk x < rk y) → b.Pairwise (fun x y => rk x < rk y) → a = b
  | [], b, h, _, _ => (List.nil_perm.1 h).symm
  | x :: r, [], h, _, _ => by simpa using h.length_eq
  | x :: r, y :: s, h, ha, hb => by
    rw [List.pairwise_cons] at ha hb
    have e : x = y := by
      rcases List.mem_cons.1 (h.mem_iff.1 (List.mem_cons_self)) with e | hx
      · exact e
      · rcases List.mem_cons.1 (h.mem_iff.2 (List.mem_cons_self (a := y) (l := s))) with e | hy
        · exact e.symm
        · have h1 := hb.1 x hx
          have h2 := ha.1 y hy
          omega
    subst e
    rw [uniq r s (List.Perm.cons_inv h) ha.2 hb.2]
/-- A permutation of the marked spans that rises by rank: the spans in order. -/
theorem sort_is (l : List Sp) (hl : l.length ≤ 1000) (d' : Array (Sp × Nat)) (hP : PermIn 0 l.length l.zipIdx.toArray d') (hS : Str rkT 0 l.length d') : d'.toList.map (·.1) = srt l := by
  obtain ⟨h1, h2, h3⟩ := foldT l 0 [] (by omega) .nil (fun y hy => by simp at hy)
  have hz : l.zipIdx.toArray.size = l.length := by simp
  have hsz : d'.size = l.length := by rw [hP.1, hz]
  have hp : d'.toList.Perm l.zipIdx := by
    have := hP.2.2
    simp only [Array.toList_extract, List.extract_eq_take_drop, List.drop_zero, Nat.sub_zero] at this
    rw [List.take_of_length_le (by simp [hsz]), List.take_of_length_le (by simp)] at this
    exact this
  have hs : d'.toList.Pairwise (fun x y => rkT x < rkT y) := by
    rw [List.pairwise_iff_getElem]
    intro i j hi hj hij
    have hi' : i < d'.size := by simpa using hi
    have hj' : j < d'.size := by simpa using hj
    have := hS i j (Nat.zero_le _) hij (by omega)
    rw [getElem!_pos d' i hi', getElem!_pos d' j hj'] at this
    simpa using this
  have e := uniq _ _ (hp.trans (by simpa using h3.symm)) hs h1
  rw [e, h2]
  rfl
theorem ord_zip (l : List Sp) (hl : l.length ≤ 1000) : Ord cfT rkT l.length l.zipIdx.toArray := by
  intro s t hst ht
  have e : ∀ i, i < l.length → (l.zipIdx.toArray[i]!).2 = i := fun i hi => by
    rw [getElem!_pos l.zipIdx.toArray i (by simpa using hi)]
    simp
  have e1 := e s (by omega)
  have e2 := e t ht
  generalize l.zipIdx.toArray[s]! = x at e1
  generalize l.zipIdx.toArray[t]! = y at e2
  unfold cfT rkT
  subst e1; subst e2
  constructor
  · constructor
    · intro h
      by_cases c : y.1.f < x.1.f
      · omega
      · rw [if_neg c] at h
        split at h <;> omega
    · intro h
      rw [if_pos (by omega)]
      omega
  · omega
end Go.Proofs.YtggnkkmlabhofaaDoor
