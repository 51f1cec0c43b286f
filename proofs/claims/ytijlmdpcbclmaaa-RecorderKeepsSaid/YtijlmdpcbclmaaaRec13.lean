/- The recorder's Clone; one Add of both. -/
import Derived.Test.YtijlmdpcbclmaaaRec12
namespace Go.Proofs.Ytijlmdpcbclmaaa
set_option linter.unusedVariables false
set_option linter.unusedSimpArgs false
open Go.RowKit

set_option maxHeartbeats 1600000 in
theorem rclone_calls (B g : Nat) (sv : Value) (l : List RD) (most : Int) (full : Bool) (w : World) (hr : IsRec w B g sv l most full) (hl : l.length ≤ 4096) :
    Calls Try.prog 27 #[.pointer (some ⟨g, 0, none⟩)] w fun e w' => ∃ gc sv', e = .returned (.pointer (some ⟨gc, 0, none⟩)) ∧ IsRec w' w.heap.size gc sv' l most full ∧ Below w.heap.size w w' := by
  obtain ⟨a, cap, rfl, hcap, hrd⟩ := hr.reads
  have hcn : a = none → cap = 0 := fun ha => by
    rcases hr.own.2 with ⟨e, _⟩ | ⟨_, _, _, e, _⟩
    · injection e
    · rw [ha] at e; cases e
  have hrdD : Reads w.drew w.drew.heap.size a l.length l := hrd
  have C := sclone_calls a l.length cap l hl w.drew hrdD hcn (reads_some hrd)
  have hB0 : Below w.heap.size w w.drew := Q.drew (Below.refl _ _)
  have ST : ∀ w' : World, Below w.heap.size w w' → ((fun w' : World => w'.cell? ⟨g, 0, none⟩ = some (.slice a l.length cap) ∧ w'.cell? ⟨g, 1, none⟩ = some (.int .i64 most) ∧ w'.cell? ⟨g, 2, none⟩ = some (.bool full) ∧ Below w.heap.size w w') w') :=
    fun w' h => ⟨(hr.blk.call h).cell 0, (hr.blk.call h).cell 1, (hr.blk.call h).cell 2, h⟩
  have HST := Lib.hid hr
  clear hr hrd hrdD
  go_enter Try.func27, Try.ntmps27
  go_wp2
  go_region_held3 (fun w' : World => w'.cell? ⟨g, 0, none⟩ = some (.slice a l.length cap) ∧ w'.cell? ⟨g, 1, none⟩ = some (.int .i64 most) ∧ w'.cell? ⟨g, 2, none⟩ = some (.bool full) ∧ Below w.heap.size w w')
    (exact ST _ (by first | assumption | exact Q.alloc (by assumption) _))
    (first
      | (go_at_call 42; (with_reducible refine C.mono ?_); rintro e w1 ⟨sv1, rfl, hown1, hb1⟩; have hB1 : Below w.heap.size w w1 := Q.call hB0 hb1; obtain ⟨a2, c2, rfl⟩ := own_slice hown1))
  go_wp2
  go_returns
  refine ⟨w1.heap.size, .slice a2 l.length c2, rfl, ⟨Blk.new _ _ _, own_keep hown1 (fun b hb hlt => Below.heap_alloc w1 _ b hlt) (by simp), hB1.size, fun e => absurd (own_lt hown1 e).1 (Nat.lt_irrefl _)⟩, Q.alloc hB1 _⟩
end Go.Proofs.Ytijlmdpcbclmaaa
