/- Ports: Clone. (printed by gen/po19.py) -/
import Derived.Test.YteciicojnodibaaPo18
namespace Go.Proofs.Yteciicojnodibaa
set_option linter.unusedVariables false
set_option linter.unusedSimpArgs false
open Go.RowKit
attribute [local go_sem ↓] Go.wp_at_zero Go.wp_at_succ

theorem own_keeps {α : Type} {n : Nat} {E : Enc α n} {T : TypeId} {V W : World} {B m : Nat} {v : Value} {l : List α} (h : V.ownsRow B T n v m (E.row l)) (hm : m = l.length) (hV : Below V.heap.size V W) : Rd E W (fun _ => True) v l := by
  subst hm
  exact Ow.rd (T := T) (S := fun _ => True) ⟨own_lower (own_keep h (fun b _ hlt => hV.block b hlt) hV.size) (Nat.zero_le _), fun _ _ => trivial⟩
set_option maxRecDepth 100000 in
set_option maxHeartbeats 6400000 in
theorem clone_rd (w : World) (g : Nat) (v : PV) (s : PS) (hp : RdP w g v s) (hok : s.ok) :
    Calls Try.prog 12 #[.pointer (some ⟨g, 0, none⟩)] w fun e w' => ∃ h u, e = .returned (.pointer (some ⟨h, 0, none⟩)) ∧ Below w.heap.size w w' ∧ RdP w' h u s := by
  obtain ⟨a1, c1, hv1⟩ := hp.pub.len
  obtain ⟨a2, c2, hv2⟩ := hp.sec.len
  have x0 : w.cell? ⟨g, 0, none⟩ = some (.slice a1 s.pub.length c1) := by rw [← hv1]; exact hp.blk.cell 0
  have x1 : w.cell? ⟨g, 1, none⟩ = some (.slice a2 s.sec.length c2) := by rw [← hv2]; exact hp.blk.cell 1
  have hgl := hp.blk.lt
  have ST : ∀ w' : World, Below w.heap.size w w' → (w'.cell? ⟨g, 0, none⟩ = some (.slice a1 s.pub.length c1) ∧ w'.cell? ⟨g, 1, none⟩ = some (.slice a2 s.sec.length c2) ∧ Below w.heap.size w w') := fun w' h => ⟨(h.cell (p := ⟨g, 0, none⟩) hgl).trans x0, (h.cell (p := ⟨g, 1, none⟩) hgl).trans x1, h⟩
  have U0 := fun V (h : Below w.heap.size w V) => clone_U (.slice a1 s.pub.length c1) s.pub (fun _ => True) V (by have := hok.pub; omega) (by rw [← hv1]; exact hp.pub.below h)
  have U1 := fun V (h : Below w.heap.size w V) => clone_U (.slice a2 s.sec.length c2) s.sec (fun _ => True) V (by have := hok.sec; omega) (by rw [← hv2]; exact hp.sec.below h)
  have O := fun V (h : Below w.heap.size w V) => pout_rd V g v s (hp.call h) hok
  have K := fun V (h : Below w.heap.size w V) => pkept_rd V g v s (hp.call h) hok
  have L := fun V (h : Below w.heap.size w V) => plog_rd V g v s (hp.call h) hok
  clear hp hok hv1 hv2
  go_enter Try.func12, Try.ntmps12
  go_wp2_with fail
  go_region_held3 (fun w' : World => w'.cell? ⟨g, 0, none⟩ = some (.slice a1 s.pub.length c1) ∧ w'.cell? ⟨g, 1, none⟩ = some (.slice a2 s.sec.length c2) ∧ Below w.heap.size w w') (exact ST _ (by repeat' (first | with_reducible exact Below.refl _ _ | with_reducible assumption | with_reducible refine Q.alloc ?_ _ | with_reducible refine Q.drew ?_ | with_reducible refine Q.drewN ?_ _ | with_reducible refine Q.call ?_ (by assumption)))) (first
    | (go_at_call 21; first | ((with_reducible refine (U0 _ (by repeat' (first | with_reducible exact Below.refl _ _ | with_reducible assumption | with_reducible refine Q.alloc ?_ _ | with_reducible refine Q.drew ?_ | with_reducible refine Q.drewN ?_ _ | with_reducible refine Q.call ?_ (by assumption)))).mono ?_); rintro e w3 ⟨sv3, rfl, ho3, hb3⟩; obtain ⟨b3, d3, rfl, -⟩ := own_slice ho3) | ((with_reducible refine (U1 _ (by repeat' (first | with_reducible exact Below.refl _ _ | with_reducible assumption | with_reducible refine Q.alloc ?_ _ | with_reducible refine Q.drew ?_ | with_reducible refine Q.drewN ?_ _ | with_reducible refine Q.call ?_ (by assumption)))).mono ?_); rintro e w4 ⟨sv4, rfl, ho4, hb4⟩; obtain ⟨b4, d4, rfl, -⟩ := own_slice ho4))
    | (go_at_call 17; first | ((with_reducible refine (O _ (by repeat' (first | with_reducible exact Below.refl _ _ | with_reducible assumption | with_reducible refine Q.alloc ?_ _ | with_reducible refine Q.drew ?_ | with_reducible refine Q.drewN ?_ _ | with_reducible refine Q.call ?_ (by assumption)))).mono ?_); rintro e w5 ⟨sv5, rfl, ho5, hb5⟩; obtain ⟨b5, d5, rfl, -⟩ := own_slice ho5))
    | (go_at_call 18; first | ((with_reducible refine (K _ (by repeat' (first | with_reducible exact Below.refl _ _ | with_reducible assumption | with_reducible refine Q.alloc ?_ _ | with_reducible refine Q.drew ?_ | with_reducible refine Q.drewN ?_ _ | with_reducible refine Q.call ?_ (by assumption)))).mono ?_); rintro e w6 ⟨sv6, rfl, ho6, hb6⟩; obtain ⟨b6, d6, rfl, -⟩ := own_slice ho6))
    | (go_at_call 19; first | ((with_reducible refine (L _ (by repeat' (first | with_reducible exact Below.refl _ _ | with_reducible assumption | with_reducible refine Q.alloc ?_ _ | with_reducible refine Q.drew ?_ | with_reducible refine Q.drewN ?_ _ | with_reducible refine Q.call ?_ (by assumption)))).mono ?_); rintro e w7 ⟨sv7, rfl, ho7, hb7⟩; obtain ⟨b7, d7, rfl, -⟩ := own_slice ho7)))
  clear ST U0 U1 O K L x0 x1
  have HA := Q.alloc (Below.refl w7.heap.size w7) (.cells #[.slice b3 s.pub.length d3, .slice b4 s.sec.length d4, .slice b5 s.out.length d5, .slice b6 s.kept.length d6, .slice b7 s.log.length d7] 64)
  have B7 := HA
  have B6 := Q.call hb7 HA
  have B5 := Q.call hb6 B6
  have B4 := Q.call hb5 B5
  have B3 := Q.call hb4 B4
  have k3 : Rd EU _ (fun _ => True) _ s.pub := own_keeps (T := 5) ho3 rfl B3
  have k4 : Rd EU _ (fun _ => True) _ s.sec := own_keeps (T := 5) ho4 rfl B4
  have k5 : Rd EU _ (fun _ => True) _ s.out := own_keeps (T := 5) ho5 rfl B5
  have k6 : Rd EB _ (fun _ => True) _ s.kept := own_keeps (T := 23) ho6 rfl B6
  have k7 : Rd EE _ (fun _ => True) _ s.log := own_keeps (T := 58) ho7 rfl B7
  have HB := Lib.hid (Q.call (Q.call (Q.drew (Below.refl w.heap.size w)) hb3) B3)
  have HR := Lib.hid (show RdP _ w7.heap.size ⟨_, _, _, _, _⟩ s from ⟨Blk.new w7 64 #[.slice b3 s.pub.length d3, .slice b4 s.sec.length d4, .slice b5 s.out.length d5, .slice b6 s.kept.length d6, .slice b7 s.log.length d7], k3, k4, k5, k6, k7⟩)
  clear HA B7 B6 B5 B4 B3 k3 k4 k5 k6 k7 ho3 ho4 ho5 ho6 ho7 hb3 hb4 hb5 hb6 hb7
  go_wp2
  go_returns
  exact ⟨_, _, rfl, HB.out, HR.out⟩
end Go.Proofs.Yteciicojnodibaa
