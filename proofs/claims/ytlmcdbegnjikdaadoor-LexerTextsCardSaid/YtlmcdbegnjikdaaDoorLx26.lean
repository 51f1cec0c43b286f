/- The lexer: the document's hexadecimal digits. (printed by gen/lx26.py) -/
import Derived.Test.YtlmcdbegnjikdaaDoorLx25
namespace Go.Proofs.YtlmcdbegnjikdaaDoor
set_option linter.unusedVariables false
set_option linter.unusedSimpArgs false
open Go.RowKit
attribute [local go_sem ↓] Go.wp_at_zero Go.wp_at_succ
attribute [local go_sem high] cat_ok

theorem hd_low {d : Nat} (h : d < 10) : (48 : Int) + (d : Int) = ((hd d).toNat : Int) := by
  have key : ∀ d : Fin 10, 48 + d.val = (hd d.val).toNat := by decide +kernel
  have := key ⟨d, h⟩
  simp only at this
  omega
theorem hd_high {d : Nat} (h : ¬ d < 10) (h2 : d < 16) : (87 : Int) + (d : Int) = ((hd d).toNat : Int) := by
  have key : ∀ d : Fin 16, ¬ d.val < 10 → 87 + d.val = (hd d.val).toNat := by decide +kernel
  have := key ⟨d, h2⟩ h
  simp only at this
  omega
theorem back_one (w : World) (v : Int) (b : UInt8) (h : v = (b.toNat : Int)) :
    (convert 62 9 (.slice (some ⟨w.heap.size, 0, none⟩) 1 1)).run Tryd.prog (w.alloc (.cells #[.int .u8 v] 5)) = .ok (.string (str [b])) (w.alloc (.cells #[.int .u8 v] 5)) := by
  subst h
  exact run_convert_bytes_back (P := Tryd.prog) _ 62 9 5 ⟨w.heap.size, 0, none⟩ 1 [b] Tryd.underlying62 Tryd.underlying5 Tryd.underlying9 (by
    intro j hj
    have : j = 0 := by simp at hj; omega
    subst this
    simp [Addr.add])
set_option maxRecDepth 100000 in
set_option maxHeartbeats 1600000 in
theorem refhex_eq (w : World) (n mm : Nat) (hn : n ≤ 65535) (hm : mm ≤ 4) : Calls Tryd.prog 23 #[.int .i64 n, .int .i64 mm] w fun e w' => e = .returned (.string (str (hexA mm n []))) ∧ Below w.heap.size w w' := by
  go_enter Tryd.func23, Tryd.ntmps23
  go_wp2_with fail
  go_loopw [0, 5, 6] (fun x0 x5 x6 wr => ∃ (j n' : Nat) (ob : ByteArray) (out : By), j ≤ mm ∧ n' ≤ 65535 ∧ x0 = .int .i64 (n' : Int) ∧ x5 = .string ob ∧ x6 = .int .i64 (j : Int) ∧ ob.size ≤ 100 ∧ Hid (ob = str out ∧ out.length = j ∧ hexA (mm - j) n' out = hexA mm n []) ∧ Hid (Below w.heap.size w wr)) (fun _ _ i _ => mm - (intOf i).toNat)
  case atStart => exact ⟨0, n, ⟨#[]⟩, [], Nat.zero_le _, hn, rfl, rfl, rfl, by decide, Lib.hid ⟨rfl, rfl, rfl⟩, Lib.hid (Below.refl _ _)⟩
  case round =>
    obtain ⟨j, n', ob, out, hj, hn', rfl, rfl, rfl, hob, HH, HW⟩ := hrel
    by_cases hlt : j < mm
    · have hlti : (j : Int) < (mm : Int) := by omega
      obtain ⟨d, hd0⟩ : ∃ d, d = n' % 16 := ⟨_, rfl⟩
      obtain ⟨q, hq0⟩ : ∃ q, q = n' / 16 := ⟨_, rfl⟩
      have e1 : (n' : Int) % 16 = (d : Int) := by omega
      have e2 : (n' : Int) / 16 = (q : Int) := by omega
      have hdl : d < 16 := by omega
      have hn0 : (0 : Int) ≤ (n' : Int) := by omega
      have hob2 : ob.size ≤ 1000000 := by omega
      have HN := Lib.hid (show hexA (mm - (j + 1)) q (hd d :: out) = hexA mm n [] from by
        have h := HH.out.2.2
        rw [show mm - j = (mm - (j + 1)) + 1 by omega, hexA, ← hd0, ← hq0] at h
        exact h)
      have hql : q ≤ 65535 := by omega
      clear hd0 hq0
      by_cases h10 : d < 10
      · have h10i : (d : Int) < 10 := by omega
        have HE := Lib.hid (show str [hd d] ++ ob = str (hd d :: out) from by rw [HH.out.1, str_app]; rfl)
        have hcb := fun V : World => back_one V _ (hd d) (hd_low h10)
        have hx3 : (str [hd d]).size ≤ 1000000 := by rw [str_size]; simp
        go_wp2_with fail
        refine ⟨⟨j + 1, q, _, hd d :: out, by omega, hql, by first | rfl | (rw [e2]), rfl, by go_num, by rw [HE.out, str_size, List.length_cons, HH.out.2.1]; omega, Lib.hid ⟨HE.out, by rw [List.length_cons, HH.out.2.1], HN.out⟩, Lib.hid (Q.alloc HW.out _)⟩, by simp [intOf]; omega⟩
      · have h10i : ¬ (d : Int) < 10 := by omega
        have HE := Lib.hid (show str [hd d] ++ ob = str (hd d :: out) from by rw [HH.out.1, str_app]; rfl)
        have hcb := fun V : World => back_one V _ (hd d) (hd_high h10 hdl)
        have hx3 : (str [hd d]).size ≤ 1000000 := by rw [str_size]; simp
        go_wp2_with fail
        refine ⟨⟨j + 1, q, _, hd d :: out, by omega, hql, by first | rfl | (rw [e2]), rfl, by go_num, by rw [HE.out, str_size, List.length_cons, HH.out.2.1]; omega, Lib.hid ⟨HE.out, by rw [List.length_cons, HH.out.2.1], HN.out⟩, Lib.hid (Q.alloc HW.out _)⟩, by simp [intOf]; omega⟩
    · have hlti : ¬ (j : Int) < (mm : Int) := by omega
      go_wp2_with fail
      go_ret
      refine ⟨?_, HW.out⟩
      obtain ⟨h1, h2, h3⟩ := HH.out
      rw [show mm - j = 0 by omega, hexA] at h3
      rw [h1, h3]
      rfl
end Go.Proofs.YtlmcdbegnjikdaaDoor
