/- A table's zero: its policy, and two rows of 65536 bytes; told as the halvings it is laid in. (printed by gen/tb0.py) -/
import Derived.Test.YtggnkkmlabhofaaDoorLa4
namespace Go.Proofs.YtggnkkmlabhofaaDoor
set_option linter.unusedVariables false
set_option linter.unusedSimpArgs false
open Go.RowKit

def hd4 : List Value := [.slice none 0 0, .slice none 0 0, .int .i64 0, .int .i64 0]
def z60 : List Value := [.int .u8 0, .int .u8 0, .int .u8 0, .int .u8 0, .int .u8 0, .int .u8 0, .int .u8 0, .int .u8 0, .int .u8 0, .int .u8 0, .int .u8 0, .int .u8 0, .int .u8 0, .int .u8 0, .int .u8 0, .int .u8 0, .int .u8 0, .int .u8 0, .int .u8 0, .int .u8 0, .int .u8 0, .int .u8 0, .int .u8 0, .int .u8 0, .int .u8 0, .int .u8 0, .int .u8 0, .int .u8 0, .int .u8 0, .int .u8 0, .int .u8 0, .int .u8 0, .int .u8 0, .int .u8 0, .int .u8 0, .int .u8 0, .int .u8 0, .int .u8 0, .int .u8 0, .int .u8 0, .int .u8 0, .int .u8 0, .int .u8 0, .int .u8 0, .int .u8 0, .int .u8 0, .int .u8 0, .int .u8 0, .int .u8 0, .int .u8 0, .int .u8 0, .int .u8 0, .int .u8 0, .int .u8 0, .int .u8 0, .int .u8 0, .int .u8 0, .int .u8 0, .int .u8 0, .int .u8 0]
def z32 : List Value := [.int .u8 0, .int .u8 0, .int .u8 0, .int .u8 0, .int .u8 0, .int .u8 0, .int .u8 0, .int .u8 0, .int .u8 0, .int .u8 0, .int .u8 0, .int .u8 0, .int .u8 0, .int .u8 0, .int .u8 0, .int .u8 0, .int .u8 0, .int .u8 0, .int .u8 0, .int .u8 0, .int .u8 0, .int .u8 0, .int .u8 0, .int .u8 0, .int .u8 0, .int .u8 0, .int .u8 0, .int .u8 0, .int .u8 0, .int .u8 0, .int .u8 0, .int .u8 0]
def z33 : List Value := [.int .u8 0, .int .u8 0, .int .u8 0, .int .u8 0, .int .u8 0, .int .u8 0, .int .u8 0, .int .u8 0, .int .u8 0, .int .u8 0, .int .u8 0, .int .u8 0, .int .u8 0, .int .u8 0, .int .u8 0, .int .u8 0, .int .u8 0, .int .u8 0, .int .u8 0, .int .u8 0, .int .u8 0, .int .u8 0, .int .u8 0, .int .u8 0, .int .u8 0, .int .u8 0, .int .u8 0, .int .u8 0, .int .u8 0, .int .u8 0, .int .u8 0, .int .u8 0, .int .u8 0]
def ze0 : List Value := [.int .u8 0, .int .u8 0, .int .u8 0, .int .u8 0, .int .u8 0, .int .u8 0, .int .u8 0, .int .u8 0, .int .u8 0, .int .u8 0, .int .u8 0, .int .u8 0, .int .u8 0, .int .u8 0, .int .u8 0, .int .u8 0, .int .u8 0, .int .u8 0, .int .u8 0, .int .u8 0, .int .u8 0, .int .u8 0, .int .u8 0, .int .u8 0, .int .u8 0, .int .u8 0, .int .u8 0, .int .u8 0, .int .u8 0, .int .u8 0, .int .u8 0, .int .u8 0, .int .u8 0, .int .u8 0, .int .u8 0, .int .u8 0, .int .u8 0, .int .u8 0, .int .u8 0, .int .u8 0, .int .u8 0, .int .u8 0, .int .u8 0, .int .u8 0, .int .u8 0, .int .u8 0, .int .u8 0, .int .u8 0, .int .u8 0, .int .u8 0, .int .u8 0, .int .u8 0, .int .u8 0, .int .u8 0, .int .u8 0, .int .u8 0, .int .u8 0, .int .u8 0, .int .u8 0, .int .u8 0, .int .u8 0, .int .u8 0, .int .u8 0, .int .u8 0]
def zh0 : List Value := [.slice none 0 0, .slice none 0 0, .int .i64 0, .int .i64 0, .int .u8 0, .int .u8 0, .int .u8 0, .int .u8 0, .int .u8 0, .int .u8 0, .int .u8 0, .int .u8 0, .int .u8 0, .int .u8 0, .int .u8 0, .int .u8 0, .int .u8 0, .int .u8 0, .int .u8 0, .int .u8 0, .int .u8 0, .int .u8 0, .int .u8 0, .int .u8 0, .int .u8 0, .int .u8 0, .int .u8 0, .int .u8 0, .int .u8 0, .int .u8 0, .int .u8 0, .int .u8 0, .int .u8 0, .int .u8 0, .int .u8 0, .int .u8 0, .int .u8 0, .int .u8 0, .int .u8 0, .int .u8 0, .int .u8 0, .int .u8 0, .int .u8 0, .int .u8 0, .int .u8 0, .int .u8 0, .int .u8 0, .int .u8 0, .int .u8 0, .int .u8 0, .int .u8 0, .int .u8 0, .int .u8 0, .int .u8 0, .int .u8 0, .int .u8 0, .int .u8 0, .int .u8 0, .int .u8 0, .int .u8 0, .int .u8 0, .int .u8 0, .int .u8 0, .int .u8 0]
def Z0 (n : Nat) (l : List Value) : Prop := l.length = n ∧ ∀ v ∈ l, v = .int .u8 0
theorem Z0.app {n m : Nat} {l k : List Value} (h : Z0 n l) (g : Z0 m k) : Z0 (n + m) (l.append k) := by
  refine ⟨?_, fun v hv => ?_⟩
  · show (l ++ k).length = _
    rw [List.length_append, h.1, g.1]
  · rcases List.mem_append.1 (show v ∈ l ++ k from hv) with h1 | h1
    · exact h.2 v h1
    · exact g.2 v h1
/-- A head of four cells, then zeros. -/
def H4 (n : Nat) (l : List Value) : Prop := ∃ r, l = hd4 ++ r ∧ Z0 n r
theorem H4.app {n m : Nat} {l k : List Value} (h : H4 n l) (g : Z0 m k) : H4 (n + m) (l.append k) := by
  obtain ⟨r, rfl, hr⟩ := h
  exact ⟨r.append k, List.append_assoc _ _ _, hr.app g⟩
theorem z32_all : Z0 32 z32 := ⟨by kernel_rfl, by intro v h; simp only [z32, List.mem_cons, List.not_mem_nil, or_false, or_self] at h; exact h⟩
theorem z33_all : Z0 33 z33 := ⟨by kernel_rfl, by intro v h; simp only [z33, List.mem_cons, List.not_mem_nil, or_false, or_self] at h; exact h⟩
theorem z60_all : Z0 60 z60 := ⟨by kernel_rfl, by intro v h; simp only [z60, List.mem_cons, List.not_mem_nil, or_false, or_self] at h; exact h⟩
theorem ze0_all : Z0 64 ze0 := ⟨by kernel_rfl, by intro v h; simp only [ze0, List.mem_cons, List.not_mem_nil, or_false, or_self] at h; exact h⟩
theorem zh0_all : H4 60 zh0 := ⟨z60, by kernel_rfl, z60_all⟩
def ze1 : List Value := ze0.append ze0
theorem ze1_all : Z0 128 ze1 := ze0_all.app ze0_all
def ze2 : List Value := ze1.append ze1
theorem ze2_all : Z0 256 ze2 := ze1_all.app ze1_all
def ze3 : List Value := ze2.append ze2
theorem ze3_all : Z0 512 ze3 := ze2_all.app ze2_all
def ze4 : List Value := ze3.append ze3
theorem ze4_all : Z0 1024 ze4 := ze3_all.app ze3_all
def ze5 : List Value := ze4.append ze4
theorem ze5_all : Z0 2048 ze5 := ze4_all.app ze4_all
def ze6 : List Value := ze5.append ze5
theorem ze6_all : Z0 4096 ze6 := ze5_all.app ze5_all
def ze7 : List Value := ze6.append ze6
theorem ze7_all : Z0 8192 ze7 := ze6_all.app ze6_all
def ze8 : List Value := ze7.append ze7
theorem ze8_all : Z0 16384 ze8 := ze7_all.app ze7_all
def zf0 : List Value := z32.append z33
theorem zf0_all : Z0 65 zf0 := z32_all.app z33_all
def zf1 : List Value := ze0.append zf0
theorem zf1_all : Z0 129 zf1 := ze0_all.app zf0_all
def zf2 : List Value := ze1.append zf1
theorem zf2_all : Z0 257 zf2 := ze1_all.app zf1_all
def zf3 : List Value := ze2.append zf2
theorem zf3_all : Z0 513 zf3 := ze2_all.app zf2_all
def zf4 : List Value := ze3.append zf3
theorem zf4_all : Z0 1025 zf4 := ze3_all.app zf3_all
def zf5 : List Value := ze4.append zf4
theorem zf5_all : Z0 2049 zf5 := ze4_all.app zf4_all
def zf6 : List Value := ze5.append zf5
theorem zf6_all : Z0 4097 zf6 := ze5_all.app zf5_all
def zf7 : List Value := ze6.append zf6
theorem zf7_all : Z0 8193 zf7 := ze6_all.app zf6_all
def zf8 : List Value := ze7.append zf7
theorem zf8_all : Z0 16385 zf8 := ze7_all.app zf7_all
def zh1 : List Value := zh0.append ze0
theorem zh1_all : H4 124 zh1 := zh0_all.app ze0_all
def zh2 : List Value := zh1.append ze1
theorem zh2_all : H4 252 zh2 := zh1_all.app ze1_all
def zh3 : List Value := zh2.append ze2
theorem zh3_all : H4 508 zh3 := zh2_all.app ze2_all
def zh4 : List Value := zh3.append ze3
theorem zh4_all : H4 1020 zh4 := zh3_all.app ze3_all
def zh5 : List Value := zh4.append ze4
theorem zh5_all : H4 2044 zh5 := zh4_all.app ze4_all
def zh6 : List Value := zh5.append ze5
theorem zh6_all : H4 4092 zh6 := zh5_all.app ze5_all
def zh7 : List Value := zh6.append ze6
theorem zh7_all : H4 8188 zh7 := zh6_all.app ze6_all
def zh8 : List Value := zh7.append ze7
theorem zh8_all : H4 16380 zh8 := zh7_all.app ze7_all
def zg : List Value := ze8.append zf8
theorem zg_all : Z0 32769 zg := ze8_all.app zf8_all
def ztl : List Value := ((zh8.append zf8).append zg).append (zg.append zg)
theorem ztl_all : H4 131072 ztl := ((zh8_all.app zf8_all).app zg_all).app (zg_all.app zg_all)
/-- A table's zero. -/
def ztab : Array Value := ztl.toArray
theorem ztab_size : ztab.size = 131076 := by
  obtain ⟨r, h, hr⟩ := ztl_all
  show ztl.length = _
  rw [h, List.length_append, hr.1]
  rfl
theorem ztab_at (i : Nat) (h : i < 131072) : ztab[4 + i]? = some (.int .u8 0) := by
  obtain ⟨r, hr, hz⟩ := ztl_all
  unfold ztab
  rw [List.getElem?_toArray, hr, List.getElem?_append_right (by simp [hd4])]
  have hl := hz.1
  rw [show 4 + i - hd4.length = i by simp [hd4], List.getElem?_eq_getElem (by omega), hz.2 _ (List.getElem_mem _)]
theorem infoT : Tryd.prog.info? 95 = some Tryd.t95 := by kernel_rfl
theorem tab_size : (Tryd.prog.info? 95).map (·.size) = some 131076 := by kernel_rfl
theorem zeroT : Tryd.t95.zero = some (.agg ztab) := by kernel_rfl
theorem zeroValueT (w : World) : (zeroValue 95).run Tryd.prog w = .ok (.agg ztab) w := by
  have h1 := infoT
  have h2 := zeroT
  simp only [zeroValue, typeInfo, Sem.run_bind]
  simp [h1, h2]
end Go.Proofs.YtggnkkmlabhofaaDoor
