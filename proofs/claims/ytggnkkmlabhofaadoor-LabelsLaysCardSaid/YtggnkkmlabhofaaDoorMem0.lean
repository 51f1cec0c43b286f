/- The memory's zero: 131072 cells, each 0; told as eleven doublings of 64. -/
import Derived.Test.YtggnkkmlabhofaaDoorWord
namespace Go.Proofs.YtggnkkmlabhofaaDoor
set_option linter.unusedVariables false
set_option linter.unusedSimpArgs false
open Go.RowKit

def zz0 : List Value := [.int .u8 0, .int .u8 0, .int .u8 0, .int .u8 0, .int .u8 0, .int .u8 0, .int .u8 0, .int .u8 0, .int .u8 0, .int .u8 0, .int .u8 0, .int .u8 0, .int .u8 0, .int .u8 0, .int .u8 0, .int .u8 0, .int .u8 0, .int .u8 0, .int .u8 0, .int .u8 0, .int .u8 0, .int .u8 0, .int .u8 0, .int .u8 0, .int .u8 0, .int .u8 0, .int .u8 0, .int .u8 0, .int .u8 0, .int .u8 0, .int .u8 0, .int .u8 0, .int .u8 0, .int .u8 0, .int .u8 0, .int .u8 0, .int .u8 0, .int .u8 0, .int .u8 0, .int .u8 0, .int .u8 0, .int .u8 0, .int .u8 0, .int .u8 0, .int .u8 0, .int .u8 0, .int .u8 0, .int .u8 0, .int .u8 0, .int .u8 0, .int .u8 0, .int .u8 0, .int .u8 0, .int .u8 0, .int .u8 0, .int .u8 0, .int .u8 0, .int .u8 0, .int .u8 0, .int .u8 0, .int .u8 0, .int .u8 0, .int .u8 0, .int .u8 0]
def zz1 : List Value := zz0.append zz0
def zz2 : List Value := zz1.append zz1
def zz3 : List Value := zz2.append zz2
def zz4 : List Value := zz3.append zz3
def zz5 : List Value := zz4.append zz4
def zz6 : List Value := zz5.append zz5
def zz7 : List Value := zz6.append zz6
def zz8 : List Value := zz7.append zz7
def zz9 : List Value := zz8.append zz8
def zz10 : List Value := zz9.append zz9
def zz11 : List Value := zz10.append zz10
theorem zz0_all : zz0.length = 64 ∧ ∀ v ∈ zz0, v = .int .u8 0 := ⟨by kernel_rfl, by intro v h; simp only [zz0, List.mem_cons, List.not_mem_nil, or_false, or_self] at h; exact h⟩
theorem zz_step {l : List Value} {n : Nat} (h : l.length = n ∧ ∀ v ∈ l, v = .int .u8 0) : (l.append l).length = n + n ∧ ∀ v ∈ l.append l, v = .int .u8 0 := by
  refine ⟨?_, fun v hv => ?_⟩
  · show (l ++ l).length = _
    rw [List.length_append, h.1]
  · rcases List.mem_append.1 (show v ∈ l ++ l from hv) with h1 | h1 <;> exact h.2 v h1
theorem zz1_all : zz1.length = 128 ∧ ∀ v ∈ zz1, v = .int .u8 0 := zz_step zz0_all
theorem zz2_all : zz2.length = 256 ∧ ∀ v ∈ zz2, v = .int .u8 0 := zz_step zz1_all
theorem zz3_all : zz3.length = 512 ∧ ∀ v ∈ zz3, v = .int .u8 0 := zz_step zz2_all
theorem zz4_all : zz4.length = 1024 ∧ ∀ v ∈ zz4, v = .int .u8 0 := zz_step zz3_all
theorem zz5_all : zz5.length = 2048 ∧ ∀ v ∈ zz5, v = .int .u8 0 := zz_step zz4_all
theorem zz6_all : zz6.length = 4096 ∧ ∀ v ∈ zz6, v = .int .u8 0 := zz_step zz5_all
theorem zz7_all : zz7.length = 8192 ∧ ∀ v ∈ zz7, v = .int .u8 0 := zz_step zz6_all
theorem zz8_all : zz8.length = 16384 ∧ ∀ v ∈ zz8, v = .int .u8 0 := zz_step zz7_all
theorem zz9_all : zz9.length = 32768 ∧ ∀ v ∈ zz9, v = .int .u8 0 := zz_step zz8_all
theorem zz10_all : zz10.length = 65536 ∧ ∀ v ∈ zz10, v = .int .u8 0 := zz_step zz9_all
theorem zz11_all : zz11.length = 131072 ∧ ∀ v ∈ zz11, v = .int .u8 0 := zz_step zz10_all
/-- The memory's zero. -/
def zmem : Array Value := zz11.toArray
theorem zmem_size : zmem.size = 131072 := zz11_all.1
theorem zmem_at (i : Nat) (h : i < 131072) : zmem[i]? = some (.int .u8 0) := by
  have hl : zz11.length = 131072 := zz11_all.1
  unfold zmem
  rw [List.getElem?_toArray, List.getElem?_eq_getElem (by omega)]
  rw [zz11_all.2 _ (List.getElem_mem _)]

theorem info59 : Tryd.prog.info? 108 = some Tryd.t108 := by kernel_rfl
theorem mem_size : (Tryd.prog.info? 108).map (·.size) = some 131072 := by kernel_rfl
theorem zero59 : Tryd.t108.zero = some (.agg zmem) := by kernel_rfl
theorem built59 : Tryd.prog.built 108 [] = some zmem := by kernel_rfl
theorem zeroValue59 (w : World) : (zeroValue 108).run Tryd.prog w = .ok (.agg zmem) w := by
  have h1 := info59
  have h2 := zero59
  simp only [zeroValue, typeInfo, Sem.run_bind]
  simp [h1, h2]
end Go.Proofs.YtggnkkmlabhofaaDoor
