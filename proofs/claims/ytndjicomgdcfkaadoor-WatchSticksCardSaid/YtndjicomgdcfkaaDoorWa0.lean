/- A watch's states and answers: plain. (printed by gen/wa0.py) -/
import Derived.Test.YtndjicomgdcfkaaDoorWt1
namespace Go.Proofs.YtndjicomgdcfkaaDoor
set_option linter.unusedVariables false
set_option linter.unusedSimpArgs false
open Go.RowKit

/-- What a watch has: its state, its alarm, the last cycle, how many were seen. -/
structure WS where
  st : Int
  ru : Int
  cy : Int
  ad : Int
  bi : Int
  la : Int
  se : Int
@[reducible] def WS.cells (p : Value) (s : WS) : Array Value := #[p, .int .i64 s.st, .int .i64 s.ru, .int .i64 s.cy, .int .i64 s.ad, .int .u8 s.bi, .int .i64 s.la, .int .i64 s.se]
/-- A call. -/
structure WO where
  ask : Int
  cyc : Int
  rule : Int
  addr : Int
  wr : Bool
  v : Int
  t : Int
@[reducible] def WO.cells (o : WO) : Array Value := #[.int .i64 o.ask, .int .i64 o.cyc, .int .i64 o.rule, .int .i64 o.addr, .bool o.wr, .int .u8 o.v, .int .u8 o.t]
/-- What in answers. -/
def inE (st la r c a : Int) : Int := if st = 0 then (if alF r c a = true then (if c < la then 21 else 0) else 10) else 19
def WS.brk (s : WS) (r c a b : Int) : Int × WS := if inE s.st s.la r c a = 0 then (20, ⟨20, r, c, a, b, c, s.se⟩) else (inE s.st s.la r c a, s)
/-- See, of a record of which these bits leak. -/
def WS.see (s : WS) (c a : Int) (wr : Bool) (k : Int) : Int × WS :=
  if inE s.st s.la 4 c a = 0 then (if wr = true ∧ k ≠ 0 then (20, ⟨20, 4, c, a, k, c, s.se⟩) else (0, ⟨s.st, s.ru, s.cy, s.ad, s.bi, c, s.se + 1⟩)) else (inE s.st s.la 4 c a, s)
def WS.told (s : WS) (may n : Int) : Int × WS := if s.st = 0 then (if n < 0 then (10, s) else if may < n then (18, { s with st := 18 }) else (0, s)) else (19, s)
/-- Does, where k of the record's bits leak. -/
def WS.does (s : WS) (may k : Int) (o : WO) : Int × WS := if o.ask = 0 then s.see o.cyc o.addr o.wr k else if o.ask = 1 then s.told may o.cyc else s.brk o.rule o.cyc o.addr o.t
theorem WS.does_se (s : WS) (may k : Int) (o : WO) : s.se ≤ (s.does may k o).2.se ∧ (s.does may k o).2.se ≤ s.se + 1 := by
  unfold WS.does WS.see WS.told WS.brk
  repeat' split
  all_goals (simp only; omega)
end Go.Proofs.YtndjicomgdcfkaaDoor
