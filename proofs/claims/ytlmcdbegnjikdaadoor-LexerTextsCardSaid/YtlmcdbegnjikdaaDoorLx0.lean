/- The lexer, plain: tokens of a line, of a text. No function of the program. -/
namespace Go.Proofs.YtlmcdbegnjikdaaDoor
set_option linter.unusedVariables false
set_option linter.unusedSimpArgs false

abbrev By := List UInt8
structure Tok where
  kind : Int
  text : By
  n : Int
  line : Int
  col : Int
deriving DecidableEq

def isLet (b : UInt8) : Bool := decide (97 ≤ b.toNat ∧ b.toNat ≤ 122)
def dig (b : UInt8) : Nat := if 48 ≤ b.toNat ∧ b.toNat ≤ 57 then b.toNat - 48 else if 97 ≤ b.toNat ∧ b.toNat ≤ 102 then b.toNat - 87 else 99
def glued : By → Bool
  | [] => false
  | b :: _ => isLet b || decide (dig b < 10) || decide (b.toNat = 36)
def numL (base : Nat) : Nat → By → Nat × By
  | n, [] => (n, [])
  | n, b :: l => if dig b < base then numL base (min 65536 (n * base + dig b)) l else (n, b :: l)
def wordL : By → By
  | [] => []
  | b :: l => if isLet b then wordL l else b :: l
/-- What begins here: an error, or a token (kind, text, number) and what is left. -/
inductive R1 where
  | bad (e : Int)
  | ok (kind : Int) (text : By) (n : Int) (rest : By)
deriving DecidableEq
def numTok (base : Nat) (l : By) : R1 :=
  let r := numL base 0 l
  if r.2.length = l.length ∨ glued r.2 = true then .bad 11 else if 65535 < r.1 then .bad 10 else .ok 2 [] r.1 r.2
def dots : By → R1
  | [] => .bad 11
  | b :: r => if b.toNat = 46 then .ok 3 [] 0 r else .bad 11
def one : By → R1
  | [] => .bad 0
  | b :: l =>
    if isLet b then
      if glued (wordL (b :: l)) then .bad 11 else .ok 1 ((b :: l).take ((b :: l).length - (wordL (b :: l)).length)) 0 (wordL (b :: l))
    else if b.toNat = 46 then dots l
    else if b.toNat = 36 then numTok 16 l
    else if dig b < 10 then numTok 10 (b :: l)
    else .bad 22
/-- A line's tokens, or the byte (from 1 on) and what is wrong. -/
inductive RL where
  | bad (col : Int) (e : Int)
  | ok (l : List Tok)
deriving DecidableEq
def fin (n : Int) (last : Nat) (out : List Tok) : List Tok := if out = [] then [] else out ++ [⟨4, [], 0, n, last + 1⟩]
def scl (n : Int) : Nat → By → Nat → Nat → List Tok → RL
  | 0, _, _, last, out => .ok (fin n last out)
  | _ + 1, [], _, last, out => .ok (fin n last out)
  | f + 1, b :: l, at_, last, out =>
    if b.toNat = 35 then .ok (fin n last out)
    else if b.toNat = 32 ∨ b.toNat = 9 then scl n f l (at_ + 1) last out
    else match one (b :: l) with
      | .bad e => .bad (at_ + 1) e
      | .ok k t v r => scl n f r (at_ + ((b :: l).length - r.length)) (at_ + ((b :: l).length - r.length)) (out ++ [⟨k, t, v, n, at_ + 1⟩])
def lineT (n : Int) (l : By) : RL := if 1000 < l.length then .bad 1001 12 else scl n l.length l 0 0 []
/-- A text's tokens, or the line, the byte and what is wrong. -/
inductive RT where
  | bad (line : Int) (col : Int) (e : Int)
  | ok (l : List Tok)
deriving DecidableEq
def scan : Int → List By → List Tok → RT
  | _, [], out => .ok out
  | n, l :: ls, out => match lineT n l with
    | .bad c e => .bad n c e
    | .ok x => scan (n + 1) ls (out ++ x)
/-- The lines of a text. -/
def lines : By → List By
  | [] => [[]]
  | b :: l => if b = 10 then [] :: lines l else match lines l with
    | [] => [[b]]
    | x :: xs => (b :: x) :: xs
def text (s : By) : RT := scan 1 (lines s) []
end Go.Proofs.YtlmcdbegnjikdaaDoor
