/-
  DERIVED. Plain: how arith reads an expression, as a function of the bytes; fuel ahead of all, and how deep. Only what is read well: 'none' says nothing. No program in sight.
-/
import Derived.Test.YtdfpijbngbfjaaaGreatDoorBy
import Derived.Lib.IndexMore
namespace Go.Proofs.YtdfpijbngbfjaaaGreatDoor
/-- An expression: a number, a name, or an operation with others. -/
inductive Tree where
  | num (n : Int)
  | var (name : List UInt8)
  | node (op : List UInt8) (kids : List Tree)
def signsL : List (List UInt8) := [[124, 124], [38, 38], [61, 61], [33, 61], [60, 61], [62, 61], [60, 60], [62, 62], [124], [94], [38], [60], [62], [43], [45], [42], [47], [37], [33], [126], [63], [58], [40], [41]]
def rowsL : List (List UInt8) := [[32, 124, 124, 32], [32, 38, 38, 32], [32, 124, 32], [32, 94, 32], [32, 38, 32], [32, 61, 61, 32, 33, 61, 32], [32, 60, 32, 60, 61, 32, 62, 32, 62, 61, 32], [32, 60, 60, 32, 62, 62, 32], [32, 43, 32, 45, 32], [32, 42, 32, 47, 32, 37, 32]]
def dropB (l : List UInt8) : List UInt8 := l.dropWhile blankU
/-- The sign that is next, behind blanks. -/
def signF (l : List UInt8) : List UInt8 := (signsL.find? fun s => s.isPrefixOf (dropB l)).getD []
/-- Whether it is this one; and what is left. -/
def passF (s l : List UInt8) : Bool × List UInt8 := if signF l = s then (true, (dropB l).drop s.length) else (false, dropB l)
/-- Whether a row has a sign. -/
def inRow (i : Nat) (s : List UInt8) : Bool := Lib.contains (rowsL.getD i []) ([32] ++ s ++ [32])
/-- A letter, or _; or a digit. -/
def letterU (c : UInt8) : Bool := (65 ≤ c.toNat && c.toNat ≤ 90) || (97 ≤ c.toNat && c.toNat ≤ 122) || c.toNat == 95
def wordU (c : UInt8) : Bool := letterU c || (48 ≤ c.toNat && c.toNat ≤ 57)
def longF (l : List UInt8) : Nat := (l.takeWhile wordU).length
def isName (l : List UInt8) : Bool := match l with
  | [] => false
  | c :: t => letterU c && t.all wordU
def nameF (l : List UInt8) : Option (Tree × List UInt8) := if isName (l.take (longF l)) then some (.var (l.take (longF l)), l.drop (longF l)) else none
def oneF (l : List UInt8) : Option (Tree × List UInt8) :=
  match dropB l with
  | 36 :: 123 :: t => match nameF t with
    | some (a, 125 :: u) => some (a, u)
    | _ => none
  | 36 :: t => nameF t
  | t => match digitsF ⟨(t.take (longF t)).toArray⟩ with
    | some x => some (.num x, t.drop (longF t))
    | none => nameF t
mutual
def anyF : Nat → Nat → List UInt8 → Option (Tree × List UInt8)
  | 0, _, _ => none
  | f + 1, d, l =>
    match rowF f d 0 l with
    | none => none
    | some (a, l1) =>
      match passF [63] l1 with
      | (false, l2) => some (a, l2)
      | (true, l2) =>
        if d = 40 then none else
        match anyF f (d + 1) l2 with
        | none => none
        | some (b, l3) =>
          match passF [58] l3 with
          | (false, _) => none
          | (true, l4) =>
            match anyF f (d + 1) l4 with
            | none => none
            | some (c, l5) => some (.node [63] [a, b, c], l5)
def rowF : Nat → Nat → Nat → List UInt8 → Option (Tree × List UInt8)
  | 0, _, _, _ => none
  | f + 1, d, i, l =>
    if i = 10 then aheadF f d l else
    match rowF f d (i + 1) l with
    | none => none
    | some (a, l1) => loopF f d i a l1
def loopF : Nat → Nat → Nat → Tree → List UInt8 → Option (Tree × List UInt8)
  | 0, _, _, _, _ => none
  | f + 1, d, i, a, l =>
    if signF l = [] ∨ inRow i (signF l) = false then some (a, dropB l) else
    match rowF f d (i + 1) ((dropB l).drop (signF l).length) with
    | none => none
    | some (b, l2) => loopF f d i (.node (signF l) [a, b]) l2
def aheadF : Nat → Nat → List UInt8 → Option (Tree × List UInt8)
  | 0, _, _ => none
  | f + 1, d, l =>
    if signF l = [33] ∨ signF l = [126] ∨ signF l = [43] ∨ signF l = [45] then
      if d = 40 then none else
      match aheadF f (d + 1) ((dropB l).drop 1) with
      | none => none
      | some (a, l1) => some (.node (signF l) [a], l1)
    else if signF l = [40] then
      if d = 40 then none else
      match anyF f (d + 1) ((dropB l).drop 1) with
      | none => none
      | some (a, l1) =>
        match passF [41] l1 with
        | (false, _) => none
        | (true, l2) => some (a, l2)
    else oneF l
end
/-- A whole expression. -/
def parseF (f : Nat) (l : List UInt8) : Option Tree :=
  match anyF f 0 l with
  | some (t, r) => if r.all blankU then some t else none
  | none => none
theorem parse_ex : (parseF 60 [49, 43, 50, 42, 51]).isSome = true := by decide +kernel
end Go.Proofs.YtdfpijbngbfjaaaGreatDoor
