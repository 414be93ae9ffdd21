/-
  DERIVED. Plain laws on lists of bytes: what the code of param.Does and the document's table come to is one. No program in sight.
-/
import Derived.Lib.Strings
import Derived.Lib.IndexMore
namespace Go.Proofs.YtmcaphmgjhkgfaaDoor
open Go
/-- By the name behind the colon: is it there, is it set. -/
def doesT (name : List UInt8) (there set : Bool) : Int :=
  if name == [45] then (if there then 1 else 2) else if name == [61] then (if there then 1 else 3) else if name == [63] then (if there then 1 else 4)
  else if name == [43] then (if there then 2 else 5) else if set then 1 else 5
/-- The document's table: a row (with a value, empty, not set) by the operation. -/
def tab (op : List UInt8) : Int × Int × Int :=
  if op == [58, 45] then (1, 2, 2) else if op == [45] then (1, 1, 2) else if op == [58, 61] then (1, 3, 3) else if op == [61] then (1, 1, 3)
  else if op == [58, 63] then (1, 4, 4) else if op == [63] then (1, 1, 4) else if op == [58, 43] then (2, 5, 5) else if op == [43] then (2, 2, 5) else (1, 1, 5)
def refDoes (op : List UInt8) (value : List UInt8) (set : Bool) : Int :=
  if set then (if value.isEmpty then (tab op).2.1 else (tab op).1) else (tab op).2.2
def doesF (op value : List UInt8) (set : Bool) : Int :=
  doesT (Lib.trimPrefix op [58]) (if Lib.hasPrefix op [58] then set && !value.isEmpty else set) set
theorem does_ref (op value : List UInt8) (set : Bool) : doesF op value set = refDoes op value set := by
  unfold doesF refDoes
  cases op with
  | nil => cases set <;> cases value <;> simp [Lib.trimPrefix, Lib.hasPrefix, tab, doesT, List.isPrefixOf]
  | cons a t =>
    by_cases ha : a = 58
    · subst ha
      have h1 : Lib.hasPrefix (58 :: t) [58] = true := by simp [Lib.hasPrefix, List.isPrefixOf]
      have h2 : Lib.trimPrefix (58 :: t) [58] = t := by simp [Lib.trimPrefix, h1]
      rw [h1, h2]
      have e : ∀ x : List UInt8, ((58 :: t : List UInt8) == 58 :: x) = (t == x) := fun x => by simp
      have n1 : ((58 :: t : List UInt8) == [45]) = false := by simp
      have n2 : ((58 :: t : List UInt8) == [61]) = false := by simp
      have n3 : ((58 :: t : List UInt8) == [63]) = false := by simp
      have n4 : ((58 :: t : List UInt8) == [43]) = false := by simp
      simp only [doesT, tab, e, n1, n2, n3, n4, if_true]
      cases t == [45] <;> cases t == [61] <;> cases t == [63] <;> cases t == [43] <;> cases set <;> cases value.isEmpty <;> rfl
    · have h1 : Lib.hasPrefix (a :: t) [58] = false := by simp [Lib.hasPrefix, List.isPrefixOf, Ne.symm ha]
      have h2 : Lib.trimPrefix (a :: t) [58] = a :: t := by simp [Lib.trimPrefix, h1]
      rw [h1, h2]
      have n : ∀ x : List UInt8, ((a :: t : List UInt8) == 58 :: x) = false := fun x => by simp [ha]
      simp only [doesT, tab, n]
      cases (a :: t) == [45] <;> cases (a :: t) == [61] <;> cases (a :: t) == [63] <;> cases (a :: t) == [43] <;> cases set <;> cases value.isEmpty <;> rfl
theorem has_other (x : List UInt8) (hl : x.length = 1) (h1 : (x == [45]) = false) (h2 : (x == [61]) = false) (h3 : (x == [63]) = false) (h4 : (x == [43]) = false) : Lib.contains [45, 61, 63, 43] x = false := by
  match x, hl with
  | [c], _ =>
    simp at h1 h2 h3 h4
    simp [Lib.contains, Lib.index, List.isPrefixOf, h1, h2, h3, h4]
theorem has_lit (x : List UInt8) (h : x = [45] ∨ x = [61] ∨ x = [63] ∨ x = [43]) : Lib.contains [45, 61, 63, 43] x = true := by
  rcases h with rfl | rfl | rfl | rfl <;> decide
/-- Which operations cut: is it one, at the end, the longest. -/
def trimsF (op : List UInt8) : Bool × Bool × Bool :=
  if op == [37, 37] then (true, true, true) else if op == [35, 35] then (true, false, true) else if op == [37] then (true, true, false) else if op == [35] then (true, false, false) else (false, false, false)
/-- With a colon and without. -/
theorem does_colon (op : List UInt8) (ho : op = [45] ∨ op = [61] ∨ op = [63] ∨ op = [43]) (value : List UInt8) (set : Bool) : doesF (58 :: op) value set = doesF op value (set && !value.isEmpty) := by
  rcases ho with rfl | rfl | rfl | rfl <;> cases set <;> cases value <;> simp [doesF, doesT, Lib.trimPrefix, Lib.hasPrefix, List.isPrefixOf]
end Go.Proofs.YtmcaphmgjhkgfaaDoor
