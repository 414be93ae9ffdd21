/-
  DERIVED. A text's bytes as numbers: one at a place, all of them; what a cut, a sum, a trim of blanks leaves. No program in sight. Plain: how arith reads an expression, as a function of the bytes; fuel ahead of all, and how deep. Only what is read well: 'none' says nothing. No program in sight. Plain: how word reads a raw word as parts, as a function of the bytes; fuel ahead of all, and how deep. Only what is read well: 'none' says nothing. No program in sight. Plain laws on lists of bytes: what the code of param.Does and the document's table come to is one. No program in sight. Plain: what an Env is, and what parts come to in it (expand), as functions of the bytes. Only what the laws need: 'none' says nothing. No program in sight. Small lemmas that the walks of this seat share: what a world keeps below a block, a string of one byte made of a new slice. No program in sight. The walks of env's comparing: name.of, find's closure. The walk of slices.BinarySearchFunc at variables (two cells each), and of env's find.
-/
import Derived.Laws.Strings
import Derived.Lib.Strings
import Derived.Lib.SlTrimSet
import Derived.Lib.IndexMore
import Derived.WalkKit
import Derived.Laws.BytesArg
import Derived.Test.YtkmpbkhlcapbgaaGreatDoorProg
import Derived.Test.YtkmpbkhlcapbgaaGreatDoorShelf
import Derived.WalkSpells
import Derived.WalkLawsBesides
import Derived.Handy
import Derived.Deep.LoopGhost
import Derived.Lib.Hide
namespace Go.Proofs.YtkmpbkhlcapbgaaGreatDoor
open Go
/-- A text's byte at a place as a number; 0 behind its end. -/
def bt (s : ByteArray) (k : Nat) : Int := if h : k < s.size then ((s[k]'h).toNat : Int) else 0
theorem get_bt (s : ByteArray) : ∀ (n : Nat) (h : n < s.size), ((s[n]'h).toNat : Int) = bt s n := fun n h => by unfold bt; rw [dif_pos h]
theorem bt_nonneg (s : ByteArray) (k : Nat) : 0 ≤ bt s k := by unfold bt; split <;> omega
theorem bt_le (s : ByteArray) (k : Nat) : bt s k ≤ 255 := by
  unfold bt; split
  · have := (s[k]).toNat_lt; omega
  · omega
/-- A text's bytes as numbers. -/
def bl (s : ByteArray) : List Int := s.data.toList.map fun b => (b.toNat : Int)
theorem bl_length (s : ByteArray) : (bl s).length = s.size := by simp [bl]
theorem bl_get (s : ByteArray) (k : Nat) (h : k < s.size) : (bl s)[k]'(by rw [bl_length]; exact h) = bt s k := by
  unfold bt; rw [dif_pos h]; simp [bl]; rfl
theorem bl_extract (s : ByteArray) (a b : Nat) : bl (s.extract a b) = ((bl s).drop a).take (b - a) := by
  unfold bl; rw [Lib.extract_data, List.map_take, List.map_drop]
theorem bl_append (a b : ByteArray) : bl (a ++ b) = bl a ++ bl b := by simp [bl]
theorem bl_inj {a b : ByteArray} (h : bl a = bl b) : a = b := by
  have h2 : a.data.toList = b.data.toList := by
    unfold bl at h
    refine (List.map_inj_right ?_).1 h
    intro x y hxy
    have : x.toNat = y.toNat := by omega
    exact UInt8.toNat_inj.1 this
  rw [← Lib.mk_data a, ← Lib.mk_data b, h2]
theorem bl_drop (s : ByteArray) (k : Nat) (h : k < s.size) : (bl s).drop k = bt s k :: (bl s).drop (k + 1) := by
  rw [List.drop_eq_getElem_cons (by rw [bl_length]; exact h), bl_get s k h]
theorem toList_eq (a b : ByteArray) : (a.toList == b.toList) = decide (bl a = bl b) := by
  rw [Bool.eq_iff_iff, beq_iff_eq, decide_eq_true_eq, Lib.toList_data, Lib.toList_data]
  constructor
  · intro h; unfold bl; rw [h]
  · intro h; rw [bl_inj h]
theorem empty_iff (x : ByteArray) : x.toList.isEmpty = !decide (0 < x.size) := by
  rw [Lib.toList_data, Lib.size_eq]; cases x.data.toList <;> simp
theorem size_append (a b : ByteArray) : (a ++ b).size = a.size + b.size := by simp
/-! ### Blanks cut off at both ends -/
section
variable {α : Type} (p : α → Bool)
def cutR (l : List α) : List α := (l.reverse.dropWhile p).reverse
theorem cutR_cons (x : α) (t : List α) : cutR p (x :: t) = if (cutR p t).isEmpty then (if p x then [] else [x]) else x :: cutR p t := by
  unfold cutR
  rw [List.reverse_cons, List.dropWhile_append]
  cases h : (t.reverse.dropWhile p)
  · cases hx : p x <;> simp [hx]
  · simp
theorem cut_both : ∀ l : List α, (cutR p l).dropWhile p = cutR p (l.dropWhile p) := by
  intro l
  induction l with
  | nil => rfl
  | cons x t ih =>
    cases hx : p x
    · rw [List.dropWhile_cons_of_neg (by simp [hx])]
      rw [cutR_cons]
      split
      · simp [hx]
      · rw [List.dropWhile_cons_of_neg (by simp [hx])]
    · rw [List.dropWhile_cons_of_pos hx, ← ih, cutR_cons]
      split
      · rename_i h
        rw [List.isEmpty_iff] at h
        simp [h]
      · rw [List.dropWhile_cons_of_pos hx]
end
def blankU (c : UInt8) : Bool := [32, 9, 10].contains c
/-- A text without the blanks at its ends. -/
def trimB (s : ByteArray) : ByteArray := ⟨(Lib.trimS s.data.toList [32, 9, 10]).toArray⟩
theorem trimB_eq (s : ByteArray) : (trimB s).data.toList = cutR blankU (s.data.toList.dropWhile blankU) := by
  rw [← cut_both]; rfl
def blankB (c : Int) : Bool := c == 32 || c == 9 || c == 10
theorem blankU_eq (c : UInt8) : blankU c = blankB (c.toNat : Int) := by
  unfold blankU blankB
  rw [Bool.eq_iff_iff]
  simp only [List.contains_cons, List.contains_nil, Bool.or_false, Bool.or_eq_true, beq_iff_eq]
  have h : ∀ k : Nat, k < 256 → (c = UInt8.ofNat k ↔ (c.toNat : Int) = (k : Int)) := fun k hk => by
    constructor
    · intro e; rw [e, UInt8.toNat_ofNat_of_lt' (by simpa [UInt8.size] using hk)]
    · intro e
      refine UInt8.toNat_inj.1 ?_
      rw [UInt8.toNat_ofNat_of_lt' (by simpa [UInt8.size] using hk)]; omega
  have h1 := h 32 (by omega); have h2 := h 9 (by omega); have h3 := h 10 (by omega)
  constructor
  · rintro (e | e | e)
    · exact .inl (.inl (h1.1 e))
    · exact .inl (.inr (h2.1 e))
    · exact .inr (h3.1 e)
  · rintro ((e | e) | e)
    · exact .inl (h1.2 e)
    · exact .inr (.inl (h2.2 e))
    · exact .inr (.inr (h3.2 e))
/-! ### A text's number -/
def digitV (c : Int) : Int := if 48 ≤ c ∧ c ≤ 57 then c - 48 else if 97 ≤ c ∧ c ≤ 102 then c - 97 + 10 else if 65 ≤ c ∧ c ≤ 70 then c - 65 + 10 else 16
theorem digitV_range (c : Int) : 0 ≤ digitV c ∧ digitV c ≤ 16 := by unfold digitV; split <;> (try split) <;> (try split) <;> omega
/-- The greatest number of 64 bits. -/
def maxI : Int := 9223372036854775807
theorem maxI_eq : maxI = 9223372036854775807 := rfl
def digGo (base : Int) : List Int → Int → Option Int
  | [], n => some n
  | c :: r, n => if base ≤ digitV c ∨ (maxI - digitV c) / base < n then none else digGo base r (n * base + digitV c)
def baseF (s : ByteArray) : Int × Nat :=
  if 2 < s.size ∧ bt s 0 = 48 ∧ (bt s 1 = 120 ∨ bt s 1 = 88) then (16, 2) else if 1 < s.size ∧ bt s 0 = 48 then (8, 1) else (10, 0)
def digitsF (s : ByteArray) : Option Int := if s.size = 0 then none else digGo (baseF s).1 ((bl s).drop (baseF s).2) 0
def numberF (s : ByteArray) : Option Int :=
  if (trimB s).size = 0 then some 0
  else if bt (trimB s) 0 = 43 then digitsF ((trimB s).extract 1 (trimB s).size)
  else if bt (trimB s) 0 = 45 then (digitsF ((trimB s).extract 1 (trimB s).size)).map fun n => -n
  else digitsF (trimB s)
theorem digGo_range (base : Int) (hb : base = 8 ∨ base = 10 ∨ base = 16) : ∀ (l : List Int) (n r : Int), 0 ≤ n → n ≤ maxI → digGo base l n = some r → 0 ≤ r ∧ r ≤ maxI := by
  intro l
  induction l with
  | nil => intro n r h0 h1 h; cases h; exact ⟨h0, h1⟩
  | cons c l ih =>
    intro n r h0 h1 h
    have hd := digitV_range c
    simp only [digGo] at h
    split at h
    · cases h
    · rename_i hc
      refine ih _ _ ?_ ?_ h
      · rcases hb with rfl | rfl | rfl <;> omega
      · rw [maxI_eq] at hc ⊢
        rcases hb with rfl | rfl | rfl <;> omega
end Go.Proofs.YtkmpbkhlcapbgaaGreatDoor
namespace Go.Proofs.YtkmpbkhlcapbgaaGreatDoor
/-- An expression: a number, a name, or an operation with others. -/
inductive Tree where
  | num (n : Int)
  | var (name : List UInt8)
  | node (op : List UInt8) (kids : List Tree)
def signsL : List (List UInt8) := [[124, 124], [38, 38], [61, 61], [33, 61], [60, 61], [62, 61], [60, 60], [62, 62], [124], [94], [38], [60], [62], [43], [45], [42], [47], [37], [33], [126], [63], [58], [40], [41]]
def rowsL : List (List UInt8) := [[32, 124, 124, 32], [32, 38, 38, 32], [32, 124, 32], [32, 94, 32], [32, 38, 32], [32, 61, 61, 32, 33, 61, 32], [32, 60, 32, 60, 61, 32, 62, 32, 62, 61, 32], [32, 60, 60, 32, 62, 62, 32], [32, 43, 32, 45, 32], [32, 42, 32, 47, 32, 37, 32]]
def dropB (l : List UInt8) : List UInt8 := l.dropWhile blankU
/-- The sign that is next, behind blanks. -/
def signF (l : List UInt8) : List UInt8 := (signsL.find? fun s => s.isPrefixOf (dropB l)).getD []
/-- Whether it is this one; and what is left. -/
def passF (s l : List UInt8) : Bool × List UInt8 := if signF l = s then (true, (dropB l).drop s.length) else (false, dropB l)
/-- Whether a row has a sign. -/
def inRow (i : Nat) (s : List UInt8) : Bool := Lib.contains (rowsL.getD i []) ([32] ++ s ++ [32])
/-- A letter, or _; or a digit. -/
def letterU (c : UInt8) : Bool := (65 ≤ c.toNat && c.toNat ≤ 90) || (97 ≤ c.toNat && c.toNat ≤ 122) || c.toNat == 95
def wordU (c : UInt8) : Bool := letterU c || (48 ≤ c.toNat && c.toNat ≤ 57)
def longF (l : List UInt8) : Nat := (l.takeWhile wordU).length
def isName (l : List UInt8) : Bool := match l with
  | [] => false
  | c :: t => letterU c && t.all wordU
def nameF (l : List UInt8) : Option (Tree × List UInt8) := if isName (l.take (longF l)) then some (.var (l.take (longF l)), l.drop (longF l)) else none
def oneF (l : List UInt8) : Option (Tree × List UInt8) :=
  match dropB l with
  | 36 :: 123 :: t => match nameF t with
    | some (a, 125 :: u) => some (a, u)
    | _ => none
  | 36 :: t => nameF t
  | t => match digitsF ⟨(t.take (longF t)).toArray⟩ with
    | some x => some (.num x, t.drop (longF t))
    | none => nameF t
mutual
def anyF : Nat → Nat → List UInt8 → Option (Tree × List UInt8)
  | 0, _, _ => none
  | f + 1, d, l =>
    match rowF f d 0 l with
    | none => none
    | some (a, l1) =>
      match passF [63] l1 with
      | (false, l2) => some (a, l2)
      | (true, l2) =>
        if d = 40 then none else
        match anyF f (d + 1) l2 with
        | none => none
        | some (b, l3) =>
          match passF [58] l3 with
          | (false, _) => none
          | (true, l4) =>
            match anyF f (d + 1) l4 with
            | none => none
            | some (c, l5) => some (.node [63] [a, b, c], l5)
def rowF : Nat → Nat → Nat → List UInt8 → Option (Tree × List UInt8)
  | 0, _, _, _ => none
  | f + 1, d, i, l =>
    if i = 10 then aheadF f d l else
    match rowF f d (i + 1) l with
    | none => none
    | some (a, l1) => loopF f d i a l1
def loopF : Nat → Nat → Nat → Tree → List UInt8 → Option (Tree × List UInt8)
  | 0, _, _, _, _ => none
  | f + 1, d, i, a, l =>
    if signF l = [] ∨ inRow i (signF l) = false then some (a, dropB l) else
    match rowF f d (i + 1) ((dropB l).drop (signF l).length) with
    | none => none
    | some (b, l2) => loopF f d i (.node (signF l) [a, b]) l2
def aheadF : Nat → Nat → List UInt8 → Option (Tree × List UInt8)
  | 0, _, _ => none
  | f + 1, d, l =>
    if signF l = [33] ∨ signF l = [126] ∨ signF l = [43] ∨ signF l = [45] then
      if d = 40 then none else
      match aheadF f (d + 1) ((dropB l).drop 1) with
      | none => none
      | some (a, l1) => some (.node (signF l) [a], l1)
    else if signF l = [40] then
      if d = 40 then none else
      match anyF f (d + 1) ((dropB l).drop 1) with
      | none => none
      | some (a, l1) =>
        match passF [41] l1 with
        | (false, _) => none
        | (true, l2) => some (a, l2)
    else oneF l
end
/-- A whole expression. -/
def parseF (f : Nat) (l : List UInt8) : Option Tree :=
  match anyF f 0 l with
  | some (t, r) => if r.all blankU then some t else none
  | none => none
theorem parse_ex : (parseF 60 [49, 43, 50, 42, 51]).isSome = true := by decide +kernel
end Go.Proofs.YtkmpbkhlcapbgaaGreatDoor
namespace Go.Proofs.YtkmpbkhlcapbgaaGreatDoor
/-- A part of a word. -/
inductive PartT where
  | mk (kind : Nat) (text op : List UInt8) (quoted : Bool) (word : List PartT)
def PartT.kind : PartT → Nat | .mk k _ _ _ _ => k
def PartT.text : PartT → List UInt8 | .mk _ t _ _ _ => t
def PartT.op : PartT → List UInt8 | .mk _ _ o _ _ => o
def PartT.quoted : PartT → Bool | .mk _ _ _ q _ => q
def PartT.word : PartT → List PartT | .mk _ _ _ _ w => w
def PartT.with : PartT → Bool → PartT | .mk k t o _ w, q => .mk k t o q w
/-- A part put behind: Lits, and Quos, that stand behind each other are one. -/
def putF : List PartT → PartT → List PartT
  | [], p => [p]
  | [a], p => if p.kind ≤ 2 ∧ a.kind = p.kind then [.mk a.kind (a.text ++ p.text) a.op a.quoted a.word] else [a, p]
  | a :: b :: l, p => a :: putF (b :: l) p
def digU (c : UInt8) : Bool := 48 ≤ c.toNat && c.toNat ≤ 57
/-- How many bytes a parameter that is next has. -/
def wparF : List UInt8 → Nat
  | [] => 0
  | c :: t => if letterU c then longF (c :: t) else if digU c || [63, 35, 64, 42, 45].contains c then 1 else 0
/-- What is behind dollar and two parentheses. -/
def arithT : Nat → Int → List UInt8 → List UInt8 → Option (List UInt8 × List UInt8)
  | 0, _, _, _ => none
  | f + 1, deep, s, out =>
    if deep = 0 ∧ [41, 41].isPrefixOf s then some (out, s.drop 2) else
    match s with
    | [] => none
    | c :: t =>
      let d := deep + (if c = 40 then 1 else 0) - (if c = 41 then 1 else 0)
      if d < 0 then none else arithT f d t (out ++ [c])
def wopsL : List (List UInt8) := [[58, 45], [58, 61], [58, 63], [58, 43], [37, 37], [35, 35], [45], [61], [63], [43], [37], [35]]
mutual
def braceF : Nat → Nat → List UInt8 → Option (PartT × List UInt8)
  | 0, _, _ => none
  | f + 1, d, s =>
    if s.head? = some 35 then
      (if 0 < wparF s.tail ∧ (s.tail.drop (wparF s.tail)).head? = some 125 then
        some (.mk 3 (s.tail.take (wparF s.tail)) [108, 101, 110] false [], s.tail.drop (wparF s.tail + 1)) else none)
    else
      let n := max (wparF s) (s.takeWhile digU).length
      if n = 0 then none else
      let s2 := s.drop n
      if s2.head? = some 125 then some (.mk 3 (s.take n) [] false [], s2.tail) else
      match wopsL.find? fun o => o.isPrefixOf s2 with
      | none => none
      | some o => match untilF f (d + 1) [] (s2.drop o.length) with
        | none => none
        | some (l, r) => some (.mk 3 (s.take n) o false l, r)
/-- The parts of a brace's word. -/
def untilF : Nat → Nat → List PartT → List UInt8 → Option (List PartT × List UInt8)
  | 0, _, _, _ => none
  | f + 1, d, l, s => if s.head? = some 125 then some (l, s.tail) else match wpartF f d l s with
    | none => none
    | some (l2, s2) => untilF f d l2 s2
def dollarF : Nat → Nat → Bool → List PartT → List UInt8 → Option (List PartT × List UInt8)
  | 0, _, _, _, _ => none
  | f + 1, d, q, l, s =>
    if s.tail.head? = some 123 then
      if d = 8 then none else match braceF f d s.tail.tail with
      | none => none
      | some (p, r) => some (putF l (p.with q), r)
    else if [40, 40].isPrefixOf s.tail then match arithT (s.length + 1) 0 (s.tail.drop 2) [] with
      | none => none
      | some (t, r) => some (putF l (.mk 4 t [] q []), r)
    else if s.tail.head? = some 40 then none
    else if 0 < wparF s.tail then some (putF l (.mk 3 (s.tail.take (wparF s.tail)) [] q []), s.tail.drop (wparF s.tail))
    else some (putF l (.mk (if q then 2 else 1) [36] [] false []), s.tail)
/-- What is next in a quoted part, in which some bytes are escaped. -/
def innerF : Nat → Nat → List UInt8 → List PartT → List UInt8 → Option (List PartT × List UInt8)
  | 0, _, _, _, _ => none
  | f + 1, d, esc, l, s =>
    match s with
    | [] => none
    | 36 :: _ => dollarF f d true l s
    | 96 :: _ => none
    | 92 :: c :: t => some (putF l (.mk 2 (if esc.contains c then [c] else [92, c]) [] false []), t)
    | 92 :: [] => none
    | c :: t => some (putF l (.mk 2 [c] [] false []), t)
def quoteF : Nat → Nat → List PartT → List UInt8 → Option (List PartT × List UInt8)
  | 0, _, _, _ => none
  | f + 1, d, l, s => if s.head? = some 34 then some (l, s.tail) else match innerF f d [36, 96, 34, 92] l s with
    | none => none
    | some (l2, s2) => quoteF f d l2 s2
def wpartF : Nat → Nat → List PartT → List UInt8 → Option (List PartT × List UInt8)
  | 0, _, _, _ => none
  | f + 1, d, l, s =>
    match s with
    | [] => none
    | 92 :: c :: t => some (putF l (.mk 2 [c] [] false []), t)
    | 92 :: [] => none
    | 39 :: t => if (39 : UInt8) ∈ t then some (putF l (.mk 2 (t.takeWhile (· != 39)) [] false []), (t.dropWhile (· != 39)).tail) else none
    | 34 :: t => quoteF f d (if t.head? = some 34 then putF l (.mk 2 [] [] false []) else l) t
    | 36 :: _ => dollarF f d false l s
    | 96 :: _ => none
    | c :: t => some (putF l (.mk 1 [c] [] false []), t)
end
def allF : Nat → List PartT → List UInt8 → Option (List PartT)
  | 0, _, _ => none
  | f + 1, l, s => if s = [] then some l else match wpartF f 0 l s with
    | none => none
    | some (l2, s2) => allF f l2 s2
/-- A whole raw word. -/
def wordF (f : Nat) (s : List UInt8) : Option (List PartT) :=
  if s = [126] ∨ [126, 47].isPrefixOf s then allF f [.mk 5 [] [] false []] s.tail else allF f [] s
theorem word_ex : (wordF 60 [36, 123, 121, 58, 61, 49, 125, 36, 121]).map List.length = some 2 := by decide +kernel
theorem word_ex2 : (wordF 60 [34, 36, 120, 34]).map List.length = some 1 := by decide +kernel
end Go.Proofs.YtkmpbkhlcapbgaaGreatDoor
namespace Go.Proofs.YtkmpbkhlcapbgaaGreatDoor
open Go
/-- By the name behind the colon: is it there, is it set. -/
def doesT (name : List UInt8) (there set : Bool) : Int :=
  if name == [45] then (if there then 1 else 2) else if name == [61] then (if there then 1 else 3) else if name == [63] then (if there then 1 else 4)
  else if name == [43] then (if there then 2 else 5) else if set then 1 else 5
/-- The document's table: a row (with a value, empty, not set) by the operation. -/
def tab (op : List UInt8) : Int × Int × Int :=
  if op == [58, 45] then (1, 2, 2) else if op == [45] then (1, 1, 2) else if op == [58, 61] then (1, 3, 3) else if op == [61] then (1, 1, 3)
  else if op == [58, 63] then (1, 4, 4) else if op == [63] then (1, 1, 4) else if op == [58, 43] then (2, 5, 5) else if op == [43] then (2, 2, 5) else (1, 1, 5)
def refDoes (op : List UInt8) (value : List UInt8) (set : Bool) : Int :=
  if set then (if value.isEmpty then (tab op).2.1 else (tab op).1) else (tab op).2.2
def doesP (op value : List UInt8) (set : Bool) : Int :=
  doesT (Lib.trimPrefix op [58]) (if Lib.hasPrefix op [58] then set && !value.isEmpty else set) set
theorem doesP_ref (op value : List UInt8) (set : Bool) : doesP op value set = refDoes op value set := by
  unfold doesP refDoes
  cases op with
  | nil => cases set <;> cases value <;> simp [Lib.trimPrefix, Lib.hasPrefix, tab, doesT, List.isPrefixOf]
  | cons a t =>
    by_cases ha : a = 58
    · subst ha
      have h1 : Lib.hasPrefix (58 :: t) [58] = true := by simp [Lib.hasPrefix, List.isPrefixOf]
      have h2 : Lib.trimPrefix (58 :: t) [58] = t := by simp [Lib.trimPrefix, h1]
      rw [h1, h2]
      have e : ∀ x : List UInt8, ((58 :: t : List UInt8) == 58 :: x) = (t == x) := fun x => by simp
      have n1 : ((58 :: t : List UInt8) == [45]) = false := by simp
      have n2 : ((58 :: t : List UInt8) == [61]) = false := by simp
      have n3 : ((58 :: t : List UInt8) == [63]) = false := by simp
      have n4 : ((58 :: t : List UInt8) == [43]) = false := by simp
      simp only [doesT, tab, e, n1, n2, n3, n4, if_true]
      cases t == [45] <;> cases t == [61] <;> cases t == [63] <;> cases t == [43] <;> cases set <;> cases value.isEmpty <;> rfl
    · have h1 : Lib.hasPrefix (a :: t) [58] = false := by simp [Lib.hasPrefix, List.isPrefixOf, Ne.symm ha]
      have h2 : Lib.trimPrefix (a :: t) [58] = a :: t := by simp [Lib.trimPrefix, h1]
      rw [h1, h2]
      have n : ∀ x : List UInt8, ((a :: t : List UInt8) == 58 :: x) = false := fun x => by simp [ha]
      simp only [doesT, tab, n]
      cases (a :: t) == [45] <;> cases (a :: t) == [61] <;> cases (a :: t) == [63] <;> cases (a :: t) == [43] <;> cases set <;> cases value.isEmpty <;> rfl
theorem has_other (x : List UInt8) (hl : x.length = 1) (h1 : (x == [45]) = false) (h2 : (x == [61]) = false) (h3 : (x == [63]) = false) (h4 : (x == [43]) = false) : Lib.contains [45, 61, 63, 43] x = false := by
  match x, hl with
  | [c], _ =>
    simp at h1 h2 h3 h4
    simp [Lib.contains, Lib.index, List.isPrefixOf, h1, h2, h3, h4]
theorem has_lit (x : List UInt8) (h : x = [45] ∨ x = [61] ∨ x = [63] ∨ x = [43]) : Lib.contains [45, 61, 63, 43] x = true := by
  rcases h with rfl | rfl | rfl | rfl <;> decide
/-- Which operations cut: is it one, at the end, the longest. -/
def trimsF (op : List UInt8) : Bool × Bool × Bool :=
  if op == [37, 37] then (true, true, true) else if op == [35, 35] then (true, false, true) else if op == [37] then (true, true, false) else if op == [35] then (true, false, false) else (false, false, false)
/-- With a colon and without. -/
theorem does_colon (op : List UInt8) (ho : op = [45] ∨ op = [61] ∨ op = [63] ∨ op = [43]) (value : List UInt8) (set : Bool) : doesP (58 :: op) value set = doesP op value (set && !value.isEmpty) := by
  rcases ho with rfl | rfl | rfl | rfl <;> cases set <;> cases value <;> simp [doesP, doesT, Lib.trimPrefix, Lib.hasPrefix, List.isPrefixOf]
end Go.Proofs.YtkmpbkhlcapbgaaGreatDoor
namespace Go.Proofs.YtkmpbkhlcapbgaaGreatDoor
/-- An Env: variables, arguments, status, flags. -/
structure EnvT where
  vars : List (List UInt8 × List UInt8)
  args : List (List UInt8)
  status : Int
  flags : List UInt8
def ltL : List UInt8 → List UInt8 → Bool
  | [], [] => false
  | [], _ :: _ => true
  | _ :: _, [] => false
  | a :: s, b :: t => if a.toNat < b.toNat then true else if b.toNat < a.toNat then false else ltL s t
/-- Where a name is, or should be. -/
def lowF (vars : List (List UInt8 × List UInt8)) (s : List UInt8) : Nat := (vars.takeWhile fun p => ltL p.1 s).length
def findF (vars : List (List UInt8 × List UInt8)) (s : List UInt8) : Nat × Bool := (lowF vars s, ((vars.drop (lowF vars s)).head?.map fun p => p.1 == s).getD false)
def unsetV (vars : List (List UInt8 × List UInt8)) (s : List UInt8) : List (List UInt8 × List UInt8) := if (findF vars s).2 then vars.take (lowF vars s) ++ vars.drop (lowF vars s + 1) else vars
def setV (vars : List (List UInt8 × List UInt8)) (s v : List UInt8) : List (List UInt8 × List UInt8) := (unsetV vars s).take (lowF (unsetV vars s) s) ++ (s, v) :: (unsetV vars s).drop (lowF (unsetV vars s) s)
def EnvT.set (e : EnvT) (s v : List UInt8) : EnvT := if isName s then { e with vars := setV e.vars s v } else e
def EnvT.unset (e : EnvT) (s : List UInt8) : EnvT := { e with vars := unsetV e.vars s }
/-- A name's value. -/
def EnvT.get (e : EnvT) (s : List UInt8) : Option (List UInt8) := if (findF e.vars s).2 then (e.vars.drop (lowF e.vars s)).head?.map (·.2) else none
def EnvT.has (e : EnvT) (c : UInt8) : Bool := e.flags.contains c
def EnvT.flag (e : EnvT) (c : UInt8) (on : Bool) : EnvT := { e with flags := [101, 102, 117, 120].filter fun f => (f == c && on) || (f != c && e.has f) }
def EnvT.ifs (e : EnvT) : List UInt8 := (e.get [73, 70, 83]).getD [32, 9, 10]
/-- A row: bytes, and what each one is. -/
abbrev RowT := List UInt8 × List UInt8
def joinR (a b : RowT) : RowT := (a.1 ++ b.1, a.2 ++ b.2)
def ofR (s : List UInt8) (c : UInt8) : RowT := (s, List.replicate s.length c)
def putR (r : RowT) (s : List UInt8) (c : UInt8) : RowT := joinR r (if s = [] ∧ c = 113 then ([0], [101]) else ofR s c)
def sortC (q : Bool) : UInt8 := if q then 113 else 115
/-- A row without its nothings. -/
def bareR (r : RowT) : RowT := ((r.1.zip r.2).filter fun p => p.2 != 101).unzip
def flatR (r : RowT) : List UInt8 := (bareR r).1
/-- What parts come to: a row, in an Env; or why they can't. -/
inductive ExT where
  | ok (e : EnvT) (r : RowT)
  | fault (n : Int) (text : List UInt8)
def argsR : RowT → Bool → List (List UInt8) → Bool → RowT
  | r, _, [], _ => r
  | r, q, a :: l, first => argsR (putR (if first then r else putR r [32] 98) a (sortC q)) q l false
/-- What is asked of other chapters: what an expression comes to (a number's text, or an error); a value without what a pattern cuts off; a value's length, as a text. 'none' says nothing. -/
structure Par where
  ev : EnvT → List UInt8 → Option (List UInt8 ⊕ Int)
  cut : List UInt8 → RowT → List UInt8 → Option (List UInt8)
  len : List UInt8 → Option (List UInt8)
/-- A row that is not too long, with variables that are not too many. -/
def keepR (e : EnvT) (r : RowT) : Option ExT := if r.1.length ≤ 1000000 ∧ e.vars.length ≤ 1000000 then some (.ok e r) else none
def aloneL : List (List UInt8) := [[45], [61], [63], [43], [58, 45], [58, 61], [58, 63], [58, 43]]
def some2 (m : List UInt8) : List UInt8 := m.map fun c => if c = 108 then 115 else c
section
variable (P : Par)
mutual
def partE : Nat → EnvT → RowT → PartT → Option ExT
  | 0, _, _, _ => none
  | f + 1, e, r, .mk k t op q wd =>
    if k = 1 then keepR e (putR r t 108)
    else if k = 2 then keepR e (putR r t 113)
    else if k = 5 then keepR e (match e.get [72, 79, 77, 69] with | some h => putR r h 113 | none => putR r [126] 108)
    else if k = 4 then (match P.ev e t with
      | none => none
      | some (.inl s) => keepR e (putR r s (sortC q))
      | some (.inr x) => some (.fault x t))
    else if k = 3 then
      if op = [] ∧ (t = [64] ∨ (t = [42] ∧ q = false)) then keepR e (argsR r q e.args true)
      else if isName t = false then none
      else
        if (e.get t).isSome = false ∧ e.has 117 = true ∧ op ∉ aloneL then some (.fault 23 t)
        else if op = [108, 101, 110] then (match P.len ((e.get t).getD []) with
          | none => none
          | some s => keepR e (putR r s (sortC q)))
        else if doesP op ((e.get t).getD []) (e.get t).isSome = 1 then
          if (trimsF op).1 then (match partsE f e ([], []) wd with
            | some (.ok e2 r2) => (match P.cut op (bareR r2) ((e.get t).getD []) with
              | none => none
              | some s => keepR e2 (putR r s (sortC q)))
            | x => x)
          else keepR e (putR r ((e.get t).getD []) (sortC q))
        else if doesP op ((e.get t).getD []) (e.get t).isSome = 2 then (match partsE f e ([], []) wd with
          | some (.ok e2 r2) => keepR e2 (if q then putR r (flatR r2) 113 else joinR r (r2.1, some2 r2.2))
          | x => x)
        else if doesP op ((e.get t).getD []) (e.get t).isSome = 3 then (match partsE f e ([], []) wd with
          | some (.ok e2 r2) => keepR (e2.set t (flatR r2)) (putR r (flatR r2) (sortC q))
          | x => x)
        else if doesP op ((e.get t).getD []) (e.get t).isSome = 4 then some (.fault 23 t)
        else keepR e (putR r [] (sortC q))
    else none
def partsE : Nat → EnvT → RowT → List PartT → Option ExT
  | 0, _, _, _ => none
  | _ + 1, e, r, [] => some (.ok e r)
  | f + 1, e, r, p :: l => match partE f e r p with
    | some (.ok e2 r2) => partsE f e2 r2 l
    | x => x
end
end
/-! ### Fields -/
/-- A row's fields, while it is split: the ended ones, the one that is begun, whether it is, whether the last one was ended by a blank. -/
structure FieldsT where
  l : List RowT
  now : RowT
  begun : Bool
  blank : Bool
def FieldsT.stop (f : FieldsT) (blank : Bool) : FieldsT := ⟨if f.begun then f.l ++ [f.now] else f.l, ([], []), false, blank⟩
def FieldsT.sep (f : FieldsT) (blank : Bool) : FieldsT :=
  if blank && !f.begun then f else if !blank && !f.begun && !f.blank then ({ f with begun := true } : FieldsT).stop false else f.stop blank
def FieldsT.take (ifs : List UInt8) (f : FieldsT) (c : UInt8 × UInt8) : FieldsT :=
  if c.2 == 115 && ifs.contains c.1 then f.sep ([32, 9, 10].contains c.1) else if c.2 == 98 then f.stop false
  else ⟨f.l, if c.2 == 101 then f.now else (f.now.1 ++ [c.1], f.now.2 ++ [c.2]), true, false⟩
def splitR (r : RowT) (ifs : List UInt8) : List RowT := (((r.1.zip r.2).foldl (FieldsT.take ifs) ⟨[], ([], []), false, false⟩).stop false).l
end Go.Proofs.YtkmpbkhlcapbgaaGreatDoor
namespace Go.Proofs.YtkmpbkhlcapbgaaGreatDoor
open Go.RowKit
theorem bcell {W w1 : World} (hb : Below W.heap.size W w1) : (∀ b o, b < W.heap.size → w1.cell? ⟨b, o, none⟩ = W.cell? ⟨b, o, none⟩) ∧ (∀ b o, b < W.heap.size → w1.frozen? ⟨b, o, none⟩ = W.frozen? ⟨b, o, none⟩) :=
  ⟨fun b o h => hb.cell (p := ⟨b, o, none⟩) h, fun b o h => hb.frozen (p := ⟨b, o, none⟩) h⟩
/-- 'string(b)' of a slice of one byte. -/
theorem run_str1 {P : Program} {src dst e : TypeId} (hs : P.underlying src = some (.slice e)) (he : P.underlying e = some (.int .u8)) (hd : P.underlying dst = some .string) (w : World) (b cap : Nat) (x : Int)
    (hc : w.cell? ⟨b, 0, none⟩ = some (.int .u8 x)) :
    Sem.run P (convert src dst (.slice (some ⟨b, 0, none⟩) 1 cap)) w = .ok (.string ⟨[UInt8.ofNat x.toNat].toArray⟩) w := by
  have := run_convert_bytes_arg (P := P) w src e hs he b 0 1 cap [x] rfl (fun i hi => by
    obtain rfl : i = 0 := by omega
    simpa using hc) dst hd
  rw [this]
  rfl
/-- Behind a call that leaves what lay below its own beginning. -/
theorem below_call {w w0 w1 : World} (hb : Below w0.heap.size w0 w1) (h : Below w.heap.size w w0) : Below w.heap.size w w1 := h.trans (hb.mono h.size)
theorem below_call_alloc {w w0 w1 : World} (hb : Below w0.heap.size w0 w1) (h : Below w.heap.size w w0) (o : Obj) : Below w.heap.size w (w1.alloc o) := (below_call hb h).alloc (Nat.le_trans h.size hb.size) o
theorem mk_append (a b : List UInt8) : ((⟨a.toArray⟩ : ByteArray) ++ (⟨b.toArray⟩ : ByteArray)) = ⟨(a ++ b).toArray⟩ := by
  apply ByteArray.ext
  simp
theorem ret_str {a b : List UInt8} (h : a = b) : Ending.returned (.string ⟨a.toArray⟩) = .returned (.string ⟨b.toArray⟩) := by rw [h]
theorem ret_int {k : IntKind} {a b : Int} (h : a = b) : Ending.returned (.int k a) = .returned (.int k b) := by rw [h]
end Go.Proofs.YtkmpbkhlcapbgaaGreatDoor
namespace Go.Proofs.YtkmpbkhlcapbgaaGreatDoor
open Go.RowKit
/-- How a variable's name stands to a name. -/
def cmpV (n s : List UInt8) : Int := -(Lib.compareBytes s n)
theorem cmp3 : ∀ a b : List UInt8, Lib.compareBytes a b = -1 ∨ Lib.compareBytes a b = 0 ∨ Lib.compareBytes a b = 1
  | [], [] => by simp [Lib.compareBytes]
  | [], _ :: _ => by simp [Lib.compareBytes]
  | _ :: _, [] => by simp [Lib.compareBytes]
  | x :: a, y :: b => by
    have := cmp3 a b
    unfold Lib.compareBytes
    repeat' split
    all_goals first | exact this | simp
set_option maxRecDepth 100000 in
set_option maxHeartbeats 4000000 in
theorem of_any (s n x : ByteArray) (w : World) :
    Calls Tryz.prog 53 #[.string s, .agg #[.string n, .string x]] w fun e w' => e = .returned (.int .i64 (cmpV n.data.toList s.data.toList)) ∧ Below w.heap.size w w' := by
  have h1 : Lib.compareBytes s.data.toList n.data.toList = -1 ∨ Lib.compareBytes s.data.toList n.data.toList = 0 ∨ Lib.compareBytes s.data.toList n.data.toList = 1 := by
    exact cmp3 _ _
  have HC := Lib.hid (fun w => Tryz.strings_Compare s n w)
  obtain ⟨c, hc⟩ : ∃ c : Int, Lib.compareBytes s.data.toList n.data.toList = c := ⟨_, rfl⟩
  have hv : cmpV n.data.toList s.data.toList = -c := by rw [cmpV, hc]
  rw [hc] at h1 HC
  rw [hv]
  clear hc hv
  go_enter Tryz.func53, Tryz.ntmps53
  go_wp2_with fail
  refine (HC.out _).mono ?_; rintro e w1 ⟨rfl, hw⟩; subst hw
  rcases h1 with rfl | rfl | rfl <;>
  · go_wp2_with fail
    go_ret
    exact ⟨rfl, (Below.refl _ _).alloc (Nat.le_refl _) _⟩
set_option maxRecDepth 100000 in
set_option maxHeartbeats 4000000 in
theorem find1_any (s n x : ByteArray) (b : Nat) (w : World) (hb : w.cell? ⟨b, 0, none⟩ = some (.func (.func 53) #[] #[])) :
    Calls Tryz.prog 55 #[.agg #[.string n, .string x], .string s, .pointer (some ⟨b, 0, none⟩)] w fun e w' => e = .returned (.int .i64 (cmpV n.data.toList s.data.toList)) ∧ Below w.heap.size w w' := by
  have HC := Lib.hid (fun w => of_any s n x w)
  have lb := block_lt_of_cell hb
  go_enter Tryz.func55, Tryz.ntmps55
  go_wp2_with fail
  refine (HC.out _).mono ?_; rintro e w1 ⟨rfl, hw⟩
  have hB := below_call hw ((Below.refl w.heap.size w).alloc (Nat.le_refl _) _)
  go_wp2_with fail
  go_ret
  exact ⟨rfl, hB⟩
end Go.Proofs.YtkmpbkhlcapbgaaGreatDoor
namespace Go.Proofs.YtkmpbkhlcapbgaaGreatDoor
open Go.RowKit
/-- Variables in memory. -/
def CellsV (w : World) (b off : Nat) (l : List (ByteArray × ByteArray)) : Prop := ∀ i (h : i < l.length), w.cell? ⟨b, off + i * 2, none⟩ = some (.string l[i].1) ∧ w.cell? ⟨b, off + i * 2 + 1, none⟩ = some (.string l[i].2)
/-- 'cnt' variables lie ahead of the name; whether the next one is it. -/
structure LowAt (l : List (ByteArray × ByteArray)) (s : ByteArray) (cnt : Nat) (fnd : Bool) : Prop where
  le : cnt ≤ l.length
  lo : ∀ t (h : t < l.length), t < cnt → cmpV l[t].1.data.toList s.data.toList < 0
  hi : ∀ t (h : t < l.length), cnt ≤ t → 0 ≤ cmpV l[t].1.data.toList s.data.toList
  is : ∀ h : cnt < l.length, fnd = decide (cmpV l[cnt].1.data.toList s.data.toList = 0)
  no : cnt = l.length → fnd = false
set_option maxRecDepth 100000 in
set_option maxHeartbeats 8000000 in
theorem bsf_any (s : ByteArray) (l : List (ByteArray × ByteArray)) (b off cap : Nat) (hcap : l.length ≤ cap) (hn : l.length ≤ 1000000000) (cnt : Nat) (fnd : Bool) (hl : LowAt l s cnt fnd) (B : Nat) (w : World) (hc : CellsV w b off l)
    (hb : w.cell? ⟨B, 0, none⟩ = some (.func (.func 53) #[] #[])) :
    Calls Tryz.prog 54 #[.slice (some ⟨b, off, none⟩) l.length cap, .string s, .func (.func 55) #[] #[.pointer (some ⟨B, 0, none⟩)]] w fun e w' =>
      e = .returned (.tuple #[.int .i64 (cnt : Nat), .bool fnd]) ∧ Below w.heap.size w w' := by
  have HC := Lib.hid hc
  have HL := Lib.hid hl
  have HB := Lib.hid hb
  have lB := block_lt_of_cell hb
  obtain ⟨N, hN⟩ : ∃ N, l.length = N := ⟨_, rfl⟩
  rw [hN] at hcap hn
  have HN := Lib.hid hN
  rw [hN]
  have hcap' : (N : Int) ≤ (cap : Int) := by omega
  have hnb : (N : Int) ≤ 1000000000 := by omega
  have hle : cnt ≤ N := hN ▸ hl.le
  clear hc hl hb hN hcap
  have HF : Hid (∀ (n x : ByteArray) (W : World), Below w.heap.size w W → Calls Tryz.prog 55 #[.agg #[.string n, .string x], .string s, .pointer (some ⟨B, 0, none⟩)] W fun e w' => e = .returned (.int .i64 (cmpV n.data.toList s.data.toList)) ∧ Below W.heap.size W w') :=
    fun n x W hW => find1_any s n x B W ((hW.cell lB).trans HB.out)
  clear HB
  go_enter Tryz.func54, Tryz.ntmps54
  go_wp2_with fail
  go_loopg [9, 10] N (fun gk s9 s10 wx => Below w.heap.size w wx ∧ ∃ lo hi : Nat, s9 = .int .i64 lo ∧ s10 = .int .i64 hi ∧ lo ≤ cnt ∧ cnt ≤ hi ∧ hi ≤ N ∧ hi - lo ≤ gk)
  case atStart => exact ⟨Below.refl _ _, 0, N, rfl, rfl, by omega, by omega, by omega, by omega⟩
  case round =>
    obtain ⟨hW, lo, hi, rfl, rfl, h1, h2, h3, h4⟩ := hrel
    by_cases hlt : lo < hi
    · obtain ⟨m, hm⟩ : ∃ m, (lo + hi) / 2 = m := ⟨_, rfl⟩
      have hmN : m < l.length := by rw [HN.out]; omega
      obtain ⟨n, hnn⟩ : ∃ n, l[m].1 = n := ⟨_, rfl⟩
      obtain ⟨x, hxx⟩ : ∃ x, l[m].2 = x := ⟨_, rfl⟩
      have hcl := HC.out m hmN
      rw [hnn, hxx] at hcl
      have c0 : wr.cell? ⟨b, off + m * 2, none⟩ = some (.string n) := (hW.cell (block_lt_of_cell hcl.1)).trans hcl.1
      have c1 : wr.cell? ⟨b, off + m * 2 + 1, none⟩ = some (.string x) := (hW.cell (block_lt_of_cell hcl.2)).trans hcl.2
      have hlo : m < cnt → cmpV n.data.toList s.data.toList < 0 := fun h => hnn ▸ HL.out.lo m hmN h
      have hhi : cnt ≤ m → 0 ≤ cmpV n.data.toList s.data.toList := fun h => hnn ▸ HL.out.hi m hmN h
      obtain ⟨c, hcv⟩ : ∃ c, cmpV n.data.toList s.data.toList = c := ⟨_, rfl⟩
      have hF := HF.out n x wr hW
      rw [hcv] at hF hlo hhi
      have HF1 := Lib.hid hF
      have HLO := Lib.hid hlo
      have HHI := Lib.hid hhi
      have HM := Lib.hid hm
      have hmi : ((lo : Int) + (hi : Int)) / 2 = (m : Int) := by omega
      have hm2 : (m : Int) < (N : Int) := by have := HN.out; omega
      clear hcl hnn hxx hcv hF hlo hhi hm hmN
      by_cases hneg : c < 0
      · go_wp2_with fail
        refine (HF1.out).mono ?_; rintro e w1 ⟨rfl, k1⟩
        have K := below_call k1 hW
        go_wp2_with fail
        go_roundg (hi - (m + 1))
        case measure => have := HM.out; omega
        case rel => exact ⟨K, m + 1, hi, by simp, rfl, by have := HHI.out; omega, h2, h3, Nat.le_refl _⟩
      · go_wp2_with fail
        refine (HF1.out).mono ?_; rintro e w1 ⟨rfl, k1⟩
        have K := below_call k1 hW
        go_wp2_with fail
        go_roundg (m - lo)
        case measure => have := HM.out; omega
        case rel => exact ⟨K, lo, m, rfl, rfl, h1, by have := HLO.out; omega, by omega, Nat.le_refl _⟩
    · obtain rfl : hi = lo := by omega
      obtain rfl : cnt = hi := by omega
      by_cases hlast : cnt < N
      · have hmN : cnt < l.length := by rw [HN.out]; omega
        obtain ⟨n, hnn⟩ : ∃ n, l[cnt].1 = n := ⟨_, rfl⟩
        obtain ⟨x, hxx⟩ : ∃ x, l[cnt].2 = x := ⟨_, rfl⟩
        have hcl := HC.out cnt hmN
        rw [hnn, hxx] at hcl
        have c0 : wr.cell? ⟨b, off + cnt * 2, none⟩ = some (.string n) := (hW.cell (block_lt_of_cell hcl.1)).trans hcl.1
        have c1 : wr.cell? ⟨b, off + cnt * 2 + 1, none⟩ = some (.string x) := (hW.cell (block_lt_of_cell hcl.2)).trans hcl.2
        have hfn := HL.out.is hmN
        rw [hnn] at hfn
        obtain ⟨c, hcv⟩ : ∃ c, cmpV n.data.toList s.data.toList = c := ⟨_, rfl⟩
        have hF := HF.out n x wr hW
        rw [hcv] at hF hfn
        have HF1 := Lib.hid hF
        have HFN := Lib.hid hfn
        clear hcl hnn hxx hcv hF hfn hmN
        by_cases hz : c = 0
        · subst hz
          go_wp2_with fail
          refine (HF1.out).mono ?_; rintro e w1 ⟨rfl, k1⟩
          have K := below_call k1 hW
          go_wp2_with fail
          go_ret2
          exact ⟨by rw [HFN.out]; simp, K⟩
        · go_wp2_with fail
          refine (HF1.out).mono ?_; rintro e w1 ⟨rfl, k1⟩
          have K := below_call k1 hW
          go_wp2_with fail
          go_ret2
          exact ⟨by rw [HFN.out]; simp [hz], K⟩
      · have HNO := Lib.hid (HL.out.no (by rw [HN.out]; omega))
        go_wp2_with fail
        go_ret2
        exact ⟨by rw [HNO.out]; simp, hW⟩
end Go.Proofs.YtkmpbkhlcapbgaaGreatDoor
