/-
  DERIVED. Plain: what an Env is, and what parts come to in it (expand), as functions of the bytes. Only what the laws need: 'none' says nothing. No program in sight. Small lemmas that the walks of this seat share: what a world keeps below a block, a string of one byte made of a new slice. No program in sight. The walks of env's comparing: name.of, find's closure.
-/
import Derived.Test.YtkmpbkhlcapbgaaGreatDoorZ01
import Derived.WalkKit
import Derived.Laws.BytesArg
import Derived.Test.YtkmpbkhlcapbgaaGreatDoorProg
import Derived.Test.YtkmpbkhlcapbgaaGreatDoorShelf
import Derived.WalkSpells
import Derived.WalkLawsBesides
import Derived.Handy
import Derived.Deep.LoopGhost
namespace Go.Proofs.YtkmpbkhlcapbgaaGreatDoor
/-- An Env: variables, arguments, status, flags. -/
structure EnvT where
  vars : List (List UInt8 × List UInt8)
  args : List (List UInt8)
  status : Int
  flags : List UInt8
def ltL : List UInt8 → List UInt8 → Bool
  | [], [] => false
  | [], _ :: _ => true
  | _ :: _, [] => false
  | a :: s, b :: t => if a.toNat < b.toNat then true else if b.toNat < a.toNat then false else ltL s t
/-- Where a name is, or should be. -/
def lowF (vars : List (List UInt8 × List UInt8)) (s : List UInt8) : Nat := (vars.takeWhile fun p => ltL p.1 s).length
def findF (vars : List (List UInt8 × List UInt8)) (s : List UInt8) : Nat × Bool := (lowF vars s, ((vars.drop (lowF vars s)).head?.map fun p => p.1 == s).getD false)
def unsetV (vars : List (List UInt8 × List UInt8)) (s : List UInt8) : List (List UInt8 × List UInt8) := if (findF vars s).2 then vars.take (lowF vars s) ++ vars.drop (lowF vars s + 1) else vars
def setV (vars : List (List UInt8 × List UInt8)) (s v : List UInt8) : List (List UInt8 × List UInt8) := (unsetV vars s).take (lowF (unsetV vars s) s) ++ (s, v) :: (unsetV vars s).drop (lowF (unsetV vars s) s)
def EnvT.set (e : EnvT) (s v : List UInt8) : EnvT := if isName s then { e with vars := setV e.vars s v } else e
def EnvT.unset (e : EnvT) (s : List UInt8) : EnvT := { e with vars := unsetV e.vars s }
/-- A name's value. -/
def EnvT.get (e : EnvT) (s : List UInt8) : Option (List UInt8) := if (findF e.vars s).2 then (e.vars.drop (lowF e.vars s)).head?.map (·.2) else none
def EnvT.has (e : EnvT) (c : UInt8) : Bool := e.flags.contains c
def EnvT.flag (e : EnvT) (c : UInt8) (on : Bool) : EnvT := { e with flags := [101, 102, 117, 120].filter fun f => (f == c && on) || (f != c && e.has f) }
def EnvT.ifs (e : EnvT) : List UInt8 := (e.get [73, 70, 83]).getD [32, 9, 10]
/-- A row: bytes, and what each one is. -/
abbrev RowT := List UInt8 × List UInt8
def joinR (a b : RowT) : RowT := (a.1 ++ b.1, a.2 ++ b.2)
def ofR (s : List UInt8) (c : UInt8) : RowT := (s, List.replicate s.length c)
def putR (r : RowT) (s : List UInt8) (c : UInt8) : RowT := joinR r (if s = [] ∧ c = 113 then ([0], [101]) else ofR s c)
def sortC (q : Bool) : UInt8 := if q then 113 else 115
/-- A row without its nothings. -/
def bareR (r : RowT) : RowT := ((r.1.zip r.2).filter fun p => p.2 != 101).unzip
def flatR (r : RowT) : List UInt8 := (bareR r).1
/-- What parts come to: a row, in an Env; or why they can't. -/
inductive ExT where
  | ok (e : EnvT) (r : RowT)
  | fault (n : Int) (text : List UInt8)
def argsR : RowT → Bool → List (List UInt8) → Bool → RowT
  | r, _, [], _ => r
  | r, q, a :: l, first => argsR (putR (if first then r else putR r [32] 98) a (sortC q)) q l false
/-- What is asked of other chapters: what an expression comes to (a number's text, or an error); a value without what a pattern cuts off; a value's length, as a text. 'none' says nothing. -/
structure Par where
  ev : EnvT → List UInt8 → Option (List UInt8 ⊕ Int)
  cut : List UInt8 → RowT → List UInt8 → Option (List UInt8)
  len : List UInt8 → Option (List UInt8)
/-- A row that is not too long, with variables that are not too many. -/
def keepR (e : EnvT) (r : RowT) : Option ExT := if r.1.length ≤ 1000000 ∧ e.vars.length ≤ 1000000 then some (.ok e r) else none
def aloneL : List (List UInt8) := [[45], [61], [63], [43], [58, 45], [58, 61], [58, 63], [58, 43]]
def some2 (m : List UInt8) : List UInt8 := m.map fun c => if c = 108 then 115 else c
section
variable (P : Par)
mutual
def partE : Nat → EnvT → RowT → PartT → Option ExT
  | 0, _, _, _ => none
  | f + 1, e, r, .mk k t op q wd =>
    if k = 1 then keepR e (putR r t 108)
    else if k = 2 then keepR e (putR r t 113)
    else if k = 5 then keepR e (match e.get [72, 79, 77, 69] with | some h => putR r h 113 | none => putR r [126] 108)
    else if k = 4 then (match P.ev e t with
      | none => none
      | some (.inl s) => keepR e (putR r s (sortC q))
      | some (.inr x) => some (.fault x t))
    else if k = 3 then
      if op = [] ∧ (t = [64] ∨ (t = [42] ∧ q = false)) then keepR e (argsR r q e.args true)
      else if isName t = false then none
      else
        if (e.get t).isSome = false ∧ e.has 117 = true ∧ op ∉ aloneL then some (.fault 23 t)
        else if op = [108, 101, 110] then (match P.len ((e.get t).getD []) with
          | none => none
          | some s => keepR e (putR r s (sortC q)))
        else if doesP op ((e.get t).getD []) (e.get t).isSome = 1 then
          if (trimsF op).1 then (match partsE f e ([], []) wd with
            | some (.ok e2 r2) => (match P.cut op (bareR r2) ((e.get t).getD []) with
              | none => none
              | some s => keepR e2 (putR r s (sortC q)))
            | x => x)
          else keepR e (putR r ((e.get t).getD []) (sortC q))
        else if doesP op ((e.get t).getD []) (e.get t).isSome = 2 then (match partsE f e ([], []) wd with
          | some (.ok e2 r2) => keepR e2 (if q then putR r (flatR r2) 113 else joinR r (r2.1, some2 r2.2))
          | x => x)
        else if doesP op ((e.get t).getD []) (e.get t).isSome = 3 then (match partsE f e ([], []) wd with
          | some (.ok e2 r2) => keepR (e2.set t (flatR r2)) (putR r (flatR r2) (sortC q))
          | x => x)
        else if doesP op ((e.get t).getD []) (e.get t).isSome = 4 then some (.fault 23 t)
        else keepR e (putR r [] (sortC q))
    else none
def partsE : Nat → EnvT → RowT → List PartT → Option ExT
  | 0, _, _, _ => none
  | _ + 1, e, r, [] => some (.ok e r)
  | f + 1, e, r, p :: l => match partE f e r p with
    | some (.ok e2 r2) => partsE f e2 r2 l
    | x => x
end
end
/-! ### Fields -/
/-- A row's fields, while it is split: the ended ones, the one that is begun, whether it is, whether the last one was ended by a blank. -/
structure FieldsT where
  l : List RowT
  now : RowT
  begun : Bool
  blank : Bool
def FieldsT.stop (f : FieldsT) (blank : Bool) : FieldsT := ⟨if f.begun then f.l ++ [f.now] else f.l, ([], []), false, blank⟩
def FieldsT.sep (f : FieldsT) (blank : Bool) : FieldsT :=
  if blank && !f.begun then f else if !blank && !f.begun && !f.blank then ({ f with begun := true } : FieldsT).stop false else f.stop blank
def FieldsT.take (ifs : List UInt8) (f : FieldsT) (c : UInt8 × UInt8) : FieldsT :=
  if c.2 == 115 && ifs.contains c.1 then f.sep ([32, 9, 10].contains c.1) else if c.2 == 98 then f.stop false
  else ⟨f.l, if c.2 == 101 then f.now else (f.now.1 ++ [c.1], f.now.2 ++ [c.2]), true, false⟩
def splitR (r : RowT) (ifs : List UInt8) : List RowT := (((r.1.zip r.2).foldl (FieldsT.take ifs) ⟨[], ([], []), false, false⟩).stop false).l
end Go.Proofs.YtkmpbkhlcapbgaaGreatDoor
namespace Go.Proofs.YtkmpbkhlcapbgaaGreatDoor
open Go.RowKit
theorem bcell {W w1 : World} (hb : Below W.heap.size W w1) : (∀ b o, b < W.heap.size → w1.cell? ⟨b, o, none⟩ = W.cell? ⟨b, o, none⟩) ∧ (∀ b o, b < W.heap.size → w1.frozen? ⟨b, o, none⟩ = W.frozen? ⟨b, o, none⟩) :=
  ⟨fun b o h => hb.cell (p := ⟨b, o, none⟩) h, fun b o h => hb.frozen (p := ⟨b, o, none⟩) h⟩
/-- 'string(b)' of a slice of one byte. -/
theorem run_str1 {P : Program} {src dst e : TypeId} (hs : P.underlying src = some (.slice e)) (he : P.underlying e = some (.int .u8)) (hd : P.underlying dst = some .string) (w : World) (b cap : Nat) (x : Int)
    (hc : w.cell? ⟨b, 0, none⟩ = some (.int .u8 x)) :
    Sem.run P (convert src dst (.slice (some ⟨b, 0, none⟩) 1 cap)) w = .ok (.string ⟨[UInt8.ofNat x.toNat].toArray⟩) w := by
  have := run_convert_bytes_arg (P := P) w src e hs he b 0 1 cap [x] rfl (fun i hi => by
    obtain rfl : i = 0 := by omega
    simpa using hc) dst hd
  rw [this]
  rfl
/-- Behind a call that leaves what lay below its own beginning. -/
theorem below_call {w w0 w1 : World} (hb : Below w0.heap.size w0 w1) (h : Below w.heap.size w w0) : Below w.heap.size w w1 := h.trans (hb.mono h.size)
theorem below_call_alloc {w w0 w1 : World} (hb : Below w0.heap.size w0 w1) (h : Below w.heap.size w w0) (o : Obj) : Below w.heap.size w (w1.alloc o) := (below_call hb h).alloc (Nat.le_trans h.size hb.size) o
theorem mk_append (a b : List UInt8) : ((⟨a.toArray⟩ : ByteArray) ++ (⟨b.toArray⟩ : ByteArray)) = ⟨(a ++ b).toArray⟩ := by
  apply ByteArray.ext
  simp
theorem ret_str {a b : List UInt8} (h : a = b) : Ending.returned (.string ⟨a.toArray⟩) = .returned (.string ⟨b.toArray⟩) := by rw [h]
theorem ret_int {k : IntKind} {a b : Int} (h : a = b) : Ending.returned (.int k a) = .returned (.int k b) := by rw [h]
end Go.Proofs.YtkmpbkhlcapbgaaGreatDoor
namespace Go.Proofs.YtkmpbkhlcapbgaaGreatDoor
open Go.RowKit
/-- How a variable's name stands to a name. -/
def cmpV (n s : List UInt8) : Int := -(Lib.compareBytes s n)
theorem cmp3 : ∀ a b : List UInt8, Lib.compareBytes a b = -1 ∨ Lib.compareBytes a b = 0 ∨ Lib.compareBytes a b = 1
  | [], [] => by simp [Lib.compareBytes]
  | [], _ :: _ => by simp [Lib.compareBytes]
  | _ :: _, [] => by simp [Lib.compareBytes]
  | x :: a, y :: b => by
    have := cmp3 a b
    unfold Lib.compareBytes
    repeat' split
    all_goals first | exact this | simp
set_option maxRecDepth 100000 in
set_option maxHeartbeats 4000000 in
theorem of_any (s n x : ByteArray) (w : World) :
    Calls Tryz.prog 53 #[.string s, .agg #[.string n, .string x]] w fun e w' => e = .returned (.int .i64 (cmpV n.data.toList s.data.toList)) ∧ Below w.heap.size w w' := by
  have h1 : Lib.compareBytes s.data.toList n.data.toList = -1 ∨ Lib.compareBytes s.data.toList n.data.toList = 0 ∨ Lib.compareBytes s.data.toList n.data.toList = 1 := by
    exact cmp3 _ _
  have HC := Lib.hid (fun w => Tryz.strings_Compare s n w)
  obtain ⟨c, hc⟩ : ∃ c : Int, Lib.compareBytes s.data.toList n.data.toList = c := ⟨_, rfl⟩
  have hv : cmpV n.data.toList s.data.toList = -c := by rw [cmpV, hc]
  rw [hc] at h1 HC
  rw [hv]
  clear hc hv
  go_enter Tryz.func53, Tryz.ntmps53
  go_wp2_with fail
  refine (HC.out _).mono ?_; rintro e w1 ⟨rfl, hw⟩; subst hw
  rcases h1 with rfl | rfl | rfl <;>
  · go_wp2_with fail
    go_ret
    exact ⟨rfl, (Below.refl _ _).alloc (Nat.le_refl _) _⟩
set_option maxRecDepth 100000 in
set_option maxHeartbeats 4000000 in
theorem find1_any (s n x : ByteArray) (b : Nat) (w : World) (hb : w.cell? ⟨b, 0, none⟩ = some (.func (.func 53) #[] #[])) :
    Calls Tryz.prog 55 #[.agg #[.string n, .string x], .string s, .pointer (some ⟨b, 0, none⟩)] w fun e w' => e = .returned (.int .i64 (cmpV n.data.toList s.data.toList)) ∧ Below w.heap.size w w' := by
  have HC := Lib.hid (fun w => of_any s n x w)
  have lb := block_lt_of_cell hb
  go_enter Tryz.func55, Tryz.ntmps55
  go_wp2_with fail
  refine (HC.out _).mono ?_; rintro e w1 ⟨rfl, hw⟩
  have hB := below_call hw ((Below.refl w.heap.size w).alloc (Nat.le_refl _) _)
  go_wp2_with fail
  go_ret
  exact ⟨rfl, hB⟩
end Go.Proofs.YtkmpbkhlcapbgaaGreatDoor
