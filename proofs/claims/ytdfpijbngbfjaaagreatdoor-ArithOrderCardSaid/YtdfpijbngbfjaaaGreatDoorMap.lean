/-
  DERIVED. Map literals with string keys: a fresh block that holds a written list of keys and values; what an insert and a look-up do to it. No program in sight.
-/
import Derived.WalkKit
import Derived.Maps.Own
namespace Go.Proofs.YtdfpijbngbfjaaaGreatDoor.MapLit
open Go Go.RowKit
/-- The entries of a map literal, in order. -/
def entries : List (List UInt8 × Value) → Nat → List MapEntry
  | [], _ => []
  | (k, v) :: l, n => ⟨.string ⟨k.toArray⟩, v, n⟩ :: entries l (n + 1)
/-- The block that a map literal fills. -/
def litMap (l : List (List UInt8 × Value)) : Obj := .map (entries l 0).toArray l.length
/-- What is found at a key. -/
def at_ : List (List UInt8 × Value) → List UInt8 → Option Value
  | [], _ => none
  | (k, v) :: l, x => if x == k then some v else at_ l x
attribute [simp] at_
theorem entries_append (l m : List (List UInt8 × Value)) : ∀ n, entries (l ++ m) n = entries l n ++ entries m (n + l.length) := by
  induction l with
  | nil => intro n; simp [entries]
  | cons p l ih => intro n; obtain ⟨k, v⟩ := p; simp [entries, ih, Nat.add_comm, Nat.add_left_comm]
theorem beq_mk (x k : List UInt8) : ((⟨x.toArray⟩ : ByteArray) == ⟨k.toArray⟩) = (x == k) := by
  show (x.toArray == k.toArray) = _
  rw [Bool.eq_iff_iff, beq_iff_eq, beq_iff_eq]
  simp
theorem findNow_lit (x : List UInt8) : ∀ (l : List (List UInt8 × Value)) (n i : Nat), ∃ j, Instr.findNow .string (.string ⟨x.toArray⟩) (entries l n) i = some ((at_ l x).map fun v => (j, v)) := by
  intro l
  induction l with
  | nil => intro n i; exact ⟨0, rfl⟩
  | cons p l ih =>
    intro n i
    obtain ⟨k, v⟩ := p
    simp only [entries, Instr.findNow, Instr.sameNow, beq_mk, at_]
    cases h : (x == k)
    · simp only [Bool.false_eq_true, if_false]; exact ih (n + 1) (i + 1)
    · exact ⟨i, rfl⟩
theorem run_make {P : Program} (t : TypeId) (w : World) : Sem.run P (Instr.makeMap t none) w = Result.ok (Value.map (some w.heap.size)) (w.alloc (litMap [])) := run_makeMap t w
theorem heap_last (w : World) (o : Obj) {b : Nat} (h : b = w.heap.size) : (w.alloc o).heap[b]? = some o := by
  subst h; show (w.heap.push o)[w.heap.size]? = some o; simp
theorem set_last (w : World) (o o' : Obj) {b : Nat} (h : b = w.heap.size) : ChangeMaps.setBlock (w.alloc o) b o' = w.alloc o' := by
  subst h
  show ({ w with heap := (w.heap.push o).setIfInBounds w.heap.size o' } : World) = { w with heap := w.heap.push o' }
  congr 1
  apply Array.ext_getElem?
  intro i
  simp [Array.getElem?_setIfInBounds, Array.getElem?_push]
  split <;> split <;> simp_all
theorem run_check {P : Program} {kt : TypeId} (hk : P.underlying kt = some .string) (e : Bool) (s : ByteArray) (w : World) : (Instr.checkKey e 10000 kt (.string s)).run P w = .ok () w :=
  MapKept.run_checkKey hk (by trivial) e 9999
theorem run_find {P : Program} {kt : TypeId} (hk : P.underlying kt = some .string) (x : List UInt8) (l : List (List UInt8 × Value)) (w : World) :
    ∃ j, (Instr.findKey kt (.string ⟨x.toArray⟩) (entries l 0)).run P w = .ok ((at_ l x).map fun v => (j, v)) w := by
  obtain ⟨j, hj⟩ := findNow_lit x l 0 0
  exact ⟨j, by simp [Instr.findKey, run_underlying hk, hj]⟩
theorem run_insert {P : Program} {t kt et : TypeId} (ht : P.underlying t = some (.map kt et)) (hk : P.underlying kt = some .string) (w : World) (l : List (List UInt8 × Value)) (x : List UInt8) (v : Value) (b : Nat)
    (hbx : b = w.heap.size ∧ (at_ l x).isNone = true) :
    Sem.run P (Instr.mapUpdate t (.map (some b)) (.string ⟨x.toArray⟩) v) (w.alloc (litMap l)) = .ok () (w.alloc (litMap (l ++ [(x, v)]))) := by
  obtain ⟨j, hj⟩ := run_find (P := P) hk x l (w.alloc (litMap l))
  obtain ⟨hb, hx0⟩ := hbx
  have hx : at_ l x = none := by simpa using hx0
  rw [hx] at hj
  have hl : (w.alloc (litMap l)).heap[b]? = some (.map (entries l 0).toArray l.length) := heap_last w (litMap l) hb
  have hs : (Sem.run P (setObj b (.map ((entries l 0).toArray.push ⟨.string ⟨x.toArray⟩, v, l.length⟩) (l.length + 1))) (w.alloc (litMap l))) = .ok () (w.alloc (litMap (l ++ [(x, v)]))) := by
    rw [MapKept.run_setObj_map _ hl, ← set_last w (litMap l) (litMap (l ++ [(x, v)])) hb]
    simp [litMap, entries_append, entries, ChangeMaps.setBlock]
  simp only [List.push_toArray] at hs
  simp [Instr.mapUpdate, run_underlying ht, MapKept.run_getObj_map hl, run_check hk, hj, hs, Result.andThen]
theorem run_lookup {P : Program} {t kt et : TypeId} (ht : P.underlying t = some (.map kt et)) (hk : P.underlying kt = some .string) {z : Value} (hz : ∀ w, (zeroValue et).run P w = .ok z w) (w : World) (l : List (List UInt8 × Value)) (x : List UInt8) (b : Nat) (c : Bool)
    (hb : b = w.heap.size) :
    Sem.run P (Instr.lookup t (.map (some b)) (.string ⟨x.toArray⟩) c) (w.alloc (litMap l)) = .ok (if c then .tuple #[(at_ l x).getD z, .bool (at_ l x).isSome] else (at_ l x).getD z) (w.alloc (litMap l)) := by
  obtain ⟨j, hj⟩ := run_find (P := P) hk x l (w.alloc (litMap l))
  have hl : (w.alloc (litMap l)).heap[b]? = some (.map (entries l 0).toArray l.length) := heap_last w (litMap l) hb
  cases h : at_ l x <;> rw [h] at hj <;> simp [Instr.lookup, run_underlying ht, MapKept.run_getObj_map hl, run_check hk, hj, hz, Result.andThen] <;> cases c <;> rfl
end Go.Proofs.YtdfpijbngbfjaaaGreatDoor.MapLit
