/-
  DERIVED. Map literals with int keys: a fresh block that holds a written list of keys and values; what an insert and a look-up do to it. No program in sight.
-/
import Derived.WalkKit
import Derived.Maps.Own
namespace Go.Proofs.YtkmpbkhlcapbgaaGreatDoor.MapInt
open Go Go.RowKit
/-- The entries of a map literal, in order. -/
def entries : List (Int × Value) → Nat → List MapEntry
  | [], _ => []
  | (k, v) :: l, n => ⟨.int .i64 k, v, n⟩ :: entries l (n + 1)
/-- The block that a map literal fills. -/
def litMap (l : List (Int × Value)) : Obj := .map (entries l 0).toArray l.length
/-- What is found at a key. -/
def at_ : List (Int × Value) → Int → Option Value
  | [], _ => none
  | (k, v) :: l, x => if x == k then some v else at_ l x
attribute [simp] at_
theorem entries_append (l m : List (Int × Value)) : ∀ n, entries (l ++ m) n = entries l n ++ entries m (n + l.length) := by
  induction l with
  | nil => intro n; simp [entries]
  | cons p l ih => intro n; obtain ⟨k, v⟩ := p; simp [entries, ih, Nat.add_comm, Nat.add_left_comm]
theorem findNow_lit (x : Int) : ∀ (l : List (Int × Value)) (n i : Nat), ∃ j, Instr.findNow (.int .i64) (.int .i64 x) (entries l n) i = some ((at_ l x).map fun v => (j, v)) := by
  intro l
  induction l with
  | nil => intro n i; exact ⟨0, rfl⟩
  | cons p l ih =>
    intro n i
    obtain ⟨k, v⟩ := p
    simp only [entries, Instr.findNow, Instr.sameNow, at_, if_true]
    cases h : (x == k)
    · simp only [Bool.false_eq_true, if_false]; exact ih (n + 1) (i + 1)
    · exact ⟨i, rfl⟩
theorem run_make {P : Program} (t : TypeId) (w : World) : Sem.run P (Instr.makeMap t none) w = Result.ok (Value.map (some w.heap.size)) (w.alloc (litMap [])) := run_makeMap t w
theorem heap_last (w : World) (o : Obj) {b : Nat} (h : b = w.heap.size) : (w.alloc o).heap[b]? = some o := by
  subst h; show (w.heap.push o)[w.heap.size]? = some o; simp
theorem set_last (w : World) (o o' : Obj) {b : Nat} (h : b = w.heap.size) : ChangeMaps.setBlock (w.alloc o) b o' = w.alloc o' := by
  subst h
  show ({ w with heap := (w.heap.push o).setIfInBounds w.heap.size o' } : World) = { w with heap := w.heap.push o' }
  congr 1
  apply Array.ext_getElem?
  intro i
  simp [Array.getElem?_setIfInBounds, Array.getElem?_push]
  split <;> split <;> simp_all
theorem run_check {P : Program} {kt : TypeId} (hk : P.underlying kt = some (.int .i64)) (e : Bool) (s : Int) (w : World) : (Instr.checkKey e 10000 kt (.int .i64 s)).run P w = .ok () w :=
  MapKept.run_checkKey hk (by trivial) e 9999
theorem run_find {P : Program} {kt : TypeId} (hk : P.underlying kt = some (.int .i64)) (x : Int) (l : List (Int × Value)) (w : World) :
    ∃ j, (Instr.findKey kt (.int .i64 x) (entries l 0)).run P w = .ok ((at_ l x).map fun v => (j, v)) w := by
  obtain ⟨j, hj⟩ := findNow_lit x l 0 0
  exact ⟨j, by simp [Instr.findKey, run_underlying hk, hj]⟩
theorem run_insert {P : Program} {t kt et : TypeId} (ht : P.underlying t = some (.map kt et)) (hk : P.underlying kt = some (.int .i64)) (w : World) (l : List (Int × Value)) (x : Int) (v : Value) (b : Nat)
    (hbx : b = w.heap.size ∧ (at_ l x).isNone = true) :
    Sem.run P (Instr.mapUpdate t (.map (some b)) (.int .i64 x) v) (w.alloc (litMap l)) = .ok () (w.alloc (litMap (l ++ [(x, v)]))) := by
  obtain ⟨j, hj⟩ := run_find (P := P) hk x l (w.alloc (litMap l))
  obtain ⟨hb, hx0⟩ := hbx
  have hx : at_ l x = none := by simpa using hx0
  rw [hx] at hj
  have hl : (w.alloc (litMap l)).heap[b]? = some (.map (entries l 0).toArray l.length) := heap_last w (litMap l) hb
  have hs : (Sem.run P (setObj b (.map ((entries l 0).toArray.push ⟨.int .i64 x, v, l.length⟩) (l.length + 1))) (w.alloc (litMap l))) = .ok () (w.alloc (litMap (l ++ [(x, v)]))) := by
    rw [MapKept.run_setObj_map _ hl, ← set_last w (litMap l) (litMap (l ++ [(x, v)])) hb]
    simp [litMap, entries_append, entries, ChangeMaps.setBlock]
  simp only [List.push_toArray] at hs
  simp [Instr.mapUpdate, run_underlying ht, MapKept.run_getObj_map hl, run_check hk, hj, hs, Result.andThen]
theorem run_lookup {P : Program} {t kt et : TypeId} (ht : P.underlying t = some (.map kt et)) (hk : P.underlying kt = some (.int .i64)) {z : Value} (hz : ∀ w, (zeroValue et).run P w = .ok z w) (w : World) (l : List (Int × Value)) (x : Int) (b : Nat) (c : Bool)
    (hb : b = w.heap.size) :
    Sem.run P (Instr.lookup t (.map (some b)) (.int .i64 x) c) (w.alloc (litMap l)) = .ok (if c then .tuple #[(at_ l x).getD z, .bool (at_ l x).isSome] else (at_ l x).getD z) (w.alloc (litMap l)) := by
  obtain ⟨j, hj⟩ := run_find (P := P) hk x l (w.alloc (litMap l))
  have hl : (w.alloc (litMap l)).heap[b]? = some (.map (entries l 0).toArray l.length) := heap_last w (litMap l) hb
  cases h : at_ l x <;> rw [h] at hj <;> simp [Instr.lookup, run_underlying ht, MapKept.run_getObj_map hl, run_check hk, hj, hz, Result.andThen] <;> cases c <;> rfl
theorem run_lookup_at {P : Program} {t kt et : TypeId} (ht : P.underlying t = some (.map kt et)) (hk : P.underlying kt = some (.int .i64)) (w : World) (l : List (Int × Value)) (x : Int) (b : Nat)
    (hl0 : w.heap[b]? = some (litMap l)) (v : Value) (hv : at_ l x = some v) :
    Sem.run P (Instr.lookup t (.map (some b)) (.int .i64 x) false) w = .ok v w := by
  obtain ⟨j, hj⟩ := run_find (P := P) hk x l w
  have hl : w.heap[b]? = some (.map (entries l 0).toArray l.length) := hl0
  rw [hv] at hj
  simp [Instr.lookup, run_underlying ht, MapKept.run_getObj_map hl, run_check hk, hj, Result.andThen]
end Go.Proofs.YtkmpbkhlcapbgaaGreatDoor.MapInt
