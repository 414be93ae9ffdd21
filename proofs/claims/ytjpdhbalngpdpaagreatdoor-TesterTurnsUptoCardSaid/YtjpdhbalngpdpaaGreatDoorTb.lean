/-
  DERIVED. The walk of the tester's compares.
-/
import Derived.Test.YtjpdhbalngpdpaaGreatDoorTa
import Derived.Test.YtjpdhbalngpdpaaGreatDoorMap
namespace Go.Proofs.YtjpdhbalngpdpaaGreatDoor
open Go.RowKit
def cmpOp (op : List UInt8) (x y : Int) : Option Bool :=
  if op = [45, 101, 113] then some (x == y) else if op = [45, 110, 101] then some (x != y) else if op = [45, 108, 116] then some (decide (x < y))
  else if op = [45, 108, 101] then some (decide (x ≤ y)) else if op = [45, 103, 116] then some (decide (y < x)) else if op = [45, 103, 101] then some (decide (y ≤ x)) else none
def compareF (a : ByteArray) (op : List UInt8) (b : ByteArray) : Int × Bool :=
  if op = [61] then (truthF (decide (bl a = bl b)), true) else if op = [33, 61] then (truthF (!decide (bl a = bl b)), true)
  else match cmpOp op (tnumF a).1 (tnumF b).1 with
    | none => (2, false)
    | some c => if (tnumF a).2 && (tnumF b).2 then (truthF c, true) else (2, true)
theorem cl_eq (x y : Int) (w : World) : Calls Tryz.prog 30 #[.int .i64 x, .int .i64 y] w fun e w' => e = .returned (.bool (x == y)) ∧ w = w' := by
  go_enter Tryz.func30, Tryz.ntmps30
  go_wp2
  go_ret
  exact ⟨rfl, rfl⟩
theorem cl_ne (x y : Int) (w : World) : Calls Tryz.prog 31 #[.int .i64 x, .int .i64 y] w fun e w' => e = .returned (.bool (x != y)) ∧ w = w' := by
  go_enter Tryz.func31, Tryz.ntmps31
  go_wp2
  go_ret
  exact ⟨rfl, rfl⟩
theorem cl_lt (x y : Int) (w : World) : Calls Tryz.prog 32 #[.int .i64 x, .int .i64 y] w fun e w' => e = .returned (.bool (decide (x < y))) ∧ w = w' := by
  go_enter Tryz.func32, Tryz.ntmps32
  go_wp2
  go_ret
  exact ⟨rfl, rfl⟩
theorem cl_le (x y : Int) (w : World) : Calls Tryz.prog 33 #[.int .i64 x, .int .i64 y] w fun e w' => e = .returned (.bool (decide (x ≤ y))) ∧ w = w' := by
  go_enter Tryz.func33, Tryz.ntmps33
  go_wp2
  go_ret
  exact ⟨rfl, rfl⟩
theorem cl_gt (x y : Int) (w : World) : Calls Tryz.prog 34 #[.int .i64 x, .int .i64 y] w fun e w' => e = .returned (.bool (decide (y < x))) ∧ w = w' := by
  go_enter Tryz.func34, Tryz.ntmps34
  go_wp2
  go_ret
  exact ⟨rfl, rfl⟩
theorem cl_ge (x y : Int) (w : World) : Calls Tryz.prog 35 #[.int .i64 x, .int .i64 y] w fun e w' => e = .returned (.bool (decide (y ≤ x))) ∧ w = w' := by
  go_enter Tryz.func35, Tryz.ntmps35
  go_wp2
  go_ret
  exact ⟨rfl, rfl⟩
theorem zeroF (w : World) : (zeroValue 71).run Tryz.prog w = .ok .nilFunc w := by kernel_rfl
set_option maxRecDepth 100000 in
set_option maxHeartbeats 8000000 in
theorem cmp_same (a b : ByteArray) (w : World) :
    Calls Tryz.prog 19 #[.string a, .string ⟨#[61]⟩, .string b] w fun e w' => e = .returned (.tuple #[.int .i64 (truthF (decide (bl a = bl b))), .bool true]) ∧ w = w' := by
  have ht := toList_eq a b
  obtain ⟨c, hc⟩ : ∃ c, decide (bl a = bl b) = c := ⟨_, rfl⟩
  rw [hc] at ht
  rw [hc]
  clear hc
  go_enter Tryz.func19, Tryz.ntmps19
  go_wp2_with fail
  refine (truth_any c _).mono ?_; rintro e w1 ⟨rfl, rfl⟩
  go_wp2_with fail
  go_ret2
  exact ⟨rfl, rfl⟩
set_option maxRecDepth 100000 in
set_option maxHeartbeats 8000000 in
theorem cmp_other (a b : ByteArray) (w : World) :
    Calls Tryz.prog 19 #[.string a, .string ⟨#[33, 61]⟩, .string b] w fun e w' => e = .returned (.tuple #[.int .i64 (truthF (!decide (bl a = bl b))), .bool true]) ∧ w = w' := by
  have ht := toList_eq a b
  obtain ⟨c, hc⟩ : ∃ c, decide (bl a = bl b) = c := ⟨_, rfl⟩
  rw [hc] at ht
  rw [hc]
  clear hc
  cases c
  all_goals
    go_enter Tryz.func19, Tryz.ntmps19
    go_wp2_with fail
    refine (truth_any _ _).mono ?_; rintro e w1 ⟨rfl, rfl⟩
    go_wp2_with fail
    go_ret2
    exact ⟨rfl, rfl⟩
set_option maxRecDepth 100000 in
set_option maxHeartbeats 8000000 in
theorem cmp_none (a : ByteArray) (l : List UInt8) (b : ByteArray) (h1 : l ≠ [61]) (h2 : l ≠ [33, 61]) (h3 : l ≠ [45, 101, 113]) (h4 : l ≠ [45, 110, 101]) (h5 : l ≠ [45, 108, 116]) (h6 : l ≠ [45, 108, 101]) (h7 : l ≠ [45, 103, 116]) (h8 : l ≠ [45, 103, 101]) (w : World) :
    Calls Tryz.prog 19 #[.string a, .string ⟨l.toArray⟩, .string b] w fun e w' => e = .returned (.tuple #[.int .i64 2, .bool false]) ∧ Below w.heap.size w w' := by
  have g1 : (l == [61]) = false := by simpa using h1
  have g2 : (l == [33, 61]) = false := by simpa using h2
  have g3 : (l == [45, 101, 113]) = false := by simpa using h3
  have g4 : (l == [45, 110, 101]) = false := by simpa using h4
  have g5 : (l == [45, 108, 116]) = false := by simpa using h5
  have g6 : (l == [45, 108, 101]) = false := by simpa using h6
  have g7 : (l == [45, 103, 116]) = false := by simpa using h7
  have g8 : (l == [45, 103, 101]) = false := by simpa using h8
  clear h1 h2 h3 h4 h5 h6 h7 h8
  have hmk := fun w => MapLit.run_make (P := Tryz.prog) 72 w
  have hins := MapLit.run_insert Tryz.underlying72 Tryz.underlying9
  have hlk := MapLit.run_lookup Tryz.underlying72 Tryz.underlying9 zeroF
  go_enter Tryz.func19, Tryz.ntmps19
  go_wp2_with fail
  go_ret2
  exact ⟨rfl, by go_grown⟩
end Go.Proofs.YtjpdhbalngpdpaaGreatDoor
