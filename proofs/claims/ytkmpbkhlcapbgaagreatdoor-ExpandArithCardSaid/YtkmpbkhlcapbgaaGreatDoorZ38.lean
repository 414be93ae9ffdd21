/-
  DERIVED. What arith's operations with two numbers come to; the walks of does and its closures: printed by gen_does.py.
-/
import Derived.Test.YtkmpbkhlcapbgaaGreatDoorProg
import Derived.Test.YtkmpbkhlcapbgaaGreatDoorZ01
import Derived.Test.YtkmpbkhlcapbgaaGreatDoorZ20
import Derived.Test.YtkmpbkhlcapbgaaGreatDoorZ02
import Derived.WalkKit
import Derived.WalkSpells
import Derived.WalkLawsBesides
import Derived.Handy
import Derived.Lib.Hide
import Derived.Outline
namespace Go.Proofs.YtkmpbkhlcapbgaaGreatDoor
open Go.RowKit
/-- What an expression comes to: a number; a division by 0; 'bad' says nothing. -/
inductive Res where
  | ok (n : Int)
  | zero
  | bad
def truthF (b : Bool) : Int := if b then 1 else 0
def opF (op : List UInt8) (a b : Int) : Option Int :=
  if op = [124] then some (bits .or .i64 a b)
  else if op = [94] then some (bits .xor .i64 a b)
  else if op = [38] then some (bits .and .i64 a b)
  else if op = [61, 61] then some (truthF (a == b))
  else if op = [33, 61] then some (truthF (a != b))
  else if op = [60] then some (truthF (decide (a < b)))
  else if op = [60, 61] then some (truthF (decide (a ≤ b)))
  else if op = [62] then some (truthF (decide (b < a)))
  else if op = [62, 61] then some (truthF (decide (b ≤ a)))
  else if op = [60, 60] then some (wrap64 (a * 2 ^ (b % 64).toNat))
  else if op = [62, 62] then some (a / 2 ^ (b % 64).toNat)
  else if op = [43] then some (wrap64 (a + b))
  else if op = [45] then some (wrap64 (a - b))
  else if op = [42] then some (wrap64 (a * b))
  else none
def doesF (op : List UInt8) (a b : Int) : Res :=
  match opF op a b with
  | some n => .ok n
  | none => if b = 0 then .zero else if op = [47] then .ok (wrap64 (a.tdiv b)) else .ok (a.tmod b)
/-- The panic of a division by 0. -/
def zeroP : List PanicEntry := [{ v := .iface 31 (.int .i64 22), recovered := false }]
/-- How a call ends that comes to such a thing. -/
def ResEnd (R : Res) (e : Ending) : Prop := match R with
  | .ok n => e = .returned (.int .i64 n)
  | .zero => e = .panicked zeroP
  | .bad => True
def ResPost (R : Res) (w : World) (e : Ending) (w' : World) : Prop := ResEnd R e ∧ Below w.heap.size w w'
theorem i64_and63 (n : Int) : bits .and .i64 n 63 = n % 64 := by
  have h63 : (BitVec.ofInt 64 63).toNat = 2 ^ 6 - 1 := by decide
  have key : (BitVec.ofInt 64 n &&& BitVec.ofInt 64 63).toNat = (n % ((2 ^ 64 : Nat) : Int)).toNat % 2 ^ 6 := by
    rw [BitVec.toNat_and, BitVec.toNat_ofInt, h63, Nat.and_two_pow_sub_one_eq_mod]
  show IntKind.i64.wrap ((BitVec.ofInt 64 n &&& BitVec.ofInt 64 63).toNat : Nat) = n % 64
  rw [key, IntKind.wrap_i64]
  omega
theorem atruth_any (b : Bool) (w : World) : Calls Tryz.prog 164 #[.bool b] w fun e w' => e = .returned (.int .i64 (truthF b)) ∧ w = w' := by
  cases b
  all_goals
    go_enter Tryz.func164, Tryz.ntmps164
    go_wp2
    go_ret
    exact ⟨rfl, rfl⟩
theorem fail_any (n : Int) (w : World) : Calls Tryz.prog 130 #[.int .i64 n] w fun e w' => e = .panicked [{ v := .iface 31 (.int .i64 n), recovered := false }] ∧ w = w' := by
  go_enter Tryz.func130, Tryz.ntmps130
  go_wp2
  exact ⟨rfl, rfl, rfl⟩
theorem two_cells (w : World) (a b : Int) (o : Obj) : (((w.alloc (.cells #[.int .i64 a] 2)).alloc (.cells #[.int .i64 b] 2)).alloc o).cell? ⟨w.heap.size, 0, none⟩ = some (.int .i64 a) ∧
    (((w.alloc (.cells #[.int .i64 a] 2)).alloc (.cells #[.int .i64 b] 2)).alloc o).cell? ⟨w.heap.size + 1, 0, none⟩ = some (.int .i64 b) := by
  have h1 := ((RowIs.new w 2 [.int .i64 a]).alloc (.cells #[.int .i64 b] 2)).alloc o
  have h2 := (RowIs.new (w.alloc (.cells #[.int .i64 a] 2)) 2 [.int .i64 b]).alloc o
  have e : (w.alloc (.cells #[.int .i64 a] 2)).heap.size = w.heap.size + 1 := by simp
  rw [e] at h2
  exact ⟨by rw [h1.cell]; rfl, by rw [h2.cell]; rfl⟩
theorem zeroF (w : World) : (zeroValue 223).run Tryz.prog w = .ok .nilFunc w := by kernel_rfl
theorem cl_or (p q : Addr) (a b : Int) (w : World) (ha : w.cell? p = some (.int .i64 a)) (hb : w.cell? q = some (.int .i64 b)) :
    Calls Tryz.prog 183 #[.pointer (some p), .pointer (some q)] w fun e w' => e = .returned (.int .i64 (bits .or .i64 a b)) ∧ w = w' := by
  go_enter Tryz.func183, Tryz.ntmps183
  go_wp2_with fail
  go_ret
  exact ⟨rfl, rfl⟩
theorem cl_xor (p q : Addr) (a b : Int) (w : World) (ha : w.cell? p = some (.int .i64 a)) (hb : w.cell? q = some (.int .i64 b)) :
    Calls Tryz.prog 184 #[.pointer (some p), .pointer (some q)] w fun e w' => e = .returned (.int .i64 (bits .xor .i64 a b)) ∧ w = w' := by
  go_enter Tryz.func184, Tryz.ntmps184
  go_wp2_with fail
  go_ret
  exact ⟨rfl, rfl⟩
theorem cl_and (p q : Addr) (a b : Int) (w : World) (ha : w.cell? p = some (.int .i64 a)) (hb : w.cell? q = some (.int .i64 b)) :
    Calls Tryz.prog 185 #[.pointer (some p), .pointer (some q)] w fun e w' => e = .returned (.int .i64 (bits .and .i64 a b)) ∧ w = w' := by
  go_enter Tryz.func185, Tryz.ntmps185
  go_wp2_with fail
  go_ret
  exact ⟨rfl, rfl⟩
theorem cl_eq (p q : Addr) (a b : Int) (w : World) (ha : w.cell? p = some (.int .i64 a)) (hb : w.cell? q = some (.int .i64 b)) :
    Calls Tryz.prog 186 #[.pointer (some p), .pointer (some q)] w fun e w' => e = .returned (.int .i64 (truthF (a == b))) ∧ w = w' := by
  go_enter Tryz.func186, Tryz.ntmps186
  go_wp2_with fail
  refine (atruth_any _ _).mono ?_; rintro e w1 ⟨rfl, rfl⟩
  go_wp2_with fail
  go_ret
  exact ⟨rfl, rfl⟩
theorem cl_ne (p q : Addr) (a b : Int) (w : World) (ha : w.cell? p = some (.int .i64 a)) (hb : w.cell? q = some (.int .i64 b)) :
    Calls Tryz.prog 187 #[.pointer (some p), .pointer (some q)] w fun e w' => e = .returned (.int .i64 (truthF (a != b))) ∧ w = w' := by
  go_enter Tryz.func187, Tryz.ntmps187
  go_wp2_with fail
  refine (atruth_any _ _).mono ?_; rintro e w1 ⟨rfl, rfl⟩
  go_wp2_with fail
  go_ret
  exact ⟨rfl, rfl⟩
theorem cl_lt (p q : Addr) (a b : Int) (w : World) (ha : w.cell? p = some (.int .i64 a)) (hb : w.cell? q = some (.int .i64 b)) :
    Calls Tryz.prog 188 #[.pointer (some p), .pointer (some q)] w fun e w' => e = .returned (.int .i64 (truthF (decide (a < b)))) ∧ w = w' := by
  go_enter Tryz.func188, Tryz.ntmps188
  go_wp2_with fail
  refine (atruth_any _ _).mono ?_; rintro e w1 ⟨rfl, rfl⟩
  go_wp2_with fail
  go_ret
  exact ⟨rfl, rfl⟩
theorem cl_le (p q : Addr) (a b : Int) (w : World) (ha : w.cell? p = some (.int .i64 a)) (hb : w.cell? q = some (.int .i64 b)) :
    Calls Tryz.prog 189 #[.pointer (some p), .pointer (some q)] w fun e w' => e = .returned (.int .i64 (truthF (decide (a ≤ b)))) ∧ w = w' := by
  go_enter Tryz.func189, Tryz.ntmps189
  go_wp2_with fail
  refine (atruth_any _ _).mono ?_; rintro e w1 ⟨rfl, rfl⟩
  go_wp2_with fail
  go_ret
  exact ⟨rfl, rfl⟩
theorem cl_gt (p q : Addr) (a b : Int) (w : World) (ha : w.cell? p = some (.int .i64 a)) (hb : w.cell? q = some (.int .i64 b)) :
    Calls Tryz.prog 190 #[.pointer (some p), .pointer (some q)] w fun e w' => e = .returned (.int .i64 (truthF (decide (b < a)))) ∧ w = w' := by
  go_enter Tryz.func190, Tryz.ntmps190
  go_wp2_with fail
  refine (atruth_any _ _).mono ?_; rintro e w1 ⟨rfl, rfl⟩
  go_wp2_with fail
  go_ret
  exact ⟨rfl, rfl⟩
theorem cl_ge (p q : Addr) (a b : Int) (w : World) (ha : w.cell? p = some (.int .i64 a)) (hb : w.cell? q = some (.int .i64 b)) :
    Calls Tryz.prog 191 #[.pointer (some p), .pointer (some q)] w fun e w' => e = .returned (.int .i64 (truthF (decide (b ≤ a)))) ∧ w = w' := by
  go_enter Tryz.func191, Tryz.ntmps191
  go_wp2_with fail
  refine (atruth_any _ _).mono ?_; rintro e w1 ⟨rfl, rfl⟩
  go_wp2_with fail
  go_ret
  exact ⟨rfl, rfl⟩
theorem cl_shl (p q : Addr) (a b : Int) (w : World) (ha : w.cell? p = some (.int .i64 a)) (hb : w.cell? q = some (.int .i64 b)) :
    Calls Tryz.prog 192 #[.pointer (some p), .pointer (some q)] w fun e w' => e = .returned (.int .i64 (wrap64 (a * 2 ^ (b % 64).toNat))) ∧ w = w' := by
  have h0 := i64_and63 b
  have h1 : 0 ≤ b % 64 := by omega
  have h2 : b % 64 ≤ 64 := by omega
  go_enter Tryz.func192, Tryz.ntmps192
  go_wp2_with fail
  go_ret
  exact ⟨rfl, rfl⟩
theorem cl_shr (p q : Addr) (a b : Int) (w : World) (ha : w.cell? p = some (.int .i64 a)) (hb : w.cell? q = some (.int .i64 b)) :
    Calls Tryz.prog 193 #[.pointer (some p), .pointer (some q)] w fun e w' => e = .returned (.int .i64 (a / 2 ^ (b % 64).toNat)) ∧ w = w' := by
  have h0 := i64_and63 b
  have h1 : 0 ≤ b % 64 := by omega
  have h2 : b % 64 ≤ 64 := by omega
  go_enter Tryz.func193, Tryz.ntmps193
  go_wp2_with fail
  go_ret
  exact ⟨rfl, rfl⟩
theorem cl_add (p q : Addr) (a b : Int) (w : World) (ha : w.cell? p = some (.int .i64 a)) (hb : w.cell? q = some (.int .i64 b)) :
    Calls Tryz.prog 194 #[.pointer (some p), .pointer (some q)] w fun e w' => e = .returned (.int .i64 (wrap64 (a + b))) ∧ w = w' := by
  go_enter Tryz.func194, Tryz.ntmps194
  go_wp2_with fail
  go_ret
  exact ⟨rfl, rfl⟩
theorem cl_sub (p q : Addr) (a b : Int) (w : World) (ha : w.cell? p = some (.int .i64 a)) (hb : w.cell? q = some (.int .i64 b)) :
    Calls Tryz.prog 195 #[.pointer (some p), .pointer (some q)] w fun e w' => e = .returned (.int .i64 (wrap64 (a - b))) ∧ w = w' := by
  go_enter Tryz.func195, Tryz.ntmps195
  go_wp2_with fail
  go_ret
  exact ⟨rfl, rfl⟩
theorem cl_mul (p q : Addr) (a b : Int) (w : World) (ha : w.cell? p = some (.int .i64 a)) (hb : w.cell? q = some (.int .i64 b)) :
    Calls Tryz.prog 196 #[.pointer (some p), .pointer (some q)] w fun e w' => e = .returned (.int .i64 (wrap64 (a * b))) ∧ w = w' := by
  go_enter Tryz.func196, Tryz.ntmps196
  go_wp2_with fail
  go_ret
  exact ⟨rfl, rfl⟩
set_option maxRecDepth 100000 in
set_option maxHeartbeats 4000000 in
theorem does_or (a b : Int) (w : World) : Calls Tryz.prog 165 #[.string ⟨#[124]⟩, .int .i64 a, .int .i64 b] w (ResPost (.ok (bits .or .i64 a b)) w) := by
  have hmk := fun w => MapLit.run_make (P := Tryz.prog) 224 w
  have hins := MapLit.run_insert Tryz.underlying224 Tryz.underlying9
  have hlk := MapLit.run_lookup Tryz.underlying224 Tryz.underlying9 zeroF
  go_enter Tryz.func165, Tryz.ntmps165
  go_wp2_with fail
  refine (cl_or ⟨w.heap.size, 0, none⟩ ⟨w.heap.size + 1, 0, none⟩ a b _ ?_ ?_).mono ?_
  · exact (two_cells w a b _).1
  · exact (two_cells w a b _).2
  rintro e w1 ⟨rfl, hw⟩; subst hw
  go_wp2_with fail
  go_ret
  exact ⟨rfl, by go_grown⟩
set_option maxRecDepth 100000 in
set_option maxHeartbeats 4000000 in
theorem does_xor (a b : Int) (w : World) : Calls Tryz.prog 165 #[.string ⟨#[94]⟩, .int .i64 a, .int .i64 b] w (ResPost (.ok (bits .xor .i64 a b)) w) := by
  have hmk := fun w => MapLit.run_make (P := Tryz.prog) 224 w
  have hins := MapLit.run_insert Tryz.underlying224 Tryz.underlying9
  have hlk := MapLit.run_lookup Tryz.underlying224 Tryz.underlying9 zeroF
  go_enter Tryz.func165, Tryz.ntmps165
  go_wp2_with fail
  refine (cl_xor ⟨w.heap.size, 0, none⟩ ⟨w.heap.size + 1, 0, none⟩ a b _ ?_ ?_).mono ?_
  · exact (two_cells w a b _).1
  · exact (two_cells w a b _).2
  rintro e w1 ⟨rfl, hw⟩; subst hw
  go_wp2_with fail
  go_ret
  exact ⟨rfl, by go_grown⟩
set_option maxRecDepth 100000 in
set_option maxHeartbeats 4000000 in
theorem does_and (a b : Int) (w : World) : Calls Tryz.prog 165 #[.string ⟨#[38]⟩, .int .i64 a, .int .i64 b] w (ResPost (.ok (bits .and .i64 a b)) w) := by
  have hmk := fun w => MapLit.run_make (P := Tryz.prog) 224 w
  have hins := MapLit.run_insert Tryz.underlying224 Tryz.underlying9
  have hlk := MapLit.run_lookup Tryz.underlying224 Tryz.underlying9 zeroF
  go_enter Tryz.func165, Tryz.ntmps165
  go_wp2_with fail
  refine (cl_and ⟨w.heap.size, 0, none⟩ ⟨w.heap.size + 1, 0, none⟩ a b _ ?_ ?_).mono ?_
  · exact (two_cells w a b _).1
  · exact (two_cells w a b _).2
  rintro e w1 ⟨rfl, hw⟩; subst hw
  go_wp2_with fail
  go_ret
  exact ⟨rfl, by go_grown⟩
set_option maxRecDepth 100000 in
set_option maxHeartbeats 4000000 in
theorem does_eq (a b : Int) (w : World) : Calls Tryz.prog 165 #[.string ⟨#[61, 61]⟩, .int .i64 a, .int .i64 b] w (ResPost (.ok (truthF (a == b))) w) := by
  have hmk := fun w => MapLit.run_make (P := Tryz.prog) 224 w
  have hins := MapLit.run_insert Tryz.underlying224 Tryz.underlying9
  have hlk := MapLit.run_lookup Tryz.underlying224 Tryz.underlying9 zeroF
  go_enter Tryz.func165, Tryz.ntmps165
  go_wp2_with fail
  refine (cl_eq ⟨w.heap.size, 0, none⟩ ⟨w.heap.size + 1, 0, none⟩ a b _ ?_ ?_).mono ?_
  · exact (two_cells w a b _).1
  · exact (two_cells w a b _).2
  rintro e w1 ⟨rfl, hw⟩; subst hw
  go_wp2_with fail
  go_ret
  exact ⟨rfl, by go_grown⟩
set_option maxRecDepth 100000 in
set_option maxHeartbeats 4000000 in
theorem does_ne (a b : Int) (w : World) : Calls Tryz.prog 165 #[.string ⟨#[33, 61]⟩, .int .i64 a, .int .i64 b] w (ResPost (.ok (truthF (a != b))) w) := by
  have hmk := fun w => MapLit.run_make (P := Tryz.prog) 224 w
  have hins := MapLit.run_insert Tryz.underlying224 Tryz.underlying9
  have hlk := MapLit.run_lookup Tryz.underlying224 Tryz.underlying9 zeroF
  go_enter Tryz.func165, Tryz.ntmps165
  go_wp2_with fail
  refine (cl_ne ⟨w.heap.size, 0, none⟩ ⟨w.heap.size + 1, 0, none⟩ a b _ ?_ ?_).mono ?_
  · exact (two_cells w a b _).1
  · exact (two_cells w a b _).2
  rintro e w1 ⟨rfl, hw⟩; subst hw
  go_wp2_with fail
  go_ret
  exact ⟨rfl, by go_grown⟩
set_option maxRecDepth 100000 in
set_option maxHeartbeats 4000000 in
theorem does_lt (a b : Int) (w : World) : Calls Tryz.prog 165 #[.string ⟨#[60]⟩, .int .i64 a, .int .i64 b] w (ResPost (.ok (truthF (decide (a < b)))) w) := by
  have hmk := fun w => MapLit.run_make (P := Tryz.prog) 224 w
  have hins := MapLit.run_insert Tryz.underlying224 Tryz.underlying9
  have hlk := MapLit.run_lookup Tryz.underlying224 Tryz.underlying9 zeroF
  go_enter Tryz.func165, Tryz.ntmps165
  go_wp2_with fail
  refine (cl_lt ⟨w.heap.size, 0, none⟩ ⟨w.heap.size + 1, 0, none⟩ a b _ ?_ ?_).mono ?_
  · exact (two_cells w a b _).1
  · exact (two_cells w a b _).2
  rintro e w1 ⟨rfl, hw⟩; subst hw
  go_wp2_with fail
  go_ret
  exact ⟨rfl, by go_grown⟩
set_option maxRecDepth 100000 in
set_option maxHeartbeats 4000000 in
theorem does_le (a b : Int) (w : World) : Calls Tryz.prog 165 #[.string ⟨#[60, 61]⟩, .int .i64 a, .int .i64 b] w (ResPost (.ok (truthF (decide (a ≤ b)))) w) := by
  have hmk := fun w => MapLit.run_make (P := Tryz.prog) 224 w
  have hins := MapLit.run_insert Tryz.underlying224 Tryz.underlying9
  have hlk := MapLit.run_lookup Tryz.underlying224 Tryz.underlying9 zeroF
  go_enter Tryz.func165, Tryz.ntmps165
  go_wp2_with fail
  refine (cl_le ⟨w.heap.size, 0, none⟩ ⟨w.heap.size + 1, 0, none⟩ a b _ ?_ ?_).mono ?_
  · exact (two_cells w a b _).1
  · exact (two_cells w a b _).2
  rintro e w1 ⟨rfl, hw⟩; subst hw
  go_wp2_with fail
  go_ret
  exact ⟨rfl, by go_grown⟩
set_option maxRecDepth 100000 in
set_option maxHeartbeats 4000000 in
theorem does_gt (a b : Int) (w : World) : Calls Tryz.prog 165 #[.string ⟨#[62]⟩, .int .i64 a, .int .i64 b] w (ResPost (.ok (truthF (decide (b < a)))) w) := by
  have hmk := fun w => MapLit.run_make (P := Tryz.prog) 224 w
  have hins := MapLit.run_insert Tryz.underlying224 Tryz.underlying9
  have hlk := MapLit.run_lookup Tryz.underlying224 Tryz.underlying9 zeroF
  go_enter Tryz.func165, Tryz.ntmps165
  go_wp2_with fail
  refine (cl_gt ⟨w.heap.size, 0, none⟩ ⟨w.heap.size + 1, 0, none⟩ a b _ ?_ ?_).mono ?_
  · exact (two_cells w a b _).1
  · exact (two_cells w a b _).2
  rintro e w1 ⟨rfl, hw⟩; subst hw
  go_wp2_with fail
  go_ret
  exact ⟨rfl, by go_grown⟩
set_option maxRecDepth 100000 in
set_option maxHeartbeats 4000000 in
theorem does_ge (a b : Int) (w : World) : Calls Tryz.prog 165 #[.string ⟨#[62, 61]⟩, .int .i64 a, .int .i64 b] w (ResPost (.ok (truthF (decide (b ≤ a)))) w) := by
  have hmk := fun w => MapLit.run_make (P := Tryz.prog) 224 w
  have hins := MapLit.run_insert Tryz.underlying224 Tryz.underlying9
  have hlk := MapLit.run_lookup Tryz.underlying224 Tryz.underlying9 zeroF
  go_enter Tryz.func165, Tryz.ntmps165
  go_wp2_with fail
  refine (cl_ge ⟨w.heap.size, 0, none⟩ ⟨w.heap.size + 1, 0, none⟩ a b _ ?_ ?_).mono ?_
  · exact (two_cells w a b _).1
  · exact (two_cells w a b _).2
  rintro e w1 ⟨rfl, hw⟩; subst hw
  go_wp2_with fail
  go_ret
  exact ⟨rfl, by go_grown⟩
set_option maxRecDepth 100000 in
set_option maxHeartbeats 4000000 in
theorem does_shl (a b : Int) (w : World) : Calls Tryz.prog 165 #[.string ⟨#[60, 60]⟩, .int .i64 a, .int .i64 b] w (ResPost (.ok (wrap64 (a * 2 ^ (b % 64).toNat))) w) := by
  have hmk := fun w => MapLit.run_make (P := Tryz.prog) 224 w
  have hins := MapLit.run_insert Tryz.underlying224 Tryz.underlying9
  have hlk := MapLit.run_lookup Tryz.underlying224 Tryz.underlying9 zeroF
  go_enter Tryz.func165, Tryz.ntmps165
  go_wp2_with fail
  refine (cl_shl ⟨w.heap.size, 0, none⟩ ⟨w.heap.size + 1, 0, none⟩ a b _ ?_ ?_).mono ?_
  · exact (two_cells w a b _).1
  · exact (two_cells w a b _).2
  rintro e w1 ⟨rfl, hw⟩; subst hw
  go_wp2_with fail
  go_ret
  exact ⟨rfl, by go_grown⟩
set_option maxRecDepth 100000 in
set_option maxHeartbeats 4000000 in
theorem does_shr (a b : Int) (w : World) : Calls Tryz.prog 165 #[.string ⟨#[62, 62]⟩, .int .i64 a, .int .i64 b] w (ResPost (.ok (a / 2 ^ (b % 64).toNat)) w) := by
  have hmk := fun w => MapLit.run_make (P := Tryz.prog) 224 w
  have hins := MapLit.run_insert Tryz.underlying224 Tryz.underlying9
  have hlk := MapLit.run_lookup Tryz.underlying224 Tryz.underlying9 zeroF
  go_enter Tryz.func165, Tryz.ntmps165
  go_wp2_with fail
  refine (cl_shr ⟨w.heap.size, 0, none⟩ ⟨w.heap.size + 1, 0, none⟩ a b _ ?_ ?_).mono ?_
  · exact (two_cells w a b _).1
  · exact (two_cells w a b _).2
  rintro e w1 ⟨rfl, hw⟩; subst hw
  go_wp2_with fail
  go_ret
  exact ⟨rfl, by go_grown⟩
set_option maxRecDepth 100000 in
set_option maxHeartbeats 4000000 in
theorem does_add (a b : Int) (w : World) : Calls Tryz.prog 165 #[.string ⟨#[43]⟩, .int .i64 a, .int .i64 b] w (ResPost (.ok (wrap64 (a + b))) w) := by
  have hmk := fun w => MapLit.run_make (P := Tryz.prog) 224 w
  have hins := MapLit.run_insert Tryz.underlying224 Tryz.underlying9
  have hlk := MapLit.run_lookup Tryz.underlying224 Tryz.underlying9 zeroF
  go_enter Tryz.func165, Tryz.ntmps165
  go_wp2_with fail
  refine (cl_add ⟨w.heap.size, 0, none⟩ ⟨w.heap.size + 1, 0, none⟩ a b _ ?_ ?_).mono ?_
  · exact (two_cells w a b _).1
  · exact (two_cells w a b _).2
  rintro e w1 ⟨rfl, hw⟩; subst hw
  go_wp2_with fail
  go_ret
  exact ⟨rfl, by go_grown⟩
set_option maxRecDepth 100000 in
set_option maxHeartbeats 4000000 in
theorem does_sub (a b : Int) (w : World) : Calls Tryz.prog 165 #[.string ⟨#[45]⟩, .int .i64 a, .int .i64 b] w (ResPost (.ok (wrap64 (a - b))) w) := by
  have hmk := fun w => MapLit.run_make (P := Tryz.prog) 224 w
  have hins := MapLit.run_insert Tryz.underlying224 Tryz.underlying9
  have hlk := MapLit.run_lookup Tryz.underlying224 Tryz.underlying9 zeroF
  go_enter Tryz.func165, Tryz.ntmps165
  go_wp2_with fail
  refine (cl_sub ⟨w.heap.size, 0, none⟩ ⟨w.heap.size + 1, 0, none⟩ a b _ ?_ ?_).mono ?_
  · exact (two_cells w a b _).1
  · exact (two_cells w a b _).2
  rintro e w1 ⟨rfl, hw⟩; subst hw
  go_wp2_with fail
  go_ret
  exact ⟨rfl, by go_grown⟩
set_option maxRecDepth 100000 in
set_option maxHeartbeats 4000000 in
theorem does_mul (a b : Int) (w : World) : Calls Tryz.prog 165 #[.string ⟨#[42]⟩, .int .i64 a, .int .i64 b] w (ResPost (.ok (wrap64 (a * b))) w) := by
  have hmk := fun w => MapLit.run_make (P := Tryz.prog) 224 w
  have hins := MapLit.run_insert Tryz.underlying224 Tryz.underlying9
  have hlk := MapLit.run_lookup Tryz.underlying224 Tryz.underlying9 zeroF
  go_enter Tryz.func165, Tryz.ntmps165
  go_wp2_with fail
  refine (cl_mul ⟨w.heap.size, 0, none⟩ ⟨w.heap.size + 1, 0, none⟩ a b _ ?_ ?_).mono ?_
  · exact (two_cells w a b _).1
  · exact (two_cells w a b _).2
  rintro e w1 ⟨rfl, hw⟩; subst hw
  go_wp2_with fail
  go_ret
  exact ⟨rfl, by go_grown⟩
set_option maxRecDepth 100000 in
set_option maxHeartbeats 4000000 in
theorem does_quo (a b : Int) (hb : ¬ b = 0) (w : World) : Calls Tryz.prog 165 #[.string ⟨#[47]⟩, .int .i64 a, .int .i64 b] w (ResPost (.ok (wrap64 (a.tdiv b))) w) := by
  have hb2 : (b == 0) = false := by simpa using hb
  have hmk := fun w => MapLit.run_make (P := Tryz.prog) 224 w
  have hins := MapLit.run_insert Tryz.underlying224 Tryz.underlying9
  have hlk := MapLit.run_lookup Tryz.underlying224 Tryz.underlying9 zeroF
  go_enter Tryz.func165, Tryz.ntmps165
  go_wp2_with fail
  go_ret
  exact ⟨rfl, by go_grown⟩
set_option maxRecDepth 100000 in
set_option maxHeartbeats 4000000 in
theorem does_quo0 (a : Int) (w : World) : Calls Tryz.prog 165 #[.string ⟨#[47]⟩, .int .i64 a, .int .i64 0] w (ResPost .zero w) := by
  have hmk := fun w => MapLit.run_make (P := Tryz.prog) 224 w
  have hins := MapLit.run_insert Tryz.underlying224 Tryz.underlying9
  have hlk := MapLit.run_lookup Tryz.underlying224 Tryz.underlying9 zeroF
  go_enter Tryz.func165, Tryz.ntmps165
  go_wp2_with fail
  refine (fail_any _ _).mono ?_; rintro e w1 ⟨rfl, hw⟩; subst hw
  go_wp2_with fail
  exact ⟨rfl, rfl, by go_grown⟩
set_option maxRecDepth 100000 in
set_option maxHeartbeats 4000000 in
theorem does_rem (a b : Int) (hb : ¬ b = 0) (w : World) : Calls Tryz.prog 165 #[.string ⟨#[37]⟩, .int .i64 a, .int .i64 b] w (ResPost (.ok (a.tmod b)) w) := by
  have hb2 : (b == 0) = false := by simpa using hb
  have hmk := fun w => MapLit.run_make (P := Tryz.prog) 224 w
  have hins := MapLit.run_insert Tryz.underlying224 Tryz.underlying9
  have hlk := MapLit.run_lookup Tryz.underlying224 Tryz.underlying9 zeroF
  go_enter Tryz.func165, Tryz.ntmps165
  go_wp2_with fail
  go_ret
  exact ⟨rfl, by go_grown⟩
set_option maxRecDepth 100000 in
set_option maxHeartbeats 4000000 in
theorem does_rem0 (a : Int) (w : World) : Calls Tryz.prog 165 #[.string ⟨#[37]⟩, .int .i64 a, .int .i64 0] w (ResPost .zero w) := by
  have hmk := fun w => MapLit.run_make (P := Tryz.prog) 224 w
  have hins := MapLit.run_insert Tryz.underlying224 Tryz.underlying9
  have hlk := MapLit.run_lookup Tryz.underlying224 Tryz.underlying9 zeroF
  go_enter Tryz.func165, Tryz.ntmps165
  go_wp2_with fail
  refine (fail_any _ _).mono ?_; rintro e w1 ⟨rfl, hw⟩; subst hw
  go_wp2_with fail
  exact ⟨rfl, rfl, by go_grown⟩
/-- Which operations have two numbers. -/
def binL : List (List UInt8) := [[124], [94], [38], [61, 61], [33, 61], [60], [60, 61], [62], [62, 61], [60, 60], [62, 62], [43], [45], [42], [47], [37]]
theorem does_any (op : ByteArray) (ho : op.data.toList ∈ binL) (a b : Int) (R : Res) (hR : doesF op.data.toList a b = R) (w : World) :
    Calls Tryz.prog 165 #[.string op, .int .i64 a, .int .i64 b] w (ResPost R w) := by
  subst hR
  obtain ⟨l, hl⟩ : ∃ l, op.data.toList = l := ⟨_, rfl⟩
  obtain rfl : op = ⟨l.toArray⟩ := by rw [← hl]
  simp only at ho
  unfold binL at ho
  simp only [List.mem_cons, List.not_mem_nil, or_false] at ho
  rcases ho with rfl | rfl | rfl | rfl | rfl | rfl | rfl | rfl | rfl | rfl | rfl | rfl | rfl | rfl | rfl | rfl
  · exact does_or a b w
  · exact does_xor a b w
  · exact does_and a b w
  · exact does_eq a b w
  · exact does_ne a b w
  · exact does_lt a b w
  · exact does_le a b w
  · exact does_gt a b w
  · exact does_ge a b w
  · exact does_shl a b w
  · exact does_shr a b w
  · exact does_add a b w
  · exact does_sub a b w
  · exact does_mul a b w
  · by_cases hb : b = 0
    · subst hb; exact does_quo0 a w
    · have e : doesF [47] a b = .ok (wrap64 (a.tdiv b)) := by unfold doesF opF; simp [hb]
      simp only [e]; exact does_quo a b hb w
  · by_cases hb : b = 0
    · subst hb; exact does_rem0 a w
    · have e : doesF [37] a b = .ok (a.tmod b) := by unfold doesF opF; simp [hb]
      simp only [e]; exact does_rem a b hb w
end Go.Proofs.YtkmpbkhlcapbgaaGreatDoor
