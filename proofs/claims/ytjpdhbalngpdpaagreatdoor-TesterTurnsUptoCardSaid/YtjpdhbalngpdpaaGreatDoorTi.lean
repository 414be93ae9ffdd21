/-
  DERIVED. The walk of the tester's Told.
-/
import Derived.Test.YtjpdhbalngpdpaaGreatDoorTh
namespace Go.Proofs.YtjpdhbalngpdpaaGreatDoor
open Go.RowKit
def toldB (op : List UInt8) (not : Bool) (err n : Int) : Bool :=
  (if op = [45, 102] then (err == 0) && (n == 1) else if op = [45, 100] then (err == 0) && (n == 2) else err == 0) != not
/-- An answer, as it lies. -/
def ansV (kind err n m : Int) (text : ByteArray) (sl : Option Addr) (sn sc : Nat) (sig : Int) : Value := .agg #[.int .i64 kind, .int .i64 err, .int .i64 n, .int .i64 m, .string text, .slice sl sn sc, .int .i64 sig]
set_option maxRecDepth 100000 in
set_option maxHeartbeats 2000000 in
theorem told_f (neg : Bool) (path : ByteArray) (kind err n m : Int) (text : ByteArray) (sl : Option Addr) (sn sc : Nat) (sig : Int) (r : Bool) (hr : toldB [45, 102] neg err n = r) (w : World) :
    Calls Tryz.prog 13 #[.agg #[.bool neg, .string ⟨#[45, 102]⟩, .string path], .agg #[.int .i64 kind, .int .i64 err, .int .i64 n, .int .i64 m, .string text, .slice sl sn sc, .int .i64 sig]] w
      fun e w' => e = .returned (.int .i64 (truthF r)) ∧ Below w.heap.size w w' := by
  obtain ⟨e0, he0⟩ : ∃ b, (err == 0) = b := ⟨_, rfl⟩
  obtain ⟨nk, hnk⟩ : ∃ b, (n == 1) = b := ⟨_, rfl⟩
  unfold toldB at hr
  rw [he0] at hr
  cases e0
  all_goals
    cases nk
    all_goals
      cases neg
      all_goals
        simp [hnk] at hr
        subst hr
        go_enter Tryz.func13, Tryz.ntmps13
        go_wp2_with fail
        refine (truth_any _ _).mono ?_; rintro e w1 ⟨rfl, rfl⟩
        go_wp2_with fail
        go_ret
        exact ⟨rfl, by go_grown⟩
set_option maxRecDepth 100000 in
set_option maxHeartbeats 2000000 in
theorem told_d (neg : Bool) (path : ByteArray) (kind err n m : Int) (text : ByteArray) (sl : Option Addr) (sn sc : Nat) (sig : Int) (r : Bool) (hr : toldB [45, 100] neg err n = r) (w : World) :
    Calls Tryz.prog 13 #[.agg #[.bool neg, .string ⟨#[45, 100]⟩, .string path], .agg #[.int .i64 kind, .int .i64 err, .int .i64 n, .int .i64 m, .string text, .slice sl sn sc, .int .i64 sig]] w
      fun e w' => e = .returned (.int .i64 (truthF r)) ∧ Below w.heap.size w w' := by
  obtain ⟨e0, he0⟩ : ∃ b, (err == 0) = b := ⟨_, rfl⟩
  obtain ⟨nk, hnk⟩ : ∃ b, (n == 2) = b := ⟨_, rfl⟩
  unfold toldB at hr
  rw [he0] at hr
  cases e0
  all_goals
    cases nk
    all_goals
      cases neg
      all_goals
        simp [hnk] at hr
        subst hr
        go_enter Tryz.func13, Tryz.ntmps13
        go_wp2_with fail
        refine (truth_any _ _).mono ?_; rintro e w1 ⟨rfl, rfl⟩
        go_wp2_with fail
        go_ret
        exact ⟨rfl, by go_grown⟩
set_option maxRecDepth 100000 in
set_option maxHeartbeats 2000000 in
theorem told_else (neg : Bool) (l : List UInt8) (h1 : l ≠ [45, 102]) (h2 : l ≠ [45, 100]) (path : ByteArray) (kind err n m : Int) (text : ByteArray) (sl : Option Addr) (sn sc : Nat) (sig : Int) (r : Bool) (hr : toldB l neg err n = r) (w : World) :
    Calls Tryz.prog 13 #[.agg #[.bool neg, .string ⟨l.toArray⟩, .string path], .agg #[.int .i64 kind, .int .i64 err, .int .i64 n, .int .i64 m, .string text, .slice sl sn sc, .int .i64 sig]] w
      fun e w' => e = .returned (.int .i64 (truthF r)) ∧ Below w.heap.size w w' := by
  obtain ⟨e0, he0⟩ : ∃ b, (err == 0) = b := ⟨_, rfl⟩
  obtain ⟨nk, hnk⟩ : ∃ b, (n == 1) = b := ⟨_, rfl⟩
  unfold toldB at hr
  rw [he0] at hr
  have g1 : (l == [45, 102]) = false := by simpa using h1
  have g2 : (l == [45, 100]) = false := by simpa using h2
  rw [if_neg h1, if_neg h2] at hr
  clear h1 h2 hnk
  cases e0
  all_goals
    skip
    all_goals
      cases neg
      all_goals
        simp at hr
        subst hr
        go_enter Tryz.func13, Tryz.ntmps13
        go_wp2_with fail
        refine (truth_any _ _).mono ?_; rintro e w1 ⟨rfl, rfl⟩
        go_wp2_with fail
        go_ret
        exact ⟨rfl, by go_grown⟩
theorem told_any (neg : Bool) (op path : ByteArray) (kind err n m : Int) (text : ByteArray) (sl : Option Addr) (sn sc : Nat) (sig : Int) (r : Bool) (hr : toldB op.data.toList neg err n = r) (w : World) :
    Calls Tryz.prog 13 #[.agg #[.bool neg, .string op, .string path], ansV kind err n m text sl sn sc sig] w
      fun e w' => e = .returned (.int .i64 (truthF r)) ∧ Below w.heap.size w w' := by
  obtain ⟨l, hl⟩ : ∃ l, op.data.toList = l := ⟨_, rfl⟩
  obtain rfl : op = ⟨l.toArray⟩ := by rw [← hl, Lib.mk_data]
  rw [hl] at hr
  clear hl
  by_cases h1 : l = [45, 102]
  · subst h1; exact told_f neg path kind err n m text sl sn sc sig r hr w
  by_cases h2 : l = [45, 100]
  · subst h2; exact told_d neg path kind err n m text sl sn sc sig r hr w
  exact told_else neg l h1 h2 path kind err n m text sl sn sc sig r hr w
end Go.Proofs.YtjpdhbalngpdpaaGreatDoor
