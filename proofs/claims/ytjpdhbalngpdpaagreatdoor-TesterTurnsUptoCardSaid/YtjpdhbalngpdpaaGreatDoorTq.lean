/-
  DERIVED. The walk of the law TesterTurns, whole.
-/
import Derived.Test.YtjpdhbalngpdpaaGreatDoorTp
namespace Go.Proofs.YtjpdhbalngpdpaaGreatDoor
open Go.RowKit
set_option maxRecDepth 100000 in
set_option maxHeartbeats 4000000 in
theorem turns_long (ao : Option Addr) (n cap : Nat) (a b : ByteArray) (g1 : (3 : Int) < (n : Int)) (w : World) (hE : Env w) :
    Calls Tryz.prog 5 #[.slice ao n cap, .string a, .string b] w fun e w' => e = .returned (.bool true) ∧ Below w.heap.size w w' := by
  have HA := Lib.hid (awake_any w hE)
  clear hE
  go_enter Tryz.func5, Tryz.ntmps5
  go_wp2_with fail
  refine HA.out.mono ?_; rintro e w1 ⟨rfl, hb1⟩
  go_wp2_with fail
  go_ret
  exact ⟨rfl, hb1⟩
set_option maxRecDepth 100000 in
set_option maxHeartbeats 4000000 in
theorem turns_none (ao : Option Addr) (n cap : Nat) (a b : ByteArray) (g1 : ¬ (3 : Int) < (n : Int)) (g2 : ((n : Int) == 0) = true) (w : World) (hE : Env w) :
    Calls Tryz.prog 5 #[.slice ao n cap, .string a, .string b] w fun e w' => e = .returned (.bool true) ∧ Below w.heap.size w w' := by
  have HA := Lib.hid (awake_any w hE)
  clear hE
  go_enter Tryz.func5, Tryz.ntmps5
  go_wp2_with fail
  refine HA.out.mono ?_; rintro e w1 ⟨rfl, hb1⟩
  go_wp2_with fail
  go_ret
  exact ⟨rfl, hb1⟩
set_option maxRecDepth 100000 in
set_option maxHeartbeats 4000000 in
theorem turns_a (ao : Option Addr) (n cap : Nat) (a b : ByteArray) (g1 : ¬ (3 : Int) < (n : Int)) (g2 : ((n : Int) == 0) = false) (g3 : (60 : Int) < (a.size : Int)) (w : World) (hE : Env w) :
    Calls Tryz.prog 5 #[.slice ao n cap, .string a, .string b] w fun e w' => e = .returned (.bool true) ∧ Below w.heap.size w w' := by
  have HA := Lib.hid (awake_any w hE)
  clear hE
  go_enter Tryz.func5, Tryz.ntmps5
  go_wp2_with fail
  refine HA.out.mono ?_; rintro e w1 ⟨rfl, hb1⟩
  go_wp2_with fail
  go_ret
  exact ⟨rfl, hb1⟩
set_option maxRecDepth 100000 in
set_option maxHeartbeats 4000000 in
theorem turns_b (ao : Option Addr) (n cap : Nat) (a b : ByteArray) (g1 : ¬ (3 : Int) < (n : Int)) (g2 : ((n : Int) == 0) = false) (g3 : ¬ (60 : Int) < (a.size : Int)) (g4 : (60 : Int) < (b.size : Int)) (w : World) (hE : Env w) :
    Calls Tryz.prog 5 #[.slice ao n cap, .string a, .string b] w fun e w' => e = .returned (.bool true) ∧ Below w.heap.size w w' := by
  have HA := Lib.hid (awake_any w hE)
  clear hE
  go_enter Tryz.func5, Tryz.ntmps5
  go_wp2_with fail
  refine HA.out.mono ?_; rintro e w1 ⟨rfl, hb1⟩
  go_wp2_with fail
  go_ret
  exact ⟨rfl, hb1⟩
theorem law_turns (ss : List ByteArray) (hs : ∀ s ∈ ss, s.size ≤ 1000000000) (v : Value) (a : ByteArray) (_ : a.size ≤ maxLen) (b : ByteArray) (_ : b.size ≤ maxLen) (w : World) (hv : StrsAt w v ss) (hE : Env w) :
    Calls Tryz.prog 5 #[v, .string a, .string b] w fun e w' => e = .returned (.bool true) ∧ Below w.heap.size w w' := by
  have hv0 := hv
  obtain ⟨ao, cap, rfl, hcap, hc⟩ := hv
  clear hc hcap
  by_cases c1 : (3 : Int) < (ss.length : Int)
  · exact turns_long ao _ cap a b c1 w hE
  by_cases c2 : ss.length = 0
  · exact turns_none ao _ cap a b c1 (by simp [c2]) w hE
  by_cases c3 : (60 : Int) < (a.size : Int)
  · exact turns_a ao _ cap a b c1 (beq_eq_false_iff_ne.2 (by omega)) c3 w hE
  by_cases c4 : (60 : Int) < (b.size : Int)
  · exact turns_b ao _ cap a b c1 (beq_eq_false_iff_ne.2 (by omega)) c3 c4 w hE
  exact law_turns_main ss (by omega) (by omega) hs a b (by omega) (by omega) _ w hv0 hE
end Go.Proofs.YtjpdhbalngpdpaaGreatDoor
