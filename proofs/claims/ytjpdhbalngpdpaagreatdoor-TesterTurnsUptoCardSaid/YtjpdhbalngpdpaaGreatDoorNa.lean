/-
  DERIVED. The walks of the document's blank, digit, Digits and Number: they only reckon, so the world stays.
-/
import Derived.Test.YtjpdhbalngpdpaaGreatDoorProg
import Derived.Test.YtjpdhbalngpdpaaGreatDoorUtil
import Derived.Test.YtjpdhbalngpdpaaGreatDoorBy
import Derived.WalkKit
import Derived.WalkSpells
import Derived.WalkLawsBesides
import Derived.Handy
import Derived.Lib.Hide
import Derived.Deep.LoopGhost
import Derived.Deep.DeepCutAuto
namespace Go.Proofs.YtjpdhbalngpdpaaGreatDoor
open Go.RowKit
set_option maxHeartbeats 1000000 in
theorem rblank_any (c : Int) (b : Bool) (hb : blankB c = b) (w : World) :
    Calls Tryz.prog 84 #[.int .u8 c] w fun e w' => e = .returned (.bool b) ∧ w = w' := by
  subst hb
  cases h1 : (c == 32)
  · cases h2 : (c == 9)
    · go_enter Tryz.func84, Tryz.ntmps84
      go_wp2
      go_ret
      exact ⟨by simp [blankB, h1, h2], rfl⟩
    · go_enter Tryz.func84, Tryz.ntmps84
      go_wp2
      go_ret
      exact ⟨by simp [blankB, h1, h2], rfl⟩
  · go_enter Tryz.func84, Tryz.ntmps84
    go_wp2
    go_ret
    exact ⟨by simp [blankB, h1], rfl⟩
set_option maxHeartbeats 1000000 in
theorem rdigit_any (c : Int) (h0 : 0 ≤ c) (h1 : c ≤ 255) (w : World) :
    Calls Tryz.prog 104 #[.int .u8 c] w fun e w' => e = .returned (.int .i64 (digitV c)) ∧ w = w' := by
  by_cases a1 : 48 ≤ c
  · by_cases a2 : c ≤ 57
    · go_enter Tryz.func104, Tryz.ntmps104
      go_wp2
      go_ret
      exact ⟨ret_int (by unfold digitV; rw [if_pos ⟨a1, a2⟩]), rfl⟩
    · by_cases a3 : 97 ≤ c
      · by_cases a4 : c ≤ 102
        · go_enter Tryz.func104, Tryz.ntmps104
          go_wp2
          go_ret
          exact ⟨ret_int (by unfold digitV; rw [if_neg (by omega), if_pos ⟨a3, a4⟩]), rfl⟩
        · have a5 : ¬ c ≤ 70 := by omega
          have a6 : 65 ≤ c := by omega
          go_enter Tryz.func104, Tryz.ntmps104
          go_wp2
          go_ret
          exact ⟨ret_int (by unfold digitV; rw [if_neg (by omega), if_neg (by omega), if_neg (by omega)]), rfl⟩
      · by_cases a5 : 65 ≤ c
        · by_cases a6 : c ≤ 70
          · go_enter Tryz.func104, Tryz.ntmps104
            go_wp2
            go_ret
            exact ⟨ret_int (by unfold digitV; rw [if_neg (by omega), if_neg (by omega), if_pos ⟨a5, a6⟩]), rfl⟩
          · go_enter Tryz.func104, Tryz.ntmps104
            go_wp2
            go_ret
            exact ⟨ret_int (by unfold digitV; rw [if_neg (by omega), if_neg (by omega), if_neg (by omega)]), rfl⟩
        · go_enter Tryz.func104, Tryz.ntmps104
          go_wp2
          go_ret
          exact ⟨ret_int (by unfold digitV; rw [if_neg (by omega), if_neg (by omega), if_neg (by omega)]), rfl⟩
  · have a3 : ¬ 97 ≤ c := by omega
    have a5 : ¬ 65 ≤ c := by omega
    go_enter Tryz.func104, Tryz.ntmps104
    go_wp2
    go_ret
    exact ⟨ret_int (by unfold digitV; rw [if_neg (by omega), if_neg (by omega), if_neg (by omega)]), rfl⟩
theorem rdigit_at (c d : Int) (h0 : 0 ≤ c) (h1 : c ≤ 255) (hd : digitV c = d) (w : World) :
    Calls Tryz.prog 104 #[.int .u8 c] w fun e w' => e = .returned (.int .i64 d) ∧ w = w' := by
  subst hd; exact rdigit_any c h0 h1 w
end Go.Proofs.YtjpdhbalngpdpaaGreatDoor
