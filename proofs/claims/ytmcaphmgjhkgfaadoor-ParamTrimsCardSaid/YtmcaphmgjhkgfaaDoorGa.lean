/-
  DERIVED. The walks of the small functions of package glob: quoted, is; and of the document's Is, member.
-/
import Derived.Test.YtmcaphmgjhkgfaaDoorProg
import Derived.Test.YtmcaphmgjhkgfaaDoorUtil
import Derived.Test.YtmcaphmgjhkgfaaDoorGs
import Derived.WalkKit
import Derived.WalkSpells
import Derived.WalkLawsBesides
import Derived.Handy
import Derived.Lib.Hide
namespace Go.Proofs.YtmcaphmgjhkgfaaDoor
open Go.RowKit Gl
set_option maxHeartbeats 400000 in
theorem quoted_any (t m : ByteArray) (i : Nat) (w : World) :
    Calls Tryd.prog 55 #[.agg #[.string t, .string m], .int .i64 i] w fun e w' => e = .returned (.bool (quotedB m i)) ∧ Below w.heap.size w w' := by
  have hb := get_bt m
  by_cases h : i < m.size
  · go_enter Tryd.func55, Tryd.ntmps55
    go_wp2
    go_ret
    refine ⟨by simp [quotedB, h], ?_⟩
    go_grown
  · go_enter Tryd.func55, Tryd.ntmps55
    go_wp2
    go_ret
    refine ⟨by simp [quotedB, h], ?_⟩
    go_grown
set_option maxHeartbeats 1000000 in
theorem is_any (t m : ByteArray) (i : Nat) (c : Int) (w : World) :
    Calls Tryd.prog 49 #[.agg #[.string t, .string m], .int .i64 i, .int .u8 c] w fun e w' => e = .returned (.bool (isB t m i c)) ∧ Below w.heap.size w w' := by
  have hb := get_bt t
  by_cases h : i < t.size
  · by_cases hc : bt t i = c
    · have hc' : (bt t i == c) = true := by simpa using hc
      have HC := Lib.hid hc; clear hc
      go_enter Tryd.func49, Tryd.ntmps49
      go_wp2_with fail
      refine (quoted_any t m i _).mono ?_; rintro e w1 ⟨rfl, hb1⟩
      go_wp2_with fail
      go_ret
      refine ⟨by simp [isB, h, hc'], below_call hb1 ?_⟩
      go_grown
    · have hc' : (bt t i == c) = false := by simpa using hc
      have HC := Lib.hid hc; clear hc
      go_enter Tryd.func49, Tryd.ntmps49
      go_wp2_with fail
      go_ret
      refine ⟨by simp [isB, h, hc'], ?_⟩
      go_grown
  · go_enter Tryd.func49, Tryd.ntmps49
    go_wp2_with fail
    go_ret
    refine ⟨by simp [isB, h], ?_⟩
    go_grown
/-! ### The document's -/
set_option maxHeartbeats 400000 in
theorem rquoted_any (m : ByteArray) (i : Nat) (w : World) :
    Calls Tryd.prog 51 #[.string m, .int .i64 i] w fun e w' => e = .returned (.bool (quotedB m i)) ∧ Below w.heap.size w w' := by
  have hb := get_bt m
  by_cases h : i < m.size
  · go_enter Tryd.func51, Tryd.ntmps51
    go_wp2
    go_ret
    refine ⟨by simp [quotedB, h], ?_⟩
    go_grown
  · go_enter Tryd.func51, Tryd.ntmps51
    go_wp2
    go_ret
    refine ⟨by simp [quotedB, h], ?_⟩
    go_grown
set_option maxHeartbeats 1000000 in
theorem ris_any (t m : ByteArray) (i : Nat) (c : Int) (w : World) :
    Calls Tryd.prog 39 #[.string t, .string m, .int .i64 i, .int .u8 c] w fun e w' => e = .returned (.bool (isB t m i c)) ∧ Below w.heap.size w w' := by
  have hb := get_bt t
  by_cases h : i < t.size
  · by_cases hc : bt t i = c
    · have hc' : (bt t i == c) = true := by simpa using hc
      have HC := Lib.hid hc; clear hc
      go_enter Tryd.func39, Tryd.ntmps39
      go_wp2_with fail
      refine (rquoted_any m i _).mono ?_; rintro e w1 ⟨rfl, hb1⟩
      go_wp2_with fail
      go_ret
      refine ⟨by simp [isB, h, hc'], below_call hb1 ?_⟩
      go_grown
    · have hc' : (bt t i == c) = false := by simpa using hc
      have HC := Lib.hid hc; clear hc
      go_enter Tryd.func39, Tryd.ntmps39
      go_wp2_with fail
      refine (rquoted_any m i _).mono ?_; rintro e w1 ⟨rfl, hb1⟩
      go_wp2_with fail
      go_ret
      refine ⟨by simp [isB, h, hc'], below_call hb1 ?_⟩
      go_grown
  · go_enter Tryd.func39, Tryd.ntmps39
    go_wp2_with fail
    refine (rquoted_any m i _).mono ?_; rintro e w1 ⟨rfl, hb1⟩
    go_wp2_with fail
    go_ret
    refine ⟨by simp [isB, h], below_call hb1 ?_⟩
    go_grown
end Go.Proofs.YtmcaphmgjhkgfaaDoor
