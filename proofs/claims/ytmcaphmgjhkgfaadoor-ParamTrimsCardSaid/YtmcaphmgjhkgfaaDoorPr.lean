/-
  DERIVED. What the document's Does comes to: the table, for every operation, value and state.
-/
import Derived.Test.YtmcaphmgjhkgfaaDoorPlain
import Derived.Test.YtmcaphmgjhkgfaaDoorProg
import Derived.WalkKit
import Derived.WalkSpells
import Derived.WalkLawsBesides
import Derived.Handy
import Derived.Lib.Hide
import Derived.BigQuiet
import Derived.Deep.QuietTactic
namespace Go.Proofs.YtmcaphmgjhkgfaaDoor
open Go.RowKit
set_option maxRecDepth 100000 in
set_option maxHeartbeats 1000000 in
theorem ref_does (op value : ByteArray) (set : Bool) (w : World) :
    Calls Tryd.prog 8 #[.string op, .string value, .bool set] w fun e w' => e = .returned (.int .i64 (refDoes op.toList value.toList set)) ∧ Below w.heap.size w w' := by
  cases set
  · go_enter Tryd.func8, Tryd.ntmps8
    go_wp2
    all_goals (go_ret; refine ⟨by simp [refDoes, tab, *], ?_⟩; go_grown)
  · by_cases hv : value.toList = []
    · go_enter Tryd.func8, Tryd.ntmps8
      go_wp2
      all_goals (go_ret; refine ⟨by simp [refDoes, tab, *], ?_⟩; go_grown)
    · go_enter Tryd.func8, Tryd.ntmps8
      go_wp2
      all_goals (go_ret; refine ⟨by simp [refDoes, tab, *], ?_⟩; go_grown)
end Go.Proofs.YtmcaphmgjhkgfaaDoor
