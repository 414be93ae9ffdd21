/-
  DERIVED. What param.trims comes to, for every operation.
-/
import Derived.Test.YtmcaphmgjhkgfaaDoorProg
import Derived.Test.YtmcaphmgjhkgfaaDoorPlain
import Derived.WalkKit
import Derived.WalkSpells
import Derived.WalkLawsBesides
import Derived.Handy
import Derived.BigQuiet
import Derived.Deep.QuietTactic
namespace Go.Proofs.YtmcaphmgjhkgfaaDoor
open Go.RowKit
set_option maxHeartbeats 400000 in
theorem trims_a (w : World) :
    Calls Tryd.prog 16 #[.string ⟨#[37]⟩] w fun e w' => e = .returned (.tuple #[.bool true, .bool true, .bool false]) ∧ ∃ n, w' = w.drewN n := by
  go_enter Tryd.func16, Tryd.ntmps16
  go_wp2
  go_quiet (fail)
  go_wp2
  go_ret3
  exact ⟨rfl, _, rfl⟩
set_option maxHeartbeats 400000 in
theorem trims_b (w : World) :
    Calls Tryd.prog 16 #[.string ⟨#[35]⟩] w fun e w' => e = .returned (.tuple #[.bool true, .bool false, .bool false]) ∧ ∃ n, w' = w.drewN n := by
  go_enter Tryd.func16, Tryd.ntmps16
  go_wp2
  go_quiet (fail)
  go_wp2
  go_ret3
  exact ⟨rfl, _, rfl⟩
set_option maxHeartbeats 400000 in
theorem trims_c (w : World) :
    Calls Tryd.prog 16 #[.string ⟨#[37, 37]⟩] w fun e w' => e = .returned (.tuple #[.bool true, .bool true, .bool true]) ∧ ∃ n, w' = w.drewN n := by
  go_enter Tryd.func16, Tryd.ntmps16
  go_wp2
  go_quiet (fail)
  go_wp2
  go_ret3
  exact ⟨rfl, _, rfl⟩
set_option maxHeartbeats 400000 in
theorem trims_d (w : World) :
    Calls Tryd.prog 16 #[.string ⟨#[35, 35]⟩] w fun e w' => e = .returned (.tuple #[.bool true, .bool false, .bool true]) ∧ ∃ n, w' = w.drewN n := by
  go_enter Tryd.func16, Tryd.ntmps16
  go_wp2
  go_quiet (fail)
  go_wp2
  go_ret3
  exact ⟨rfl, _, rfl⟩
set_option maxHeartbeats 400000 in
theorem trims_no (s : ByteArray) (w : World) (h1 : (s.toList == [37, 37]) = false) (h2 : (s.toList == [35, 35]) = false) (h3 : (s.toList == [37]) = false) (h4 : (s.toList == [35]) = false) :
    Calls Tryd.prog 16 #[.string s] w fun e w' => e = .returned (.tuple #[.bool false, .bool false, .bool false]) ∧ ∃ n, w' = w.drewN n := by
  go_enter Tryd.func16, Tryd.ntmps16
  go_wp2
  go_ret3
  exact ⟨rfl, 0, rfl⟩
theorem trims_any (s : ByteArray) (w : World) :
    Calls Tryd.prog 16 #[.string s] w fun e w' => e = .returned (.tuple #[.bool (trimsF s.data.toList).1, .bool (trimsF s.data.toList).2.1, .bool (trimsF s.data.toList).2.2]) ∧ Below w.heap.size w w' := by
  have fin : ∀ {r : Ending}, (Calls Tryd.prog 16 #[.string s] w fun e w' => e = r ∧ ∃ n, w' = w.drewN n) →
      Calls Tryd.prog 16 #[.string s] w fun e w' => e = r ∧ Below w.heap.size w w' := fun h => h.mono fun e w' ⟨he, n, hw⟩ => ⟨he, by rw [hw]; exact below_drewN (Below.refl _ _) n⟩
  have back : ∀ l : List UInt8, s.data.toList = l → s = ⟨l.toArray⟩ := fun l h => by rw [← h, Lib.mk_data]
  refine fin ?_
  unfold trimsF
  by_cases h1 : s.data.toList = [37, 37]
  · rw [h1]; obtain rfl := back _ h1; exact trims_c w
  by_cases h2 : s.data.toList = [35, 35]
  · rw [h2]; obtain rfl := back _ h2; exact trims_d w
  by_cases h3 : s.data.toList = [37]
  · rw [h3]; obtain rfl := back _ h3; exact trims_a w
  by_cases h4 : s.data.toList = [35]
  · rw [h4]; obtain rfl := back _ h4; exact trims_b w
  have f1 : (s.data.toList == [37, 37]) = false := by simpa using h1
  have f2 : (s.data.toList == [35, 35]) = false := by simpa using h2
  have f3 : (s.data.toList == [37]) = false := by simpa using h3
  have f4 : (s.data.toList == [35]) = false := by simpa using h4
  simp only [f1, f2, f3, f4]
  rw [← Lib.toList_data] at f1 f2 f3 f4
  exact trims_no s w f1 f2 f3 f4
end Go.Proofs.YtmcaphmgjhkgfaaDoor
