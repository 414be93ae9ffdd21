/-
  DERIVED. What the document's Digits comes to: the decimal digits of every number up to a million.
-/
import Derived.Test.YtmcaphmgjhkgfaaDoorProg
import Derived.Test.YtmcaphmgjhkgfaaDoorUtil
import Derived.WalkKit
import Derived.WalkSpells
import Derived.WalkLawsBesides
import Derived.Handy
import Derived.Lib.Hide
import Derived.BigQuiet
import Derived.Deep.QuietTactic
import Derived.Deep.RegionWith
import Derived.Lib.ItoaNum
namespace Go.Proofs.YtmcaphmgjhkgfaaDoor
open Go.RowKit
theorem digits_le (q : Nat) : (Lib.decDigits q).length ≤ q + 1 := by
  induction q using Nat.strongRecOn with
  | _ q ih =>
    rw [Lib.decDigits]
    split
    · simp
    · have := ih (q / 10) (by omega)
      simp; omega
set_option maxRecDepth 100000 in
set_option maxHeartbeats 1000000 in
theorem digits_small (n : Nat) (w : World) (h : n < 10) :
    Calls Tryd.prog 11 #[.int .i64 n] w fun e w' => e = .returned (.string ⟨(Lib.decDigits n).toArray⟩) ∧ Below w.heap.size w w' := by
  have hd : ¬ (10 : Int) ≤ (n : Int) := by omega
  have hcv := fun w b cap x => run_str1 (P := Tryd.prog) Tryd.underlying44 Tryd.underlying5 Tryd.underlying9 w b cap x
  go_enter Tryd.func11, Tryd.ntmps11
  go_wp2
  go_ret
  refine ⟨?_, ?_⟩
  · refine ret_str ?_
    rw [Lib.decDigits_one h]
    simp
  · go_grown
set_option maxRecDepth 100000 in
set_option maxHeartbeats 1000000 in
theorem digits_any (n : Nat) : ∀ (w : World), n ≤ 1000000 →
    Calls Tryd.prog 11 #[.int .i64 n] w fun e w' => e = .returned (.string ⟨(Lib.decDigits n).toArray⟩) ∧ Below w.heap.size w w' := by
  induction n using Nat.strongRecOn with
  | _ n ih =>
    intro w hn
    by_cases h : n < 10
    · exact digits_small n w h
    · have hd : (10 : Int) ≤ (n : Int) := by omega
      obtain ⟨q, hq⟩ : ∃ q, q = n / 10 := ⟨_, rfl⟩
      obtain ⟨r, hr⟩ : ∃ r, r = n % 10 := ⟨_, rfl⟩
      have IH : Hid (∀ w : World, Calls Tryd.prog 11 #[.int .i64 (q : Int)] w fun e w' => e = .returned (.string ⟨(Lib.decDigits q).toArray⟩) ∧ Below w.heap.size w w') := fun w => ih q (by omega) w (by omega)
      have hfin : Hid (Lib.decDigits n = Lib.decDigits q ++ [UInt8.ofNat (48 + r)]) := by unfold Hid; rw [hq, hr]; conv => lhs; rw [Lib.decDigits, dif_neg h]
      have hdl : (Lib.decDigits q).length + 1 ≤ 9223372036854775807 := by have := digits_le q; omega
      clear ih
      have e1 : IntKind.i64.wrap ((n : Int) / 10) = (q : Int) := by rw [IntWalk.i64_in _ (by omega)]; omega
      have e2 : (n : Int).tmod 10 = (r : Int) := by rw [Int.tmod_eq_emod_of_nonneg (by omega)]; omega
      have e3 : IntKind.i64.wrap (48 + (r : Int)) = 48 + (r : Int) := IntWalk.i64_in _ (by omega)
      have e4 : IntKind.u8.wrap (48 + (r : Int)) = 48 + (r : Int) := IntWalk.u8_in _ (by omega)
      clear hq hr
      have hcv := fun w b cap x => run_str1 (P := Tryd.prog) Tryd.underlying44 Tryd.underlying5 Tryd.underlying9 w b cap x
      go_enter Tryd.func11, Tryd.ntmps11
      go_wp2_with fail
      go_region_with (go_at_call 11; refine (IH.out _).mono ?_; rintro e w' ⟨rfl, hb⟩; obtain ⟨hc, hf⟩ := bcell hb)
      all_goals (go_wp2; go_ret; refine ⟨?_, ?_⟩)
      all_goals first
        | (refine below_call hb ?_; go_grown; done)
        | (refine below_call_alloc hb ?_ _; go_grown; done)
        | (simp [Act.put, mk_append, hfin.out]; done)
end Go.Proofs.YtmcaphmgjhkgfaaDoor
