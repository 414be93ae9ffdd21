/-
  DERIVED. The walk of the law ParamColons: for every byte, value and state it returns true and leaves what was there.
-/
import Derived.Test.YtmcaphmgjhkgfaaDoorPc
namespace Go.Proofs.YtmcaphmgjhkgfaaDoor
open Go.RowKit Go.Sort
theorem new_block (w : World) (o : Obj) : Below w.heap.size w (w.alloc o) := (Below.refl _ _).alloc (Nat.le_refl _) o
theorem colon_at (c : UInt8) (hc : c = 45 ∨ c = 61 ∨ c = 63 ∨ c = 43) (value : ByteArray) (set b : Bool) (hb : value.data.toList.isEmpty = b) (r : Int) (hr : doesF [c] value.data.toList (set && !b) = r) (w : World) (hE : Env w) :
    Calls Tryd.prog 7 #[.string ((⟨#[58]⟩ : ByteArray) ++ ⟨#[c]⟩), .string value, .bool set] w fun e w' => e = .returned (.int .i64 r) ∧ Below w.heap.size w w' := by
  rw [mk_append [58] [c]]
  refine does_at _ _ _ r ?_ w hE
  rw [← hr, ← hb]
  exact does_colon [c] (by simpa using hc) value.data.toList set
set_option maxHeartbeats 8000000 in
theorem colons_no (k : Int) (hk0 : 0 ≤ k) (hk1 : k ≤ 255) (value : ByteArray) (set b : Bool) (hv : value.toList.isEmpty = b) (hcs : (set && !b) = false) (w : World) (hE : Env w) :
    Calls Tryd.prog 4 #[.int .u8 k, .string value, .bool set] w fun e w' => e = .returned (.bool true) ∧ Below w.heap.size w w' := by
  have B0 := Below.refl w.heap.size w
  have HV : Hid (value.data.toList.isEmpty = b) := by unfold Hid; rw [← Lib.toList_data]; exact hv
  obtain ⟨c, hc, hop⟩ : ∃ c : UInt8, (c = 45 ∨ c = 61 ∨ c = 63 ∨ c = 43) ∧ ((c = 45 ∧ k % 4 = 0) ∨ (c = 61 ∧ k % 4 = 1) ∨ (c = 63 ∧ k % 4 = 2) ∨ (c = 43 ∧ k % 4 = 3)) := by
    rcases (show k % 4 = 0 ∨ k % 4 = 1 ∨ k % 4 = 2 ∨ k % 4 = 3 by omega) with h | h | h | h
    · exact ⟨45, by simp, .inl ⟨rfl, h⟩⟩
    · exact ⟨61, by simp, .inr (.inl ⟨rfl, h⟩)⟩
    · exact ⟨63, by simp, .inr (.inr (.inl ⟨rfl, h⟩))⟩
    · exact ⟨43, by simp, .inr (.inr (.inr ⟨rfl, h⟩))⟩
  clear hc
  have hx : Hid ((set && !b) = false) := hcs
  obtain ⟨r, hr⟩ : ∃ r, doesF [c] value.data.toList (set && !b) = r := ⟨_, rfl⟩
  rw [hx.out] at hr
  have HR0 : Hid (doesF [c] value.data.toList false = r) := hr
  clear hr hcs
  rcases hop with ⟨rfl, hop⟩ | ⟨rfl, hop⟩ | ⟨rfl, hop⟩ | ⟨rfl, hop⟩ <;> rcases (show (set = false ∧ b = false) ∨ (set = false ∧ b = true) ∨ (set = true ∧ b = true) by cases set <;> cases b <;> simp_all [Hid]) with ⟨rfl, rfl⟩ | ⟨rfl, rfl⟩ | ⟨rfl, rfl⟩
  all_goals
    have HR := HR0; clear HR0 hx
    go_enter Tryd.func4, Tryd.ntmps4
    go_wp2_with fail
    refine (awake_any _ hE).mono ?_; rintro e w1 ⟨rfl, hb⟩
    replace hE := hE.keep hb; have B1 := below_call hb B0; clear hb B0
    go_wp2_with fail
    refine (colon_at _ (by simp) _ _ _ HV.out r HR.out _ (hE.keep (new_block _ _))).mono ?_; rintro e w2 ⟨rfl, hb⟩
    replace hE := (hE.keep (new_block _ _)).keep hb; have B0 := below_call hb (below_call (new_block _ _) B1); clear hb B1
    go_wp2_with fail
    refine (does_at _ _ _ r HR.out _ hE).mono ?_; rintro e w3 ⟨rfl, hb⟩
    replace hE := hE.keep hb; have B1 := below_call hb B0; clear hb B0
    go_wp2_with fail
    go_ret
    exact ⟨rfl, B1⟩
set_option maxHeartbeats 8000000 in
theorem colons_yes (k : Int) (hk0 : 0 ≤ k) (hk1 : k ≤ 255) (value : ByteArray) (set b : Bool) (hv : value.toList.isEmpty = b) (hcs : set = true ∧ b = false) (w : World) (hE : Env w) :
    Calls Tryd.prog 4 #[.int .u8 k, .string value, .bool set] w fun e w' => e = .returned (.bool true) ∧ Below w.heap.size w w' := by
  have B0 := Below.refl w.heap.size w
  have HV : Hid (value.data.toList.isEmpty = b) := by unfold Hid; rw [← Lib.toList_data]; exact hv
  obtain ⟨c, hc, hop⟩ : ∃ c : UInt8, (c = 45 ∨ c = 61 ∨ c = 63 ∨ c = 43) ∧ ((c = 45 ∧ k % 4 = 0) ∨ (c = 61 ∧ k % 4 = 1) ∨ (c = 63 ∧ k % 4 = 2) ∨ (c = 43 ∧ k % 4 = 3)) := by
    rcases (show k % 4 = 0 ∨ k % 4 = 1 ∨ k % 4 = 2 ∨ k % 4 = 3 by omega) with h | h | h | h
    · exact ⟨45, by simp, .inl ⟨rfl, h⟩⟩
    · exact ⟨61, by simp, .inr (.inl ⟨rfl, h⟩)⟩
    · exact ⟨63, by simp, .inr (.inr (.inl ⟨rfl, h⟩))⟩
    · exact ⟨43, by simp, .inr (.inr (.inr ⟨rfl, h⟩))⟩
  clear hc
  obtain ⟨rfl, rfl⟩ := hcs
  rcases hop with ⟨rfl, hop⟩ | ⟨rfl, hop⟩ | ⟨rfl, hop⟩ | ⟨rfl, hop⟩
  · obtain ⟨r, HR, hr⟩ : ∃ r, Hid (doesF [45] value.data.toList true = r) ∧ r = 1 := ⟨1, by unfold Hid; simp [doesF, doesT, Lib.trimPrefix, Lib.hasPrefix, List.isPrefixOf], rfl⟩
    subst hr
    go_enter Tryd.func4, Tryd.ntmps4
    go_wp2_with fail
    refine (awake_any _ hE).mono ?_; rintro e w1 ⟨rfl, hb⟩
    replace hE := hE.keep hb; have B1 := below_call hb B0; clear hb B0
    go_wp2_with fail
    refine (colon_at _ (by simp) _ _ _ HV.out 1 HR.out _ (hE.keep (new_block _ _))).mono ?_; rintro e w2 ⟨rfl, hb⟩
    replace hE := (hE.keep (new_block _ _)).keep hb; have B0 := below_call hb (below_call (new_block _ _) B1); clear hb B1
    go_wp2_with fail
    refine (does_at _ _ _ 1 HR.out _ hE).mono ?_; rintro e w3 ⟨rfl, hb⟩
    replace hE := hE.keep hb; have B1 := below_call hb B0; clear hb B0
    go_wp2_with fail
    refine (does_at _ _ _ 1 HR.out _ hE).mono ?_; rintro e w4 ⟨rfl, hb⟩
    have B0 := below_call hb B1; clear hb B1
    go_wp2_with fail
    go_ret
    exact ⟨rfl, B0⟩
  · obtain ⟨r, HR, hr⟩ : ∃ r, Hid (doesF [61] value.data.toList true = r) ∧ r = 1 := ⟨1, by unfold Hid; simp [doesF, doesT, Lib.trimPrefix, Lib.hasPrefix, List.isPrefixOf], rfl⟩
    subst hr
    go_enter Tryd.func4, Tryd.ntmps4
    go_wp2_with fail
    refine (awake_any _ hE).mono ?_; rintro e w1 ⟨rfl, hb⟩
    replace hE := hE.keep hb; have B1 := below_call hb B0; clear hb B0
    go_wp2_with fail
    refine (colon_at _ (by simp) _ _ _ HV.out 1 HR.out _ (hE.keep (new_block _ _))).mono ?_; rintro e w2 ⟨rfl, hb⟩
    replace hE := (hE.keep (new_block _ _)).keep hb; have B0 := below_call hb (below_call (new_block _ _) B1); clear hb B1
    go_wp2_with fail
    refine (does_at _ _ _ 1 HR.out _ hE).mono ?_; rintro e w3 ⟨rfl, hb⟩
    replace hE := hE.keep hb; have B1 := below_call hb B0; clear hb B0
    go_wp2_with fail
    refine (does_at _ _ _ 1 HR.out _ hE).mono ?_; rintro e w4 ⟨rfl, hb⟩
    have B0 := below_call hb B1; clear hb B1
    go_wp2_with fail
    go_ret
    exact ⟨rfl, B0⟩
  · obtain ⟨r, HR, hr⟩ : ∃ r, Hid (doesF [63] value.data.toList true = r) ∧ r = 1 := ⟨1, by unfold Hid; simp [doesF, doesT, Lib.trimPrefix, Lib.hasPrefix, List.isPrefixOf], rfl⟩
    subst hr
    go_enter Tryd.func4, Tryd.ntmps4
    go_wp2_with fail
    refine (awake_any _ hE).mono ?_; rintro e w1 ⟨rfl, hb⟩
    replace hE := hE.keep hb; have B1 := below_call hb B0; clear hb B0
    go_wp2_with fail
    refine (colon_at _ (by simp) _ _ _ HV.out 1 HR.out _ (hE.keep (new_block _ _))).mono ?_; rintro e w2 ⟨rfl, hb⟩
    replace hE := (hE.keep (new_block _ _)).keep hb; have B0 := below_call hb (below_call (new_block _ _) B1); clear hb B1
    go_wp2_with fail
    refine (does_at _ _ _ 1 HR.out _ hE).mono ?_; rintro e w3 ⟨rfl, hb⟩
    replace hE := hE.keep hb; have B1 := below_call hb B0; clear hb B0
    go_wp2_with fail
    refine (does_at _ _ _ 1 HR.out _ hE).mono ?_; rintro e w4 ⟨rfl, hb⟩
    have B0 := below_call hb B1; clear hb B1
    go_wp2_with fail
    go_ret
    exact ⟨rfl, B0⟩
  · obtain ⟨r, HR, hr⟩ : ∃ r, Hid (doesF [43] value.data.toList true = r) ∧ r = 2 := ⟨2, by unfold Hid; simp [doesF, doesT, Lib.trimPrefix, Lib.hasPrefix, List.isPrefixOf], rfl⟩
    subst hr
    go_enter Tryd.func4, Tryd.ntmps4
    go_wp2_with fail
    refine (awake_any _ hE).mono ?_; rintro e w1 ⟨rfl, hb⟩
    replace hE := hE.keep hb; have B1 := below_call hb B0; clear hb B0
    go_wp2_with fail
    refine (colon_at _ (by simp) _ _ _ HV.out 2 HR.out _ (hE.keep (new_block _ _))).mono ?_; rintro e w2 ⟨rfl, hb⟩
    replace hE := (hE.keep (new_block _ _)).keep hb; have B0 := below_call hb (below_call (new_block _ _) B1); clear hb B1
    go_wp2_with fail
    refine (does_at _ _ _ 2 HR.out _ hE).mono ?_; rintro e w3 ⟨rfl, hb⟩
    replace hE := hE.keep hb; have B1 := below_call hb B0; clear hb B0
    go_wp2_with fail
    refine (does_at _ _ _ 2 HR.out _ hE).mono ?_; rintro e w4 ⟨rfl, hb⟩
    have B0 := below_call hb B1; clear hb B1
    go_wp2_with fail
    go_ret
    exact ⟨rfl, B0⟩
theorem law_colons (k : Int) (hk0 : 0 ≤ k) (hk1 : k ≤ 255) (value : ByteArray) (_hv : value.size ≤ maxLen) (set : Bool) (w : World) (hE : Env w) :
    Calls Tryd.prog 4 #[.int .u8 k, .string value, .bool set] w fun e w' => e = .returned (.bool true) ∧ Below w.heap.size w w' := by
  cases h : (set && !value.toList.isEmpty)
  · exact colons_no k hk0 hk1 value set _ rfl h w hE
  · simp at h
    exact colons_yes k hk0 hk1 value set _ rfl ⟨h.1, by simpa using h.2⟩ w hE
end Go.Proofs.YtmcaphmgjhkgfaaDoor
