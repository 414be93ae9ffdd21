/-
  DERIVED. The walk of the law ParamDoes: for every operation, value and state it returns true and leaves what was there.
-/
import Derived.Test.YtmcaphmgjhkgfaaDoorPc
namespace Go.Proofs.YtmcaphmgjhkgfaaDoor
open Go.RowKit Go.Sort
set_option maxHeartbeats 4000000 in
theorem law_does (op : ByteArray) (_ho : op.size ≤ maxLen) (value : ByteArray) (_hv : value.size ≤ maxLen) (set : Bool) (w : World) (hE : Env w) :
    Calls Tryd.prog 3 #[.string op, .string value, .bool set] w fun e w' => e = .returned (.bool true) ∧ Below w.heap.size w w' := by
  have B0 := Below.refl w.heap.size w
  by_cases hl : 2000 < value.size
  · have hl' : (2000 : Int) < (value.size : Int) := by omega
    go_enter Tryd.func3, Tryd.ntmps3
    go_wp2_with fail
    refine (awake_any _ hE).mono ?_; rintro e w1 ⟨rfl, hb⟩
    have B1 := below_call hb B0; clear hb B0
    go_wp2_with fail
    go_ret
    exact ⟨rfl, B1⟩
  · have hl' : ¬ (2000 : Int) < (value.size : Int) := by omega
    have hl2 : value.size ≤ 2000 := by omega
    have cases5 : op = ⟨#[37]⟩ ∨ op = ⟨#[37, 37]⟩ ∨ op = ⟨#[35]⟩ ∨ op = ⟨#[35, 35]⟩ ∨ ((op.toList == [37]) = false ∧ (op.toList == [37, 37]) = false ∧ (op.toList == [35]) = false ∧ (op.toList == [35, 35]) = false) := by
      have back : ∀ l : List UInt8, op.toList = l → op = ⟨l.toArray⟩ := fun l h => by rw [← h, Lib.toList_data, Lib.mk_data]
      by_cases h1 : op.toList = [37]
      · exact .inl (back _ h1)
      by_cases h2 : op.toList = [37, 37]
      · exact .inr (.inl (back _ h2))
      by_cases h3 : op.toList = [35]
      · exact .inr (.inr (.inl (back _ h3)))
      by_cases h4 : op.toList = [35, 35]
      · exact .inr (.inr (.inr (.inl (back _ h4))))
      exact .inr (.inr (.inr (.inr ⟨by simpa using h1, by simpa using h2, by simpa using h3, by simpa using h4⟩)))
    obtain ⟨b, hb0, hcs⟩ : ∃ b, (trimsF op.data.toList).1 = b ∧ ((b = true ∧ (op = ⟨#[37]⟩ ∨ op = ⟨#[37, 37]⟩ ∨ op = ⟨#[35]⟩ ∨ op = ⟨#[35, 35]⟩)) ∨ (b = false ∧ (op.toList == [37]) = false ∧ (op.toList == [37, 37]) = false ∧ (op.toList == [35]) = false ∧ (op.toList == [35, 35]) = false)) := by
      rcases cases5 with h | h | h | h | h
      · exact ⟨true, by rw [h]; decide, .inl ⟨rfl, by simp [h]⟩⟩
      · exact ⟨true, by rw [h]; decide, .inl ⟨rfl, by simp [h]⟩⟩
      · exact ⟨true, by rw [h]; decide, .inl ⟨rfl, by simp [h]⟩⟩
      · exact ⟨true, by rw [h]; decide, .inl ⟨rfl, by simp [h]⟩⟩
      · exact ⟨false, by obtain ⟨h1, h2, h3, h4⟩ := h; rw [Lib.toList_data] at h1 h2 h3 h4; simp [trimsF, h1, h2, h3, h4], .inr ⟨rfl, h⟩⟩
    clear cases5
    have HT := Lib.hid hb0; clear hb0
    obtain ⟨r, hr⟩ : ∃ r, doesF op.data.toList value.data.toList set = r := ⟨_, rfl⟩
    have HR := Lib.hid hr; clear hr hl
    rcases hcs with ⟨rfl, rfl | rfl | rfl | rfl⟩ | ⟨rfl, h1, h2, h3, h4⟩
    all_goals
      go_enter Tryd.func3, Tryd.ntmps3
      go_wp2_with fail
      refine (awake_any _ hE).mono ?_; rintro e w1 ⟨rfl, hb⟩
      replace hE := hE.keep hb; have B1 := below_call hb B0; clear hb B0
      go_wp2_with fail
      refine (does_at _ _ _ r HR.out _ hE).mono ?_; rintro e w2 ⟨rfl, hb⟩
      replace hE := hE.keep hb; have B0 := below_call hb B1; clear hb B1
      go_wp2_with fail
      refine (ref_at _ _ _ r HR.out _).mono ?_; rintro e w3 ⟨rfl, hb⟩
      replace hE := hE.keep hb; have B1 := below_call hb B0; clear hb B0
      go_wp2_with fail
      refine (trims_at _ _ HT.out _).mono ?_; rintro e w4 ⟨rfl, hb⟩
      replace hE := hE.keep hb; have B0 := below_call hb B1; clear hb B1
      go_wp2_with fail
      refine (len_any _ hl2 _ hE).mono ?_; rintro e w5 ⟨rfl, hb⟩
      have B1 := below_call hb B0; clear hb B0
      go_wp2_with fail
      refine (digits_any _ _ (by omega)).mono ?_; rintro e w6 ⟨rfl, hb⟩
      have B0 := below_call hb B1; clear hb B1
      go_wp2
      go_ret
      exact ⟨by simp, B0⟩
end Go.Proofs.YtmcaphmgjhkgfaaDoor
