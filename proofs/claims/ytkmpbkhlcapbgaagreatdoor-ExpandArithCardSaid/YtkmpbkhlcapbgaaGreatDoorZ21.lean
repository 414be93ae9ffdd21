/-
  DERIVED. What param.Does comes to, for every operation, value and state; no condition but that the library's variable MaxLen holds some number.
-/
import Derived.Test.YtkmpbkhlcapbgaaGreatDoorZ20
import Derived.Test.YtkmpbkhlcapbgaaGreatDoorZ01
import Derived.Test.YtkmpbkhlcapbgaaGreatDoorShelf
import Derived.WalkKit
import Derived.WalkSpells
import Derived.WalkLawsBesides
import Derived.Handy
import Derived.Lib.Hide
namespace Go.Proofs.YtkmpbkhlcapbgaaGreatDoor
open Go.RowKit
def CutIs (op : ByteArray) (name : List UInt8) (colon : Bool) : Prop :=
  ∀ w, Calls Tryz.prog 123 #[.string op, .string ⟨#[58]⟩] w fun e w' => e = .returned (.tuple #[.string ⟨name.toArray⟩, .bool colon]) ∧ w = w'
def HasIs (name : List UInt8) (m : Int) (b : Bool) : Prop :=
  ∀ w : World, w.cell? ⟨1, 0, none⟩ = some (.int .i64 m) → Calls Tryz.prog 122 #[.string ⟨#[45, 61, 63, 43]⟩, .string ⟨name.toArray⟩] w fun e w' => e = .returned (.bool b) ∧ w = w'
set_option maxRecDepth 100000 in
set_option maxHeartbeats 8000000 in
theorem does_lit (name : List UInt8) (hn : name = [45] ∨ name = [61] ∨ name = [63] ∨ name = [43]) (op value : ByteArray) (set colon : Bool) (m : Int) (w : World)
    (hm : w.cell? ⟨1, 0, none⟩ = some (.int .i64 m)) (HC : CutIs op name colon) (HK : HasIs name m true) :
    Calls Tryz.prog 90 #[.string op, .string value, .bool set] w fun e w' =>
      e = .returned (.int .i64 (doesT name (if colon then set && !value.toList.isEmpty else set) set)) ∧ Below w.heap.size w w' := by
  have hlt := block_lt_of_cell hm
  have hmk := fun w => MapLit.run_make (P := Tryz.prog) 167 w
  have hins := MapLit.run_insert Tryz.underlying167 Tryz.underlying9
  have hz : ∀ w, (zeroValue 3).run Tryz.prog w = .ok (.int .i64 0) w := fun _ => by kernel_rfl
  have hlk := MapLit.run_lookup Tryz.underlying167 Tryz.underlying9 hz
  have hcell : ∀ o, (w.alloc o).cell? ⟨1, 0, none⟩ = some (.int .i64 m) := fun o => (((Below.refl _ w).alloc (Nat.le_refl _) o).cell hlt).trans hm
  have HCELL := Lib.hid hcell
  clear hcell hm
  rcases hn with rfl | rfl | rfl | rfl <;> cases set <;> cases colon
  all_goals
    by_cases hv : value.toList = []
    · go_enter Tryz.func90, Tryz.ntmps90
      go_wp2_with fail
      refine (HC _).mono ?_; rintro e w' ⟨rfl, rfl⟩
      go_wp2_with fail
      refine (HK _ (HCELL.out _)).mono ?_; rintro e w' ⟨rfl, rfl⟩
      go_wp2
      go_ret
      refine ⟨?_, ?_⟩
      · first | (simp [doesT]; done) | (simp [doesT, hv]; done)
      · go_grown
    · have hv' : value.toList.isEmpty = false := by simpa using hv
      go_enter Tryz.func90, Tryz.ntmps90
      go_wp2_with fail
      refine (HC _).mono ?_; rintro e w' ⟨rfl, rfl⟩
      go_wp2_with fail
      refine (HK _ (HCELL.out _)).mono ?_; rintro e w' ⟨rfl, rfl⟩
      go_wp2
      go_ret
      refine ⟨?_, ?_⟩
      · first | (simp [doesT]; done) | (simp [doesT, hv']; done)
      · go_grown
set_option maxRecDepth 100000 in
set_option maxHeartbeats 4000000 in
theorem does_other (name : List UInt8) (hn : (name == [45]) = false ∧ (name == [61]) = false ∧ (name == [63]) = false ∧ (name == [43]) = false) (op value : ByteArray) (set colon : Bool) (m : Int) (w : World)
    (hm : w.cell? ⟨1, 0, none⟩ = some (.int .i64 m)) (HC : CutIs op name colon) (HK : name.length = 1 → HasIs name m false) :
    Calls Tryz.prog 90 #[.string op, .string value, .bool set] w fun e w' =>
      e = .returned (.int .i64 (if set then 1 else 5)) ∧ Below w.heap.size w w' := by
  have hlt := block_lt_of_cell hm
  have hcell : ∀ o, (w.alloc o).cell? ⟨1, 0, none⟩ = some (.int .i64 m) := fun o => (((Below.refl _ w).alloc (Nat.le_refl _) o).cell hlt).trans hm
  have HCELL := Lib.hid hcell
  clear hcell hm
  obtain ⟨h1, h2, h3, h4⟩ := hn
  by_cases hl : name.length = 1
  · have HK' := HK hl
    have hb : ((name.length : Int) == 1) = true := by simp [hl]
    clear HK hl
    cases set <;> cases colon
    all_goals
      go_enter Tryz.func90, Tryz.ntmps90
      go_wp2_with fail
      all_goals (refine (HC _).mono ?_; rintro e w' ⟨rfl, rfl⟩)
      all_goals (go_wp2_with fail)
      all_goals (refine (HK' _ (HCELL.out _)).mono ?_; rintro e w' ⟨rfl, rfl⟩)
      all_goals (go_wp2)
      all_goals (go_ret; refine ⟨rfl, ?_⟩; go_grown)
  · have hb : ((name.length : Int) == 1) = false := by simp; omega
    clear HK hl
    cases set <;> cases colon
    all_goals
      go_enter Tryz.func90, Tryz.ntmps90
      go_wp2_with fail
      all_goals (refine (HC _).mono ?_; rintro e w' ⟨rfl, rfl⟩)
      all_goals (go_wp2_with fail)
      all_goals (go_ret; refine ⟨rfl, ?_⟩; go_grown)
end Go.Proofs.YtkmpbkhlcapbgaaGreatDoor
