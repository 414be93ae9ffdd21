/-
  DERIVED. The contracts of package param that expand asks for: Does, Trims.
-/
import Derived.Test.YtkmpbkhlcapbgaaGreatDoorZ20
import Derived.Test.YtkmpbkhlcapbgaaGreatDoorZ21
import Derived.Test.YtkmpbkhlcapbgaaGreatDoorZ01
import Derived.Lib.SmallJoins
namespace Go.Proofs.YtkmpbkhlcapbgaaGreatDoor
open Go.RowKit Go.Sort
theorem pdoes_any (op value : ByteArray) (set : Bool) (w : World) (m : Int) (hm : w.cell? ⟨1, 0, none⟩ = some (.int .i64 m)) :
    Calls Tryz.prog 90 #[.string op, .string value, .bool set] w fun e w' =>
      e = .returned (.int .i64 (doesP op.data.toList value.data.toList set)) ∧ Below w.heap.size w w' := by
  have HC : CutIs op (Lib.trimPrefix op.data.toList [58]) (Lib.hasPrefix op.data.toList [58]) := fun w =>
    (Tryz.strings_CutPrefix op ⟨#[58]⟩ w).mono fun e w' ⟨he, hw⟩ => ⟨he, hw.symm⟩
  have HK : ∀ b, Lib.contains [45, 61, 63, 43] (Lib.trimPrefix op.data.toList [58]) = b → HasIs (Lib.trimPrefix op.data.toList [58]) m b := fun b hb w hw =>
    (Tryz.strings_Contains ⟨#[45, 61, 63, 43]⟩ ⟨(Lib.trimPrefix op.data.toList [58]).toArray⟩ m w (by decide) hw).mono fun e w' ⟨he, hw⟩ => ⟨by rw [he]; simp only [hb], hw.symm⟩
  unfold doesP
  generalize Lib.trimPrefix op.data.toList [58] = name at *
  generalize Lib.hasPrefix op.data.toList [58] = colon at *
  by_cases hn : name = [45] ∨ name = [61] ∨ name = [63] ∨ name = [43]
  · have := does_lit name hn op value set colon m w hm HC (HK true (has_lit name hn))
    rw [Lib.toList_data] at this
    exact this
  · simp only [not_or] at hn
    obtain ⟨h1, h2, h3, h4⟩ := hn
    have n1 : (name == [45]) = false := by simpa using h1
    have n2 : (name == [61]) = false := by simpa using h2
    have n3 : (name == [63]) = false := by simpa using h3
    have n4 : (name == [43]) = false := by simpa using h4
    have := does_other name ⟨n1, n2, n3, n4⟩ op value set colon m w hm HC (fun hl => HK false (has_other name hl n1 n2 n3 n4))
    simpa [doesT, n1, n2, n3, n4] using this
set_option maxHeartbeats 400000 in
theorem ptrimsB_any (s : ByteArray) (w : World) :
    Calls Tryz.prog 91 #[.string s] w fun e w' => e = .returned (.bool (trimsF s.data.toList).1) ∧ Below w.heap.size w w' := by
  go_enter Tryz.func91, Tryz.ntmps91
  go_wp2_with fail
  refine (trims_any s _).mono ?_; rintro e w' ⟨rfl, hb⟩
  go_wp2_with fail
  go_ret
  exact ⟨rfl, hb⟩
end Go.Proofs.YtkmpbkhlcapbgaaGreatDoor
