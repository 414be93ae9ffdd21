/-
  DERIVED. What arith's reader does is what the parser says, where it says anything.
-/
import Derived.Test.YtdfpijbngbfjaaaGreatDoorAi
import Derived.Test.YtdfpijbngbfjaaaGreatDoorAj
namespace Go.Proofs.YtdfpijbngbfjaaaGreatDoor
open Go.RowKit
theorem any_step (f : Nat) (hR : RowOK f) (hA : AnyOK f) : AnyOK (f + 1) := by
  intro d s u t h g w hr
  have hd := hr.deep
  unfold anyF at h
  split at h
  · cases h
  · rename_i a l1 h1
    obtain ⟨u1, hu1⟩ : ∃ u1 : ByteArray, u1.data.toList = l1 := ⟨⟨l1.toArray⟩, rfl⟩
    rw [← hu1] at h1 h
    split at h
    · rename_i l2 h2
      simp only [Option.some.injEq, Prod.mk.injEq] at h
      rw [h.2] at h2
      rw [← h.1]
      exact any_plain f hR d s u1 u a h1 h2 g w hr
    · rename_i l2 h2
      obtain ⟨u2, hu2⟩ : ∃ u2 : ByteArray, u2.data.toList = l2 := ⟨⟨l2.toArray⟩, rfl⟩
      rw [← hu2] at h2 h
      split at h
      · cases h
      · rename_i hd40
        split at h
        · cases h
        · rename_i b l3 h3
          obtain ⟨u3, hu3⟩ : ∃ u3 : ByteArray, u3.data.toList = l3 := ⟨⟨l3.toArray⟩, rfl⟩
          rw [← hu3] at h3 h
          split at h
          · cases h
          · rename_i l4 h4
            obtain ⟨u4, hu4⟩ : ∃ u4 : ByteArray, u4.data.toList = l4 := ⟨⟨l4.toArray⟩, rfl⟩
            rw [← hu4] at h4 h
            split at h
            · cases h
            · rename_i c l5 h5
              simp only [Option.some.injEq, Prod.mk.injEq] at h
              rw [h.2] at h5
              rw [← h.1]
              exact any_cond f hR hA d (by omega) s u1 u2 u3 u4 u a b c h1 h2 h3 h4 h5 g w hr
theorem read_ok : ∀ f, ∀ k, k ≤ f → AnyOK k ∧ RowOK k ∧ AheadOK k := by
  intro f
  induction f with
  | zero =>
    intro k hk
    obtain rfl : k = 0 := by omega
    refine ⟨?_, ?_, ?_⟩
    · intro d s u t h; simp [anyF] at h
    · intro d i s u t h; simp [rowF] at h
    · intro d s u t h; simp [aheadF] at h
  | succ f ih =>
    intro k hk
    by_cases hk2 : k ≤ f
    · exact ih k hk2
    · obtain rfl : k = f + 1 := by omega
      have hf := ih f (Nat.le_refl _)
      exact ⟨any_step f hf.2.1 hf.1, row_step f (fun j hj => (ih j hj).2.1) hf.2.2, ahead_step f hf.1 hf.2.2⟩
theorem any_ok (f : Nat) : AnyOK f := (read_ok f f (Nat.le_refl _)).1
end Go.Proofs.YtdfpijbngbfjaaaGreatDoor
