/-
  DERIVED. Plain: the parser's words against bytes as numbers; what it leaves is no longer than what it was given. No program in sight.
-/
import Derived.Test.YtdfpijbngbfjaaaGreatDoorAa
namespace Go.Proofs.YtdfpijbngbfjaaaGreatDoor
open Go.RowKit
theorem letterU_eq (c : UInt8) : letterU c = letB (c.toNat : Int) true := by
  unfold letterU letB
  rw [Bool.eq_iff_iff]
  simp only [Bool.or_eq_true, Bool.and_eq_true, decide_eq_true_eq, beq_iff_eq, Bool.not_true, Bool.false_and, Bool.false_eq_true, or_false]
  omega
theorem wordU_eq (c : UInt8) : wordU c = letB (c.toNat : Int) false := by
  unfold wordU letterU letB
  rw [Bool.eq_iff_iff]
  simp only [Bool.or_eq_true, Bool.and_eq_true, decide_eq_true_eq, beq_iff_eq, Bool.not_false, true_and]
  omega
theorem longF_eq : ∀ l : List UInt8, longF l = longZ (l.map fun b => (b.toNat : Int))
  | [] => rfl
  | c :: t => by
    have ih := longF_eq t
    unfold longF at ih ⊢
    simp only [List.map_cons, longZ, ← wordU_eq]
    cases h : wordU c
    · rw [List.takeWhile_cons_of_neg (by simp [h])]; rfl
    · rw [List.takeWhile_cons_of_pos h, List.length_cons, ih]; simp
theorem nameAll_eq : ∀ l : List UInt8, nameAll (l.map fun b => (b.toNat : Int)) false = l.all wordU
  | [] => rfl
  | c :: t => by
    simp only [List.map_cons, nameAll, List.all_cons, ← wordU_eq, nameAll_eq t]
theorem isName_eq (l : List UInt8) : isName l = (decide (0 < l.length) && nameAll (l.map fun b => (b.toNat : Int)) true) := by
  cases l with
  | nil => rfl
  | cons c t =>
    unfold isName
    simp only [List.map_cons, nameAll, ← letterU_eq, nameAll_eq, List.length_cons]
    simp
theorem longF_le (l : List UInt8) : longF l ≤ l.length := by
  unfold longF
  exact (List.takeWhile_prefix _).length_le
theorem dropB_le (l : List UInt8) : (dropB l).length ≤ l.length := (List.dropWhile_suffix _).length_le
theorem passF_le (s l : List UInt8) : (passF s l).2.length ≤ l.length := by
  have := dropB_le l
  unfold passF
  split
  · simp only [List.length_drop]; omega
  · exact this
theorem nameF_le {l : List UInt8} {t : Tree} {r : List UInt8} (h : nameF l = some (t, r)) : r.length ≤ l.length := by
  unfold nameF at h
  split at h
  · simp only [Option.some.injEq, Prod.mk.injEq] at h
    rw [← h.2, List.length_drop]; omega
  · cases h
theorem oneF_le {l : List UInt8} {t : Tree} {r : List UInt8} (h : oneF l = some (t, r)) : r.length ≤ l.length := by
  have hd := dropB_le l
  unfold oneF at h
  split at h
  · rename_i u hu
    rw [hu] at hd
    split at h
    · rename_i a v hn
      have := nameF_le hn
      simp only [Option.some.injEq, Prod.mk.injEq] at h
      rw [← h.2]
      simp only [List.length_cons] at hd this
      omega
    · cases h
  · rename_i u _ hu
    rw [hu] at hd
    have := nameF_le h
    simp only [List.length_cons] at hd
    omega
  · split at h
    · simp only [Option.some.injEq, Prod.mk.injEq] at h
      rw [← h.2, List.length_drop]; omega
    · have := nameF_le h
      omega
theorem parse_le (f : Nat) : (∀ d l t r, anyF f d l = some (t, r) → r.length ≤ l.length) ∧ (∀ d i l t r, rowF f d i l = some (t, r) → r.length ≤ l.length) ∧
    (∀ d i a l t r, loopF f d i a l = some (t, r) → r.length ≤ l.length) ∧ (∀ d l t r, aheadF f d l = some (t, r) → r.length ≤ l.length) := by
  induction f with
  | zero => refine ⟨?_, ?_, ?_, ?_⟩ <;> intros <;> simp_all [anyF, rowF, loopF, aheadF]
  | succ f ih =>
    obtain ⟨iA, iR, iL, iH⟩ := ih
    refine ⟨?_, ?_, ?_, ?_⟩
    · intro d l t r h
      unfold anyF at h
      split at h
      · cases h
      · rename_i a l1 h1
        have e1 := iR _ _ _ _ _ h1
        have p1 := passF_le [63] l1
        split at h
        · rename_i l2 h2
          rw [h2] at p1
          simp only [Option.some.injEq, Prod.mk.injEq] at h
          rw [← h.2]; exact Nat.le_trans p1 e1
        · rename_i l2 h2
          rw [h2] at p1
          split at h
          · cases h
          · split at h
            · cases h
            · rename_i b l3 h3
              have e3 := iA _ _ _ _ h3
              have p3 := passF_le [58] l3
              split at h
              · cases h
              · rename_i l4 h4
                rw [h4] at p3
                split at h
                · cases h
                · rename_i c l5 h5
                  have e5 := iA _ _ _ _ h5
                  simp only [Option.some.injEq, Prod.mk.injEq] at h
                  rw [← h.2]
                  simp only at p1 p3
                  omega
    · intro d i l t r h
      unfold rowF at h
      split at h
      · exact iH _ _ _ _ h
      · split at h
        · cases h
        · rename_i a l1 h1
          exact Nat.le_trans (iL _ _ _ _ _ _ h) (iR _ _ _ _ _ h1)
    · intro d i a l t r h
      have hd := dropB_le l
      unfold loopF at h
      split at h
      · simp only [Option.some.injEq, Prod.mk.injEq] at h
        rw [← h.2]; exact hd
      · split at h
        · cases h
        · rename_i b l2 h2
          have e2 := iR _ _ _ _ _ h2
          have e3 := iL _ _ _ _ _ _ h
          rw [List.length_drop] at e2
          omega
    · intro d l t r h
      have hd := dropB_le l
      unfold aheadF at h
      split at h
      · split at h
        · cases h
        · split at h
          · cases h
          · rename_i a l1 h1
            have e1 := iH _ _ _ _ h1
            simp only [Option.some.injEq, Prod.mk.injEq] at h
            rw [← h.2]
            rw [List.length_drop] at e1
            omega
      · split at h
        · split at h
          · cases h
          · split at h
            · cases h
            · rename_i a l1 h1
              have e1 := iA _ _ _ _ h1
              have p1 := passF_le [41] l1
              rw [List.length_drop] at e1
              split at h
              · cases h
              · rename_i l2 h2
                rw [h2] at p1
                simp only [Option.some.injEq, Prod.mk.injEq] at h
                rw [← h.2]
                simp only at p1
                omega
        · exact oneF_le h
end Go.Proofs.YtdfpijbngbfjaaaGreatDoor
