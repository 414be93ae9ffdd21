/-
  DERIVED. The plain side of the library's ParseUint at base 0: what is gathered below the greatest number of 64 bits without a sign; a letter made small. No program in sight.
-/
import Derived.Test.YtdfpijbngbfjaaaGreatDoorBy
import Derived.Laws.Closers25b
namespace Go.Proofs.YtdfpijbngbfjaaaGreatDoor
open Go
def capGo (cap base : Int) : List Int → Int → Option Int
  | [], n => some n
  | c :: r, n => if base ≤ digitV c ∨ cap < n * base + digitV c then none else capGo cap base r (n * base + digitV c)
def maxU : Int := 18446744073709551615
theorem maxU_eq : maxU = 18446744073709551615 := rfl
theorem capGo_ge (cap base : Int) (hb : 1 ≤ base) : ∀ (l : List Int) (n v : Int), 0 ≤ n → capGo cap base l n = some v → n ≤ v := by
  intro l
  induction l with
  | nil => intro n v h0 h; cases h; exact Int.le_refl _
  | cons c l ih =>
    intro n v h0 h
    simp only [capGo] at h
    split at h
    · cases h
    · have hd := digitV_range c
      have h1 : n ≤ n * base := by
        have := Int.mul_le_mul_of_nonneg_left hb h0
        rw [Int.mul_one] at this; exact this
      have := ih _ v (by omega) h
      omega
theorem digGo_cap (base : Int) (hb : base = 8 ∨ base = 10 ∨ base = 16) : ∀ (l : List Int) (n : Int), 0 ≤ n → n ≤ maxI →
    digGo base l n = (capGo maxU base l n).bind fun v => if v ≤ maxI then some v else none := by
  intro l
  induction l with
  | nil => intro n h0 h1; simp [digGo, capGo, h1]
  | cons c l ih =>
    intro n h0 h1
    have hd := digitV_range c
    simp only [digGo, capGo]
    by_cases h2 : base ≤ digitV c
    · rw [if_pos (.inl h2), if_pos (.inl h2)]; rfl
    · by_cases h3 : maxI < n * base + digitV c
      · rw [if_pos (.inr (by rw [maxI_eq] at *; rcases hb with rfl | rfl | rfl <;> omega))]
        split
        · rfl
        · cases hc : capGo maxU base l (n * base + digitV c) with
          | none => rfl
          | some v =>
            have := capGo_ge _ _ (by rcases hb with rfl | rfl | rfl <;> omega) l _ v (by rw [maxI_eq] at h3; omega) hc
            simp; omega
      · rw [if_neg (by rw [maxI_eq] at *; rintro (h | h); exact h2 h; rcases hb with rfl | rfl | rfl <;> omega), if_neg (by rw [maxU_eq, maxI_eq] at *; rintro (h | h); exact h2 h; omega)]
        exact ih _ (by rcases hb with rfl | rfl | rfl <;> omega) (by omega)
theorem low_all : ∀ k : Fin 256, (97 ≤ bits .or .u8 ((k.val : Nat) : Int) 32 ∧ bits .or .u8 ((k.val : Nat) : Int) 32 ≤ 122 ∧ bits .or .u8 ((k.val : Nat) : Int) 32 - 97 + 10 = digitV ((k.val : Nat) : Int) ∧ digitV ((k.val : Nat) : Int) ≤ 15) ∨ k.val ∈ List.range' 48 10 ∨
    (digitV ((k.val : Nat) : Int) = 16 ∧ (¬ 97 ≤ bits .or .u8 ((k.val : Nat) : Int) 32 ∨ ¬ bits .or .u8 ((k.val : Nat) : Int) 32 ≤ 122 ∨ 16 ≤ bits .or .u8 ((k.val : Nat) : Int) 32 - 97 + 10)) := by decide +kernel
/-- A byte that is no digit, made small: a letter up to f, or nothing that a base up to 16 takes. -/
theorem low_cases (c : Int) (h0 : 0 ≤ c) (h1 : c ≤ 255) (hn : ¬ (48 ≤ c ∧ c ≤ 57)) :
    (97 ≤ bits .or .u8 c 32 ∧ bits .or .u8 c 32 ≤ 122 ∧ bits .or .u8 c 32 - 97 + 10 = digitV c ∧ digitV c ≤ 15) ∨
    (digitV c = 16 ∧ (¬ 97 ≤ bits .or .u8 c 32 ∨ ¬ bits .or .u8 c 32 ≤ 122 ∨ 16 ≤ bits .or .u8 c 32 - 97 + 10)) := by
  obtain ⟨n, rfl⟩ := Int.eq_ofNat_of_zero_le h0
  rcases low_all ⟨n, by omega⟩ with h | h | h
  · exact .inl h
  · simp only [List.mem_range'_1] at h; omega
  · exact .inr h
theorem low_is_all : ∀ k : Fin 256, (bits .or .u8 ((k.val : Nat) : Int) 32 = 98 → k.val = 98 ∨ k.val = 66) ∧ (bits .or .u8 ((k.val : Nat) : Int) 32 = 111 → k.val = 111 ∨ k.val = 79) ∧ (bits .or .u8 ((k.val : Nat) : Int) 32 = 120 → k.val = 120 ∨ k.val = 88) := by decide +kernel
theorem low_is (c : Int) (h0 : 0 ≤ c) (h1 : c ≤ 255) : (bits .or .u8 c 32 = 98 → c = 98 ∨ c = 66) ∧ (bits .or .u8 c 32 = 111 → c = 111 ∨ c = 79) ∧ (bits .or .u8 c 32 = 120 → c = 120 ∨ c = 88) := by
  obtain ⟨n, rfl⟩ := Int.eq_ofNat_of_zero_le h0
  have := low_is_all ⟨n, by omega⟩
  simp only at this
  exact ⟨fun h => by have := this.1 h; omega, fun h => by have := this.2.1 h; omega, fun h => by have := this.2.2 h; omega⟩
theorem low_x : bits .or .u8 120 32 = 120 ∧ bits .or .u8 88 32 = 120 := by decide
theorem digitV_dec {c : Int} (h : 48 ≤ c ∧ c ≤ 57) : digitV c = c - 48 := by unfold digitV; rw [if_pos h]
end Go.Proofs.YtdfpijbngbfjaaaGreatDoor
