/-
  DERIVED. A text's bytes as numbers: one at a place, all of them; what a cut, a sum, a trim of blanks leaves. No program in sight.
-/
import Derived.Laws.Strings
import Derived.Lib.Strings
import Derived.Lib.SlTrimSet
namespace Go.Proofs.YtdfpijbngbfjaaaGreatDoor
open Go
/-- A text's byte at a place as a number; 0 behind its end. -/
def bt (s : ByteArray) (k : Nat) : Int := if h : k < s.size then ((s[k]'h).toNat : Int) else 0
theorem get_bt (s : ByteArray) : ∀ (n : Nat) (h : n < s.size), ((s[n]'h).toNat : Int) = bt s n := fun n h => by unfold bt; rw [dif_pos h]
theorem bt_nonneg (s : ByteArray) (k : Nat) : 0 ≤ bt s k := by unfold bt; split <;> omega
theorem bt_le (s : ByteArray) (k : Nat) : bt s k ≤ 255 := by
  unfold bt; split
  · have := (s[k]).toNat_lt; omega
  · omega
/-- A text's bytes as numbers. -/
def bl (s : ByteArray) : List Int := s.data.toList.map fun b => (b.toNat : Int)
theorem bl_length (s : ByteArray) : (bl s).length = s.size := by simp [bl]
theorem bl_get (s : ByteArray) (k : Nat) (h : k < s.size) : (bl s)[k]'(by rw [bl_length]; exact h) = bt s k := by
  unfold bt; rw [dif_pos h]; simp [bl]; rfl
theorem bl_extract (s : ByteArray) (a b : Nat) : bl (s.extract a b) = ((bl s).drop a).take (b - a) := by
  unfold bl; rw [Lib.extract_data, List.map_take, List.map_drop]
theorem bl_append (a b : ByteArray) : bl (a ++ b) = bl a ++ bl b := by simp [bl]
theorem bl_inj {a b : ByteArray} (h : bl a = bl b) : a = b := by
  have h2 : a.data.toList = b.data.toList := by
    unfold bl at h
    refine (List.map_inj_right ?_).1 h
    intro x y hxy
    have : x.toNat = y.toNat := by omega
    exact UInt8.toNat_inj.1 this
  rw [← Lib.mk_data a, ← Lib.mk_data b, h2]
theorem bl_drop (s : ByteArray) (k : Nat) (h : k < s.size) : (bl s).drop k = bt s k :: (bl s).drop (k + 1) := by
  rw [List.drop_eq_getElem_cons (by rw [bl_length]; exact h), bl_get s k h]
theorem toList_eq (a b : ByteArray) : (a.toList == b.toList) = decide (bl a = bl b) := by
  rw [Bool.eq_iff_iff, beq_iff_eq, decide_eq_true_eq, Lib.toList_data, Lib.toList_data]
  constructor
  · intro h; unfold bl; rw [h]
  · intro h; rw [bl_inj h]
theorem empty_iff (x : ByteArray) : x.toList.isEmpty = !decide (0 < x.size) := by
  rw [Lib.toList_data, Lib.size_eq]; cases x.data.toList <;> simp
theorem size_append (a b : ByteArray) : (a ++ b).size = a.size + b.size := by simp
/-! ### Blanks cut off at both ends -/
section
variable {α : Type} (p : α → Bool)
def cutR (l : List α) : List α := (l.reverse.dropWhile p).reverse
theorem cutR_cons (x : α) (t : List α) : cutR p (x :: t) = if (cutR p t).isEmpty then (if p x then [] else [x]) else x :: cutR p t := by
  unfold cutR
  rw [List.reverse_cons, List.dropWhile_append]
  cases h : (t.reverse.dropWhile p)
  · cases hx : p x <;> simp [hx]
  · simp
theorem cut_both : ∀ l : List α, (cutR p l).dropWhile p = cutR p (l.dropWhile p) := by
  intro l
  induction l with
  | nil => rfl
  | cons x t ih =>
    cases hx : p x
    · rw [List.dropWhile_cons_of_neg (by simp [hx])]
      rw [cutR_cons]
      split
      · simp [hx]
      · rw [List.dropWhile_cons_of_neg (by simp [hx])]
    · rw [List.dropWhile_cons_of_pos hx, ← ih, cutR_cons]
      split
      · rename_i h
        rw [List.isEmpty_iff] at h
        simp [h]
      · rw [List.dropWhile_cons_of_pos hx]
end
def blankU (c : UInt8) : Bool := [32, 9, 10].contains c
/-- A text without the blanks at its ends. -/
def trimB (s : ByteArray) : ByteArray := ⟨(Lib.trimS s.data.toList [32, 9, 10]).toArray⟩
theorem trimB_eq (s : ByteArray) : (trimB s).data.toList = cutR blankU (s.data.toList.dropWhile blankU) := by
  rw [← cut_both]; rfl
def blankB (c : Int) : Bool := c == 32 || c == 9 || c == 10
theorem blankU_eq (c : UInt8) : blankU c = blankB (c.toNat : Int) := by
  unfold blankU blankB
  rw [Bool.eq_iff_iff]
  simp only [List.contains_cons, List.contains_nil, Bool.or_false, Bool.or_eq_true, beq_iff_eq]
  have h : ∀ k : Nat, k < 256 → (c = UInt8.ofNat k ↔ (c.toNat : Int) = (k : Int)) := fun k hk => by
    constructor
    · intro e; rw [e, UInt8.toNat_ofNat_of_lt' (by simpa [UInt8.size] using hk)]
    · intro e
      refine UInt8.toNat_inj.1 ?_
      rw [UInt8.toNat_ofNat_of_lt' (by simpa [UInt8.size] using hk)]; omega
  have h1 := h 32 (by omega); have h2 := h 9 (by omega); have h3 := h 10 (by omega)
  constructor
  · rintro (e | e | e)
    · exact .inl (.inl (h1.1 e))
    · exact .inl (.inr (h2.1 e))
    · exact .inr (h3.1 e)
  · rintro ((e | e) | e)
    · exact .inl (h1.2 e)
    · exact .inr (.inl (h2.2 e))
    · exact .inr (.inr (h3.2 e))
/-! ### A text's number -/
def digitV (c : Int) : Int := if 48 ≤ c ∧ c ≤ 57 then c - 48 else if 97 ≤ c ∧ c ≤ 102 then c - 97 + 10 else if 65 ≤ c ∧ c ≤ 70 then c - 65 + 10 else 16
theorem digitV_range (c : Int) : 0 ≤ digitV c ∧ digitV c ≤ 16 := by unfold digitV; split <;> (try split) <;> (try split) <;> omega
/-- The greatest number of 64 bits. -/
def maxI : Int := 9223372036854775807
theorem maxI_eq : maxI = 9223372036854775807 := rfl
def digGo (base : Int) : List Int → Int → Option Int
  | [], n => some n
  | c :: r, n => if base ≤ digitV c ∨ (maxI - digitV c) / base < n then none else digGo base r (n * base + digitV c)
def baseF (s : ByteArray) : Int × Nat :=
  if 2 < s.size ∧ bt s 0 = 48 ∧ (bt s 1 = 120 ∨ bt s 1 = 88) then (16, 2) else if 1 < s.size ∧ bt s 0 = 48 then (8, 1) else (10, 0)
def digitsF (s : ByteArray) : Option Int := if s.size = 0 then none else digGo (baseF s).1 ((bl s).drop (baseF s).2) 0
def numberF (s : ByteArray) : Option Int :=
  if (trimB s).size = 0 then some 0
  else if bt (trimB s) 0 = 43 then digitsF ((trimB s).extract 1 (trimB s).size)
  else if bt (trimB s) 0 = 45 then (digitsF ((trimB s).extract 1 (trimB s).size)).map fun n => -n
  else digitsF (trimB s)
theorem digGo_range (base : Int) (hb : base = 8 ∨ base = 10 ∨ base = 16) : ∀ (l : List Int) (n r : Int), 0 ≤ n → n ≤ maxI → digGo base l n = some r → 0 ≤ r ∧ r ≤ maxI := by
  intro l
  induction l with
  | nil => intro n r h0 h1 h; cases h; exact ⟨h0, h1⟩
  | cons c l ih =>
    intro n r h0 h1 h
    have hd := digitV_range c
    simp only [digGo] at h
    split at h
    · cases h
    · rename_i hc
      refine ih _ _ ?_ ?_ h
      · rcases hb with rfl | rfl | rfl <;> omega
      · rw [maxI_eq] at hc ⊢
        rcases hb with rfl | rfl | rfl <;> omega
end Go.Proofs.YtdfpijbngbfjaaaGreatDoor
