/-
  DERIVED. Plain: what the laws' expressions are, by the kernel; what they come to. No program in sight.
-/
import Derived.Test.YtdfpijbngbfjaaaGreatDoorEa
namespace Go.Proofs.YtdfpijbngbfjaaaGreatDoor
open Go.RowKit
/-- Whether two trees are one; fuel ahead of all. -/
def sameT : Nat → Tree → Tree → Bool
  | 0, _, _ => false
  | f + 1, a, b => match a, b with
    | .num a, .num b => a == b
    | .var a, .var b => a == b
    | .node o [a], .node p [b] => o == p && sameT f a b
    | .node o [a, c], .node p [b, d] => o == p && sameT f a b && sameT f c d
    | .node o [a, c, e], .node p [b, d, g] => o == p && sameT f a b && sameT f c d && sameT f e g
    | _, _ => false
theorem sameT_eq : ∀ (f : Nat) (a b : Tree), sameT f a b = true → a = b := by
  intro f
  induction f with
  | zero => intro a b h; simp [sameT] at h
  | succ f ih =>
    intro a b h
    unfold sameT at h
    split at h <;> simp only [Bool.and_eq_true, beq_iff_eq, Bool.false_eq_true] at h
    · rw [h]
    · rw [h]
    · rw [h.1, ih _ _ h.2]
    · rw [h.1.1, ih _ _ h.1.2, ih _ _ h.2]
    · rw [h.1.1.1, ih _ _ h.1.1.2, ih _ _ h.1.2, ih _ _ h.2]
def isTree (s : List UInt8) (t : Tree) : Bool := match parseF 60 s with | some u => sameT 20 u t | none => false
theorem isTree_eq {s : List UInt8} {t : Tree} (h : isTree s t = true) : parseF 60 s = some t := by
  unfold isTree at h
  split at h
  · rename_i u hu
    rw [hu, sameT_eq _ _ _ h]
  · cases h
/-- Whether a tree comes to something, whatever its variables are, of x, y, z. -/
def goodT : Nat → Tree → Bool
  | 0, _ => false
  | f + 1, t => match t with
    | .num _ => true
    | .var a => a == [120] || a == [121] || a == [122]
    | .node o [a, b] => ([[38, 38], [124, 124]] ++ binL).contains o && goodT f a && goodT f b
    | _ => false
theorem doesF_good (o : List UInt8) (a b : Int) : doesF o a b ≠ .bad := by
  unfold doesF
  split
  · simp
  · split
    · simp
    · split <;> simp
theorem goodT_ev (l : List (ByteArray × ByteArray)) (hx : (valF l [120]).isSome = true) (hy : (valF l [121]).isSome = true) (hz : (valF l [122]).isSome = true) : ∀ (f : Nat) (t : Tree), goodT f t = true → evF l f t ≠ .bad := by
  intro f
  induction f with
  | zero => intro t h; simp [goodT] at h
  | succ f ih =>
    intro t h
    unfold goodT at h
    split at h
    · unfold evF; simp
    · rename_i a
      simp only [Bool.or_eq_true, beq_iff_eq] at h
      unfold evF
      have : (valF l a).isSome = true := by rcases h with (rfl | rfl) | rfl <;> assumption
      cases hv : valF l a with
      | none => rw [hv] at this; cases this
      | some n => simp
    · rename_i o a b
      simp only [Bool.and_eq_true] at h
      have ha := ih a h.1.2
      have hb := ih b h.2
      have ho : o = [38, 38] ∨ o = [124, 124] ∨ o ∈ binL := by
        have := h.1.1
        simpa using this
      unfold evF
      rcases ho with rfl | rfl | ho
      · rw [if_pos rfl]
        cases hA : evF l f a with
        | ok x =>
          cases hB : evF l f b with
          | ok y => by_cases h0 : x = 0 <;> simp [h0]
          | zero => by_cases h0 : x = 0 <;> simp [h0]
          | bad => exact absurd hB hb
        | zero => simp
        | bad => exact absurd hA ha
      · rw [if_neg (by decide), if_pos rfl]
        cases hA : evF l f a with
        | ok x =>
          cases hB : evF l f b with
          | ok y => by_cases h0 : x = 0 <;> simp [h0]
          | zero => by_cases h0 : x = 0 <;> simp [h0]
          | bad => exact absurd hB hb
        | zero => simp
        | bad => exact absurd hA ha
      · have hbt := bin_tests ho
        rw [if_neg (by intro e; rw [e] at hbt; exact absurd hbt.2.2.2.1 (by decide)), if_neg (by intro e; rw [e] at hbt; exact absurd hbt.2.2.2.2 (by decide)), if_pos ho]
        cases hA : evF l f a with
        | ok x =>
          cases hB : evF l f b with
          | ok y => exact doesF_good o x y
          | zero => simp
          | bad => exact absurd hB hb
        | zero => simp
        | bad => exact absurd hA ha
    · cases h
/-! ### The operations of ArithOrder -/
def opsO : List (List UInt8) := [[124, 124], [38, 38], [124], [94], [38], [61, 61], [33, 61], [60], [60, 61], [62], [62, 61], [60, 60], [62, 62], [43], [45], [42], [47], [37]]
def bindsO : List Int := [0, 1, 2, 3, 4, 5, 5, 6, 6, 6, 6, 7, 7, 8, 8, 9, 9, 9]
def plainO (i k : Nat) : List UInt8 := [120, 32] ++ opsO.getD i [] ++ [9, 121, 10] ++ opsO.getD k [] ++ [32, 122]
def leftO (i k : Nat) : List UInt8 := [40, 120, 32] ++ opsO.getD i [] ++ [32, 121, 41, 32] ++ opsO.getD k [] ++ [32, 122]
def rightO (i k : Nat) : List UInt8 := [120, 32] ++ opsO.getD i [] ++ [32, 40, 121, 32] ++ opsO.getD k [] ++ [32, 122, 41]
def bindO (i k : Nat) : List UInt8 := if bindsO.getD i 0 < bindsO.getD k 0 then rightO i k else leftO i k
def checkO (i k : Nat) : Bool := match parseF 60 (plainO i k), parseF 60 (bindO i k) with
  | some t, some u => sameT 9 t u && goodT 9 t
  | _, _ => false
theorem checkO_all : ∀ i : Fin 18, ∀ k : Fin 18, checkO i.1 k.1 = true := by decide +kernel
theorem order_tree (i k : Nat) (hi : i < 18) (hk : k < 18) : ∃ t, parseF 60 (plainO i k) = some t ∧ parseF 60 (bindO i k) = some t ∧ goodT 9 t = true := by
  have h := checkO_all ⟨i, hi⟩ ⟨k, hk⟩
  unfold checkO at h
  split at h
  · rename_i t u ht hu
    simp only [Bool.and_eq_true] at h
    exact ⟨t, ht, by rw [sameT_eq _ _ _ h.1]; exact hu, h.2⟩
  · cases h
/-! ### The operations of ArithShort -/
def opsS : List (List UInt8) := [[43], [45], [42], [47], [37], [60, 60], [62, 62], [38], [124], [94], [60], [61, 61]]
def shortT (j : Nat) : Tree := .node (opsS.getD j []) [.var [97], .var [98]]
def checkS (j : Nat) : Bool := isTree ([97, 32] ++ opsS.getD j [] ++ [32, 98]) (shortT j) && isTree ([36, 97] ++ opsS.getD j [] ++ [36, 123, 98, 125]) (shortT j) && binL.contains (opsS.getD j [])
theorem checkS_all : ∀ j : Fin 12, checkS j.1 = true := by decide +kernel
theorem short_tree (j : Nat) (hj : j < 12) : parseF 60 ([97, 32] ++ opsS.getD j [] ++ [32, 98]) = some (shortT j) ∧ parseF 60 ([36, 97] ++ opsS.getD j [] ++ [36, 123, 98, 125]) = some (shortT j) ∧ opsS.getD j [] ∈ binL := by
  have h := checkS_all ⟨j, hj⟩
  unfold checkS at h
  simp only [Bool.and_eq_true] at h
  exact ⟨isTree_eq h.1.1, isTree_eq h.1.2, by simpa using h.2⟩
end Go.Proofs.YtdfpijbngbfjaaaGreatDoor
