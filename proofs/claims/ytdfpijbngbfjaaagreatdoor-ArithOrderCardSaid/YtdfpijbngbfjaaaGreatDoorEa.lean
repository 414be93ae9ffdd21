/-
  DERIVED. Plain: a number's text is that number. No program in sight.
-/
import Derived.Test.YtdfpijbngbfjaaaGreatDoorAr
namespace Go.Proofs.YtdfpijbngbfjaaaGreatDoor
open Go.RowKit
theorem drop_app {α : Type} (p : α → Bool) : ∀ (a b : List α), a.all p = true → (a ++ b).dropWhile p = b.dropWhile p
  | [], _, _ => rfl
  | c :: a, b, h => by
    simp only [List.all_cons, Bool.and_eq_true] at h
    rw [List.cons_append, List.dropWhile_cons_of_pos h.1]; exact drop_app p a b h.2
theorem drop_id {α : Type} (p : α → Bool) (l : List α) (h : ∀ x ∈ l, p x = false) : l.dropWhile p = l := by
  cases l with
  | nil => rfl
  | cons c l => rw [List.dropWhile_cons_of_neg (by simp [h c (List.mem_cons_self ..)])]
theorem trim_pad (a l b : List UInt8) (ha : a.all blankU = true) (hb : b.all blankU = true) (hl : ∀ c ∈ l, blankU c = false) (hne : l ≠ []) : trimB ⟨(a ++ l ++ b).toArray⟩ = ⟨l.toArray⟩ := by
  rw [← Lib.mk_data (trimB _), trimB_eq]
  congr 2
  show cutR blankU ((a ++ l ++ b).dropWhile blankU) = l
  rw [List.append_assoc, drop_app _ _ _ ha]
  have e : (l ++ b).dropWhile blankU = l ++ b := by
    cases l with
    | nil => exact absurd rfl hne
    | cons c l => rw [List.cons_append, List.dropWhile_cons_of_neg (by simp [hl c (List.mem_cons_self ..)])]
  rw [e]
  unfold cutR
  rw [List.reverse_append, drop_app _ _ _ (by rw [List.all_reverse]; exact hb), drop_id _ _ (fun x hx => hl x (by simpa using hx)), List.reverse_reverse]
theorem digit_byte (n : Nat) (h : n < 10) : ((48 + UInt8.ofNat n : UInt8).toNat : Int) = 48 + n := by
  rcases (show n = 0 ∨ n = 1 ∨ n = 2 ∨ n = 3 ∨ n = 4 ∨ n = 5 ∨ n = 6 ∨ n = 7 ∨ n = 8 ∨ n = 9 by omega) with rfl | rfl | rfl | rfl | rfl | rfl | rfl | rfl | rfl | rfl <;> rfl
/-- A digit's byte. -/
def digB (c : UInt8) : Prop := ∃ n, n < 10 ∧ c = 48 + UInt8.ofNat n
theorem decN_dig : ∀ (n : Nat), ∀ c ∈ decN n, digB c := by
  intro n
  induction n using Nat.strongRecOn with
  | ind n ih =>
    intro c hc
    by_cases h : n < 10
    · rw [decN_small h] at hc
      simp only [List.mem_singleton] at hc
      exact ⟨n, h, hc⟩
    · rw [decN_big h] at hc
      rcases List.mem_append.1 hc with hc | hc
      · exact ih _ (by omega) c hc
      · simp only [List.mem_singleton] at hc
        exact ⟨n % 10, by omega, hc⟩
theorem decN_ne (n : Nat) : decN n ≠ [] := by
  by_cases h : n < 10
  · rw [decN_small h]; simp
  · rw [decN_big h]; simp
theorem decN_head : ∀ (n : Nat), 0 < n → ∃ d t, decN n = (48 + UInt8.ofNat d) :: t ∧ 0 < d ∧ d < 10 := by
  intro n
  induction n using Nat.strongRecOn with
  | ind n ih =>
    intro h0
    by_cases h : n < 10
    · exact ⟨n, [], decN_small h, h0, h⟩
    · obtain ⟨d, t, e, hd⟩ := ih (n / 10) (by omega) (by omega)
      exact ⟨d, t ++ [48 + UInt8.ofNat (n % 10)], by rw [decN_big h, e]; rfl, hd⟩
theorem digB_facts {c : UInt8} (h : digB c) : blankU c = false ∧ 48 ≤ (c.toNat : Int) ∧ (c.toNat : Int) ≤ 57 := by
  obtain ⟨n, hn, rfl⟩ := h
  have e := digit_byte n hn
  refine ⟨?_, by omega, by omega⟩
  rw [blankU_eq, e]
  unfold blankB
  simp; omega
theorem digGo_app (base : Int) : ∀ (l : List Int) (c m : Int), digGo base (l ++ [c]) m = match digGo base l m with
    | none => none
    | some k => if base ≤ digitV c ∨ (maxI - digitV c) / base < k then none else some (k * base + digitV c)
  | [], c, m => by simp only [List.nil_append, digGo]
  | x :: l, c, m => by
    simp only [List.cons_append, digGo]
    split
    · rfl
    · exact digGo_app base l c _
theorem digitV_dig (n : Nat) (h : n < 10) : digitV (48 + (n : Int)) = n := by unfold digitV; rw [if_pos (by omega)]; omega
theorem dec_go : ∀ (n : Nat), (n : Int) ≤ maxI → digGo 10 ((decN n).map fun b => (b.toNat : Int)) 0 = some (n : Int) := by
  intro n
  induction n using Nat.strongRecOn with
  | ind n ih =>
    intro hm
    rw [maxI_eq] at hm
    by_cases h : n < 10
    · rw [decN_small h]
      simp only [List.map_cons, List.map_nil, digGo, digit_byte n h, digitV_dig n h, maxI_eq]
      rw [if_neg (by omega)]
      simp
    · rw [decN_big h, List.map_append]
      simp only [List.map_cons, List.map_nil]
      rw [digGo_app, ih (n / 10) (by omega) (by rw [maxI_eq]; omega)]
      simp only [digit_byte (n % 10) (by omega), digitV_dig (n % 10) (by omega), maxI_eq]
      rw [if_neg (by omega)]
      congr 1
      omega
theorem dec_digits (n : Nat) (hm : (n : Int) ≤ maxI) : digitsF ⟨(decN n).toArray⟩ = some (n : Int) := by
  have hsz : (⟨(decN n).toArray⟩ : ByteArray).size ≠ 0 := by
    rw [Lib.size_eq]
    have := decN_ne n
    intro e
    exact this (List.length_eq_zero_iff.1 e)
  have hb : baseF ⟨(decN n).toArray⟩ = (10, 0) := by
    unfold baseF
    by_cases h : n < 10
    · have h1 : (⟨(decN n).toArray⟩ : ByteArray).size = 1 := by rw [decN_small h]; rfl
      rw [if_neg (by omega), if_neg (by omega)]
    · obtain ⟨d, t, e, h0, h9⟩ := decN_head n (by omega)
      have hbt : bt ⟨(decN n).toArray⟩ 0 ≠ 48 := by
        unfold bt
        rw [dif_pos (by omega)]
        have : ((⟨(decN n).toArray⟩ : ByteArray)[0]'(by omega)) = 48 + UInt8.ofNat d := by
          show (decN n).toArray[0]'_ = _
          simp [e]
        rw [this, digit_byte d h9]
        omega
      rw [if_neg (fun h => hbt h.2.1), if_neg (fun h => hbt h.2)]
  unfold digitsF
  rw [if_neg hsz, hb]
  exact dec_go n hm
theorem bt_cons (c : UInt8) (t : List UInt8) : bt ⟨(c :: t).toArray⟩ 0 = (c.toNat : Int) := by
  unfold bt
  rw [dif_pos (by show 0 < (c :: t).toArray.size; simp)]
  rfl
/-- A number's text, with blanks about it, is that number. -/
theorem num_text (x : Int) (h0 : -9223372036854775807 ≤ x) (h1 : x ≤ 9223372036854775807) (a b : List UInt8) (ha : a.all blankU = true) (hb : b.all blankU = true) : numberF ⟨(a ++ numL x ++ b).toArray⟩ = some x := by
  by_cases hx : x < 0
  · obtain ⟨n, rfl⟩ : ∃ n : Nat, x = -(n : Int) := ⟨(-x).toNat, by omega⟩
    have hn : 0 < n := by omega
    rw [numL_neg n hn]
    have ht := trim_pad a (45 :: decN n) b ha hb (by
      intro c hc
      rcases List.mem_cons.1 hc with rfl | hc
      · decide
      · exact (digB_facts (decN_dig n c hc)).1) (by simp)
    unfold numberF
    rw [ht, bt_cons]
    have e : (⟨(45 :: decN n).toArray⟩ : ByteArray).extract 1 (⟨(45 :: decN n).toArray⟩ : ByteArray).size = ⟨(decN n).toArray⟩ := by
      rw [← Lib.mk_data (ByteArray.extract _ _ _), Lib.extract_to_end]; rfl
    rw [e, dec_digits n (by rw [maxI_eq]; omega)]
    rw [if_neg (by show (45 :: decN n).toArray.size ≠ 0; simp), if_neg (by decide), if_pos (by decide)]
    rfl
  · obtain ⟨n, rfl⟩ : ∃ n : Nat, x = (n : Int) := ⟨x.toNat, by omega⟩
    rw [numL_nat n]
    have ht := trim_pad a (decN n) b ha hb (fun c hc => (digB_facts (decN_dig n c hc)).1) (decN_ne n)
    unfold numberF
    rw [ht]
    cases hd : decN n with
    | nil => exact absurd hd (decN_ne n)
    | cons c t =>
      have hc := (digB_facts (decN_dig n c (by rw [hd]; exact List.mem_cons_self ..))).2
      rw [bt_cons, ← hd, dec_digits n (by rw [maxI_eq]; omega)]
      rw [if_neg (by rw [hd]; show (c :: t).toArray.size ≠ 0; simp), if_neg (by omega), if_neg (by omega)]
theorem num_text0 (x : Int) (h0 : -9223372036854775807 ≤ x) (h1 : x ≤ 9223372036854775807) : numberF ⟨(numL x).toArray⟩ = some x := by
  have := num_text x h0 h1 [] [] rfl rfl
  simpa using this
end Go.Proofs.YtdfpijbngbfjaaaGreatDoor
