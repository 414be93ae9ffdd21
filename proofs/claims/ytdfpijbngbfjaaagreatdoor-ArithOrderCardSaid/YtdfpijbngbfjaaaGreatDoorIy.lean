/-
  DERIVED. Plain: what strings.ToLower makes of whatever bytes begins with "0x" just where the bytes themselves do, but for the case of the x: no rune beyond ASCII becomes an x.
-/
import Derived.Test.YtdfpijbngbfjaaaGreatDoorDp
import Derived.Shelf.Strings.CaseAny
namespace Go.Proofs.YtdfpijbngbfjaaaGreatDoor
open Go.Lib
def noX (x : CaseRow) : Bool := decide (x.delta 1 > 1114111) || !(decide ((x.1 : Int) ≤ 120 - x.delta 1) && decide (120 - x.delta 1 ≤ (x.2.1 : Int)) && decide (128 ≤ 120 - x.delta 1))
theorem all_noX : caseT.all noX = true := by decide +kernel
theorem lower_noX (r : Int) (h : 128 ≤ r) : toLowerU r ≠ 120 := by
  unfold toLowerU
  rw [if_neg (by omega)]
  unfold toR lookupGo
  cases hi : lookupIdx caseA r (caseA.size + 1) 0 caseA.size with
  | none => simp only [Option.map_none]; omega
  | some i =>
    obtain ⟨hil, hlo, hhi⟩ := lookupIdx_some caseA r _ _ _ i hi
    have hm : caseA.getD i (0, 0, 0, 0, 0) ∈ caseT := by
      unfold caseA at hil ⊢
      simp only [List.size_toArray] at hil
      simp [Array.getD, hil]
    have hx := List.all_eq_true.1 all_noX _ hm
    simp only [Option.map_some]
    generalize caseA.getD i (0, 0, 0, 0, 0) = x at hx hlo hhi
    simp only [noX, Bool.or_eq_true, decide_eq_true_eq, Bool.not_eq_true', Bool.and_eq_false_iff, decide_eq_false_iff_not] at hx
    unfold convertR
    split <;> omega
theorem encode_head (x : Int) (hx : x ≠ 120) (h0 : 0 ≤ x) (t : List UInt8) : encodeRune x ≠ 120 :: t := by
  unfold encodeRune encodeRuneZ
  intro h
  repeat' split at h
  all_goals
    simp only [List.map_cons, List.map_nil, List.cons.injEq] at h
    have := congrArg UInt8.toNat h.1
    simp at this
    try omega
theorem encode_some (x : Int) : encodeRune x ≠ [] := by
  unfold encodeRune encodeRuneZ
  intro h
  repeat' split at h
  all_goals simp at h
theorem lowerD_low (b : UInt8) (t : List UInt8) (hb : b.toNat < 128) : toLowerD (b :: t) = lowerB b :: toLowerD t := by
  unfold toLowerD
  rw [mapD_step toLowerU (b :: t) (by simp), decodeL_ascii b t hb]
  dsimp only
  rw [if_pos (toLowerU_range b.toNat (by omega)).1, lower_byte ⟨b.toNat, hb⟩, List.drop_succ_cons, List.drop_zero]
  simp
theorem lowerD_high (b : UInt8) (t : List UInt8) (hb : 128 ≤ b.toNat) : ∃ c u, toLowerD (b :: t) = c :: u ∧ c ≠ 120 := by
  have h128 : 128 ≤ (decodeL (b :: t)).1 := by
    rw [← List.drop_zero (l := b :: t)]
    have := decode_high ⟨(b :: t).toArray⟩ 0 (Nat.zero_lt_succ _) hb
    exact this.1
  have hr := decodeL_rune (b :: t)
  have hx := lower_noX ((decodeL (b :: t)).1 : Int) (by omega)
  have h0 := (toLowerU_range (decodeL (b :: t)).1 hr).1
  unfold toLowerD
  rw [mapD_step toLowerU (b :: t) (by simp), if_pos h0]
  cases he : encodeRune (toLowerU ((decodeL (b :: t)).1 : Int)) with
  | nil => exact absurd he (encode_some _)
  | cons c u => exact ⟨c, _, rfl, fun e => encode_head _ hx h0 u (by rw [he, e])⟩
theorem lowerB_high (b : UInt8) (hb : 128 ≤ b.toNat) : lowerB b ≠ 120 := by
  rw [lowerB_of_not b (by
    cases h : isUpperB b with
    | false => rfl
    | true => have := isUpperB_int b; rw [h] at this; have := this.symm; simp only [Bool.and_eq_true, decide_eq_true_eq] at this; omega)]
  intro e; rw [e] at hb; simp at hb
theorem hex_lowerD (s : ByteArray) (h0 : 0 < s.size) (hd : bt s 0 ≤ 57) : hasPrefix (toLowerD s.data.toList) [48, 120] = hexP s := by
  unfold hexP
  cases hl : s.data.toList with
  | nil => have := size_eq s; rw [hl, List.length_nil] at this; omega
  | cons b t =>
    have hb : b.toNat < 128 := by
      have h1 := data_getElem? s 0 h0
      rw [hl] at h1
      have h2 := get_bt s 0 h0
      simp only [List.getElem?_cons_zero, Option.some.injEq] at h1
      have h3 : b.toNat = (s[0]'h0).toNat := congrArg UInt8.toNat h1
      omega
    rw [lowerD_low b t hb]
    show List.isPrefixOf _ _ = List.isPrefixOf _ _
    unfold toLowerA
    rw [List.map_cons]
    simp only [List.isPrefixOf]
    congr 1
    cases t with
    | nil => rfl
    | cons c u =>
      by_cases hc : c.toNat < 128
      · rw [lowerD_low c u hc]; simp only [List.map_cons, List.isPrefixOf]
      · obtain ⟨d, v, h1, h2⟩ := lowerD_high c u (by omega)
        rw [h1]
        have h3 := lowerB_high c (by omega)
        have h4 : ((120 : UInt8) == d) = false := by simpa using Ne.symm h2
        have h5 : ((120 : UInt8) == lowerB c) = false := by simpa using Ne.symm h3
        simp only [List.map_cons, List.isPrefixOf, h4, h5]
end Go.Proofs.YtdfpijbngbfjaaaGreatDoor
