/-
  DERIVED. The plain law of digits: what is looked at ahead of ParseInt, and what ParseInt gathers, are the document's Digits. No program in sight.
-/
import Derived.Test.YtdfpijbngbfjaaaGreatDoorUp
import Derived.Lib.IndexAny
import Derived.Lib.Case
namespace Go.Proofs.YtdfpijbngbfjaaaGreatDoor
open Go
def chB : List UInt8 := [95, 98, 66, 111, 79]
theorem dig_all (B : Int) : ∀ (l : List Int) (n r : Int), digGo B l n = some r → ∀ c ∈ l, digitV c < B := by
  intro l
  induction l with
  | nil => intro n r _ c hc; simp at hc
  | cons x l ih =>
    intro n r h c hc
    simp only [digGo] at h
    split at h
    · cases h
    · rename_i hn
      rcases List.mem_cons.1 hc with rfl | hc
      · omega
      · exact ih _ _ h c hc
theorem any_iff (cs : List UInt8) : ∀ l : List UInt8, 0 ≤ Lib.indexAny l cs ↔ l.any cs.contains = true := by
  intro l
  induction l with
  | nil => simp [Lib.indexAny]
  | cons x l ih =>
    have h1 := Lib.indexAny_ge cs l
    have e : Lib.indexAny (x :: l) cs = if cs.contains x then 0 else if Lib.indexAny l cs == -1 then -1 else Lib.indexAny l cs + 1 := rfl
    rw [e, List.any_cons, Bool.or_eq_true, ← ih]
    by_cases hx : cs.contains x = true
    · rw [if_pos hx]; exact ⟨fun _ => .inl hx, fun _ => by omega⟩
    · rw [if_neg hx]
      by_cases h2 : Lib.indexAny l cs = -1
      · rw [if_pos (by rw [h2]; rfl), h2]
        exact ⟨fun h => by omega, fun h => h.elim (fun h => absurd h hx) (fun h => by omega)⟩
      · rw [if_neg (by simpa using h2)]
        exact ⟨fun h => .inr (by omega), fun h => h.elim (fun h => absurd h hx) (fun h => by omega)⟩
theorem any_eq (cs : List UInt8) (l : List UInt8) : Lib.containsAny l cs = l.any cs.contains := by
  rw [Bool.eq_iff_iff, ← any_iff]; unfold Lib.containsAny; exact decide_eq_true_iff
theorem one_eq (l : List UInt8) (c : UInt8) : decide (0 ≤ Lib.indexByte l c) = l.any [c].contains := by
  rw [← any_eq, Lib.containsAny, Lib.indexAny_one]
theorem byte_eq (c : UInt8) (k : Nat) (hk : k < 256) : c = UInt8.ofNat k ↔ (c.toNat : Int) = (k : Int) := by
  constructor
  · intro e; rw [e, UInt8.toNat_ofNat_of_lt' (by simpa [UInt8.size] using hk)]
  · intro e
    refine UInt8.toNat_inj.1 ?_
    rw [UInt8.toNat_ofNat_of_lt' (by simpa [UInt8.size] using hk)]; omega
/-- Does some byte of a text be one of some? -/
theorem any_bt {s : ByteArray} {f : UInt8 → Bool} {P : Int → Prop} (hf : ∀ c : UInt8, f c = true ↔ P (c.toNat : Int)) : s.data.toList.any f = true ↔ ∃ k, k < s.size ∧ P (bt s k) := by
  rw [List.any_eq_true]
  constructor
  · rintro ⟨c, hc, h⟩
    obtain ⟨k, hk, rfl⟩ := List.getElem_of_mem hc
    have hk2 : k < s.size := by rw [Lib.size_eq]; exact hk
    refine ⟨k, hk2, ?_⟩
    have := (hf _).1 h
    rw [← get_bt s k hk2]
    have e : s[k] = s.data.toList[k] := by simp; rfl
    rw [e]; exact this
  · rintro ⟨k, hk, h⟩
    have hk2 : k < s.data.toList.length := by rw [← Lib.size_eq]; exact hk
    refine ⟨s.data.toList[k], List.getElem_mem hk2, (hf _).2 ?_⟩
    have e : s[k] = s.data.toList[k] := by simp; rfl
    rw [← get_bt s k hk, e] at h
    exact h
theorem ch_iff (c : UInt8) : chB.contains c = true ↔ ((c.toNat : Int) = 95 ∨ (c.toNat : Int) = 98 ∨ (c.toNat : Int) = 66 ∨ (c.toNat : Int) = 111 ∨ (c.toNat : Int) = 79) := by
  have h1 := byte_eq c 95 (by omega); have h2 := byte_eq c 98 (by omega); have h3 := byte_eq c 66 (by omega); have h4 := byte_eq c 111 (by omega); have h5 := byte_eq c 79 (by omega)
  unfold chB
  simp only [List.contains_cons, List.contains_nil, Bool.or_false, Bool.or_eq_true, beq_iff_eq]
  exact or_congr h1 (or_congr h2 (or_congr h3 (or_congr h4 h5)))
theorem us_iff (c : UInt8) : ([95] : List UInt8).contains c = true ↔ (c.toNat : Int) = 95 := by
  have h1 := byte_eq c 95 (by omega)
  simp only [List.contains_cons, List.contains_nil, Bool.or_false, beq_iff_eq]
  exact h1
def anyCh (s : ByteArray) : Bool := Lib.containsAny s.data.toList chB
def anyUs (s : ByteArray) : Bool := decide (0 ≤ Lib.indexByte s.data.toList 95)
def hexP (s : ByteArray) : Bool := Lib.hasPrefix (Lib.toLowerA s.data.toList) [48, 120]
theorem anyCh_iff (s : ByteArray) : anyCh s = true ↔ ∃ k, k < s.size ∧ (bt s k = 95 ∨ bt s k = 98 ∨ bt s k = 66 ∨ bt s k = 111 ∨ bt s k = 79) := by
  unfold anyCh; rw [any_eq]; exact any_bt (P := fun x => x = 95 ∨ x = 98 ∨ x = 66 ∨ x = 111 ∨ x = 79) ch_iff
theorem anyUs_iff (s : ByteArray) : anyUs s = true ↔ ∃ k, k < s.size ∧ bt s k = 95 := by
  unfold anyUs; rw [one_eq]; exact any_bt (P := fun x => x = 95) us_iff
theorem low_fin : ∀ k : Fin 256, (Lib.lowerB (UInt8.ofNat k.val) = 48 ↔ UInt8.ofNat k.val = 48) ∧ (Lib.lowerB (UInt8.ofNat k.val) = 120 ↔ UInt8.ofNat k.val = 120 ∨ UInt8.ofNat k.val = 88) := by decide +kernel
theorem low48 (c : UInt8) : Lib.lowerB c = 48 ↔ c = 48 := by
  have := (low_fin ⟨c.toNat, c.toNat_lt⟩).1; simpa using this
theorem low120 (c : UInt8) : Lib.lowerB c = 120 ↔ c = 120 ∨ c = 88 := by
  have := (low_fin ⟨c.toNat, c.toNat_lt⟩).2; simpa using this
theorem hexP_iff (s : ByteArray) : hexP s = true ↔ 2 ≤ s.size ∧ bt s 0 = 48 ∧ (bt s 1 = 120 ∨ bt s 1 = 88) := by
  have hget : ∀ k (h : k < s.data.toList.length), bt s k = ((s.data.toList[k]).toNat : Int) := fun k h => by
    have hk : k < s.size := by rw [Lib.size_eq]; exact h
    rw [← get_bt s k hk]
    have e : s[k] = s.data.toList[k] := by simp; rfl
    rw [e]
  unfold hexP Lib.hasPrefix Lib.toLowerA
  rw [Lib.size_eq]
  cases hl : s.data.toList with
  | nil => simp
  | cons x r =>
    cases hr : r with
    | nil => simp [List.isPrefixOf]
    | cons y r2 =>
      have h0 := hget 0 (by rw [hl]; simp)
      have h1 := hget 1 (by rw [hl, hr]; simp)
      simp only [hl, hr, List.getElem_cons_zero, List.getElem_cons_succ] at h0 h1
      rw [h0, h1]
      simp only [List.map_cons, List.isPrefixOf, Bool.and_true, Bool.and_eq_true, beq_iff_eq, List.length_cons]
      have a1 := low48 x; have a2 := low120 y
      have b1 := byte_eq x 48 (by omega); have b2 := byte_eq y 120 (by omega); have b3 := byte_eq y 88 (by omega)
      constructor
      · rintro ⟨e1, e2⟩
        refine ⟨by omega, b1.1 (a1.1 e1.symm), ?_⟩
        rcases a2.1 e2.symm with e | e
        · exact .inl (b2.1 e)
        · exact .inr (b3.1 e)
      · rintro ⟨_, e1, e2⟩
        refine ⟨(a1.2 (b1.2 e1)).symm, (a2.2 ?_).symm⟩
        rcases e2 with e | e
        · exact .inl (b2.2 e)
        · exact .inr (b3.2 e)
theorem bl_mem {s : ByteArray} {k F : Nat} (h : k < s.size) (hF : F ≤ k) : bt s k ∈ (bl s).drop F := by
  rw [← bl_get s k h]
  have e : (bl s)[k]'(by rw [bl_length]; exact h) = ((bl s).drop F)[k - F]'(by rw [List.length_drop, bl_length]; omega) := by
    rw [List.getElem_drop]; congr 1; omega
  rw [e]; exact List.getElem_mem _
/-- What digits refuses ahead of ParseInt is no number. -/
theorem dig_refused (s : ByteArray) (h : (anyCh s && !hexP s || anyUs s) = true) : digitsF s = none := by
  cases hd : digitsF s with
  | none => rfl
  | some r =>
    exfalso
    unfold digitsF at hd
    split at hd
    · cases hd
    rename_i h0
    have hall := dig_all _ _ _ _ hd
    rw [Bool.or_eq_true] at h
    have dv95 : digitV 95 = 16 := by decide
    have dv98 : digitV 98 = 11 := by decide
    have dv66 : digitV 66 = 11 := by decide
    have dv111 : digitV 111 = 16 := by decide
    have dv79 : digitV 79 = 16 := by decide
    unfold baseF at hall
    split at hall
    · rename_i h1
      obtain ⟨h1, h2, h3⟩ := h1
      have hx : hexP s = true := (hexP_iff s).2 ⟨by omega, h2, h3⟩
      rw [hx] at h
      simp at h
      obtain ⟨k, hk, e⟩ := (anyUs_iff s).1 h
      by_cases hk2 : 2 ≤ k
      · have := hall _ (bl_mem hk hk2); rw [e, dv95] at this; omega
      · rcases (show k = 0 ∨ k = 1 by omega) with rfl | rfl <;> omega
    · rename_i h1
      have key : ∀ (B : Int) (F : Nat), B ≤ 10 → (F = 0 ∨ (F = 1 ∧ bt s 0 = 48)) → (∀ c ∈ (bl s).drop F, digitV c < B) → ∀ k, k < s.size → (bt s k = 95 ∨ bt s k = 98 ∨ bt s k = 66 ∨ bt s k = 111 ∨ bt s k = 79) → False := by
        intro B F hB hF hA k hk e
        by_cases hkF : F ≤ k
        · have := hA _ (bl_mem hk hkF)
          rcases e with e | e | e | e | e <;> rw [e] at this <;> simp only [dv95, dv98, dv66, dv111, dv79] at this <;> omega
        · rcases hF with rfl | ⟨rfl, h48⟩
          · omega
          · obtain rfl : k = 0 := by omega
            omega
      have hex : ∃ k, k < s.size ∧ (bt s k = 95 ∨ bt s k = 98 ∨ bt s k = 66 ∨ bt s k = 111 ∨ bt s k = 79) := by
        rcases h with h | h
        · rw [Bool.and_eq_true] at h; exact (anyCh_iff s).1 h.1
        · obtain ⟨k, hk, e⟩ := (anyUs_iff s).1 h; exact ⟨k, hk, .inl e⟩
      obtain ⟨k, hk, e⟩ := hex
      split at hall
      · rename_i h2; exact key 8 1 (by omega) (.inr ⟨rfl, h2.2⟩) hall k hk e
      · exact key 10 0 (by omega) (.inl rfl) hall k hk e
theorem dig_first (s : ByteArray) (_h0 : 0 < s.size) (h : ¬ (48 ≤ bt s 0 ∧ bt s 0 ≤ 57)) : digitsF s = none := by
  have hb : baseF s = (10, 0) := by unfold baseF; rw [if_neg (fun e => h (by have := e.2.1; omega)), if_neg (fun e => h (by have := e.2; omega))]
  unfold digitsF
  rw [if_neg (by omega), hb]
  simp only
  rw [bl_drop s 0 (by omega)]
  simp only [digGo]
  rw [if_pos]
  left
  unfold digitV
  rw [if_neg h]
  split
  · omega
  · split <;> omega
end Go.Proofs.YtdfpijbngbfjaaaGreatDoor
