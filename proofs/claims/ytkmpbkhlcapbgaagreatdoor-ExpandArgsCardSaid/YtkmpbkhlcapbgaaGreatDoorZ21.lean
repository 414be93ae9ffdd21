/-
  DERIVED. The walk of word's parameter: how many bytes a parameter that is next has.
-/
import Derived.Test.YtkmpbkhlcapbgaaGreatDoorZ15
namespace Go.Proofs.YtkmpbkhlcapbgaaGreatDoor
open Go Go.RowKit
def wnameF : List UInt8 → Nat
  | [] => 0
  | c :: t => if letterU c then longF (c :: t) else 0
theorem wname_cons (c : UInt8) (t : List UInt8) : wnameF (c :: t) = if letterU c then longF (c :: t) else 0 := rfl
theorem wpar_cons (c : UInt8) (t : List UInt8) : wparF (c :: t) = if letterU c then longF (c :: t) else if digU c || [63, 35, 64, 42, 45].contains c then 1 else 0 := rfl
theorem letter_word {c : UInt8} (h : letterU c = true) : wordU c = true := by unfold wordU; simp [h]
theorem isName_take (c : UInt8) (t : List UInt8) (n : Nat) : isName ((c :: t).take (n + 1)) = (letterU c && (t.take n).all wordU) := by
  rw [List.take_succ_cons]; rfl
theorem all_take {α : Type} (p : α → Bool) : ∀ (l : List α) (n : Nat), n ≤ (l.takeWhile p).length → (l.take n).all p = true
  | [], n, _ => by simp
  | a :: l, 0, _ => by simp
  | a :: l, n + 1, h => by
    by_cases ha : p a = true
    · rw [List.takeWhile_cons, if_pos ha, List.length_cons] at h
      rw [List.take_succ_cons, List.all_cons, ha, all_take p l n (by omega)]
      rfl
    · rw [List.takeWhile_cons, if_neg ha] at h
      simp at h
theorem not_all_take {α : Type} (p : α → Bool) : ∀ (l : List α), (l.takeWhile p).length < l.length → (l.take ((l.takeWhile p).length + 1)).all p = false
  | [], h => by simp at h
  | a :: l, h => by
    by_cases ha : p a = true
    · rw [List.takeWhile_cons, if_pos ha, List.length_cons] at h ⊢
      rw [List.take_succ_cons, List.all_cons, ha, not_all_take p l (by simpa using h)]
      rfl
    · rw [List.takeWhile_cons, if_neg ha]
      simp [ha]
theorem wname_yes (s : List UInt8) (n : Nat) (h : n < wnameF s) : isName (s.take (n + 1)) = true := by
  cases s with
  | nil => simp [wnameF] at h
  | cons c t =>
    rw [isName_take]
    rw [wname_cons] at h
    by_cases hc : letterU c = true
    · rw [if_pos hc] at h
      unfold longF at h
      rw [List.takeWhile_cons, if_pos (letter_word hc), List.length_cons] at h
      rw [hc, all_take wordU t n (by omega)]
      rfl
    · rw [if_neg hc] at h; omega
theorem wname_no (s : List UInt8) (h : wnameF s < s.length) : isName (s.take (wnameF s + 1)) = false := by
  cases s with
  | nil => simp at h
  | cons c t =>
    rw [isName_take]
    rw [wname_cons] at h ⊢
    by_cases hc : letterU c = true
    · rw [if_pos hc] at h ⊢
      unfold longF at h ⊢
      rw [List.takeWhile_cons, if_pos (letter_word hc), List.length_cons] at h ⊢
      rw [not_all_take wordU t (by simpa using h)]
      simp
    · simp [hc]
theorem wname_le (s : List UInt8) : wnameF s ≤ s.length := by
  cases s with
  | nil => exact Nat.le_refl _
  | cons c t =>
    rw [wname_cons]
    split
    · exact longF_le _
    · exact Nat.zero_le _
def paramL : List UInt8 := [48, 49, 50, 51, 52, 53, 54, 55, 56, 57, 63, 35, 64, 42, 45]
theorem param_has : ∀ k : Fin 256, Lib.contains paramL [UInt8.ofNat k.val] = (digU (UInt8.ofNat k.val) || [63, 35, 64, 42, 45].contains (UInt8.ofNat k.val)) := by decide +kernel
theorem param_has_u (c : UInt8) : Lib.contains paramL [c] = (digU c || [63, 35, 64, 42, 45].contains c) := by
  have := param_has ⟨c.toNat, c.toNat_lt⟩
  simpa using this
set_option maxRecDepth 100000 in
set_option maxHeartbeats 4000000 in
theorem parameter_at (g : Nat) (v : Value) (s : ByteArray) (d : Nat) (w : World) (hr : Wr g v s d w) :
    Calls Tryz.prog 104 #[.pointer (some ⟨g, 0, none⟩)] w fun e w' => e = .returned (.int .i64 (wparF s.data.toList : Nat)) ∧ w = w' := by
  obtain ⟨r0, r1, r2, f0, f1, f2, lt0⟩ := three_facts hr.row
  obtain ⟨N, hN⟩ : ∃ N, wnameF s.data.toList = N := ⟨_, rfl⟩
  have hsz : s.size = s.data.toList.length := by simp
  have hle : N ≤ s.size := by rw [← hN, hsz]; exact wname_le _
  have hmax := hr.size
  have HY : Hid (∀ n, n < N → ∀ W, Calls Tryz.prog 25 #[.string (s.extract 0 (n + 1))] W fun e w' => e = .returned (.bool true) ∧ W = w') := fun n hn W =>
    name_at _ true (by rw [ByteArray.size_extract]; omega) (by rw [Lib.extract_data]; simpa using wname_yes s.data.toList n (by rw [hN]; exact hn)) W
  have HN : Hid (N < s.size → ∀ W, Calls Tryz.prog 25 #[.string (s.extract 0 (N + 1))] W fun e w' => e = .returned (.bool false) ∧ W = w') := fun hn W =>
    name_at _ false (by rw [ByteArray.size_extract]; omega) (by rw [Lib.extract_data]; have := wname_no s.data.toList (by rw [hN, ← hsz]; exact hn); rw [hN] at this; simpa using this) W
  obtain ⟨m, hm⟩ := hr.tab.max
  have HC : Hid (∀ c t, s.data.toList = c :: t → Calls Tryz.prog 122 #[.string ⟨#[48, 49, 50, 51, 52, 53, 54, 55, 56, 57, 63, 35, 64, 42, 45]⟩, .string (s.extract 0 1)] w fun e w' => e = .returned (.bool (digU c || [63, 35, 64, 42, 45].contains c)) ∧ w = w') := by
    intro c t hs
    have h := Tryz.strings_Contains ⟨#[48, 49, 50, 51, 52, 53, 54, 55, 56, 57, 63, 35, 64, 42, 45]⟩ (s.extract 0 1) m w (by decide) hm
    have e1 : (s.extract 0 1).data.toList = [c] := by rw [Lib.extract_data, hs]; rfl
    rw [e1, show (⟨#[48, 49, 50, 51, 52, 53, 54, 55, 56, 57, 63, 35, 64, 42, 45]⟩ : ByteArray).data.toList = paramL from rfl, param_has_u] at h
    exact h.mono fun e w' ⟨h1, h2⟩ => ⟨h1, h2.symm⟩
  have HW : Hid (∀ c t, s.data.toList = c :: t → wparF s.data.toList = if 0 < N then N else if digU c || [63, 35, 64, 42, 45].contains c then 1 else 0) := by
    intro c t hs
    rw [← hN, hs]
    rw [wpar_cons, wname_cons]
    by_cases hc : letterU c = true
    · have : 0 < longF (c :: t) := by unfold longF; rw [List.takeWhile_cons, if_pos (letter_word hc)]; simp
      rw [if_pos hc, if_pos hc, if_pos this]
    · rw [if_neg hc, if_neg hc, if_neg (Nat.lt_irrefl 0)]
  have HSZ := Lib.hid hsz
  clear hm hN hsz
  go_enter Tryz.func104, Tryz.ntmps104
  go_wp2_with fail
  go_loopg [3] N (fun gk s3 wx => wx = w ∧ ∃ i : Nat, i + gk = N ∧ s3 = .int .i64 i)
  case atStart => exact ⟨rfl, 0, by omega, rfl⟩
  case round =>
    obtain ⟨rfl, i, hik, rfl⟩ := hrel
    have hw1 : IntKind.i64.wrap ((i : Int) + 1) = (i : Int) + 1 := wrap_small _ (by omega) (by omega)
    have hi2 : ((i : Int) + 1).toNat = i + 1 := by omega
    have hi3 : (0 : Int) ≤ (i : Int) + 1 := by omega
    cases gk with
    | succ gk =>
      have h1 : (i : Int) < (s.size : Int) := by omega
      have h1' : i < s.size := by omega
      have h2 : (i : Int) + 1 ≤ (s.size : Int) := by omega
      have h2' : i + 1 ≤ s.size := by omega
      have HY1 := Lib.hid (HY.out i (by omega) wr)
      go_wp2_with fail
      refine HY1.out.mono ?_; rintro e w1 ⟨rfl, rfl⟩
      go_wp2_with fail
      go_roundg gk
      case measure => omega
      case rel => exact ⟨rfl, i + 1, by omega, by go_num⟩
    | zero =>
      obtain rfl : i = N := by omega
      by_cases hlt : i < s.size
      · have h1 : (i : Int) < (s.size : Int) := by omega
        have h2 : (i : Int) + 1 ≤ (s.size : Int) := by omega
        have HN1 := Lib.hid (HN.out hlt wr)
        obtain ⟨c, t, hs⟩ : ∃ c t, s.data.toList = c :: t := by
          cases h : s.data.toList with
          | nil => rw [HSZ.out, h] at hlt; simp at hlt
          | cons c t => exact ⟨c, t, rfl⟩
        have HC1 := Lib.hid (HC.out c t hs)
        have hW := HW.out c t hs
        have hne : s.toList.isEmpty = false := by rw [empty_iff]; simp; omega
        by_cases h0 : i = 0
        · subst h0
          have hs1 : (1 : Int) ≤ (s.size : Int) := by omega
          rw [if_neg (Nat.lt_irrefl 0)] at hW
          have HWW := Lib.hid hW
          obtain ⟨b, hb⟩ : ∃ b, (digU c || [63, 35, 64, 42, 45].contains c) = b := ⟨_, rfl⟩
          rw [hb] at HC1 hW
          clear HY HN HC HW hs HWW hb
          cases b
          · have HX := Lib.hid hW
            clear hW
            go_wp2_with fail
            refine HN1.out.mono ?_; rintro e w1 ⟨rfl, rfl⟩
            go_wp2_with fail
            refine HC1.out.mono ?_; rintro e w1 ⟨rfl, rfl⟩
            go_wp2_with fail
            go_ret
            exact ⟨by rw [HX.out]; rfl, rfl⟩
          · have HX := Lib.hid hW
            clear hW
            go_wp2_with fail
            refine HN1.out.mono ?_; rintro e w1 ⟨rfl, rfl⟩
            go_wp2_with fail
            refine HC1.out.mono ?_; rintro e w1 ⟨rfl, rfl⟩
            go_wp2_with fail
            go_ret
            exact ⟨by rw [HX.out]; rfl, rfl⟩
        · rw [if_pos (by omega)] at hW
          have h00 : ((i : Int) == 0) = false := by simp; omega
          have HX := Lib.hid hW
          clear HY HN HC HW hs hW
          go_wp2_with fail
          refine HN1.out.mono ?_; rintro e w1 ⟨rfl, rfl⟩
          go_wp2_with fail
          go_ret
          exact ⟨by rw [HX.out]; rfl, rfl⟩
      · have h1 : ¬ ((i : Int) < (s.size : Int)) := by omega
        have h1' : ¬ (i < s.size) := hlt
        by_cases h0 : i = 0
        · subst h0
          have hs0 : s.data.toList = [] := List.eq_nil_of_length_eq_zero (by have := HSZ.out; omega)
          have hne : s.toList.isEmpty = true := by rw [Lib.toList_data, hs0]; rfl
          have HX : Hid (wparF s.data.toList = 0) := by rw [hs0]; rfl
          clear HY HN HC HW hs0
          go_wp2_with fail
          go_ret
          exact ⟨by rw [HX.out]; rfl, rfl⟩
        · obtain ⟨c, t, hs⟩ : ∃ c t, s.data.toList = c :: t := by
            cases h : s.data.toList with
            | nil => rw [HSZ.out, h] at hle; simp at hle; omega
            | cons c t => exact ⟨c, t, rfl⟩
          have hW := HW.out c t hs
          rw [if_pos (by omega)] at hW
          have h00 : ((i : Int) == 0) = false := by simp; omega
          have HX := Lib.hid hW
          clear HY HN HC HW hs hW
          go_wp2_with fail
          go_ret
          exact ⟨by rw [HX.out]; rfl, rfl⟩
end Go.Proofs.YtkmpbkhlcapbgaaGreatDoor
