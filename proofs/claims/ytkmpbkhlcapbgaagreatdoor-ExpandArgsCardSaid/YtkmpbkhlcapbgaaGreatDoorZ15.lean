/-
  DERIVED. The walks of lexer's letter and Name, and of arith's long: printed by gen_letter.py. Plain: the parser's words against bytes as numbers; what it leaves is no longer than what it was given. No program in sight. The walks of word's has, take, upto; lexer.Name at any text.
-/
import Derived.Test.YtkmpbkhlcapbgaaGreatDoorZ01
import Derived.Test.YtkmpbkhlcapbgaaGreatDoorShelf
import Derived.Deep.LoopGhost
import Derived.Laws.Runes
import Derived.Test.YtkmpbkhlcapbgaaGreatDoorZ14
namespace Go.Proofs.YtkmpbkhlcapbgaaGreatDoor
open Go.RowKit
/-- Whether a byte is a letter, or _; or, not as the first one, a digit. -/
def letB (c : Int) (first : Bool) : Bool := decide (65 ≤ c ∧ c ≤ 90) || decide (97 ≤ c ∧ c ≤ 122) || c == 95 || (!first && decide (48 ≤ c ∧ c ≤ 57))
set_option maxRecDepth 100000 in
set_option maxHeartbeats 4000000 in
theorem letter_any (c : Int) (h0 : 0 ≤ c) (h1 : c ≤ 255) (first b : Bool) (hb : letB c first = b) (w : World) :
    Calls Tryz.prog 52 #[.int .u8 c, .bool first] w fun e w' => e = .returned (.bool b) ∧ w = w' := by
  have HB := Lib.hid hb
  clear hb
  rcases (show (0 ≤ c ∧ c ≤ 47) ∨ (48 ≤ c ∧ c ≤ 57) ∨ (58 ≤ c ∧ c ≤ 64) ∨ (65 ≤ c ∧ c ≤ 90) ∨ (91 ≤ c ∧ c ≤ 94) ∨ (95 ≤ c ∧ c ≤ 95) ∨ (96 ≤ c ∧ c ≤ 96) ∨ (97 ≤ c ∧ c ≤ 122) ∨ (123 ≤ c ∧ c ≤ 255) by omega) with ⟨l0, l1⟩ | ⟨l0, l1⟩ | ⟨l0, l1⟩ | ⟨l0, l1⟩ | ⟨l0, l1⟩ | ⟨l0, l1⟩ | ⟨l0, l1⟩ | ⟨l0, l1⟩ | ⟨l0, l1⟩
  · have e95 : (c == 95) = false := by simp; omega
    have q1 : ¬ (97 ≤ c) := by omega
    have q3 : ¬ (65 ≤ c) := by omega
    have q5 : ¬ (48 ≤ c) := by omega
    have q2 : c ≤ 122 := by omega
    have q4 : c ≤ 90 := by omega
    have q6 : c ≤ 57 := by omega
    cases first
    rotate_left
    · have HR : Hid (b = false) := by
        unfold Hid; rw [← HB.out]; unfold letB; simp [e95, q1, q2, q3, q4, q5, q6]
      clear HB
      go_enter Tryz.func52, Tryz.ntmps52
      go_wp2_with fail
      go_ret
      exact ⟨by rw [HR.out]; rfl, rfl⟩
    · have HR : Hid (b = false) := by
        unfold Hid; rw [← HB.out]; unfold letB; simp [e95, q1, q2, q3, q4, q5, q6]
      clear HB
      go_enter Tryz.func52, Tryz.ntmps52
      go_wp2_with fail
      go_ret
      exact ⟨by rw [HR.out]; rfl, rfl⟩
  · have e95 : (c == 95) = false := by simp; omega
    have q1 : ¬ (97 ≤ c) := by omega
    have q3 : ¬ (65 ≤ c) := by omega
    have q5 : 48 ≤ c := by omega
    have q2 : c ≤ 122 := by omega
    have q4 : c ≤ 90 := by omega
    have q6 : c ≤ 57 := by omega
    cases first
    rotate_left
    · have HR : Hid (b = false) := by
        unfold Hid; rw [← HB.out]; unfold letB; simp [e95, q1, q2, q3, q4, q5, q6]
      clear HB
      go_enter Tryz.func52, Tryz.ntmps52
      go_wp2_with fail
      go_ret
      exact ⟨by rw [HR.out]; rfl, rfl⟩
    · have HR : Hid (b = true) := by
        unfold Hid; rw [← HB.out]; unfold letB; simp [e95, q1, q2, q3, q4, q5, q6]
      clear HB
      go_enter Tryz.func52, Tryz.ntmps52
      go_wp2_with fail
      go_ret
      exact ⟨by rw [HR.out]; rfl, rfl⟩
  · have e95 : (c == 95) = false := by simp; omega
    have q1 : ¬ (97 ≤ c) := by omega
    have q3 : ¬ (65 ≤ c) := by omega
    have q5 : 48 ≤ c := by omega
    have q2 : c ≤ 122 := by omega
    have q4 : c ≤ 90 := by omega
    have q6 : ¬ (c ≤ 57) := by omega
    cases first
    rotate_left
    · have HR : Hid (b = false) := by
        unfold Hid; rw [← HB.out]; unfold letB; simp [e95, q1, q2, q3, q4, q5, q6]
      clear HB
      go_enter Tryz.func52, Tryz.ntmps52
      go_wp2_with fail
      go_ret
      exact ⟨by rw [HR.out]; rfl, rfl⟩
    · have HR : Hid (b = false) := by
        unfold Hid; rw [← HB.out]; unfold letB; simp [e95, q1, q2, q3, q4, q5, q6]
      clear HB
      go_enter Tryz.func52, Tryz.ntmps52
      go_wp2_with fail
      go_ret
      exact ⟨by rw [HR.out]; rfl, rfl⟩
  · have e95 : (c == 95) = false := by simp; omega
    have q1 : ¬ (97 ≤ c) := by omega
    have q3 : 65 ≤ c := by omega
    have q5 : 48 ≤ c := by omega
    have q2 : c ≤ 122 := by omega
    have q4 : c ≤ 90 := by omega
    have q6 : ¬ (c ≤ 57) := by omega
    cases first
    rotate_left
    · have HR : Hid (b = true) := by
        unfold Hid; rw [← HB.out]; unfold letB; simp [e95, q1, q2, q3, q4, q5, q6]
      clear HB
      go_enter Tryz.func52, Tryz.ntmps52
      go_wp2_with fail
      go_ret
      exact ⟨by rw [HR.out]; rfl, rfl⟩
    · have HR : Hid (b = true) := by
        unfold Hid; rw [← HB.out]; unfold letB; simp [e95, q1, q2, q3, q4, q5, q6]
      clear HB
      go_enter Tryz.func52, Tryz.ntmps52
      go_wp2_with fail
      go_ret
      exact ⟨by rw [HR.out]; rfl, rfl⟩
  · have e95 : (c == 95) = false := by simp; omega
    have q1 : ¬ (97 ≤ c) := by omega
    have q3 : 65 ≤ c := by omega
    have q5 : 48 ≤ c := by omega
    have q2 : c ≤ 122 := by omega
    have q4 : ¬ (c ≤ 90) := by omega
    have q6 : ¬ (c ≤ 57) := by omega
    cases first
    rotate_left
    · have HR : Hid (b = false) := by
        unfold Hid; rw [← HB.out]; unfold letB; simp [e95, q1, q2, q3, q4, q5, q6]
      clear HB
      go_enter Tryz.func52, Tryz.ntmps52
      go_wp2_with fail
      go_ret
      exact ⟨by rw [HR.out]; rfl, rfl⟩
    · have HR : Hid (b = false) := by
        unfold Hid; rw [← HB.out]; unfold letB; simp [e95, q1, q2, q3, q4, q5, q6]
      clear HB
      go_enter Tryz.func52, Tryz.ntmps52
      go_wp2_with fail
      go_ret
      exact ⟨by rw [HR.out]; rfl, rfl⟩
  · have e95 : (c == 95) = true := by simp; omega
    have q1 : ¬ (97 ≤ c) := by omega
    have q3 : 65 ≤ c := by omega
    have q5 : 48 ≤ c := by omega
    have q2 : c ≤ 122 := by omega
    have q4 : ¬ (c ≤ 90) := by omega
    have q6 : ¬ (c ≤ 57) := by omega
    cases first
    rotate_left
    · have HR : Hid (b = true) := by
        unfold Hid; rw [← HB.out]; unfold letB; simp [e95, q1, q2, q3, q4, q5, q6]
      clear HB
      go_enter Tryz.func52, Tryz.ntmps52
      go_wp2_with fail
      go_ret
      exact ⟨by rw [HR.out]; rfl, rfl⟩
    · have HR : Hid (b = true) := by
        unfold Hid; rw [← HB.out]; unfold letB; simp [e95, q1, q2, q3, q4, q5, q6]
      clear HB
      go_enter Tryz.func52, Tryz.ntmps52
      go_wp2_with fail
      go_ret
      exact ⟨by rw [HR.out]; rfl, rfl⟩
  · have e95 : (c == 95) = false := by simp; omega
    have q1 : ¬ (97 ≤ c) := by omega
    have q3 : 65 ≤ c := by omega
    have q5 : 48 ≤ c := by omega
    have q2 : c ≤ 122 := by omega
    have q4 : ¬ (c ≤ 90) := by omega
    have q6 : ¬ (c ≤ 57) := by omega
    cases first
    rotate_left
    · have HR : Hid (b = false) := by
        unfold Hid; rw [← HB.out]; unfold letB; simp [e95, q1, q2, q3, q4, q5, q6]
      clear HB
      go_enter Tryz.func52, Tryz.ntmps52
      go_wp2_with fail
      go_ret
      exact ⟨by rw [HR.out]; rfl, rfl⟩
    · have HR : Hid (b = false) := by
        unfold Hid; rw [← HB.out]; unfold letB; simp [e95, q1, q2, q3, q4, q5, q6]
      clear HB
      go_enter Tryz.func52, Tryz.ntmps52
      go_wp2_with fail
      go_ret
      exact ⟨by rw [HR.out]; rfl, rfl⟩
  · have e95 : (c == 95) = false := by simp; omega
    have q1 : 97 ≤ c := by omega
    have q3 : 65 ≤ c := by omega
    have q5 : 48 ≤ c := by omega
    have q2 : c ≤ 122 := by omega
    have q4 : ¬ (c ≤ 90) := by omega
    have q6 : ¬ (c ≤ 57) := by omega
    cases first
    rotate_left
    · have HR : Hid (b = true) := by
        unfold Hid; rw [← HB.out]; unfold letB; simp [e95, q1, q2, q3, q4, q5, q6]
      clear HB
      go_enter Tryz.func52, Tryz.ntmps52
      go_wp2_with fail
      go_ret
      exact ⟨by rw [HR.out]; rfl, rfl⟩
    · have HR : Hid (b = true) := by
        unfold Hid; rw [← HB.out]; unfold letB; simp [e95, q1, q2, q3, q4, q5, q6]
      clear HB
      go_enter Tryz.func52, Tryz.ntmps52
      go_wp2_with fail
      go_ret
      exact ⟨by rw [HR.out]; rfl, rfl⟩
  · have e95 : (c == 95) = false := by simp; omega
    have q1 : 97 ≤ c := by omega
    have q3 : 65 ≤ c := by omega
    have q5 : 48 ≤ c := by omega
    have q2 : ¬ (c ≤ 122) := by omega
    have q4 : ¬ (c ≤ 90) := by omega
    have q6 : ¬ (c ≤ 57) := by omega
    cases first
    rotate_left
    · have HR : Hid (b = false) := by
        unfold Hid; rw [← HB.out]; unfold letB; simp [e95, q1, q2, q3, q4, q5, q6]
      clear HB
      go_enter Tryz.func52, Tryz.ntmps52
      go_wp2_with fail
      go_ret
      exact ⟨by rw [HR.out]; rfl, rfl⟩
    · have HR : Hid (b = false) := by
        unfold Hid; rw [← HB.out]; unfold letB; simp [e95, q1, q2, q3, q4, q5, q6]
      clear HB
      go_enter Tryz.func52, Tryz.ntmps52
      go_wp2_with fail
      go_ret
      exact ⟨by rw [HR.out]; rfl, rfl⟩
/-- Whether all of a text's bytes may stand in a name. -/
def nameAll : List Int → Bool → Bool
  | [], _ => true
  | c :: t, first => letB c first && nameAll t false
/-- How many bytes from the beginning on may stand in a name. -/
def longZ : List Int → Nat
  | [] => 0
  | c :: t => if letB c false then longZ t + 1 else 0
theorem nameAll_at (s : ByteArray) (i : Nat) (h : i < s.size) (first : Bool) : nameAll ((bl s).drop i) first = (letB (bt s i) first && nameAll ((bl s).drop (i + 1)) false) := by
  rw [bl_drop s i h]; rfl
theorem nameAll_end (s : ByteArray) (first : Bool) : nameAll ((bl s).drop s.size) first = true := by
  rw [List.drop_of_length_le (by rw [bl_length]; exact Nat.le_refl _)]; rfl
set_option maxRecDepth 100000 in
set_option maxHeartbeats 4000000 in
theorem name_any (s : ByteArray) (hs : s.size ≤ 281474976710656) (R : Bool) (hR : nameAll (bl s) true = R) (b : Bool) (hb : (decide (0 < s.size) && R) = b) (w : World) :
    Calls Tryz.prog 25 #[.string s] w fun e w' => e = .returned (.bool b) ∧ w = w' := by
  have HB := Lib.hid hb
  have HR0 := Lib.hid hR
  have hgs := get_bt s
  have hem := empty_iff s
  clear hb hR
  go_enter Tryz.func25, Tryz.ntmps25
  go_wp2_with fail
  go_loopg [3, 6] s.size (fun g s3 s6 wx => wx = w ∧ ∃ i : Nat, i + g = s.size ∧ s6 = .int .i64 i ∧ Hid (nameAll ((bl s).drop i) (decide (i = 0)) = R))
  case atStart => exact ⟨rfl, 0, by omega, rfl, by unfold Hid; rw [List.drop_zero, ← HR0.out]; rfl⟩
  case round =>
    obtain ⟨rfl, i, hig, rfl, hrel⟩ := hrel
    cases gk with
    | zero =>
      obtain rfl : i = s.size := by omega
      have HF : Hid (decide (0 < s.size) = b) := by
        have h := hrel.out
        rw [nameAll_end] at h
        unfold Hid; rw [← HB.out, ← h, Bool.and_true]
      obtain ⟨t, ht⟩ : ∃ t, decide (0 < s.size) = t := ⟨_, rfl⟩
      rw [ht] at hem HF
      clear hrel HB ht
      cases t
      · go_wp2_with fail
        go_ret
        exact ⟨by rw [← HF.out]; rfl, rfl⟩
      · go_wp2_with fail
        go_ret
        exact ⟨by rw [← HF.out]; rfl, rfl⟩
    | succ g =>
      have hi : i < s.size := by omega
      obtain ⟨f, hf⟩ : ∃ f, decide (i = 0) = f := ⟨_, rfl⟩
      have q0 : ((i : Int) == 0) = f := by rw [← hf]; by_cases e : i = 0 <;> simp [e]
      obtain ⟨t, ht⟩ : ∃ t, letB (bt s i) f = t := ⟨_, rfl⟩
      have HL := Lib.hid (letter_any (bt s i) (bt_nonneg s i) (bt_le s i) f t ht)
      have HN : Hid ((t && nameAll ((bl s).drop (i + 1)) false) = R) := by
        have h := hrel.out
        rw [nameAll_at s i hi, hf, ht] at h
        exact h
      clear hrel hf ht
      cases t
      · go_wp2_with fail
        refine (HL.out _).mono ?_; rintro e w1 ⟨rfl, rfl⟩
        go_wp2_with fail
        go_ret
        have hbf : b = false := by rw [← HB.out, ← HN.out]; simp
        exact ⟨by rw [hbf]; rfl, rfl⟩
      · go_wp2_with fail
        refine (HL.out _).mono ?_; rintro e w1 ⟨rfl, rfl⟩
        go_wp2_with fail
        go_roundg g
        case measure => omega
        case rel => exact ⟨rfl, i + 1, by omega, rfl, by unfold Hid; rw [← HN.out]; simp⟩
theorem longZ_at (s : ByteArray) (i : Nat) (h : i < s.size) : longZ ((bl s).drop i) = if letB (bt s i) false then longZ ((bl s).drop (i + 1)) + 1 else 0 := by
  rw [bl_drop s i h]; rfl
theorem longZ_end (s : ByteArray) : longZ ((bl s).drop s.size) = 0 := by
  rw [List.drop_of_length_le (by rw [bl_length]; exact Nat.le_refl _)]; rfl
theorem longZ_le : ∀ l : List Int, longZ l ≤ l.length
  | [] => Nat.le_refl _
  | c :: t => by have := longZ_le t; unfold longZ; split <;> simp <;> omega
theorem one_name (c : Int) (t : Bool) (ht : letB c false = t) (x : ByteArray) (hx : bl x = [95, c]) (w : World) :
    Calls Tryz.prog 25 #[.string x] w fun e w' => e = .returned (.bool t) ∧ w = w' := by
  have hsz : x.size = 2 := by rw [← bl_length, hx]; rfl
  exact name_any x (by omega) t (by rw [hx]; show (letB 95 true && (letB c false && true)) = t; rw [ht]; cases t <;> rfl) t (by rw [hsz]; simp) w
theorem one_bl (s : ByteArray) (i : Nat) (h : i < s.size) : bl ((⟨#[95]⟩ : ByteArray) ++ s.extract i (i + 1)) = [95, bt s i] := by
  rw [bl_append, bl_extract, bl_drop s i h, show i + 1 - i = 1 by omega]
  rfl
set_option maxRecDepth 100000 in
set_option maxHeartbeats 4000000 in
theorem long_any (s : ByteArray) (hs : s.size ≤ 281474976710656) (n : Nat) (hn : longZ (bl s) = n) (w : World) :
    Calls Tryz.prog 214 #[.string s] w fun e w' => e = .returned (.int .i64 n) ∧ w = w' := by
  have HN0 := Lib.hid hn
  clear hn
  go_enter Tryz.func214, Tryz.ntmps214
  go_wp2_with fail
  go_loopg [3] s.size (fun g s3 wx => wx = w ∧ ∃ i : Nat, i + g = s.size ∧ s3 = .int .i64 i ∧ Hid (i + longZ ((bl s).drop i) = n))
  case atStart => exact ⟨rfl, 0, by omega, rfl, by unfold Hid; rw [List.drop_zero, Nat.zero_add]; exact HN0.out⟩
  case round =>
    obtain ⟨rfl, i, hig, rfl, hrel⟩ := hrel
    cases gk with
    | zero =>
      obtain rfl : i = s.size := by omega
      have hn := Lib.hid (show s.size = n by have h := hrel.out; rw [longZ_end] at h; omega)
      have hnz : ¬ (s.size : Int) < (s.size : Int) := by omega
      clear hrel
      go_wp2_with fail
      go_ret
      exact ⟨by rw [← hn.out]; rfl, rfl⟩
    | succ g =>
      have hi : i < s.size := by omega
      have hiz : (i : Int) < (s.size : Int) := by omega
      have hw1 : IntKind.i64.wrap ((i : Int) + 1) = (i : Int) + 1 := wrap_small _ (by omega) (by omega)
      have hz1 : ((i : Int) + 1).toNat = i + 1 := by omega
      have h01 : (0 : Int) ≤ (i : Int) + 1 := by omega
      have h02 : (i : Int) ≤ (i : Int) + 1 := by omega
      have h15 : (i : Int) + 1 ≤ (s.size : Int) := by omega
      obtain ⟨t, ht⟩ : ∃ t, letB (bt s i) false = t := ⟨_, rfl⟩
      have HL := Lib.hid (one_name (bt s i) t ht)
      have HX := Lib.hid (one_bl s i hi)
      have HR : Hid (i + (if t then longZ ((bl s).drop (i + 1)) + 1 else 0) = n) := by
        have h := hrel.out
        rw [longZ_at s i hi, ht] at h
        exact h
      clear hrel ht
      cases t
      · have hn := Lib.hid (show i = n by have h := HR.out; simpa using h)
        go_wp2_with fail
        refine (HL.out _ HX.out _).mono ?_; rintro e w1 ⟨rfl, rfl⟩
        go_wp2_with fail
        go_ret
        exact ⟨by rw [← hn.out]; rfl, rfl⟩
      · go_wp2_with fail
        refine (HL.out _ HX.out _).mono ?_; rintro e w1 ⟨rfl, rfl⟩
        go_wp2_with fail
        go_roundg g
        case measure => omega
        case rel => exact ⟨rfl, i + 1, by omega, rfl, by unfold Hid; have h := HR.out; simp only [if_true] at h; omega⟩
end Go.Proofs.YtkmpbkhlcapbgaaGreatDoor
namespace Go.Proofs.YtkmpbkhlcapbgaaGreatDoor
open Go.RowKit
theorem letterU_eq (c : UInt8) : letterU c = letB (c.toNat : Int) true := by
  unfold letterU letB
  rw [Bool.eq_iff_iff]
  simp only [Bool.or_eq_true, Bool.and_eq_true, decide_eq_true_eq, beq_iff_eq, Bool.not_true, Bool.false_and, Bool.false_eq_true, or_false]
  omega
theorem wordU_eq (c : UInt8) : wordU c = letB (c.toNat : Int) false := by
  unfold wordU letterU letB
  rw [Bool.eq_iff_iff]
  simp only [Bool.or_eq_true, Bool.and_eq_true, decide_eq_true_eq, beq_iff_eq, Bool.not_false, true_and]
  omega
theorem longF_eq : ∀ l : List UInt8, longF l = longZ (l.map fun b => (b.toNat : Int))
  | [] => rfl
  | c :: t => by
    have ih := longF_eq t
    unfold longF at ih ⊢
    simp only [List.map_cons, longZ, ← wordU_eq]
    cases h : wordU c
    · rw [List.takeWhile_cons_of_neg (by simp [h])]; rfl
    · rw [List.takeWhile_cons_of_pos h, List.length_cons, ih]; simp
theorem nameAll_eq : ∀ l : List UInt8, nameAll (l.map fun b => (b.toNat : Int)) false = l.all wordU
  | [] => rfl
  | c :: t => by
    simp only [List.map_cons, nameAll, List.all_cons, ← wordU_eq, nameAll_eq t]
theorem isName_eq (l : List UInt8) : isName l = (decide (0 < l.length) && nameAll (l.map fun b => (b.toNat : Int)) true) := by
  cases l with
  | nil => rfl
  | cons c t =>
    unfold isName
    simp only [List.map_cons, nameAll, ← letterU_eq, nameAll_eq, List.length_cons]
    simp
theorem longF_le (l : List UInt8) : longF l ≤ l.length := by
  unfold longF
  exact (List.takeWhile_prefix _).length_le
theorem dropB_le (l : List UInt8) : (dropB l).length ≤ l.length := (List.dropWhile_suffix _).length_le
theorem passF_le (s l : List UInt8) : (passF s l).2.length ≤ l.length := by
  have := dropB_le l
  unfold passF
  split
  · simp only [List.length_drop]; omega
  · exact this
theorem nameF_le {l : List UInt8} {t : Tree} {r : List UInt8} (h : nameF l = some (t, r)) : r.length ≤ l.length := by
  unfold nameF at h
  split at h
  · simp only [Option.some.injEq, Prod.mk.injEq] at h
    rw [← h.2, List.length_drop]; omega
  · cases h
theorem oneF_le {l : List UInt8} {t : Tree} {r : List UInt8} (h : oneF l = some (t, r)) : r.length ≤ l.length := by
  have hd := dropB_le l
  unfold oneF at h
  split at h
  · rename_i u hu
    rw [hu] at hd
    split at h
    · rename_i a v hn
      have := nameF_le hn
      simp only [Option.some.injEq, Prod.mk.injEq] at h
      rw [← h.2]
      simp only [List.length_cons] at hd this
      omega
    · cases h
  · rename_i u _ hu
    rw [hu] at hd
    have := nameF_le h
    simp only [List.length_cons] at hd
    omega
  · split at h
    · simp only [Option.some.injEq, Prod.mk.injEq] at h
      rw [← h.2, List.length_drop]; omega
    · have := nameF_le h
      omega
theorem parse_le (f : Nat) : (∀ d l t r, anyF f d l = some (t, r) → r.length ≤ l.length) ∧ (∀ d i l t r, rowF f d i l = some (t, r) → r.length ≤ l.length) ∧
    (∀ d i a l t r, loopF f d i a l = some (t, r) → r.length ≤ l.length) ∧ (∀ d l t r, aheadF f d l = some (t, r) → r.length ≤ l.length) := by
  induction f with
  | zero => refine ⟨?_, ?_, ?_, ?_⟩ <;> intros <;> simp_all [anyF, rowF, loopF, aheadF]
  | succ f ih =>
    obtain ⟨iA, iR, iL, iH⟩ := ih
    refine ⟨?_, ?_, ?_, ?_⟩
    · intro d l t r h
      unfold anyF at h
      split at h
      · cases h
      · rename_i a l1 h1
        have e1 := iR _ _ _ _ _ h1
        have p1 := passF_le [63] l1
        split at h
        · rename_i l2 h2
          rw [h2] at p1
          simp only [Option.some.injEq, Prod.mk.injEq] at h
          rw [← h.2]; exact Nat.le_trans p1 e1
        · rename_i l2 h2
          rw [h2] at p1
          split at h
          · cases h
          · split at h
            · cases h
            · rename_i b l3 h3
              have e3 := iA _ _ _ _ h3
              have p3 := passF_le [58] l3
              split at h
              · cases h
              · rename_i l4 h4
                rw [h4] at p3
                split at h
                · cases h
                · rename_i c l5 h5
                  have e5 := iA _ _ _ _ h5
                  simp only [Option.some.injEq, Prod.mk.injEq] at h
                  rw [← h.2]
                  simp only at p1 p3
                  omega
    · intro d i l t r h
      unfold rowF at h
      split at h
      · exact iH _ _ _ _ h
      · split at h
        · cases h
        · rename_i a l1 h1
          exact Nat.le_trans (iL _ _ _ _ _ _ h) (iR _ _ _ _ _ h1)
    · intro d i a l t r h
      have hd := dropB_le l
      unfold loopF at h
      split at h
      · simp only [Option.some.injEq, Prod.mk.injEq] at h
        rw [← h.2]; exact hd
      · split at h
        · cases h
        · rename_i b l2 h2
          have e2 := iR _ _ _ _ _ h2
          have e3 := iL _ _ _ _ _ _ h
          rw [List.length_drop] at e2
          omega
    · intro d l t r h
      have hd := dropB_le l
      unfold aheadF at h
      split at h
      · split at h
        · cases h
        · split at h
          · cases h
          · rename_i a l1 h1
            have e1 := iH _ _ _ _ h1
            simp only [Option.some.injEq, Prod.mk.injEq] at h
            rw [← h.2]
            rw [List.length_drop] at e1
            omega
      · split at h
        · split at h
          · cases h
          · split at h
            · cases h
            · rename_i a l1 h1
              have e1 := iA _ _ _ _ h1
              have p1 := passF_le [41] l1
              rw [List.length_drop] at e1
              split at h
              · cases h
              · rename_i l2 h2
                rw [h2] at p1
                simp only [Option.some.injEq, Prod.mk.injEq] at h
                rw [← h.2]
                simp only at p1
                omega
        · exact oneF_le h
end Go.Proofs.YtkmpbkhlcapbgaaGreatDoor
namespace Go.Proofs.YtkmpbkhlcapbgaaGreatDoor
open Go Go.RowKit
theorem name_at (s : ByteArray) (b : Bool) (hs : s.size ≤ 281474976710656) (h : isName s.data.toList = b) (w : World) :
    Calls Tryz.prog 25 #[.string s] w fun e w' => e = .returned (.bool b) ∧ w = w' :=
  name_any s hs (nameAll (bl s) true) rfl b (by rw [← h, isName_eq]; congr 1) w
theorem has_at (g : Nat) (x : ByteArray) (v : Value) (s : ByteArray) (d : Nat) (b : Bool) (w : World) (hr : Wr g v s d w) (hb : x.data.toList.isPrefixOf s.data.toList = b) :
    Calls Tryz.prog 43 #[.pointer (some ⟨g, 0, none⟩), .string x] w fun e w' => e = .returned (.bool b) ∧ w = w' := by
  obtain ⟨r0, r1, r2, f0, f1, f2, lt0⟩ := three_facts hr.row
  have HH := Lib.hid (show Calls Tryz.prog 70 #[.string s, .string x] w fun e w' => e = .returned (.bool b) ∧ w' = w by
    have h := Tryz.strings_HasPrefix s x w
    have e : Lib.hasPrefix s.data.toList x.data.toList = b := hb
    rw [e] at h
    exact h)
  clear hr hb
  go_enter Tryz.func43, Tryz.ntmps43
  go_wp2_with fail
  refine HH.out.mono ?_; rintro e w1 ⟨rfl, rfl⟩
  go_wp2_with fail
  go_ret
  exact ⟨rfl, rfl⟩
theorem take_at (g : Nat) (n : Nat) (v : Value) (s : ByteArray) (d : Nat) (w : World) (hr : Wr g v s d w) (hn : n ≤ s.size) :
    Calls Tryz.prog 44 #[.pointer (some ⟨g, 0, none⟩), .int .i64 (n : Nat)] w fun e w' => e = .returned (.string (s.extract 0 n)) ∧ Wr g v (s.extract n s.size) d w' ∧ Kept g w w' := by
  obtain ⟨r0, r1, r2, f0, f1, f2, lt0⟩ := three_facts hr.row
  have h1 : ¬ ((s.size : Int) < (n : Int)) := by omega
  have h2 : (n : Int) ≤ (s.size : Int) := by omega
  have HR := Lib.hid hr
  clear hr
  go_enter Tryz.func44, Tryz.ntmps44
  go_wp2_with fail
  go_ret
  have k := (Kept.refl g w).set 1 (.string (s.extract n s.size))
  exact ⟨rfl, HR.out.next k (HR.out.row.set 1 _) (by rw [ByteArray.size_extract]; have := HR.out.size; omega), k⟩
theorem index_one (c : UInt8) : ∀ l : List UInt8, c ∈ l → Lib.index l [c] = ((l.takeWhile (· != c)).length : Int)
  | [], h => by cases h
  | b :: l, h => by
    unfold Lib.index
    by_cases hb : b = c
    · subst hb
      rw [if_pos (by simp [List.isPrefixOf])]
      simp
    · have hl : c ∈ l := by
        rcases List.mem_cons.1 h with e | e
        · exact absurd e.symm hb
        · exact e
      have ih := index_one c l hl
      rw [if_neg (by simp [List.isPrefixOf, Ne.symm hb]), ih]
      have h1 : (((l.takeWhile (· != c)).length : Int) == -1) = false := by rw [beq_eq_false_iff_ne]; omega
      have h2 : (b != c) = true := by simpa using hb
      rw [h1, List.takeWhile_cons, if_pos h2]
      simp
theorem drop_while (c : UInt8) : ∀ l : List UInt8, l.drop (l.takeWhile (· != c)).length = l.dropWhile (· != c)
  | [] => rfl
  | b :: l => by
    by_cases hb : (b != c) = true
    · rw [List.takeWhile_cons, if_pos hb, List.dropWhile_cons, if_pos hb, List.length_cons, List.drop_succ_cons]
      exact drop_while c l
    · rw [List.takeWhile_cons, if_neg hb, List.dropWhile_cons, if_neg hb]
      rfl
theorem cut_one (c : UInt8) (l : List UInt8) (h : c ∈ l) : Lib.cut l [c] = (l.takeWhile (· != c), (l.dropWhile (· != c)).tail, true) := by
  unfold Lib.cut
  rw [index_one c l h, if_pos (by omega)]
  have e : ((l.takeWhile (· != c)).length : Int).toNat = (l.takeWhile (· != c)).length := by omega
  rw [e]
  refine Prod.ext ?_ (Prod.ext ?_ rfl)
  · exact (List.prefix_iff_eq_take.1 (List.takeWhile_prefix _)).symm
  · show l.drop ((l.takeWhile (· != c)).length + 1) = _
    rw [← List.drop_drop, drop_while]
    simp
theorem upto_at (g : Nat) (c : UInt8) (v : Value) (s : ByteArray) (d : Nat) (out u : ByteArray) (w : World) (hr : Wr g v s d w) (hc : c ∈ s.data.toList) (ho : out.data.toList = s.data.toList.takeWhile (· != c)) (hu : u.data.toList = (s.data.toList.dropWhile (· != c)).tail) :
    Calls Tryz.prog 72 #[.pointer (some ⟨g, 0, none⟩), .string ⟨#[c]⟩] w fun e w' => e = .returned (.string out) ∧ Wr g v u d w' ∧ Kept g w w' := by
  obtain ⟨r0, r1, r2, f0, f1, f2, lt0⟩ := three_facts hr.row
  have hus : u.size ≤ 1000000000 := by
    have e1 : u.size = u.data.toList.length := by simp
    have e2 : s.size = s.data.toList.length := by simp
    have h3 := hr.size
    have h4 : ((s.data.toList.dropWhile (· != c)).tail).length ≤ s.data.toList.length := by
      rw [List.length_tail]
      have := (List.dropWhile_suffix (· != c) (l := s.data.toList)).length_le
      omega
    rw [e1, hu]; omega
  have HH := Lib.hid (show Calls Tryz.prog 100 #[.string s, .string ⟨#[c]⟩] w fun e w' => e = .returned (.tuple #[.string out, .string u, .bool true]) ∧ Below w.heap.size w w' by
    obtain ⟨m, hm⟩ := hr.tab.max
    have h := Tryz.strings_Cut s ⟨#[c]⟩ m w (by have := hr.size; omega) hm
    rw [show (⟨#[c]⟩ : ByteArray).data.toList = [c] from rfl, cut_one c _ hc] at h
    refine h.mono ?_
    rintro e w' ⟨rfl, n, rfl⟩
    refine ⟨?_, below_drewN (Below.refl _ _) n⟩
    rw [← Lib.mk_data out, ← Lib.mk_data u, ho, hu])
  have HR := Lib.hid hr
  have HUS := Lib.hid hus
  clear hr hc ho hu hus
  go_enter Tryz.func72, Tryz.ntmps72
  go_wp2_with fail
  refine HH.out.mono ?_; rintro e w1 ⟨rfl, b1⟩
  obtain ⟨r0, r1, r2, f0, f1, f2, lt0⟩ := three_facts (HR.out.row.below b1)
  go_wp2_with fail
  go_ret
  have k := (Kept.of (g := g) b1).set 1 (.string u)
  exact ⟨rfl, HR.out.next k ((HR.out.row.below b1).set 1 _) HUS.out, k⟩
end Go.Proofs.YtkmpbkhlcapbgaaGreatDoor
