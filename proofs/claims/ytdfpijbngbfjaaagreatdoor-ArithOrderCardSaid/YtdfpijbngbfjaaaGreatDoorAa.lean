/-
  DERIVED. The walks of lexer's letter and Name, and of arith's long: printed by gen_letter.py.
-/
import Derived.Test.YtdfpijbngbfjaaaGreatDoorAp
import Derived.Test.YtdfpijbngbfjaaaGreatDoorShelf
import Derived.Deep.LoopGhost
import Derived.Laws.Runes
namespace Go.Proofs.YtdfpijbngbfjaaaGreatDoor
open Go.RowKit
/-- Whether a byte is a letter, or _; or, not as the first one, a digit. -/
def letB (c : Int) (first : Bool) : Bool := decide (65 ≤ c ∧ c ≤ 90) || decide (97 ≤ c ∧ c ≤ 122) || c == 95 || (!first && decide (48 ≤ c ∧ c ≤ 57))
set_option maxRecDepth 100000 in
set_option maxHeartbeats 4000000 in
theorem letter_any (c : Int) (h0 : 0 ≤ c) (h1 : c ≤ 255) (first b : Bool) (hb : letB c first = b) (w : World) :
    Calls Tryz.prog 115 #[.int .u8 c, .bool first] w fun e w' => e = .returned (.bool b) ∧ w = w' := by
  have HB := Lib.hid hb
  clear hb
  rcases (show (0 ≤ c ∧ c ≤ 47) ∨ (48 ≤ c ∧ c ≤ 57) ∨ (58 ≤ c ∧ c ≤ 64) ∨ (65 ≤ c ∧ c ≤ 90) ∨ (91 ≤ c ∧ c ≤ 94) ∨ (95 ≤ c ∧ c ≤ 95) ∨ (96 ≤ c ∧ c ≤ 96) ∨ (97 ≤ c ∧ c ≤ 122) ∨ (123 ≤ c ∧ c ≤ 255) by omega) with ⟨l0, l1⟩ | ⟨l0, l1⟩ | ⟨l0, l1⟩ | ⟨l0, l1⟩ | ⟨l0, l1⟩ | ⟨l0, l1⟩ | ⟨l0, l1⟩ | ⟨l0, l1⟩ | ⟨l0, l1⟩
  · have e95 : (c == 95) = false := by simp; omega
    have q1 : ¬ (97 ≤ c) := by omega
    have q3 : ¬ (65 ≤ c) := by omega
    have q5 : ¬ (48 ≤ c) := by omega
    have q2 : c ≤ 122 := by omega
    have q4 : c ≤ 90 := by omega
    have q6 : c ≤ 57 := by omega
    cases first
    rotate_left
    · have HR : Hid (b = false) := by
        unfold Hid; rw [← HB.out]; unfold letB; simp [e95, q1, q2, q3, q4, q5, q6]
      clear HB
      go_enter Tryz.func115, Tryz.ntmps115
      go_wp2_with fail
      go_ret
      exact ⟨by rw [HR.out]; rfl, rfl⟩
    · have HR : Hid (b = false) := by
        unfold Hid; rw [← HB.out]; unfold letB; simp [e95, q1, q2, q3, q4, q5, q6]
      clear HB
      go_enter Tryz.func115, Tryz.ntmps115
      go_wp2_with fail
      go_ret
      exact ⟨by rw [HR.out]; rfl, rfl⟩
  · have e95 : (c == 95) = false := by simp; omega
    have q1 : ¬ (97 ≤ c) := by omega
    have q3 : ¬ (65 ≤ c) := by omega
    have q5 : 48 ≤ c := by omega
    have q2 : c ≤ 122 := by omega
    have q4 : c ≤ 90 := by omega
    have q6 : c ≤ 57 := by omega
    cases first
    rotate_left
    · have HR : Hid (b = false) := by
        unfold Hid; rw [← HB.out]; unfold letB; simp [e95, q1, q2, q3, q4, q5, q6]
      clear HB
      go_enter Tryz.func115, Tryz.ntmps115
      go_wp2_with fail
      go_ret
      exact ⟨by rw [HR.out]; rfl, rfl⟩
    · have HR : Hid (b = true) := by
        unfold Hid; rw [← HB.out]; unfold letB; simp [e95, q1, q2, q3, q4, q5, q6]
      clear HB
      go_enter Tryz.func115, Tryz.ntmps115
      go_wp2_with fail
      go_ret
      exact ⟨by rw [HR.out]; rfl, rfl⟩
  · have e95 : (c == 95) = false := by simp; omega
    have q1 : ¬ (97 ≤ c) := by omega
    have q3 : ¬ (65 ≤ c) := by omega
    have q5 : 48 ≤ c := by omega
    have q2 : c ≤ 122 := by omega
    have q4 : c ≤ 90 := by omega
    have q6 : ¬ (c ≤ 57) := by omega
    cases first
    rotate_left
    · have HR : Hid (b = false) := by
        unfold Hid; rw [← HB.out]; unfold letB; simp [e95, q1, q2, q3, q4, q5, q6]
      clear HB
      go_enter Tryz.func115, Tryz.ntmps115
      go_wp2_with fail
      go_ret
      exact ⟨by rw [HR.out]; rfl, rfl⟩
    · have HR : Hid (b = false) := by
        unfold Hid; rw [← HB.out]; unfold letB; simp [e95, q1, q2, q3, q4, q5, q6]
      clear HB
      go_enter Tryz.func115, Tryz.ntmps115
      go_wp2_with fail
      go_ret
      exact ⟨by rw [HR.out]; rfl, rfl⟩
  · have e95 : (c == 95) = false := by simp; omega
    have q1 : ¬ (97 ≤ c) := by omega
    have q3 : 65 ≤ c := by omega
    have q5 : 48 ≤ c := by omega
    have q2 : c ≤ 122 := by omega
    have q4 : c ≤ 90 := by omega
    have q6 : ¬ (c ≤ 57) := by omega
    cases first
    rotate_left
    · have HR : Hid (b = true) := by
        unfold Hid; rw [← HB.out]; unfold letB; simp [e95, q1, q2, q3, q4, q5, q6]
      clear HB
      go_enter Tryz.func115, Tryz.ntmps115
      go_wp2_with fail
      go_ret
      exact ⟨by rw [HR.out]; rfl, rfl⟩
    · have HR : Hid (b = true) := by
        unfold Hid; rw [← HB.out]; unfold letB; simp [e95, q1, q2, q3, q4, q5, q6]
      clear HB
      go_enter Tryz.func115, Tryz.ntmps115
      go_wp2_with fail
      go_ret
      exact ⟨by rw [HR.out]; rfl, rfl⟩
  · have e95 : (c == 95) = false := by simp; omega
    have q1 : ¬ (97 ≤ c) := by omega
    have q3 : 65 ≤ c := by omega
    have q5 : 48 ≤ c := by omega
    have q2 : c ≤ 122 := by omega
    have q4 : ¬ (c ≤ 90) := by omega
    have q6 : ¬ (c ≤ 57) := by omega
    cases first
    rotate_left
    · have HR : Hid (b = false) := by
        unfold Hid; rw [← HB.out]; unfold letB; simp [e95, q1, q2, q3, q4, q5, q6]
      clear HB
      go_enter Tryz.func115, Tryz.ntmps115
      go_wp2_with fail
      go_ret
      exact ⟨by rw [HR.out]; rfl, rfl⟩
    · have HR : Hid (b = false) := by
        unfold Hid; rw [← HB.out]; unfold letB; simp [e95, q1, q2, q3, q4, q5, q6]
      clear HB
      go_enter Tryz.func115, Tryz.ntmps115
      go_wp2_with fail
      go_ret
      exact ⟨by rw [HR.out]; rfl, rfl⟩
  · have e95 : (c == 95) = true := by simp; omega
    have q1 : ¬ (97 ≤ c) := by omega
    have q3 : 65 ≤ c := by omega
    have q5 : 48 ≤ c := by omega
    have q2 : c ≤ 122 := by omega
    have q4 : ¬ (c ≤ 90) := by omega
    have q6 : ¬ (c ≤ 57) := by omega
    cases first
    rotate_left
    · have HR : Hid (b = true) := by
        unfold Hid; rw [← HB.out]; unfold letB; simp [e95, q1, q2, q3, q4, q5, q6]
      clear HB
      go_enter Tryz.func115, Tryz.ntmps115
      go_wp2_with fail
      go_ret
      exact ⟨by rw [HR.out]; rfl, rfl⟩
    · have HR : Hid (b = true) := by
        unfold Hid; rw [← HB.out]; unfold letB; simp [e95, q1, q2, q3, q4, q5, q6]
      clear HB
      go_enter Tryz.func115, Tryz.ntmps115
      go_wp2_with fail
      go_ret
      exact ⟨by rw [HR.out]; rfl, rfl⟩
  · have e95 : (c == 95) = false := by simp; omega
    have q1 : ¬ (97 ≤ c) := by omega
    have q3 : 65 ≤ c := by omega
    have q5 : 48 ≤ c := by omega
    have q2 : c ≤ 122 := by omega
    have q4 : ¬ (c ≤ 90) := by omega
    have q6 : ¬ (c ≤ 57) := by omega
    cases first
    rotate_left
    · have HR : Hid (b = false) := by
        unfold Hid; rw [← HB.out]; unfold letB; simp [e95, q1, q2, q3, q4, q5, q6]
      clear HB
      go_enter Tryz.func115, Tryz.ntmps115
      go_wp2_with fail
      go_ret
      exact ⟨by rw [HR.out]; rfl, rfl⟩
    · have HR : Hid (b = false) := by
        unfold Hid; rw [← HB.out]; unfold letB; simp [e95, q1, q2, q3, q4, q5, q6]
      clear HB
      go_enter Tryz.func115, Tryz.ntmps115
      go_wp2_with fail
      go_ret
      exact ⟨by rw [HR.out]; rfl, rfl⟩
  · have e95 : (c == 95) = false := by simp; omega
    have q1 : 97 ≤ c := by omega
    have q3 : 65 ≤ c := by omega
    have q5 : 48 ≤ c := by omega
    have q2 : c ≤ 122 := by omega
    have q4 : ¬ (c ≤ 90) := by omega
    have q6 : ¬ (c ≤ 57) := by omega
    cases first
    rotate_left
    · have HR : Hid (b = true) := by
        unfold Hid; rw [← HB.out]; unfold letB; simp [e95, q1, q2, q3, q4, q5, q6]
      clear HB
      go_enter Tryz.func115, Tryz.ntmps115
      go_wp2_with fail
      go_ret
      exact ⟨by rw [HR.out]; rfl, rfl⟩
    · have HR : Hid (b = true) := by
        unfold Hid; rw [← HB.out]; unfold letB; simp [e95, q1, q2, q3, q4, q5, q6]
      clear HB
      go_enter Tryz.func115, Tryz.ntmps115
      go_wp2_with fail
      go_ret
      exact ⟨by rw [HR.out]; rfl, rfl⟩
  · have e95 : (c == 95) = false := by simp; omega
    have q1 : 97 ≤ c := by omega
    have q3 : 65 ≤ c := by omega
    have q5 : 48 ≤ c := by omega
    have q2 : ¬ (c ≤ 122) := by omega
    have q4 : ¬ (c ≤ 90) := by omega
    have q6 : ¬ (c ≤ 57) := by omega
    cases first
    rotate_left
    · have HR : Hid (b = false) := by
        unfold Hid; rw [← HB.out]; unfold letB; simp [e95, q1, q2, q3, q4, q5, q6]
      clear HB
      go_enter Tryz.func115, Tryz.ntmps115
      go_wp2_with fail
      go_ret
      exact ⟨by rw [HR.out]; rfl, rfl⟩
    · have HR : Hid (b = false) := by
        unfold Hid; rw [← HB.out]; unfold letB; simp [e95, q1, q2, q3, q4, q5, q6]
      clear HB
      go_enter Tryz.func115, Tryz.ntmps115
      go_wp2_with fail
      go_ret
      exact ⟨by rw [HR.out]; rfl, rfl⟩
/-- Whether all of a text's bytes may stand in a name. -/
def nameAll : List Int → Bool → Bool
  | [], _ => true
  | c :: t, first => letB c first && nameAll t false
/-- How many bytes from the beginning on may stand in a name. -/
def longZ : List Int → Nat
  | [] => 0
  | c :: t => if letB c false then longZ t + 1 else 0
theorem nameAll_at (s : ByteArray) (i : Nat) (h : i < s.size) (first : Bool) : nameAll ((bl s).drop i) first = (letB (bt s i) first && nameAll ((bl s).drop (i + 1)) false) := by
  rw [bl_drop s i h]; rfl
theorem nameAll_end (s : ByteArray) (first : Bool) : nameAll ((bl s).drop s.size) first = true := by
  rw [List.drop_of_length_le (by rw [bl_length]; exact Nat.le_refl _)]; rfl
set_option maxRecDepth 100000 in
set_option maxHeartbeats 4000000 in
theorem name_any (s : ByteArray) (hs : s.size ≤ 281474976710656) (R : Bool) (hR : nameAll (bl s) true = R) (b : Bool) (hb : (decide (0 < s.size) && R) = b) (w : World) :
    Calls Tryz.prog 108 #[.string s] w fun e w' => e = .returned (.bool b) ∧ w = w' := by
  have HB := Lib.hid hb
  have HR0 := Lib.hid hR
  have hgs := get_bt s
  have hem := empty_iff s
  clear hb hR
  go_enter Tryz.func108, Tryz.ntmps108
  go_wp2_with fail
  go_loopg [3, 6] s.size (fun g s3 s6 wx => wx = w ∧ ∃ i : Nat, i + g = s.size ∧ s6 = .int .i64 i ∧ Hid (nameAll ((bl s).drop i) (decide (i = 0)) = R))
  case atStart => exact ⟨rfl, 0, by omega, rfl, by unfold Hid; rw [List.drop_zero, ← HR0.out]; rfl⟩
  case round =>
    obtain ⟨rfl, i, hig, rfl, hrel⟩ := hrel
    cases gk with
    | zero =>
      obtain rfl : i = s.size := by omega
      have HF : Hid (decide (0 < s.size) = b) := by
        have h := hrel.out
        rw [nameAll_end] at h
        unfold Hid; rw [← HB.out, ← h, Bool.and_true]
      obtain ⟨t, ht⟩ : ∃ t, decide (0 < s.size) = t := ⟨_, rfl⟩
      rw [ht] at hem HF
      clear hrel HB ht
      cases t
      · go_wp2_with fail
        go_ret
        exact ⟨by rw [← HF.out]; rfl, rfl⟩
      · go_wp2_with fail
        go_ret
        exact ⟨by rw [← HF.out]; rfl, rfl⟩
    | succ g =>
      have hi : i < s.size := by omega
      obtain ⟨f, hf⟩ : ∃ f, decide (i = 0) = f := ⟨_, rfl⟩
      have q0 : ((i : Int) == 0) = f := by rw [← hf]; by_cases e : i = 0 <;> simp [e]
      obtain ⟨t, ht⟩ : ∃ t, letB (bt s i) f = t := ⟨_, rfl⟩
      have HL := Lib.hid (letter_any (bt s i) (bt_nonneg s i) (bt_le s i) f t ht)
      have HN : Hid ((t && nameAll ((bl s).drop (i + 1)) false) = R) := by
        have h := hrel.out
        rw [nameAll_at s i hi, hf, ht] at h
        exact h
      clear hrel hf ht
      cases t
      · go_wp2_with fail
        refine (HL.out _).mono ?_; rintro e w1 ⟨rfl, rfl⟩
        go_wp2_with fail
        go_ret
        have hbf : b = false := by rw [← HB.out, ← HN.out]; simp
        exact ⟨by rw [hbf]; rfl, rfl⟩
      · go_wp2_with fail
        refine (HL.out _).mono ?_; rintro e w1 ⟨rfl, rfl⟩
        go_wp2_with fail
        go_roundg g
        case measure => omega
        case rel => exact ⟨rfl, i + 1, by omega, rfl, by unfold Hid; rw [← HN.out]; simp⟩
theorem longZ_at (s : ByteArray) (i : Nat) (h : i < s.size) : longZ ((bl s).drop i) = if letB (bt s i) false then longZ ((bl s).drop (i + 1)) + 1 else 0 := by
  rw [bl_drop s i h]; rfl
theorem longZ_end (s : ByteArray) : longZ ((bl s).drop s.size) = 0 := by
  rw [List.drop_of_length_le (by rw [bl_length]; exact Nat.le_refl _)]; rfl
theorem longZ_le : ∀ l : List Int, longZ l ≤ l.length
  | [] => Nat.le_refl _
  | c :: t => by have := longZ_le t; unfold longZ; split <;> simp <;> omega
theorem one_name (c : Int) (t : Bool) (ht : letB c false = t) (x : ByteArray) (hx : bl x = [95, c]) (w : World) :
    Calls Tryz.prog 108 #[.string x] w fun e w' => e = .returned (.bool t) ∧ w = w' := by
  have hsz : x.size = 2 := by rw [← bl_length, hx]; rfl
  exact name_any x (by omega) t (by rw [hx]; show (letB 95 true && (letB c false && true)) = t; rw [ht]; cases t <;> rfl) t (by rw [hsz]; simp) w
theorem one_bl (s : ByteArray) (i : Nat) (h : i < s.size) : bl ((⟨#[95]⟩ : ByteArray) ++ s.extract i (i + 1)) = [95, bt s i] := by
  rw [bl_append, bl_extract, bl_drop s i h, show i + 1 - i = 1 by omega]
  rfl
set_option maxRecDepth 100000 in
set_option maxHeartbeats 4000000 in
theorem long_any (s : ByteArray) (hs : s.size ≤ 281474976710656) (n : Nat) (hn : longZ (bl s) = n) (w : World) :
    Calls Tryz.prog 92 #[.string s] w fun e w' => e = .returned (.int .i64 n) ∧ w = w' := by
  have HN0 := Lib.hid hn
  clear hn
  go_enter Tryz.func92, Tryz.ntmps92
  go_wp2_with fail
  go_loopg [3] s.size (fun g s3 wx => wx = w ∧ ∃ i : Nat, i + g = s.size ∧ s3 = .int .i64 i ∧ Hid (i + longZ ((bl s).drop i) = n))
  case atStart => exact ⟨rfl, 0, by omega, rfl, by unfold Hid; rw [List.drop_zero, Nat.zero_add]; exact HN0.out⟩
  case round =>
    obtain ⟨rfl, i, hig, rfl, hrel⟩ := hrel
    cases gk with
    | zero =>
      obtain rfl : i = s.size := by omega
      have hn := Lib.hid (show s.size = n by have h := hrel.out; rw [longZ_end] at h; omega)
      have hnz : ¬ (s.size : Int) < (s.size : Int) := by omega
      clear hrel
      go_wp2_with fail
      go_ret
      exact ⟨by rw [← hn.out]; rfl, rfl⟩
    | succ g =>
      have hi : i < s.size := by omega
      have hiz : (i : Int) < (s.size : Int) := by omega
      have hw1 : IntKind.i64.wrap ((i : Int) + 1) = (i : Int) + 1 := wrap_small _ (by omega) (by omega)
      have hz1 : ((i : Int) + 1).toNat = i + 1 := by omega
      have h01 : (0 : Int) ≤ (i : Int) + 1 := by omega
      have h02 : (i : Int) ≤ (i : Int) + 1 := by omega
      have h15 : (i : Int) + 1 ≤ (s.size : Int) := by omega
      obtain ⟨t, ht⟩ : ∃ t, letB (bt s i) false = t := ⟨_, rfl⟩
      have HL := Lib.hid (one_name (bt s i) t ht)
      have HX := Lib.hid (one_bl s i hi)
      have HR : Hid (i + (if t then longZ ((bl s).drop (i + 1)) + 1 else 0) = n) := by
        have h := hrel.out
        rw [longZ_at s i hi, ht] at h
        exact h
      clear hrel ht
      cases t
      · have hn := Lib.hid (show i = n by have h := HR.out; simpa using h)
        go_wp2_with fail
        refine (HL.out _ HX.out _).mono ?_; rintro e w1 ⟨rfl, rfl⟩
        go_wp2_with fail
        go_ret
        exact ⟨by rw [← hn.out]; rfl, rfl⟩
      · go_wp2_with fail
        refine (HL.out _ HX.out _).mono ?_; rintro e w1 ⟨rfl, rfl⟩
        go_wp2_with fail
        go_roundg g
        case measure => omega
        case rel => exact ⟨rfl, i + 1, by omega, rfl, by unfold Hid; have h := HR.out; simp only [if_true] at h; omega⟩
end Go.Proofs.YtdfpijbngbfjaaaGreatDoor
