/-
  DERIVED. The walk of the document's Digits.
-/
import Derived.Test.YtkmpbkhlcapbgaaGreatDoorZ47
namespace Go.Proofs.YtkmpbkhlcapbgaaGreatDoor
open Go.RowKit
/-- What a text's number comes to as two results. -/
def numV (o : Option Int) : Value := .tuple #[.int .i64 (o.getD 0), .bool o.isSome]
def DigRel (s : ByteArray) (B : Int) (R : Option Int) (w : World) (g : Nat) (n k : Value) (wr : World) : Prop :=
  ∃ (i : Nat) (x : Int), k = .int .i64 i ∧ i ≤ s.size ∧ n = .int .i64 x ∧ 0 ≤ x ∧ x ≤ maxI ∧ Hid (digGo B ((bl s).drop i) x = R) ∧ w = wr ∧ i + g = s.size
theorem dig_no {s : ByteArray} {B x d : Int} {i : Nat} {R : Option Int} (hi : i < s.size) (h : digGo B ((bl s).drop i) x = R) (hd : digitV (bt s i) = d) (hn : B ≤ d ∨ (maxI - d) / B < x) : R = none := by
  rw [bl_drop s i hi] at h
  simp only [digGo, hd, if_pos hn] at h
  exact h.symm
theorem dig_on {s : ByteArray} {B x d : Int} {i : Nat} {R : Option Int} (hi : i < s.size) (h : digGo B ((bl s).drop i) x = R) (hd : digitV (bt s i) = d) (hn : ¬ (B ≤ d ∨ (maxI - d) / B < x)) : digGo B ((bl s).drop (i + 1)) (x * B + d) = R := by
  rw [bl_drop s i hi] at h
  simp only [digGo, hd, if_neg hn] at h
  exact h
set_option maxRecDepth 100000 in
set_option maxHeartbeats 8000000 in
theorem rdig_A (s : ByteArray) (hs : s.size ≤ 9223372036854775800) (h1 : 2 < s.size) (b0 : bt s 0 = 48) (b1 : bt s 1 = 120) (w : World) :
    Calls Tryz.prog 33 #[.string s] w fun e w' => e = .returned (numV (digitsF s)) ∧ w = w' := by
  have hgt := get_bt s
  have hbf : baseF s = (16, 2) := by unfold baseF; rw [if_pos ⟨h1, b0, .inl b1⟩]
  have HR : Hid (digitsF s = digGo 16 ((bl s).drop 2) 0) := by unfold Hid digitsF; rw [if_neg (by omega), hbf]
  have hpos : 0 < s.size := by omega
  have hem : s.toList.isEmpty = false := by rw [empty_iff]; simp [hpos]
  obtain ⟨R, hR⟩ : ∃ R, digitsF s = R := ⟨_, rfl⟩
  rw [hR]; rw [hR] at HR
  clear hR hbf
  have c0 : (bt s 0 == 48) = true := by simp [b0]
  clear b0
  have c1 : (bt s 1 == 120) = true := by simp [b1]
  clear b1
  have i1 : (2 : Int) < (s.size : Int) := by omega
  have i2 : (1 : Int) < (s.size : Int) := by omega
  have hst : Hid (DigRel s 16 R w (s.size - 2) (.int .i64 0) (.int .i64 2) w) := ⟨2, 0, rfl, by omega, rfl, by omega, by rw [maxI_eq]; omega, HR.out.symm, rfl, by omega⟩
  go_enter Tryz.func33, Tryz.ntmps33
  go_wp2_with fail
  clear i1 c0 c1 i2
  go_loopg [6, 7, 8] (s.size - 2) (fun g n k _ wr => DigRel s 16 R w g n k wr)
  case atStart => exact hst.out
  case round =>
    clear hst HR
    obtain ⟨i, x, rfl, hi, rfl, hx0, hx1, HD, rfl, hg⟩ := hrel
    have HG := Lib.hid hg; clear hg
    have HX1 := Lib.hid hx1; clear hx1
    by_cases hl : i < s.size
    · obtain ⟨d, hd⟩ : ∃ d, digitV (bt s i) = d := ⟨_, rfl⟩
      have hdr := digitV_range (bt s i)
      rw [hd] at hdr
      obtain ⟨hd0, hd1⟩ := hdr
      have HC := Lib.hid (rdigit_at (bt s i) d (bt_nonneg s i) (bt_le s i) hd)
      have HDD := Lib.hid hd; clear hd
      by_cases h1 : 16 ≤ d
      · have HN := Lib.hid (dig_no hl HD.out HDD.out (.inl h1))
        go_wp2_with fail
        refine (HC.out _).mono ?_; rintro e w2 ⟨rfl, rfl⟩
        go_wp2_with fail
        go_ret2
        exact ⟨by rw [HN.out]; rfl, rfl⟩
      · by_cases h2 : (9223372036854775807 - d) / 16 < x
        · have HN := Lib.hid (dig_no hl HD.out HDD.out (.inr (by rw [maxI_eq]; exact h2)))
          go_wp2_with fail
          refine (HC.out _).mono ?_; rintro e w2 ⟨rfl, rfl⟩
          go_wp2_with fail
          go_ret2
          exact ⟨by rw [HN.out]; rfl, rfl⟩
        · have HN := Lib.hid (dig_on hl HD.out HDD.out (by rw [maxI_eq]; rintro (h | h); exact h1 h; exact h2 h))
          have hb1 : x * 16 + d ≤ 9223372036854775807 := by omega
          go_wp2_with fail
          refine (HC.out _).mono ?_; rintro e w2 ⟨rfl, rfl⟩
          go_wp2_with fail
          go_roundg (s.size - (i + 1))
          case measure => have := HG.out; omega
          case rel => exact ⟨i + 1, x * 16 + d, by go_num, by omega, rfl, by omega, by rw [maxI_eq]; exact hb1, HN.out, rfl, by omega⟩
    · obtain rfl : i = s.size := by omega
      have HN : Hid (R = some x) := by have h := HD.out; rw [List.drop_of_length_le (by rw [bl_length]; exact Nat.le_refl _)] at h; exact h.symm
      go_wp2_with fail
      go_ret2
      exact ⟨by rw [HN.out]; rfl, rfl⟩
set_option maxRecDepth 100000 in
set_option maxHeartbeats 8000000 in
theorem rdig_B (s : ByteArray) (hs : s.size ≤ 9223372036854775800) (h1 : 2 < s.size) (b0 : bt s 0 = 48) (b1 : bt s 1 ≠ 120) (b2 : bt s 1 = 88) (w : World) :
    Calls Tryz.prog 33 #[.string s] w fun e w' => e = .returned (numV (digitsF s)) ∧ w = w' := by
  have hgt := get_bt s
  have hbf : baseF s = (16, 2) := by unfold baseF; rw [if_pos ⟨h1, b0, .inr b2⟩]
  have HR : Hid (digitsF s = digGo 16 ((bl s).drop 2) 0) := by unfold Hid digitsF; rw [if_neg (by omega), hbf]
  have hpos : 0 < s.size := by omega
  have hem : s.toList.isEmpty = false := by rw [empty_iff]; simp [hpos]
  obtain ⟨R, hR⟩ : ∃ R, digitsF s = R := ⟨_, rfl⟩
  rw [hR]; rw [hR] at HR
  clear hR hbf
  have c0 : (bt s 0 == 48) = true := by simp [b0]
  clear b0
  have c1 : (bt s 1 == 120) = false := by simp [b1]
  have c2 : (bt s 1 == 88) = true := by simp [b2]
  clear b1 b2
  have i1 : (2 : Int) < (s.size : Int) := by omega
  have i2 : (1 : Int) < (s.size : Int) := by omega
  have hst : Hid (DigRel s 16 R w (s.size - 2) (.int .i64 0) (.int .i64 2) w) := ⟨2, 0, rfl, by omega, rfl, by omega, by rw [maxI_eq]; omega, HR.out.symm, rfl, by omega⟩
  go_enter Tryz.func33, Tryz.ntmps33
  go_wp2_with fail
  clear i1 c0 c1 c2 i2
  go_loopg [6, 7, 8] (s.size - 2) (fun g n k _ wr => DigRel s 16 R w g n k wr)
  case atStart => exact hst.out
  case round =>
    clear hst HR
    obtain ⟨i, x, rfl, hi, rfl, hx0, hx1, HD, rfl, hg⟩ := hrel
    have HG := Lib.hid hg; clear hg
    have HX1 := Lib.hid hx1; clear hx1
    by_cases hl : i < s.size
    · obtain ⟨d, hd⟩ : ∃ d, digitV (bt s i) = d := ⟨_, rfl⟩
      have hdr := digitV_range (bt s i)
      rw [hd] at hdr
      obtain ⟨hd0, hd1⟩ := hdr
      have HC := Lib.hid (rdigit_at (bt s i) d (bt_nonneg s i) (bt_le s i) hd)
      have HDD := Lib.hid hd; clear hd
      by_cases h1 : 16 ≤ d
      · have HN := Lib.hid (dig_no hl HD.out HDD.out (.inl h1))
        go_wp2_with fail
        refine (HC.out _).mono ?_; rintro e w2 ⟨rfl, rfl⟩
        go_wp2_with fail
        go_ret2
        exact ⟨by rw [HN.out]; rfl, rfl⟩
      · by_cases h2 : (9223372036854775807 - d) / 16 < x
        · have HN := Lib.hid (dig_no hl HD.out HDD.out (.inr (by rw [maxI_eq]; exact h2)))
          go_wp2_with fail
          refine (HC.out _).mono ?_; rintro e w2 ⟨rfl, rfl⟩
          go_wp2_with fail
          go_ret2
          exact ⟨by rw [HN.out]; rfl, rfl⟩
        · have HN := Lib.hid (dig_on hl HD.out HDD.out (by rw [maxI_eq]; rintro (h | h); exact h1 h; exact h2 h))
          have hb1 : x * 16 + d ≤ 9223372036854775807 := by omega
          go_wp2_with fail
          refine (HC.out _).mono ?_; rintro e w2 ⟨rfl, rfl⟩
          go_wp2_with fail
          go_roundg (s.size - (i + 1))
          case measure => have := HG.out; omega
          case rel => exact ⟨i + 1, x * 16 + d, by go_num, by omega, rfl, by omega, by rw [maxI_eq]; exact hb1, HN.out, rfl, by omega⟩
    · obtain rfl : i = s.size := by omega
      have HN : Hid (R = some x) := by have h := HD.out; rw [List.drop_of_length_le (by rw [bl_length]; exact Nat.le_refl _)] at h; exact h.symm
      go_wp2_with fail
      go_ret2
      exact ⟨by rw [HN.out]; rfl, rfl⟩
set_option maxRecDepth 100000 in
set_option maxHeartbeats 8000000 in
theorem rdig_C (s : ByteArray) (hs : s.size ≤ 9223372036854775800) (h1 : 2 < s.size) (b0 : bt s 0 = 48) (b1 : bt s 1 ≠ 120) (b2 : bt s 1 ≠ 88) (w : World) :
    Calls Tryz.prog 33 #[.string s] w fun e w' => e = .returned (numV (digitsF s)) ∧ w = w' := by
  have hgt := get_bt s
  have hbf : baseF s = (8, 1) := by unfold baseF; rw [if_neg (fun h => h.2.2.elim b1 b2), if_pos ⟨(by omega : 1 < s.size), b0⟩]
  have HR : Hid (digitsF s = digGo 8 ((bl s).drop 1) 0) := by unfold Hid digitsF; rw [if_neg (by omega), hbf]
  have hpos : 0 < s.size := by omega
  have hem : s.toList.isEmpty = false := by rw [empty_iff]; simp [hpos]
  obtain ⟨R, hR⟩ : ∃ R, digitsF s = R := ⟨_, rfl⟩
  rw [hR]; rw [hR] at HR
  clear hR hbf
  have c0 : (bt s 0 == 48) = true := by simp [b0]
  clear b0
  have c1 : (bt s 1 == 120) = false := by simp [b1]
  have c2 : (bt s 1 == 88) = false := by simp [b2]
  clear b1 b2
  have i1 : (2 : Int) < (s.size : Int) := by omega
  have i2 : (1 : Int) < (s.size : Int) := by omega
  have hst : Hid (DigRel s 8 R w (s.size - 1) (.int .i64 0) (.int .i64 1) w) := ⟨1, 0, rfl, by omega, rfl, by omega, by rw [maxI_eq]; omega, HR.out.symm, rfl, by omega⟩
  go_enter Tryz.func33, Tryz.ntmps33
  go_wp2_with fail
  clear i1 c0 c1 c2 i2
  go_loopg [6, 7, 8] (s.size - 1) (fun g n k _ wr => DigRel s 8 R w g n k wr)
  case atStart => exact hst.out
  case round =>
    clear hst HR
    obtain ⟨i, x, rfl, hi, rfl, hx0, hx1, HD, rfl, hg⟩ := hrel
    have HG := Lib.hid hg; clear hg
    have HX1 := Lib.hid hx1; clear hx1
    by_cases hl : i < s.size
    · obtain ⟨d, hd⟩ : ∃ d, digitV (bt s i) = d := ⟨_, rfl⟩
      have hdr := digitV_range (bt s i)
      rw [hd] at hdr
      obtain ⟨hd0, hd1⟩ := hdr
      have HC := Lib.hid (rdigit_at (bt s i) d (bt_nonneg s i) (bt_le s i) hd)
      have HDD := Lib.hid hd; clear hd
      by_cases h1 : 8 ≤ d
      · have HN := Lib.hid (dig_no hl HD.out HDD.out (.inl h1))
        go_wp2_with fail
        refine (HC.out _).mono ?_; rintro e w2 ⟨rfl, rfl⟩
        go_wp2_with fail
        go_ret2
        exact ⟨by rw [HN.out]; rfl, rfl⟩
      · by_cases h2 : (9223372036854775807 - d) / 8 < x
        · have HN := Lib.hid (dig_no hl HD.out HDD.out (.inr (by rw [maxI_eq]; exact h2)))
          go_wp2_with fail
          refine (HC.out _).mono ?_; rintro e w2 ⟨rfl, rfl⟩
          go_wp2_with fail
          go_ret2
          exact ⟨by rw [HN.out]; rfl, rfl⟩
        · have HN := Lib.hid (dig_on hl HD.out HDD.out (by rw [maxI_eq]; rintro (h | h); exact h1 h; exact h2 h))
          have hb1 : x * 8 + d ≤ 9223372036854775807 := by omega
          go_wp2_with fail
          refine (HC.out _).mono ?_; rintro e w2 ⟨rfl, rfl⟩
          go_wp2_with fail
          go_roundg (s.size - (i + 1))
          case measure => have := HG.out; omega
          case rel => exact ⟨i + 1, x * 8 + d, by go_num, by omega, rfl, by omega, by rw [maxI_eq]; exact hb1, HN.out, rfl, by omega⟩
    · obtain rfl : i = s.size := by omega
      have HN : Hid (R = some x) := by have h := HD.out; rw [List.drop_of_length_le (by rw [bl_length]; exact Nat.le_refl _)] at h; exact h.symm
      go_wp2_with fail
      go_ret2
      exact ⟨by rw [HN.out]; rfl, rfl⟩
set_option maxRecDepth 100000 in
set_option maxHeartbeats 8000000 in
theorem rdig_D (s : ByteArray) (hs : s.size ≤ 9223372036854775800) (h1 : ¬ 2 < s.size) (h2 : 1 < s.size) (b0 : bt s 0 = 48) (w : World) :
    Calls Tryz.prog 33 #[.string s] w fun e w' => e = .returned (numV (digitsF s)) ∧ w = w' := by
  have hgt := get_bt s
  have hbf : baseF s = (8, 1) := by unfold baseF; rw [if_neg (fun h => h1 h.1), if_pos ⟨h2, b0⟩]
  have HR : Hid (digitsF s = digGo 8 ((bl s).drop 1) 0) := by unfold Hid digitsF; rw [if_neg (by omega), hbf]
  have hpos : 0 < s.size := by omega
  have hem : s.toList.isEmpty = false := by rw [empty_iff]; simp [hpos]
  obtain ⟨R, hR⟩ : ∃ R, digitsF s = R := ⟨_, rfl⟩
  rw [hR]; rw [hR] at HR
  clear hR hbf
  have c0 : (bt s 0 == 48) = true := by simp [b0]
  clear b0
  have i1 : ¬ (2 : Int) < (s.size : Int) := by omega
  have i2 : (1 : Int) < (s.size : Int) := by omega
  have hst : Hid (DigRel s 8 R w (s.size - 1) (.int .i64 0) (.int .i64 1) w) := ⟨1, 0, rfl, by omega, rfl, by omega, by rw [maxI_eq]; omega, HR.out.symm, rfl, by omega⟩
  go_enter Tryz.func33, Tryz.ntmps33
  go_wp2_with fail
  clear i1 c0 i2
  go_loopg [6, 7, 8] (s.size - 1) (fun g n k _ wr => DigRel s 8 R w g n k wr)
  case atStart => exact hst.out
  case round =>
    clear hst HR
    obtain ⟨i, x, rfl, hi, rfl, hx0, hx1, HD, rfl, hg⟩ := hrel
    have HG := Lib.hid hg; clear hg
    have HX1 := Lib.hid hx1; clear hx1
    by_cases hl : i < s.size
    · obtain ⟨d, hd⟩ : ∃ d, digitV (bt s i) = d := ⟨_, rfl⟩
      have hdr := digitV_range (bt s i)
      rw [hd] at hdr
      obtain ⟨hd0, hd1⟩ := hdr
      have HC := Lib.hid (rdigit_at (bt s i) d (bt_nonneg s i) (bt_le s i) hd)
      have HDD := Lib.hid hd; clear hd
      by_cases h1 : 8 ≤ d
      · have HN := Lib.hid (dig_no hl HD.out HDD.out (.inl h1))
        go_wp2_with fail
        refine (HC.out _).mono ?_; rintro e w2 ⟨rfl, rfl⟩
        go_wp2_with fail
        go_ret2
        exact ⟨by rw [HN.out]; rfl, rfl⟩
      · by_cases h2 : (9223372036854775807 - d) / 8 < x
        · have HN := Lib.hid (dig_no hl HD.out HDD.out (.inr (by rw [maxI_eq]; exact h2)))
          go_wp2_with fail
          refine (HC.out _).mono ?_; rintro e w2 ⟨rfl, rfl⟩
          go_wp2_with fail
          go_ret2
          exact ⟨by rw [HN.out]; rfl, rfl⟩
        · have HN := Lib.hid (dig_on hl HD.out HDD.out (by rw [maxI_eq]; rintro (h | h); exact h1 h; exact h2 h))
          have hb1 : x * 8 + d ≤ 9223372036854775807 := by omega
          go_wp2_with fail
          refine (HC.out _).mono ?_; rintro e w2 ⟨rfl, rfl⟩
          go_wp2_with fail
          go_roundg (s.size - (i + 1))
          case measure => have := HG.out; omega
          case rel => exact ⟨i + 1, x * 8 + d, by go_num, by omega, rfl, by omega, by rw [maxI_eq]; exact hb1, HN.out, rfl, by omega⟩
    · obtain rfl : i = s.size := by omega
      have HN : Hid (R = some x) := by have h := HD.out; rw [List.drop_of_length_le (by rw [bl_length]; exact Nat.le_refl _)] at h; exact h.symm
      go_wp2_with fail
      go_ret2
      exact ⟨by rw [HN.out]; rfl, rfl⟩
set_option maxRecDepth 100000 in
set_option maxHeartbeats 8000000 in
theorem rdig_E (s : ByteArray) (hs : s.size ≤ 9223372036854775800) (h1 : 2 < s.size) (b0 : bt s 0 ≠ 48) (w : World) :
    Calls Tryz.prog 33 #[.string s] w fun e w' => e = .returned (numV (digitsF s)) ∧ w = w' := by
  have hgt := get_bt s
  have hbf : baseF s = (10, 0) := by unfold baseF; rw [if_neg (fun h => b0 h.2.1), if_neg (fun h => b0 h.2)]
  have HR : Hid (digitsF s = digGo 10 ((bl s).drop 0) 0) := by unfold Hid digitsF; rw [if_neg (by omega), hbf]
  have hpos : 0 < s.size := by omega
  have hem : s.toList.isEmpty = false := by rw [empty_iff]; simp [hpos]
  obtain ⟨R, hR⟩ : ∃ R, digitsF s = R := ⟨_, rfl⟩
  rw [hR]; rw [hR] at HR
  clear hR hbf
  have c0 : (bt s 0 == 48) = false := by simp [b0]
  clear b0
  have i1 : (2 : Int) < (s.size : Int) := by omega
  have i2 : (1 : Int) < (s.size : Int) := by omega
  have hst : Hid (DigRel s 10 R w (s.size - 0) (.int .i64 0) (.int .i64 0) w) := ⟨0, 0, rfl, by omega, rfl, by omega, by rw [maxI_eq]; omega, HR.out.symm, rfl, by omega⟩
  go_enter Tryz.func33, Tryz.ntmps33
  go_wp2_with fail
  clear i1 c0 i2
  go_loopg [6, 7, 8] (s.size - 0) (fun g n k _ wr => DigRel s 10 R w g n k wr)
  case atStart => exact hst.out
  case round =>
    clear hst HR
    obtain ⟨i, x, rfl, hi, rfl, hx0, hx1, HD, rfl, hg⟩ := hrel
    have HG := Lib.hid hg; clear hg
    have HX1 := Lib.hid hx1; clear hx1
    by_cases hl : i < s.size
    · obtain ⟨d, hd⟩ : ∃ d, digitV (bt s i) = d := ⟨_, rfl⟩
      have hdr := digitV_range (bt s i)
      rw [hd] at hdr
      obtain ⟨hd0, hd1⟩ := hdr
      have HC := Lib.hid (rdigit_at (bt s i) d (bt_nonneg s i) (bt_le s i) hd)
      have HDD := Lib.hid hd; clear hd
      by_cases h1 : 10 ≤ d
      · have HN := Lib.hid (dig_no hl HD.out HDD.out (.inl h1))
        go_wp2_with fail
        refine (HC.out _).mono ?_; rintro e w2 ⟨rfl, rfl⟩
        go_wp2_with fail
        go_ret2
        exact ⟨by rw [HN.out]; rfl, rfl⟩
      · by_cases h2 : (9223372036854775807 - d) / 10 < x
        · have HN := Lib.hid (dig_no hl HD.out HDD.out (.inr (by rw [maxI_eq]; exact h2)))
          go_wp2_with fail
          refine (HC.out _).mono ?_; rintro e w2 ⟨rfl, rfl⟩
          go_wp2_with fail
          go_ret2
          exact ⟨by rw [HN.out]; rfl, rfl⟩
        · have HN := Lib.hid (dig_on hl HD.out HDD.out (by rw [maxI_eq]; rintro (h | h); exact h1 h; exact h2 h))
          have hb1 : x * 10 + d ≤ 9223372036854775807 := by omega
          go_wp2_with fail
          refine (HC.out _).mono ?_; rintro e w2 ⟨rfl, rfl⟩
          go_wp2_with fail
          go_roundg (s.size - (i + 1))
          case measure => have := HG.out; omega
          case rel => exact ⟨i + 1, x * 10 + d, by go_num, by omega, rfl, by omega, by rw [maxI_eq]; exact hb1, HN.out, rfl, by omega⟩
    · obtain rfl : i = s.size := by omega
      have HN : Hid (R = some x) := by have h := HD.out; rw [List.drop_of_length_le (by rw [bl_length]; exact Nat.le_refl _)] at h; exact h.symm
      go_wp2_with fail
      go_ret2
      exact ⟨by rw [HN.out]; rfl, rfl⟩
set_option maxRecDepth 100000 in
set_option maxHeartbeats 8000000 in
theorem rdig_F (s : ByteArray) (hs : s.size ≤ 9223372036854775800) (h1 : ¬ 2 < s.size) (h2 : 1 < s.size) (b0 : bt s 0 ≠ 48) (w : World) :
    Calls Tryz.prog 33 #[.string s] w fun e w' => e = .returned (numV (digitsF s)) ∧ w = w' := by
  have hgt := get_bt s
  have hbf : baseF s = (10, 0) := by unfold baseF; rw [if_neg (fun h => h1 h.1), if_neg (fun h => b0 h.2)]
  have HR : Hid (digitsF s = digGo 10 ((bl s).drop 0) 0) := by unfold Hid digitsF; rw [if_neg (by omega), hbf]
  have hpos : 0 < s.size := by omega
  have hem : s.toList.isEmpty = false := by rw [empty_iff]; simp [hpos]
  obtain ⟨R, hR⟩ : ∃ R, digitsF s = R := ⟨_, rfl⟩
  rw [hR]; rw [hR] at HR
  clear hR hbf
  have c0 : (bt s 0 == 48) = false := by simp [b0]
  clear b0
  have i1 : ¬ (2 : Int) < (s.size : Int) := by omega
  have i2 : (1 : Int) < (s.size : Int) := by omega
  have hst : Hid (DigRel s 10 R w (s.size - 0) (.int .i64 0) (.int .i64 0) w) := ⟨0, 0, rfl, by omega, rfl, by omega, by rw [maxI_eq]; omega, HR.out.symm, rfl, by omega⟩
  go_enter Tryz.func33, Tryz.ntmps33
  go_wp2_with fail
  clear i1 c0 i2
  go_loopg [6, 7, 8] (s.size - 0) (fun g n k _ wr => DigRel s 10 R w g n k wr)
  case atStart => exact hst.out
  case round =>
    clear hst HR
    obtain ⟨i, x, rfl, hi, rfl, hx0, hx1, HD, rfl, hg⟩ := hrel
    have HG := Lib.hid hg; clear hg
    have HX1 := Lib.hid hx1; clear hx1
    by_cases hl : i < s.size
    · obtain ⟨d, hd⟩ : ∃ d, digitV (bt s i) = d := ⟨_, rfl⟩
      have hdr := digitV_range (bt s i)
      rw [hd] at hdr
      obtain ⟨hd0, hd1⟩ := hdr
      have HC := Lib.hid (rdigit_at (bt s i) d (bt_nonneg s i) (bt_le s i) hd)
      have HDD := Lib.hid hd; clear hd
      by_cases h1 : 10 ≤ d
      · have HN := Lib.hid (dig_no hl HD.out HDD.out (.inl h1))
        go_wp2_with fail
        refine (HC.out _).mono ?_; rintro e w2 ⟨rfl, rfl⟩
        go_wp2_with fail
        go_ret2
        exact ⟨by rw [HN.out]; rfl, rfl⟩
      · by_cases h2 : (9223372036854775807 - d) / 10 < x
        · have HN := Lib.hid (dig_no hl HD.out HDD.out (.inr (by rw [maxI_eq]; exact h2)))
          go_wp2_with fail
          refine (HC.out _).mono ?_; rintro e w2 ⟨rfl, rfl⟩
          go_wp2_with fail
          go_ret2
          exact ⟨by rw [HN.out]; rfl, rfl⟩
        · have HN := Lib.hid (dig_on hl HD.out HDD.out (by rw [maxI_eq]; rintro (h | h); exact h1 h; exact h2 h))
          have hb1 : x * 10 + d ≤ 9223372036854775807 := by omega
          go_wp2_with fail
          refine (HC.out _).mono ?_; rintro e w2 ⟨rfl, rfl⟩
          go_wp2_with fail
          go_roundg (s.size - (i + 1))
          case measure => have := HG.out; omega
          case rel => exact ⟨i + 1, x * 10 + d, by go_num, by omega, rfl, by omega, by rw [maxI_eq]; exact hb1, HN.out, rfl, by omega⟩
    · obtain rfl : i = s.size := by omega
      have HN : Hid (R = some x) := by have h := HD.out; rw [List.drop_of_length_le (by rw [bl_length]; exact Nat.le_refl _)] at h; exact h.symm
      go_wp2_with fail
      go_ret2
      exact ⟨by rw [HN.out]; rfl, rfl⟩
set_option maxRecDepth 100000 in
set_option maxHeartbeats 8000000 in
theorem rdig_G (s : ByteArray) (hs : s.size ≤ 9223372036854775800) (h1 : ¬ 1 < s.size) (h3 : 0 < s.size) (w : World) :
    Calls Tryz.prog 33 #[.string s] w fun e w' => e = .returned (numV (digitsF s)) ∧ w = w' := by
  have hgt := get_bt s
  have hbf : baseF s = (10, 0) := by unfold baseF; rw [if_neg (fun h => h1 (by have := h.1; omega)), if_neg (fun h => h1 h.1)]
  have HR : Hid (digitsF s = digGo 10 ((bl s).drop 0) 0) := by unfold Hid digitsF; rw [if_neg (by omega), hbf]
  have hpos : 0 < s.size := by omega
  have hem : s.toList.isEmpty = false := by rw [empty_iff]; simp [hpos]
  obtain ⟨R, hR⟩ : ∃ R, digitsF s = R := ⟨_, rfl⟩
  rw [hR]; rw [hR] at HR
  clear hR hbf
  have i1 : ¬ (1 : Int) < (s.size : Int) := by omega
  have hst : Hid (DigRel s 10 R w (s.size - 0) (.int .i64 0) (.int .i64 0) w) := ⟨0, 0, rfl, by omega, rfl, by omega, by rw [maxI_eq]; omega, HR.out.symm, rfl, by omega⟩
  go_enter Tryz.func33, Tryz.ntmps33
  go_wp2_with fail
  clear i1 
  go_loopg [6, 7, 8] (s.size - 0) (fun g n k _ wr => DigRel s 10 R w g n k wr)
  case atStart => exact hst.out
  case round =>
    clear hst HR
    obtain ⟨i, x, rfl, hi, rfl, hx0, hx1, HD, rfl, hg⟩ := hrel
    have HG := Lib.hid hg; clear hg
    have HX1 := Lib.hid hx1; clear hx1
    by_cases hl : i < s.size
    · obtain ⟨d, hd⟩ : ∃ d, digitV (bt s i) = d := ⟨_, rfl⟩
      have hdr := digitV_range (bt s i)
      rw [hd] at hdr
      obtain ⟨hd0, hd1⟩ := hdr
      have HC := Lib.hid (rdigit_at (bt s i) d (bt_nonneg s i) (bt_le s i) hd)
      have HDD := Lib.hid hd; clear hd
      by_cases h1 : 10 ≤ d
      · have HN := Lib.hid (dig_no hl HD.out HDD.out (.inl h1))
        go_wp2_with fail
        refine (HC.out _).mono ?_; rintro e w2 ⟨rfl, rfl⟩
        go_wp2_with fail
        go_ret2
        exact ⟨by rw [HN.out]; rfl, rfl⟩
      · by_cases h2 : (9223372036854775807 - d) / 10 < x
        · have HN := Lib.hid (dig_no hl HD.out HDD.out (.inr (by rw [maxI_eq]; exact h2)))
          go_wp2_with fail
          refine (HC.out _).mono ?_; rintro e w2 ⟨rfl, rfl⟩
          go_wp2_with fail
          go_ret2
          exact ⟨by rw [HN.out]; rfl, rfl⟩
        · have HN := Lib.hid (dig_on hl HD.out HDD.out (by rw [maxI_eq]; rintro (h | h); exact h1 h; exact h2 h))
          have hb1 : x * 10 + d ≤ 9223372036854775807 := by omega
          go_wp2_with fail
          refine (HC.out _).mono ?_; rintro e w2 ⟨rfl, rfl⟩
          go_wp2_with fail
          go_roundg (s.size - (i + 1))
          case measure => have := HG.out; omega
          case rel => exact ⟨i + 1, x * 10 + d, by go_num, by omega, rfl, by omega, by rw [maxI_eq]; exact hb1, HN.out, rfl, by omega⟩
    · obtain rfl : i = s.size := by omega
      have HN : Hid (R = some x) := by have h := HD.out; rw [List.drop_of_length_le (by rw [bl_length]; exact Nat.le_refl _)] at h; exact h.symm
      go_wp2_with fail
      go_ret2
      exact ⟨by rw [HN.out]; rfl, rfl⟩
theorem rdig_empty (w : World) : Calls Tryz.prog 33 #[.string ByteArray.empty] w fun e w' => e = .returned (numV none) ∧ w = w' := by
  go_enter Tryz.func33, Tryz.ntmps33
  go_wp2_with fail
  go_loopg [6, 7] 0 (fun g n k wr => k = .int .i64 0 ∧ n = .int .i64 0 ∧ w = wr)
  case atStart => exact ⟨rfl, rfl, rfl⟩
  case round =>
    obtain ⟨rfl, rfl, rfl⟩ := hrel
    go_wp2_with fail
    go_ret2
    exact ⟨rfl, rfl⟩
theorem empty_of (s : ByteArray) (h : s.size = 0) : s = ByteArray.empty := by
  have := List.length_eq_zero_iff.1 (show s.data.toList.length = 0 by rw [← Lib.size_eq]; exact h)
  rw [← Lib.mk_data s, this]; rfl
theorem rdigits_any (s : ByteArray) (hs : s.size ≤ 9223372036854775800) (w : World) :
    Calls Tryz.prog 33 #[.string s] w fun e w' => e = .returned (numV (digitsF s)) ∧ w = w' := by
  by_cases h0 : s.size = 0
  · obtain rfl := empty_of s h0
    exact rdig_empty w
  by_cases h1 : 2 < s.size
  · by_cases b0 : bt s 0 = 48
    · by_cases b1 : bt s 1 = 120
      · exact rdig_A s hs h1 b0 b1 w
      · by_cases b2 : bt s 1 = 88
        · exact rdig_B s hs h1 b0 b1 b2 w
        · exact rdig_C s hs h1 b0 b1 b2 w
    · exact rdig_E s hs h1 b0 w
  · by_cases h2 : 1 < s.size
    · by_cases b0 : bt s 0 = 48
      · exact rdig_D s hs h1 h2 b0 w
      · exact rdig_F s hs h1 h2 b0 w
    · exact rdig_G s hs h2 (by omega) w
end Go.Proofs.YtkmpbkhlcapbgaaGreatDoor
