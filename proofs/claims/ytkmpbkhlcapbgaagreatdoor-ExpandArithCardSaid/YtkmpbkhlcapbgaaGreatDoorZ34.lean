/-
  DERIVED. The walk of the library's ParseUint at base 0 and 64 bits, of a text that begins with a digit and holds no underscore. (The text is printed by wip/gen_pu.py.)
-/
import Derived.Test.YtkmpbkhlcapbgaaGreatDoorProg
import Derived.Test.YtkmpbkhlcapbgaaGreatDoorZ01
import Derived.Test.YtkmpbkhlcapbgaaGreatDoorZ33
import Derived.Lib.ConvBytes
import Derived.Lib.SmallJoins
import Derived.Lib.AtoiAllMem
import Derived.Lib.Hide
import Derived.Laws.Strings3
import Derived.Laws.Closers25
import Derived.WalkKit
import Derived.WalkSpells
import Derived.WalkLawsBesides
import Derived.BigCall
import Derived.BigGuard
import Derived.Handy
import Derived.Deep.LoopGhost
namespace Go.Proofs.YtkmpbkhlcapbgaaGreatDoor
open Go.RowKit
theorem lower_any (c : Int) (w : World) : Calls Tryz.prog 171 #[.int .u8 c] w fun e w' => e = .returned (.int .u8 (bits .or .u8 c 32)) ∧ w = w' := by
  go_enter Tryz.func171, Tryz.ntmps171
  go_wp2
  go_ret
  exact ⟨rfl, rfl⟩
theorem lower_at (c L : Int) (h : bits .or .u8 c 32 = L) (w : World) : Calls Tryz.prog 171 #[.int .u8 c] w fun e w' => e = .returned (.int .u8 L) ∧ w = w' := by
  subst h; exact lower_any c w
/-- What ParseUint comes to: the number; or one of two errors. -/
def PuPost (R : Option Int) (w : World) (e : Ending) (w' : World) : Prop :=
  Below w.heap.size w w' ∧ match R with
  | some v => e = .returned (.tuple #[.int .u64 v, .nilIface])
  | none => ∃ x k : Int, ((k = 1 ∧ x = 18446744073709551615) ∨ (k = 2 ∧ x = 0)) ∧ e = .returned (.tuple #[.int .u64 x, .iface 155 (.int .i64 k)])
theorem pu_syntax {w w' : World} (hb : Below w.heap.size w w') : PuPost none w (.returned (.tuple #[.int .u64 0, .iface 155 (.int .i64 2)])) w' := ⟨hb, 0, 2, .inr ⟨rfl, rfl⟩, rfl⟩
theorem pu_range {w w' : World} (hb : Below w.heap.size w w') : PuPost none w (.returned (.tuple #[.int .u64 18446744073709551615, .iface 155 (.int .i64 1)])) w' := ⟨hb, _, 1, .inl ⟨rfl, rfl⟩, rfl⟩
theorem pu_ok {w w' : World} {v x : Int} (hb : Below w.heap.size w w') (h : v = x) : PuPost (some v) w (.returned (.tuple #[.int .u64 x, .nilIface])) w' := by subst h; exact ⟨hb, rfl⟩
def PuRel (u : ByteArray) (B : Int) (R : Option Int) (w1 : World) (g : Nat) (us n k : Value) (wr : World) : Prop :=
  ∃ (i : Nat) (a : Int), us = .bool false ∧ k = .int .i64 i ∧ i ≤ u.size ∧ n = .int .u64 a ∧ Hid (0 ≤ a ∧ a ≤ 18446744073709551615) ∧ Hid (capGo maxU B ((bl u).drop i) a = R) ∧ w1 = wr ∧ i + g = u.size
theorem cap_no {u : ByteArray} {B a d : Int} {i : Nat} {R : Option Int} (hi : i < u.size) (h : capGo maxU B ((bl u).drop i) a = R) (hd : digitV (bt u i) = d) (hn : B ≤ d ∨ maxU < a * B + d) : R = none := by
  rw [bl_drop u i hi] at h
  simp only [capGo, hd, if_pos hn] at h
  exact h.symm
theorem cap_on {u : ByteArray} {B a d : Int} {i : Nat} {R : Option Int} (hi : i < u.size) (h : capGo maxU B ((bl u).drop i) a = R) (hd : digitV (bt u i) = d) (hn : ¬ (B ≤ d ∨ maxU < a * B + d)) : capGo maxU B ((bl u).drop (i + 1)) (a * B + d) = R := by
  rw [bl_drop u i hi] at h
  simp only [capGo, hd, if_neg hn] at h
  exact h
theorem bytes_below (w : World) (e : TypeId) (t : ByteArray) : Below w.heap.size w (Lib.bytesWorld w e t) := by
  exact Go.Joins.below_bytesWorld _ _ _ _ (Nat.le_refl _)
theorem bytes_at (w : World) (e : TypeId) (u : ByteArray) (j : Nat) (hj : j < u.size) : (Lib.bytesWorld w e u).cell? ⟨w.heap.size, j, none⟩ = some (.int .u8 (bt u j)) := by
  rw [Lib.bytesWorld_cell w e u j hj, ← get_bt u j hj]
  have h2 : j < u.data.toList.length := by rw [← Lib.size_eq]; exact hj
  rw [show u.data.toList.getD j 0 = u.data.toList[j] from by simp [List.getD, List.getElem?_eq_getElem h2]]
  simp; rfl
set_option maxRecDepth 100000 in
set_option maxHeartbeats 32000000 in
theorem pu_X (s : ByteArray) (hmax : s.size ≤ 9223372036854775800) (h1 : 2 < s.size) (b0 : bt s 0 = 48) (b1 : bt s 1 = 120) (hus : ∀ k, k < s.size → bt s k ≠ 95) (R : Option Int) (hR : capGo maxU 16 ((bl s).drop 2) 0 = R) (w : World) :
    Calls Tryz.prog 142 #[.string s, .int .i64 0, .int .i64 64] w (PuPost R w) := by
  have hgs := get_bt s
  have hpos : 0 < s.size := by omega
  have hem : s.toList.isEmpty = false := by rw [empty_iff]; simp [hpos]
  obtain ⟨u, hu⟩ : ∃ u, u = (s.extract 2 s.size) := ⟨_, rfl⟩
  have hul : u.size = s.size - 2 := by rw [hu, ByteArray.size_extract]; omega
  have hub : bl u = (bl s).drop 2 := by rw [hu]; rw [bl_extract, List.take_of_length_le (by rw [List.length_drop, bl_length]; exact Nat.le_refl _)]
  have HUS : Hid (∀ k, k < u.size → bt u k ≠ 95) := fun k hk => by
    have h1 : bt u k = bt s (2 + k) := by
      have e1 := bl_get u k hk
      have e2 := bl_get s (2 + k) (by omega)
      rw [← e1, ← e2]; simp only [hub, List.getElem_drop]
    rw [h1]; exact hus _ (by omega)
  have hcv := Lib.run_convert_string_bytes (P := Tryz.prog) w 9 73 5 u (u := .string) Tryz.underlying9 Tryz.underlying73 Tryz.underlying5
  have HBW := Lib.hid (bytes_below w 5 u)
  have HB := Lib.hid (bytes_at w 5 u)
  obtain ⟨W1, hW1⟩ : ∃ W1, W1 = Lib.bytesWorld w 5 u := ⟨_, rfl⟩
  rw [← hW1] at hcv HBW HB
  clear hW1
  rw [← hub] at hR
  have HR := Lib.hid hR
  have HUL := Lib.hid hul
  have hmax2 : u.size ≤ 9223372036854775800 := by omega
  obtain ⟨nu, hnu⟩ : ∃ nu, nu = u.size := ⟨_, rfl⟩
  rw [← hnu] at hcv
  rw [hu] at hcv
  have HU := Lib.hid hu; have HNU := Lib.hid hnu
  have hnl : nu ≤ 9223372036854775800 := by omega
  clear hu hub hul hus hR hnu
  have c0 : (bt s 0 == 48) = true := by simp [b0]
  clear b0
  have i1 : (3 : Int) ≤ (s.size : Int) := by omega
  have HL : Hid (bits .or .u8 (bt s 1) 32 = 120) := by unfold Hid; rw [b1]; exact low_x.1
  clear b1
  have hmv : IntKind.u64.wrap (IntKind.u64.wrap 18446744073709551616 - 1) = 18446744073709551615 := by rw [IntKind.wrap_u64, IntKind.wrap_u64]; decide
  go_enter Tryz.func142, Tryz.ntmps142
  go_wp2_with (go_at_call 171; refine (lower_at _ 120 HL.out _).mono ?_; rintro e w' ⟨rfl, rfl⟩)
  have HREL : Hid (PuRel u 16 R W1 u.size (.bool false) (.int .u64 0) (.int .i64 ((0 : Nat) : Int)) W1) := ⟨0, 0, rfl, rfl, Nat.zero_le _, rfl, ⟨by omega, by omega⟩, HR.out, rfl, by omega⟩
  clear HR hcv
  go_loopg [12, 13, 101] u.size (fun g us n k wr => PuRel u 16 R W1 g us n k wr)
  case atStart => exact HREL.out
  case round =>
    clear HREL
    obtain ⟨i, a, rfl, rfl, hi, rfl, HA, HD, rfl, hg⟩ := hrel
    have HG := Lib.hid hg; clear hg
    obtain ⟨ha0, ha1⟩ := HA.out
    by_cases hl : i < nu
    · have hl' : i < u.size := by have := HNU.out; omega
      have hc := HB.out i hl'
      obtain ⟨c, hcc⟩ : ∃ c, bt u i = c := ⟨_, rfl⟩
      have hq0 := bt_nonneg u i; have hq1 := bt_le u i
      have h95 := HUS.out i hl'
      rw [hcc] at hc hq0 hq1 h95
      have h95' : (c == 95) = false := by simp [h95]
      have HDC := Lib.hid (show digitV (bt u i) = digitV c by rw [hcc])
      clear hcc h95
      obtain ⟨d, hd⟩ : ∃ d, digitV c = d := ⟨_, rfl⟩
      rw [hd] at HDC
      have hdr := digitV_range c
      rw [hd] at hdr
      by_cases hdig : 48 ≤ c ∧ c ≤ 57
      · obtain ⟨hd0, hd1⟩ := hdig
        have hdc : d = c - 48 := by rw [← hd]; exact digitV_dec ⟨hd0, hd1⟩
        subst hdc
        clear hd hdr
        have hbd : ¬ 16 ≤ c - 48 := by omega
        by_cases hcut : 1152921504606846976 ≤ a
        · have HN := Lib.hid (cap_no hl' HD.out HDC.out (.inr (by rw [maxU_eq]; omega)))
          go_wp2_with fail
          go_ret2
          rw [HN.out]
          exact pu_range HBW.out
        · have hov : ¬ 18446744073709551616 ≤ a * 16 + (c - 48) := by omega
          have HN := Lib.hid (cap_on hl' HD.out HDC.out (by rw [maxU_eq]; rintro (h | h) <;> omega))
          have hov' : a * 16 + (c - 48) < 18446744073709551616 := by omega
          go_wp2_with fail
          go_roundg (u.size - (i + 1))
          case measure => have := HG.out; omega
          case rel => exact ⟨i + 1, a * 16 + (c - 48), rfl, by go_num, by omega, by first | rfl | (congr 1; omega), ⟨by omega, by omega⟩, HN.out, rfl, by omega⟩
      · have hlc := low_cases c hq0 hq1 hdig
        obtain ⟨L, hL⟩ : ∃ L, bits .or .u8 c 32 = L := ⟨_, rfl⟩
        have hL0 := bits_lo_u8 .or c 32; have hL1 := bits_hi_u8 .or c 32
        rw [hL] at hL0 hL1
        rw [hL, hd] at hlc
        have HL2 := Lib.hid hL
        have hnd : ¬ (48 ≤ c) ∨ ¬ (c ≤ 57) := by omega
        clear hL hd hdig
        rcases hlc with ⟨m1, m2, m3, m4⟩ | ⟨m1, m2⟩
        · have hdc : d = L - 97 + 10 := m3.symm
          subst hdc
          clear m3 hdr
          rcases (show ¬ (48 ≤ c) ∨ (48 ≤ c ∧ ¬ (c ≤ 57)) by omega) with n1 | ⟨n0, n1⟩
          all_goals
            clear hnd
            have hbd : ¬ 16 ≤ L - 97 + 10 := by omega
            by_cases hcut : 1152921504606846976 ≤ a
            · have HN := Lib.hid (cap_no hl' HD.out HDC.out (.inr (by rw [maxU_eq]; omega)))
              go_wp2_with (go_at_call 171; refine (lower_at _ L HL2.out _).mono ?_; rintro e w' ⟨rfl, rfl⟩)
              go_ret2
              rw [HN.out]
              exact pu_range HBW.out
            · have hov : ¬ 18446744073709551616 ≤ a * 16 + (L - 97 + 10) := by omega
              have HN := Lib.hid (cap_on hl' HD.out HDC.out (by rw [maxU_eq]; rintro (h | h) <;> omega))
              have hov' : a * 16 + (L - 97 + 10) < 18446744073709551616 := by omega
              go_wp2_with (go_at_call 171; refine (lower_at _ L HL2.out _).mono ?_; rintro e w' ⟨rfl, rfl⟩)
              go_roundg (u.size - (i + 1))
              case measure => have := HG.out; omega
              case rel => exact ⟨i + 1, a * 16 + (L - 97 + 10), rfl, by go_num, by omega, by first | rfl | (congr 1; omega), ⟨by omega, by omega⟩, HN.out, rfl, by omega⟩
        · subst m1
          have HN := Lib.hid (cap_no hl' HD.out HDC.out (.inl (by omega)))
          clear hdr
          rcases (show ¬ (48 ≤ c) ∨ (48 ≤ c ∧ ¬ (c ≤ 57)) by omega) with n1 | ⟨n0, n1⟩
          all_goals
            clear hnd
            rcases (show ¬ 97 ≤ L ∨ (97 ≤ L ∧ ¬ L ≤ 122) ∨ (97 ≤ L ∧ L ≤ 122 ∧ 16 ≤ L - 97 + 10) by omega) with k1 | ⟨k0, k1⟩ | ⟨k0, k1, k2⟩
            all_goals
              clear m2
              go_wp2_with (go_at_call 171; refine (lower_at _ L HL2.out _).mono ?_; rintro e w' ⟨rfl, rfl⟩)
              go_ret2
              rw [HN.out]
              exact pu_syntax HBW.out
    · have hie : i = u.size := by have := HNU.out; omega
      have HN : Hid (R = some a) := by have h := HD.out; rw [hie, List.drop_of_length_le (by rw [bl_length]; exact Nat.le_refl _)] at h; exact h.symm
      clear hie
      go_wp2_with fail
      go_ret2
      rw [HN.out]
      exact pu_ok HBW.out rfl
set_option maxRecDepth 100000 in
set_option maxHeartbeats 32000000 in
theorem pu_Y (s : ByteArray) (hmax : s.size ≤ 9223372036854775800) (h1 : 2 < s.size) (b0 : bt s 0 = 48) (b1 : bt s 1 = 88) (hus : ∀ k, k < s.size → bt s k ≠ 95) (R : Option Int) (hR : capGo maxU 16 ((bl s).drop 2) 0 = R) (w : World) :
    Calls Tryz.prog 142 #[.string s, .int .i64 0, .int .i64 64] w (PuPost R w) := by
  have hgs := get_bt s
  have hpos : 0 < s.size := by omega
  have hem : s.toList.isEmpty = false := by rw [empty_iff]; simp [hpos]
  obtain ⟨u, hu⟩ : ∃ u, u = (s.extract 2 s.size) := ⟨_, rfl⟩
  have hul : u.size = s.size - 2 := by rw [hu, ByteArray.size_extract]; omega
  have hub : bl u = (bl s).drop 2 := by rw [hu]; rw [bl_extract, List.take_of_length_le (by rw [List.length_drop, bl_length]; exact Nat.le_refl _)]
  have HUS : Hid (∀ k, k < u.size → bt u k ≠ 95) := fun k hk => by
    have h1 : bt u k = bt s (2 + k) := by
      have e1 := bl_get u k hk
      have e2 := bl_get s (2 + k) (by omega)
      rw [← e1, ← e2]; simp only [hub, List.getElem_drop]
    rw [h1]; exact hus _ (by omega)
  have hcv := Lib.run_convert_string_bytes (P := Tryz.prog) w 9 73 5 u (u := .string) Tryz.underlying9 Tryz.underlying73 Tryz.underlying5
  have HBW := Lib.hid (bytes_below w 5 u)
  have HB := Lib.hid (bytes_at w 5 u)
  obtain ⟨W1, hW1⟩ : ∃ W1, W1 = Lib.bytesWorld w 5 u := ⟨_, rfl⟩
  rw [← hW1] at hcv HBW HB
  clear hW1
  rw [← hub] at hR
  have HR := Lib.hid hR
  have HUL := Lib.hid hul
  have hmax2 : u.size ≤ 9223372036854775800 := by omega
  obtain ⟨nu, hnu⟩ : ∃ nu, nu = u.size := ⟨_, rfl⟩
  rw [← hnu] at hcv
  rw [hu] at hcv
  have HU := Lib.hid hu; have HNU := Lib.hid hnu
  have hnl : nu ≤ 9223372036854775800 := by omega
  clear hu hub hul hus hR hnu
  have c0 : (bt s 0 == 48) = true := by simp [b0]
  clear b0
  have i1 : (3 : Int) ≤ (s.size : Int) := by omega
  have HL : Hid (bits .or .u8 (bt s 1) 32 = 120) := by unfold Hid; rw [b1]; exact low_x.2
  clear b1
  have hmv : IntKind.u64.wrap (IntKind.u64.wrap 18446744073709551616 - 1) = 18446744073709551615 := by rw [IntKind.wrap_u64, IntKind.wrap_u64]; decide
  go_enter Tryz.func142, Tryz.ntmps142
  go_wp2_with (go_at_call 171; refine (lower_at _ 120 HL.out _).mono ?_; rintro e w' ⟨rfl, rfl⟩)
  have HREL : Hid (PuRel u 16 R W1 u.size (.bool false) (.int .u64 0) (.int .i64 ((0 : Nat) : Int)) W1) := ⟨0, 0, rfl, rfl, Nat.zero_le _, rfl, ⟨by omega, by omega⟩, HR.out, rfl, by omega⟩
  clear HR hcv
  go_loopg [12, 13, 101] u.size (fun g us n k wr => PuRel u 16 R W1 g us n k wr)
  case atStart => exact HREL.out
  case round =>
    clear HREL
    obtain ⟨i, a, rfl, rfl, hi, rfl, HA, HD, rfl, hg⟩ := hrel
    have HG := Lib.hid hg; clear hg
    obtain ⟨ha0, ha1⟩ := HA.out
    by_cases hl : i < nu
    · have hl' : i < u.size := by have := HNU.out; omega
      have hc := HB.out i hl'
      obtain ⟨c, hcc⟩ : ∃ c, bt u i = c := ⟨_, rfl⟩
      have hq0 := bt_nonneg u i; have hq1 := bt_le u i
      have h95 := HUS.out i hl'
      rw [hcc] at hc hq0 hq1 h95
      have h95' : (c == 95) = false := by simp [h95]
      have HDC := Lib.hid (show digitV (bt u i) = digitV c by rw [hcc])
      clear hcc h95
      obtain ⟨d, hd⟩ : ∃ d, digitV c = d := ⟨_, rfl⟩
      rw [hd] at HDC
      have hdr := digitV_range c
      rw [hd] at hdr
      by_cases hdig : 48 ≤ c ∧ c ≤ 57
      · obtain ⟨hd0, hd1⟩ := hdig
        have hdc : d = c - 48 := by rw [← hd]; exact digitV_dec ⟨hd0, hd1⟩
        subst hdc
        clear hd hdr
        have hbd : ¬ 16 ≤ c - 48 := by omega
        by_cases hcut : 1152921504606846976 ≤ a
        · have HN := Lib.hid (cap_no hl' HD.out HDC.out (.inr (by rw [maxU_eq]; omega)))
          go_wp2_with fail
          go_ret2
          rw [HN.out]
          exact pu_range HBW.out
        · have hov : ¬ 18446744073709551616 ≤ a * 16 + (c - 48) := by omega
          have HN := Lib.hid (cap_on hl' HD.out HDC.out (by rw [maxU_eq]; rintro (h | h) <;> omega))
          have hov' : a * 16 + (c - 48) < 18446744073709551616 := by omega
          go_wp2_with fail
          go_roundg (u.size - (i + 1))
          case measure => have := HG.out; omega
          case rel => exact ⟨i + 1, a * 16 + (c - 48), rfl, by go_num, by omega, by first | rfl | (congr 1; omega), ⟨by omega, by omega⟩, HN.out, rfl, by omega⟩
      · have hlc := low_cases c hq0 hq1 hdig
        obtain ⟨L, hL⟩ : ∃ L, bits .or .u8 c 32 = L := ⟨_, rfl⟩
        have hL0 := bits_lo_u8 .or c 32; have hL1 := bits_hi_u8 .or c 32
        rw [hL] at hL0 hL1
        rw [hL, hd] at hlc
        have HL2 := Lib.hid hL
        have hnd : ¬ (48 ≤ c) ∨ ¬ (c ≤ 57) := by omega
        clear hL hd hdig
        rcases hlc with ⟨m1, m2, m3, m4⟩ | ⟨m1, m2⟩
        · have hdc : d = L - 97 + 10 := m3.symm
          subst hdc
          clear m3 hdr
          rcases (show ¬ (48 ≤ c) ∨ (48 ≤ c ∧ ¬ (c ≤ 57)) by omega) with n1 | ⟨n0, n1⟩
          all_goals
            clear hnd
            have hbd : ¬ 16 ≤ L - 97 + 10 := by omega
            by_cases hcut : 1152921504606846976 ≤ a
            · have HN := Lib.hid (cap_no hl' HD.out HDC.out (.inr (by rw [maxU_eq]; omega)))
              go_wp2_with (go_at_call 171; refine (lower_at _ L HL2.out _).mono ?_; rintro e w' ⟨rfl, rfl⟩)
              go_ret2
              rw [HN.out]
              exact pu_range HBW.out
            · have hov : ¬ 18446744073709551616 ≤ a * 16 + (L - 97 + 10) := by omega
              have HN := Lib.hid (cap_on hl' HD.out HDC.out (by rw [maxU_eq]; rintro (h | h) <;> omega))
              have hov' : a * 16 + (L - 97 + 10) < 18446744073709551616 := by omega
              go_wp2_with (go_at_call 171; refine (lower_at _ L HL2.out _).mono ?_; rintro e w' ⟨rfl, rfl⟩)
              go_roundg (u.size - (i + 1))
              case measure => have := HG.out; omega
              case rel => exact ⟨i + 1, a * 16 + (L - 97 + 10), rfl, by go_num, by omega, by first | rfl | (congr 1; omega), ⟨by omega, by omega⟩, HN.out, rfl, by omega⟩
        · subst m1
          have HN := Lib.hid (cap_no hl' HD.out HDC.out (.inl (by omega)))
          clear hdr
          rcases (show ¬ (48 ≤ c) ∨ (48 ≤ c ∧ ¬ (c ≤ 57)) by omega) with n1 | ⟨n0, n1⟩
          all_goals
            clear hnd
            rcases (show ¬ 97 ≤ L ∨ (97 ≤ L ∧ ¬ L ≤ 122) ∨ (97 ≤ L ∧ L ≤ 122 ∧ 16 ≤ L - 97 + 10) by omega) with k1 | ⟨k0, k1⟩ | ⟨k0, k1, k2⟩
            all_goals
              clear m2
              go_wp2_with (go_at_call 171; refine (lower_at _ L HL2.out _).mono ?_; rintro e w' ⟨rfl, rfl⟩)
              go_ret2
              rw [HN.out]
              exact pu_syntax HBW.out
    · have hie : i = u.size := by have := HNU.out; omega
      have HN : Hid (R = some a) := by have h := HD.out; rw [hie, List.drop_of_length_le (by rw [bl_length]; exact Nat.le_refl _)] at h; exact h.symm
      clear hie
      go_wp2_with fail
      go_ret2
      rw [HN.out]
      exact pu_ok HBW.out rfl
set_option maxRecDepth 100000 in
set_option maxHeartbeats 32000000 in
theorem pu_O (s : ByteArray) (hmax : s.size ≤ 9223372036854775800) (h1 : 2 < s.size) (b0 : bt s 0 = 48) (bx : bt s 1 ≠ 120 ∧ bt s 1 ≠ 88) (bn : bt s 1 ≠ 98 ∧ bt s 1 ≠ 66 ∧ bt s 1 ≠ 111 ∧ bt s 1 ≠ 79) (hus : ∀ k, k < s.size → bt s k ≠ 95) (R : Option Int) (hR : capGo maxU 8 ((bl s).drop 1) 0 = R) (w : World) :
    Calls Tryz.prog 142 #[.string s, .int .i64 0, .int .i64 64] w (PuPost R w) := by
  have hgs := get_bt s
  have hpos : 0 < s.size := by omega
  have hem : s.toList.isEmpty = false := by rw [empty_iff]; simp [hpos]
  obtain ⟨u, hu⟩ : ∃ u, u = (s.extract 1 s.size) := ⟨_, rfl⟩
  have hul : u.size = s.size - 1 := by rw [hu, ByteArray.size_extract]; omega
  have hub : bl u = (bl s).drop 1 := by rw [hu]; rw [bl_extract, List.take_of_length_le (by rw [List.length_drop, bl_length]; exact Nat.le_refl _)]
  have HUS : Hid (∀ k, k < u.size → bt u k ≠ 95) := fun k hk => by
    have h1 : bt u k = bt s (1 + k) := by
      have e1 := bl_get u k hk
      have e2 := bl_get s (1 + k) (by omega)
      rw [← e1, ← e2]; simp only [hub, List.getElem_drop]
    rw [h1]; exact hus _ (by omega)
  have hcv := Lib.run_convert_string_bytes (P := Tryz.prog) w 9 73 5 u (u := .string) Tryz.underlying9 Tryz.underlying73 Tryz.underlying5
  have HBW := Lib.hid (bytes_below w 5 u)
  have HB := Lib.hid (bytes_at w 5 u)
  obtain ⟨W1, hW1⟩ : ∃ W1, W1 = Lib.bytesWorld w 5 u := ⟨_, rfl⟩
  rw [← hW1] at hcv HBW HB
  clear hW1
  rw [← hub] at hR
  have HR := Lib.hid hR
  have HUL := Lib.hid hul
  have hmax2 : u.size ≤ 9223372036854775800 := by omega
  obtain ⟨nu, hnu⟩ : ∃ nu, nu = u.size := ⟨_, rfl⟩
  rw [← hnu] at hcv
  rw [hu] at hcv
  have HU := Lib.hid hu; have HNU := Lib.hid hnu
  have hnl : nu ≤ 9223372036854775800 := by omega
  clear hu hub hul hus hR hnu
  have c0 : (bt s 0 == 48) = true := by simp [b0]
  clear b0
  have i1 : (3 : Int) ≤ (s.size : Int) := by omega
  obtain ⟨L, hL⟩ : ∃ L, bits .or .u8 (bt s 1) 32 = L := ⟨_, rfl⟩
  have hli := low_is (bt s 1) (bt_nonneg s 1) (bt_le s 1)
  rw [hL] at hli
  have l1 : (L == 98) = false := by simp; intro e; have := hli.1 e; omega
  have l2 : (L == 111) = false := by simp; intro e; have := hli.2.1 e; omega
  have l3 : (L == 120) = false := by simp; intro e; have := hli.2.2 e; omega
  have HL := Lib.hid hL; clear hL hli bx bn
  have hmv : IntKind.u64.wrap (IntKind.u64.wrap 18446744073709551616 - 1) = 18446744073709551615 := by rw [IntKind.wrap_u64, IntKind.wrap_u64]; decide
  go_enter Tryz.func142, Tryz.ntmps142
  go_wp2_with (go_at_call 171; refine (lower_at _ L HL.out _).mono ?_; rintro e w' ⟨rfl, rfl⟩)
  have HREL : Hid (PuRel u 8 R W1 u.size (.bool false) (.int .u64 0) (.int .i64 ((0 : Nat) : Int)) W1) := ⟨0, 0, rfl, rfl, Nat.zero_le _, rfl, ⟨by omega, by omega⟩, HR.out, rfl, by omega⟩
  clear HR hcv
  go_loopg [12, 13, 101] u.size (fun g us n k wr => PuRel u 8 R W1 g us n k wr)
  case atStart => exact HREL.out
  case round =>
    clear HREL
    obtain ⟨i, a, rfl, rfl, hi, rfl, HA, HD, rfl, hg⟩ := hrel
    have HG := Lib.hid hg; clear hg
    obtain ⟨ha0, ha1⟩ := HA.out
    by_cases hl : i < nu
    · have hl' : i < u.size := by have := HNU.out; omega
      have hc := HB.out i hl'
      obtain ⟨c, hcc⟩ : ∃ c, bt u i = c := ⟨_, rfl⟩
      have hq0 := bt_nonneg u i; have hq1 := bt_le u i
      have h95 := HUS.out i hl'
      rw [hcc] at hc hq0 hq1 h95
      have h95' : (c == 95) = false := by simp [h95]
      have HDC := Lib.hid (show digitV (bt u i) = digitV c by rw [hcc])
      clear hcc h95
      obtain ⟨d, hd⟩ : ∃ d, digitV c = d := ⟨_, rfl⟩
      rw [hd] at HDC
      have hdr := digitV_range c
      rw [hd] at hdr
      by_cases hdig : 48 ≤ c ∧ c ≤ 57
      · obtain ⟨hd0, hd1⟩ := hdig
        have hdc : d = c - 48 := by rw [← hd]; exact digitV_dec ⟨hd0, hd1⟩
        subst hdc
        clear hd hdr
        by_cases hbd : 8 ≤ c - 48
        · have HN := Lib.hid (cap_no hl' HD.out HDC.out (.inl (by omega)))
          go_wp2_with fail
          go_ret2
          rw [HN.out]
          exact pu_syntax HBW.out
        · by_cases hcut : 2305843009213693952 ≤ a
          · have HN := Lib.hid (cap_no hl' HD.out HDC.out (.inr (by rw [maxU_eq]; omega)))
            go_wp2_with fail
            go_ret2
            rw [HN.out]
            exact pu_range HBW.out
          · have hov : ¬ 18446744073709551616 ≤ a * 8 + (c - 48) := by omega
            have HN := Lib.hid (cap_on hl' HD.out HDC.out (by rw [maxU_eq]; rintro (h | h) <;> omega))
            have hov' : a * 8 + (c - 48) < 18446744073709551616 := by omega
            go_wp2_with fail
            go_roundg (u.size - (i + 1))
            case measure => have := HG.out; omega
            case rel => exact ⟨i + 1, a * 8 + (c - 48), rfl, by go_num, by omega, by first | rfl | (congr 1; omega), ⟨by omega, by omega⟩, HN.out, rfl, by omega⟩
      · have hlc := low_cases c hq0 hq1 hdig
        obtain ⟨L, hL⟩ : ∃ L, bits .or .u8 c 32 = L := ⟨_, rfl⟩
        have hL0 := bits_lo_u8 .or c 32; have hL1 := bits_hi_u8 .or c 32
        rw [hL] at hL0 hL1
        rw [hL, hd] at hlc
        have HL2 := Lib.hid hL
        have hnd : ¬ (48 ≤ c) ∨ ¬ (c ≤ 57) := by omega
        clear hL hd hdig
        rcases hlc with ⟨m1, m2, m3, m4⟩ | ⟨m1, m2⟩
        · have hdc : d = L - 97 + 10 := m3.symm
          subst hdc
          clear m3 hdr
          rcases (show ¬ (48 ≤ c) ∨ (48 ≤ c ∧ ¬ (c ≤ 57)) by omega) with n1 | ⟨n0, n1⟩
          all_goals
            clear hnd
            have hbd : 8 ≤ L - 97 + 10 := by omega
            have HN := Lib.hid (cap_no hl' HD.out HDC.out (.inl (by omega)))
            go_wp2_with (go_at_call 171; refine (lower_at _ L HL2.out _).mono ?_; rintro e w' ⟨rfl, rfl⟩)
            go_ret2
            rw [HN.out]
            exact pu_syntax HBW.out
        · subst m1
          have HN := Lib.hid (cap_no hl' HD.out HDC.out (.inl (by omega)))
          clear hdr
          rcases (show ¬ (48 ≤ c) ∨ (48 ≤ c ∧ ¬ (c ≤ 57)) by omega) with n1 | ⟨n0, n1⟩
          all_goals
            clear hnd
            rcases (show ¬ 97 ≤ L ∨ (97 ≤ L ∧ ¬ L ≤ 122) ∨ (97 ≤ L ∧ L ≤ 122 ∧ 16 ≤ L - 97 + 10) by omega) with k1 | ⟨k0, k1⟩ | ⟨k0, k1, k2⟩
            all_goals
              clear m2
              go_wp2_with (go_at_call 171; refine (lower_at _ L HL2.out _).mono ?_; rintro e w' ⟨rfl, rfl⟩)
              go_ret2
              rw [HN.out]
              exact pu_syntax HBW.out
    · have hie : i = u.size := by have := HNU.out; omega
      have HN : Hid (R = some a) := by have h := HD.out; rw [hie, List.drop_of_length_le (by rw [bl_length]; exact Nat.le_refl _)] at h; exact h.symm
      clear hie
      go_wp2_with fail
      go_ret2
      rw [HN.out]
      exact pu_ok HBW.out rfl
set_option maxRecDepth 100000 in
set_option maxHeartbeats 32000000 in
theorem pu_P (s : ByteArray) (hmax : s.size ≤ 9223372036854775800) (h1 : ¬ 2 < s.size) (h3 : 0 < s.size) (b0 : bt s 0 = 48) (hus : ∀ k, k < s.size → bt s k ≠ 95) (R : Option Int) (hR : capGo maxU 8 ((bl s).drop 1) 0 = R) (w : World) :
    Calls Tryz.prog 142 #[.string s, .int .i64 0, .int .i64 64] w (PuPost R w) := by
  have hgs := get_bt s
  have hpos : 0 < s.size := by omega
  have hem : s.toList.isEmpty = false := by rw [empty_iff]; simp [hpos]
  obtain ⟨u, hu⟩ : ∃ u, u = (s.extract 1 s.size) := ⟨_, rfl⟩
  have hul : u.size = s.size - 1 := by rw [hu, ByteArray.size_extract]; omega
  have hub : bl u = (bl s).drop 1 := by rw [hu]; rw [bl_extract, List.take_of_length_le (by rw [List.length_drop, bl_length]; exact Nat.le_refl _)]
  have HUS : Hid (∀ k, k < u.size → bt u k ≠ 95) := fun k hk => by
    have h1 : bt u k = bt s (1 + k) := by
      have e1 := bl_get u k hk
      have e2 := bl_get s (1 + k) (by omega)
      rw [← e1, ← e2]; simp only [hub, List.getElem_drop]
    rw [h1]; exact hus _ (by omega)
  have hcv := Lib.run_convert_string_bytes (P := Tryz.prog) w 9 73 5 u (u := .string) Tryz.underlying9 Tryz.underlying73 Tryz.underlying5
  have HBW := Lib.hid (bytes_below w 5 u)
  have HB := Lib.hid (bytes_at w 5 u)
  obtain ⟨W1, hW1⟩ : ∃ W1, W1 = Lib.bytesWorld w 5 u := ⟨_, rfl⟩
  rw [← hW1] at hcv HBW HB
  clear hW1
  rw [← hub] at hR
  have HR := Lib.hid hR
  have HUL := Lib.hid hul
  have hmax2 : u.size ≤ 9223372036854775800 := by omega
  obtain ⟨nu, hnu⟩ : ∃ nu, nu = u.size := ⟨_, rfl⟩
  rw [← hnu] at hcv
  rw [hu] at hcv
  have HU := Lib.hid hu; have HNU := Lib.hid hnu
  have hnl : nu ≤ 9223372036854775800 := by omega
  clear hu hub hul hus hR hnu
  have c0 : (bt s 0 == 48) = true := by simp [b0]
  clear b0
  have i1 : ¬ (3 : Int) ≤ (s.size : Int) := by omega
  have hmv : IntKind.u64.wrap (IntKind.u64.wrap 18446744073709551616 - 1) = 18446744073709551615 := by rw [IntKind.wrap_u64, IntKind.wrap_u64]; decide
  go_enter Tryz.func142, Tryz.ntmps142
  go_wp2_with fail
  have HREL : Hid (PuRel u 8 R W1 u.size (.bool false) (.int .u64 0) (.int .i64 ((0 : Nat) : Int)) W1) := ⟨0, 0, rfl, rfl, Nat.zero_le _, rfl, ⟨by omega, by omega⟩, HR.out, rfl, by omega⟩
  clear HR hcv
  go_loopg [12, 13, 101] u.size (fun g us n k wr => PuRel u 8 R W1 g us n k wr)
  case atStart => exact HREL.out
  case round =>
    clear HREL
    obtain ⟨i, a, rfl, rfl, hi, rfl, HA, HD, rfl, hg⟩ := hrel
    have HG := Lib.hid hg; clear hg
    obtain ⟨ha0, ha1⟩ := HA.out
    by_cases hl : i < nu
    · have hl' : i < u.size := by have := HNU.out; omega
      have hc := HB.out i hl'
      obtain ⟨c, hcc⟩ : ∃ c, bt u i = c := ⟨_, rfl⟩
      have hq0 := bt_nonneg u i; have hq1 := bt_le u i
      have h95 := HUS.out i hl'
      rw [hcc] at hc hq0 hq1 h95
      have h95' : (c == 95) = false := by simp [h95]
      have HDC := Lib.hid (show digitV (bt u i) = digitV c by rw [hcc])
      clear hcc h95
      obtain ⟨d, hd⟩ : ∃ d, digitV c = d := ⟨_, rfl⟩
      rw [hd] at HDC
      have hdr := digitV_range c
      rw [hd] at hdr
      by_cases hdig : 48 ≤ c ∧ c ≤ 57
      · obtain ⟨hd0, hd1⟩ := hdig
        have hdc : d = c - 48 := by rw [← hd]; exact digitV_dec ⟨hd0, hd1⟩
        subst hdc
        clear hd hdr
        by_cases hbd : 8 ≤ c - 48
        · have HN := Lib.hid (cap_no hl' HD.out HDC.out (.inl (by omega)))
          go_wp2_with fail
          go_ret2
          rw [HN.out]
          exact pu_syntax HBW.out
        · by_cases hcut : 2305843009213693952 ≤ a
          · have HN := Lib.hid (cap_no hl' HD.out HDC.out (.inr (by rw [maxU_eq]; omega)))
            go_wp2_with fail
            go_ret2
            rw [HN.out]
            exact pu_range HBW.out
          · have hov : ¬ 18446744073709551616 ≤ a * 8 + (c - 48) := by omega
            have HN := Lib.hid (cap_on hl' HD.out HDC.out (by rw [maxU_eq]; rintro (h | h) <;> omega))
            have hov' : a * 8 + (c - 48) < 18446744073709551616 := by omega
            go_wp2_with fail
            go_roundg (u.size - (i + 1))
            case measure => have := HG.out; omega
            case rel => exact ⟨i + 1, a * 8 + (c - 48), rfl, by go_num, by omega, by first | rfl | (congr 1; omega), ⟨by omega, by omega⟩, HN.out, rfl, by omega⟩
      · have hlc := low_cases c hq0 hq1 hdig
        obtain ⟨L, hL⟩ : ∃ L, bits .or .u8 c 32 = L := ⟨_, rfl⟩
        have hL0 := bits_lo_u8 .or c 32; have hL1 := bits_hi_u8 .or c 32
        rw [hL] at hL0 hL1
        rw [hL, hd] at hlc
        have HL2 := Lib.hid hL
        have hnd : ¬ (48 ≤ c) ∨ ¬ (c ≤ 57) := by omega
        clear hL hd hdig
        rcases hlc with ⟨m1, m2, m3, m4⟩ | ⟨m1, m2⟩
        · have hdc : d = L - 97 + 10 := m3.symm
          subst hdc
          clear m3 hdr
          rcases (show ¬ (48 ≤ c) ∨ (48 ≤ c ∧ ¬ (c ≤ 57)) by omega) with n1 | ⟨n0, n1⟩
          all_goals
            clear hnd
            have hbd : 8 ≤ L - 97 + 10 := by omega
            have HN := Lib.hid (cap_no hl' HD.out HDC.out (.inl (by omega)))
            go_wp2_with (go_at_call 171; refine (lower_at _ L HL2.out _).mono ?_; rintro e w' ⟨rfl, rfl⟩)
            go_ret2
            rw [HN.out]
            exact pu_syntax HBW.out
        · subst m1
          have HN := Lib.hid (cap_no hl' HD.out HDC.out (.inl (by omega)))
          clear hdr
          rcases (show ¬ (48 ≤ c) ∨ (48 ≤ c ∧ ¬ (c ≤ 57)) by omega) with n1 | ⟨n0, n1⟩
          all_goals
            clear hnd
            rcases (show ¬ 97 ≤ L ∨ (97 ≤ L ∧ ¬ L ≤ 122) ∨ (97 ≤ L ∧ L ≤ 122 ∧ 16 ≤ L - 97 + 10) by omega) with k1 | ⟨k0, k1⟩ | ⟨k0, k1, k2⟩
            all_goals
              clear m2
              go_wp2_with (go_at_call 171; refine (lower_at _ L HL2.out _).mono ?_; rintro e w' ⟨rfl, rfl⟩)
              go_ret2
              rw [HN.out]
              exact pu_syntax HBW.out
    · have hie : i = u.size := by have := HNU.out; omega
      have HN : Hid (R = some a) := by have h := HD.out; rw [hie, List.drop_of_length_le (by rw [bl_length]; exact Nat.le_refl _)] at h; exact h.symm
      clear hie
      go_wp2_with fail
      go_ret2
      rw [HN.out]
      exact pu_ok HBW.out rfl
set_option maxRecDepth 100000 in
set_option maxHeartbeats 32000000 in
theorem pu_D (s : ByteArray) (hmax : s.size ≤ 9223372036854775800) (h3 : 0 < s.size) (b0 : bt s 0 ≠ 48) (hus : ∀ k, k < s.size → bt s k ≠ 95) (R : Option Int) (hR : capGo maxU 10 ((bl s).drop 0) 0 = R) (w : World) :
    Calls Tryz.prog 142 #[.string s, .int .i64 0, .int .i64 64] w (PuPost R w) := by
  have hgs := get_bt s
  have hpos : 0 < s.size := by omega
  have hem : s.toList.isEmpty = false := by rw [empty_iff]; simp [hpos]
  obtain ⟨u, hu⟩ : ∃ u, u = s := ⟨_, rfl⟩
  have hul : u.size = s.size := by rw [hu]
  have hub : bl u = (bl s).drop 0 := by rw [hu]; rfl
  have HUS : Hid (∀ k, k < u.size → bt u k ≠ 95) := fun k hk => by
    have h1 : bt u k = bt s (0 + k) := by
      have e1 := bl_get u k hk
      have e2 := bl_get s (0 + k) (by omega)
      rw [← e1, ← e2]; simp only [hub, List.getElem_drop]
    rw [h1]; exact hus _ (by omega)
  have hcv := Lib.run_convert_string_bytes (P := Tryz.prog) w 9 73 5 u (u := .string) Tryz.underlying9 Tryz.underlying73 Tryz.underlying5
  have HBW := Lib.hid (bytes_below w 5 u)
  have HB := Lib.hid (bytes_at w 5 u)
  obtain ⟨W1, hW1⟩ : ∃ W1, W1 = Lib.bytesWorld w 5 u := ⟨_, rfl⟩
  rw [← hW1] at hcv HBW HB
  clear hW1
  rw [← hub] at hR
  have HR := Lib.hid hR
  have HUL := Lib.hid hul
  have hmax2 : u.size ≤ 9223372036854775800 := by omega
  subst hu
  clear hub hul hus hR HUL
  have c0 : (bt u 0 == 48) = false := by simp [b0]
  clear b0
  have hmv : IntKind.u64.wrap (IntKind.u64.wrap 18446744073709551616 - 1) = 18446744073709551615 := by rw [IntKind.wrap_u64, IntKind.wrap_u64]; decide
  go_enter Tryz.func142, Tryz.ntmps142
  go_wp2_with fail
  have HREL : Hid (PuRel u 10 R W1 u.size (.bool false) (.int .u64 0) (.int .i64 ((0 : Nat) : Int)) W1) := ⟨0, 0, rfl, rfl, Nat.zero_le _, rfl, ⟨by omega, by omega⟩, HR.out, rfl, by omega⟩
  clear HR hcv
  go_loopg [12, 13, 101] u.size (fun g us n k wr => PuRel u 10 R W1 g us n k wr)
  case atStart => exact HREL.out
  case round =>
    clear HREL
    obtain ⟨i, a, rfl, rfl, hi, rfl, HA, HD, rfl, hg⟩ := hrel
    have HG := Lib.hid hg; clear hg
    obtain ⟨ha0, ha1⟩ := HA.out
    by_cases hl : i < u.size
    · have hl' : i < u.size := by skip; omega
      have hc := HB.out i hl'
      obtain ⟨c, hcc⟩ : ∃ c, bt u i = c := ⟨_, rfl⟩
      have hq0 := bt_nonneg u i; have hq1 := bt_le u i
      have h95 := HUS.out i hl'
      rw [hcc] at hc hq0 hq1 h95
      have h95' : (c == 95) = false := by simp [h95]
      have HDC := Lib.hid (show digitV (bt u i) = digitV c by rw [hcc])
      clear hcc h95
      obtain ⟨d, hd⟩ : ∃ d, digitV c = d := ⟨_, rfl⟩
      rw [hd] at HDC
      have hdr := digitV_range c
      rw [hd] at hdr
      by_cases hdig : 48 ≤ c ∧ c ≤ 57
      · obtain ⟨hd0, hd1⟩ := hdig
        have hdc : d = c - 48 := by rw [← hd]; exact digitV_dec ⟨hd0, hd1⟩
        subst hdc
        clear hd hdr
        have hbd : ¬ 10 ≤ c - 48 := by omega
        by_cases hcut : 1844674407370955162 ≤ a
        · have HN := Lib.hid (cap_no hl' HD.out HDC.out (.inr (by rw [maxU_eq]; omega)))
          go_wp2_with fail
          go_ret2
          rw [HN.out]
          exact pu_range HBW.out
        · by_cases hov : 18446744073709551616 ≤ a * 10 + (c - 48)
          · have HN := Lib.hid (cap_no hl' HD.out HDC.out (.inr (by rw [maxU_eq]; omega)))
            have hwr : IntKind.u64.wrap (a * 10 + (c - 48)) = a * 10 + (c - 48) - 18446744073709551616 := by rw [IntKind.wrap_u64]; omega
            go_wp2_with fail
            go_ret2
            rw [HN.out]
            exact pu_range HBW.out
          · have HN := Lib.hid (cap_on hl' HD.out HDC.out (by rw [maxU_eq]; rintro (h | h) <;> omega))
            have hov' : a * 10 + (c - 48) < 18446744073709551616 := by omega
            go_wp2_with fail
            go_roundg (u.size - (i + 1))
            case measure => have := HG.out; omega
            case rel => exact ⟨i + 1, a * 10 + (c - 48), rfl, by go_num, by omega, by first | rfl | (congr 1; omega), ⟨by omega, by omega⟩, HN.out, rfl, by omega⟩
      · have hlc := low_cases c hq0 hq1 hdig
        obtain ⟨L, hL⟩ : ∃ L, bits .or .u8 c 32 = L := ⟨_, rfl⟩
        have hL0 := bits_lo_u8 .or c 32; have hL1 := bits_hi_u8 .or c 32
        rw [hL] at hL0 hL1
        rw [hL, hd] at hlc
        have HL2 := Lib.hid hL
        have hnd : ¬ (48 ≤ c) ∨ ¬ (c ≤ 57) := by omega
        clear hL hd hdig
        rcases hlc with ⟨m1, m2, m3, m4⟩ | ⟨m1, m2⟩
        · have hdc : d = L - 97 + 10 := m3.symm
          subst hdc
          clear m3 hdr
          rcases (show ¬ (48 ≤ c) ∨ (48 ≤ c ∧ ¬ (c ≤ 57)) by omega) with n1 | ⟨n0, n1⟩
          all_goals
            clear hnd
            have hbd : 10 ≤ L - 97 + 10 := by omega
            have HN := Lib.hid (cap_no hl' HD.out HDC.out (.inl (by omega)))
            go_wp2_with (go_at_call 171; refine (lower_at _ L HL2.out _).mono ?_; rintro e w' ⟨rfl, rfl⟩)
            go_ret2
            rw [HN.out]
            exact pu_syntax HBW.out
        · subst m1
          have HN := Lib.hid (cap_no hl' HD.out HDC.out (.inl (by omega)))
          clear hdr
          rcases (show ¬ (48 ≤ c) ∨ (48 ≤ c ∧ ¬ (c ≤ 57)) by omega) with n1 | ⟨n0, n1⟩
          all_goals
            clear hnd
            rcases (show ¬ 97 ≤ L ∨ (97 ≤ L ∧ ¬ L ≤ 122) ∨ (97 ≤ L ∧ L ≤ 122 ∧ 16 ≤ L - 97 + 10) by omega) with k1 | ⟨k0, k1⟩ | ⟨k0, k1, k2⟩
            all_goals
              clear m2
              go_wp2_with (go_at_call 171; refine (lower_at _ L HL2.out _).mono ?_; rintro e w' ⟨rfl, rfl⟩)
              go_ret2
              rw [HN.out]
              exact pu_syntax HBW.out
    · have hie : i = u.size := by skip; omega
      have HN : Hid (R = some a) := by have h := HD.out; rw [hie, List.drop_of_length_le (by rw [bl_length]; exact Nat.le_refl _)] at h; exact h.symm
      clear hie
      go_wp2_with fail
      go_ret2
      rw [HN.out]
      exact pu_ok HBW.out rfl
end Go.Proofs.YtkmpbkhlcapbgaaGreatDoor
