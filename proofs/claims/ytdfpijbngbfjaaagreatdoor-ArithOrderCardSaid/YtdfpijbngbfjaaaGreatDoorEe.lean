/-
  DERIVED. The walk of the law ArithLaws: for all numbers it returns true and leaves what was there.
-/
import Derived.Test.YtdfpijbngbfjaaaGreatDoorEc
import Derived.Test.YtdfpijbngbfjaaaGreatDoorEd
namespace Go.Proofs.YtdfpijbngbfjaaaGreatDoor
open Go.RowKit
theorem numL_len (x : Int) (h0 : -9223372036854775808 ≤ x) (h1 : x ≤ 9223372036854775807) : (numL x).length ≤ 21 := by
  by_cases hx : x < 0
  · have := decN_len20 (-x).toNat (by omega)
    unfold numL; rw [if_pos hx, List.length_cons]; omega
  · have := decN_len20 x.toNat (by omega)
    unfold numL; rw [if_neg hx]; omega
/-- A number's text, as the walk has it. -/
theorem num_at (x : Int) (h0 : -9223372036854775807 ≤ x) (h1 : x ≤ 9223372036854775807) : ∃ s : ByteArray, s.data.toList = numL x ∧ numberF s = some x ∧ s.size ≤ 21 ∧ ∀ w, Calls Tryz.prog 7 #[.int .i64 x] w fun e w' => e = .returned (.string s) ∧ Below w.heap.size w w' :=
  ⟨⟨(numL x).toArray⟩, rfl, num_text0 x h0 h1, by rw [Lib.size_eq]; exact numL_len x (by omega) (by omega), num_ok x (by omega) (by omega)⟩
/-- The texts of ArithLaws. -/
def txtT : ByteArray := ⟨#[120, 42, 40, 121, 43, 122, 41, 61, 61, 120, 42, 121, 43, 120, 42, 122, 32, 38, 38, 32, 40, 120, 43, 121, 41, 45, 121, 61, 61, 120, 32, 38, 38, 32, 40, 40, 120, 94, 121, 41, 94, 121, 41, 61, 61, 120, 32, 38, 38, 32, 126, 120, 61, 61, 45, 120, 45, 49, 32, 38, 38, 32, 33, 40, 120, 60, 121, 41, 61, 61, 40, 121, 60, 61, 120, 41, 32, 38, 38, 32, 40, 120, 33, 61, 121, 41, 61, 61, 40, 120, 60, 121, 124, 124, 121, 60, 120, 41]⟩
theorem parse_T : parseF 60 txtT.data.toList = some lawT := isTree_eq (by decide +kernel)
theorem parse_Q : parseF 60 [121, 32, 63, 32, 120, 47, 121, 42, 121, 43, 120, 37, 121, 61, 61, 120, 32, 58, 32, 49] = some lawQ := isTree_eq (by decide +kernel)
theorem parse_X : parseF 60 [120] = some vX := isTree_eq (by decide +kernel)
set_option maxRecDepth 100000 in
set_option maxHeartbeats 4000000 in
theorem laws_out (x y z : Int) (h : x = -9223372036854775808 ∨ y = -9223372036854775808 ∨ z = -9223372036854775808) (w : World) (hT : Tabs w) :
    Calls Tryz.prog 3 #[.int .i64 x, .int .i64 y, .int .i64 z] w fun e w' => e = .returned (.bool true) ∧ Below w.heap.size w w' := by
  have HA := Lib.hid (awake_any w hT)
  have main : ∀ bx bY bz : Bool, (x == -9223372036854775808) = bx → (y == -9223372036854775808) = bY → (z == -9223372036854775808) = bz → (bx || bY || bz) = true → Calls Tryz.prog 3 #[.int .i64 x, .int .i64 y, .int .i64 z] w fun e w' => e = .returned (.bool true) ∧ Below w.heap.size w w' := by
    intro bx bY bz hx hy hz hb
    clear h hT
    cases bx
    · cases bY
      · cases bz
        · cases hb
        · go_enter Tryz.func3, Tryz.ntmps3
          go_wp2_with fail
          refine HA.out.mono ?_; rintro e w1 ⟨rfl, b1⟩
          go_wp2_with fail
          go_ret
          exact ⟨rfl, b1⟩
      · go_enter Tryz.func3, Tryz.ntmps3
        go_wp2_with fail
        refine HA.out.mono ?_; rintro e w1 ⟨rfl, b1⟩
        go_wp2_with fail
        go_ret
        exact ⟨rfl, b1⟩
    · go_enter Tryz.func3, Tryz.ntmps3
      go_wp2_with fail
      refine HA.out.mono ?_; rintro e w1 ⟨rfl, b1⟩
      go_wp2_with fail
      go_ret
      exact ⟨rfl, b1⟩
  refine main _ _ _ rfl rfl rfl ?_
  rcases h with h | h | h <;> simp [h]
set_option maxRecDepth 100000 in
set_option maxHeartbeats 4000000 in
theorem laws_in (x y z : Int) (hx0 : -9223372036854775807 ≤ x) (hx1 : x ≤ 9223372036854775807) (hy0 : -9223372036854775807 ≤ y) (hy1 : y ≤ 9223372036854775807) (hz0 : -9223372036854775807 ≤ z) (hz1 : z ≤ 9223372036854775807) (w : World) (hT : Tabs w) :
    Calls Tryz.prog 3 #[.int .i64 x, .int .i64 y, .int .i64 z] w fun e w' => e = .returned (.bool true) ∧ Below w.heap.size w w' := by
  have HA := Lib.hid (awake_any w hT)
  obtain ⟨sx, _, nx, lx, hcx⟩ := num_at x hx0 hx1
  obtain ⟨sy, _, ny, ly, hcy⟩ := num_at y hy0 hy1
  obtain ⟨sz, _, nz, lz, hcz⟩ := num_at z hz0 hz1
  have HX := Lib.hid hcx; have HY := Lib.hid hcy; have HZ := Lib.hid hcz
  obtain ⟨l, hl⟩ : ∃ l : List (ByteArray × ByteArray), l = [(⟨#[120]⟩, sx), (⟨#[121]⟩, sy), (⟨#[122]⟩, sz)] := ⟨_, rfl⟩
  have vx : valF l [120] = some x := by rw [hl, ← nx]; rfl
  have vy : valF l [121] = some y := by rw [hl, ← ny]; rfl
  have vz : valF l [122] = some z := by rw [hl, ← nz]; rfl
  have E1 := Lib.hid (fun (v : Value) (W : World) (hV : VarsAt W v l) (hT : Tabs W) => eval_at txtT (by decide) lawT parse_T l (.ok 1) (ev_lawT l x y z vx vy vz (by omega) hx1) (by simp) v W hV hT)
  have E2 := Lib.hid (fun (v : Value) (W : World) (hV : VarsAt W v l) (hT : Tabs W) => eval_at ⟨#[121, 32, 63, 32, 120, 47, 121, 42, 121, 43, 120, 37, 121, 61, 61, 120, 32, 58, 32, 49]⟩ (by decide) lawQ parse_Q l (.ok 1) (ev_lawQ l x y vx vy hx0 hx1) (by simp) v W hV hT)
  have E3 := Lib.hid (fun (v : Value) (W : World) (hV : VarsAt W v l) (hT : Tabs W) => eval_at ⟨#[120]⟩ (by decide) vX parse_X l (.ok x) (ev_x l x vx 19) (by simp) v W hV hT)
  have HV3 : Hid (∀ (w : World) (e : TypeId) (B : Nat), B = w.heap.size → VarsAt (w.alloc (.cells #[.string ⟨#[120]⟩, .string sx, .string ⟨#[121]⟩, .string sy, .string ⟨#[122]⟩, .string sz] e)) (.slice (some ⟨B, 0, none⟩) 3 3) l) := by
    rw [hl]; exact fun w e B hB => .three w e _ sx _ sy _ sz (by omega) (by omega) (by omega) B hB
  have bx : (x == -9223372036854775808) = false := by simp; omega
  have bY : (y == -9223372036854775808) = false := by simp; omega
  have bz : (z == -9223372036854775808) = false := by simp; omega
  have HT := Lib.hid hT
  clear hcx hcy hcz nx ny nz hl vx vy vz hT hx0 hx1 hy0 hy1 hz0 hz1 lx ly lz
  go_enter Tryz.func3, Tryz.ntmps3
  go_wp2_with fail
  refine HA.out.mono ?_; rintro e w1 ⟨rfl, b1⟩
  have B1 := Lib.hid b1; clear b1 HA
  go_wp2_with fail
  refine (HX.out _).mono ?_; rintro e w2 ⟨rfl, b2⟩
  have B2 := Lib.hid (B1.out.trans (b2.mono B1.out.size)); clear b2
  go_wp2_with fail
  refine (HY.out _).mono ?_; rintro e w3 ⟨rfl, b3⟩
  have B3 := Lib.hid (B2.out.trans (b3.mono B2.out.size)); clear b3
  go_wp2_with fail
  refine (HZ.out _).mono ?_; rintro e w4 ⟨rfl, b4⟩
  have B4 := Lib.hid (B3.out.trans (b4.mono B3.out.size)); clear b4
  go_wp2_with fail
  have B5 := Lib.hid (B4.out.alloc B4.out.size (.cells #[.string ⟨#[120]⟩, .string sx, .string ⟨#[121]⟩, .string sy, .string ⟨#[122]⟩, .string sz] 25))
  have hV := Lib.hid (HV3.out w4 25 w4.heap.size rfl)
  refine (E1.out _ _ hV.out (HT.out.keep B5.out)).mono ?_; rintro e w5 ⟨rfl, b5⟩
  have hV2 := Lib.hid (hV.out.below b5)
  have B6 := Lib.hid (B5.out.trans (b5.mono B5.out.size)); clear b5
  go_wp2_with fail
  refine (E2.out _ _ hV2.out (HT.out.keep B6.out)).mono ?_; rintro e w6 ⟨rfl, b6⟩
  have hV3 := Lib.hid (hV2.out.below b6)
  have B7 := Lib.hid (B6.out.trans (b6.mono B6.out.size)); clear b6
  go_wp2_with fail
  refine (E3.out _ _ hV3.out (HT.out.keep B7.out)).mono ?_; rintro e w7 ⟨rfl, b7⟩
  have B8 := Lib.hid (B7.out.trans (b7.mono B7.out.size)); clear b7
  go_wp2_with fail
  go_ret
  exact ⟨rfl, B8.out⟩
theorem law_laws (x : Int) (hx0 : -9223372036854775808 ≤ x) (hx1 : x ≤ 9223372036854775807) (y : Int) (hy0 : -9223372036854775808 ≤ y) (hy1 : y ≤ 9223372036854775807) (z : Int) (hz0 : -9223372036854775808 ≤ z) (hz1 : z ≤ 9223372036854775807) (w : World) (hT : Tabs w) :
    Calls Tryz.prog 3 #[.int .i64 x, .int .i64 y, .int .i64 z] w fun e w' => e = .returned (.bool true) ∧ Below w.heap.size w w' := by
  by_cases h : x = -9223372036854775808 ∨ y = -9223372036854775808 ∨ z = -9223372036854775808
  · exact laws_out x y z h w hT
  · exact laws_in x y z (by omega) hx1 (by omega) hy1 (by omega) hz1 w hT
end Go.Proofs.YtdfpijbngbfjaaaGreatDoor
