/-
  DERIVED. The walk of the law ArithShort: for all numbers and operations it returns true and leaves what was there.
-/
import Derived.Test.YtdfpijbngbfjaaaGreatDoorEe
import Derived.Test.YtdfpijbngbfjaaaGreatDoorEf
namespace Go.Proofs.YtdfpijbngbfjaaaGreatDoor
open Go.RowKit
theorem doesF_ok (o : List UInt8) (a b : Int) : doesF o a b ≠ .bad := doesF_good o a b
/-- ArithShort's operations, as they lie. -/
abbrev cellsS : Array Value := #[.string ⟨#[43]⟩, .string ⟨#[45]⟩, .string ⟨#[42]⟩, .string ⟨#[47]⟩, .string ⟨#[37]⟩, .string ⟨#[60, 60]⟩, .string ⟨#[62, 62]⟩, .string ⟨#[38]⟩, .string ⟨#[124]⟩, .string ⟨#[94]⟩, .string ⟨#[60]⟩, .string ⟨#[61, 61]⟩]
theorem cellsS_at (j : Nat) (h : j < 12) : cellsS[j]? = some (.string ⟨(opsS.getD j []).toArray⟩) := by
  rcases (show j = 0 ∨ j = 1 ∨ j = 2 ∨ j = 3 ∨ j = 4 ∨ j = 5 ∨ j = 6 ∨ j = 7 ∨ j = 8 ∨ j = 9 ∨ j = 10 ∨ j = 11 by omega) with rfl | rfl | rfl | rfl | rfl | rfl | rfl | rfl | rfl | rfl | rfl | rfl
  all_goals rfl
theorem op_size (j : Nat) (h : j < 12) : (⟨(opsS.getD j []).toArray⟩ : ByteArray).size ≤ 2 := by
  rcases (show j = 0 ∨ j = 1 ∨ j = 2 ∨ j = 3 ∨ j = 4 ∨ j = 5 ∨ j = 6 ∨ j = 7 ∨ j = 8 ∨ j = 9 ∨ j = 10 ∨ j = 11 by omega) with rfl | rfl | rfl | rfl | rfl | rfl | rfl | rfl | rfl | rfl | rfl | rfl
  all_goals decide
set_option maxRecDepth 100000 in
set_option maxHeartbeats 4000000 in
theorem short_out (x : Int) (op : Int) (y : Int) (h : x = -9223372036854775808 ∨ y = -9223372036854775808) (w : World) (hT : Tabs w) :
    Calls Tryz.prog 5 #[.int .i64 x, .int .u8 op, .int .i64 y] w fun e w' => e = .returned (.bool true) ∧ Below w.heap.size w w' := by
  have HA := Lib.hid (awake_any w hT)
  have main : ∀ bx bY : Bool, (x == -9223372036854775808) = bx → (y == -9223372036854775808) = bY → (bx || bY) = true → Calls Tryz.prog 5 #[.int .i64 x, .int .u8 op, .int .i64 y] w fun e w' => e = .returned (.bool true) ∧ Below w.heap.size w w' := by
    intro bx bY hx hy hb
    clear h hT
    cases bx
    · cases bY
      · cases hb
      · go_enter Tryz.func5, Tryz.ntmps5
        go_wp2_with fail
        refine HA.out.mono ?_; rintro e w1 ⟨rfl, b1⟩
        go_wp2_with fail
        go_ret
        exact ⟨rfl, b1⟩
    · go_enter Tryz.func5, Tryz.ntmps5
      go_wp2_with fail
      refine HA.out.mono ?_; rintro e w1 ⟨rfl, b1⟩
      go_wp2_with fail
      go_ret
      exact ⟨rfl, b1⟩
  refine main _ _ rfl rfl ?_
  rcases h with h | h <;> simp [h]
set_option maxRecDepth 100000 in
set_option maxHeartbeats 8000000 in
theorem short_in (x : Int) (k : Nat) (y : Int) (hx0 : -9223372036854775807 ≤ x) (hx1 : x ≤ 9223372036854775807) (hk : k ≤ 255) (hy0 : -9223372036854775807 ≤ y) (hy1 : y ≤ 9223372036854775807) (w : World) (hT : Tabs w) :
    Calls Tryz.prog 5 #[.int .i64 x, .int .u8 (k : Int), .int .i64 y] w fun e w' => e = .returned (.bool true) ∧ Below w.heap.size w w' := by
  have HA := Lib.hid (awake_any w hT)
  obtain ⟨j, hj⟩ : ∃ j, k % 12 = j := ⟨_, rfl⟩
  have hj12 : j < 12 := by omega
  obtain ⟨sx, tx, nx, lx, hcx⟩ := num_at x hx0 hx1
  obtain ⟨sy, ty, ny, ly, hcy⟩ := num_at y hy0 hy1
  have HX := Lib.hid hcx; have HY := Lib.hid hcy
  obtain ⟨so, hso⟩ : ∃ so : ByteArray, so = ⟨(opsS.getD j []).toArray⟩ := ⟨_, rfl⟩
  have hcell : cellsS[j]? = some (.string so) := by rw [hso]; exact cellsS_at j hj12
  have hcl0 : ([.string ⟨#[43]⟩, .string ⟨#[45]⟩, .string ⟨#[42]⟩, .string ⟨#[47]⟩, .string ⟨#[37]⟩, .string ⟨#[60, 60]⟩, .string ⟨#[62, 62]⟩, .string ⟨#[38]⟩, .string ⟨#[124]⟩, .string ⟨#[94]⟩, .string ⟨#[60]⟩, .string ⟨#[61, 61]⟩] : List Value)[j]? = some (.string so) := by rw [← List.getElem?_toArray]; exact hcell
  obtain ⟨hj2, hcl⟩ := List.getElem?_eq_some_iff.1 hcl0
  clear hcl0 hcell
  have tso : so.data.toList = opsS.getD j [] := by rw [hso]
  have lso : so.size ≤ 2 := by rw [hso]; exact op_size j hj12
  obtain ⟨py, hpy⟩ : ∃ py : ByteArray, py = (⟨#[32]⟩ ++ sy) ++ ⟨#[9]⟩ := ⟨_, rfl⟩
  have tpy : py.data.toList = [32] ++ numL y ++ [9] := by rw [hpy, ← ty]; simp
  have npy : numberF py = some y := by
    have := num_text y hy0 hy1 [32] [9] rfl rfl
    rw [← tpy] at this
    rw [← Lib.mk_data py]; exact this
  have lpy : py.size ≤ 23 := by
    have h1 : sy.data.toList.length = sy.size := rfl
    rw [Lib.size_eq, tpy, ← ty]
    simp only [List.length_append, List.length_cons, List.length_nil, h1]; omega
  obtain ⟨l, hl⟩ : ∃ l : List (ByteArray × ByteArray), l = [(⟨#[97]⟩, sx), (⟨#[98]⟩, py), (⟨#[97]⟩, ⟨#[120]⟩)] := ⟨_, rfl⟩
  have va : valF l [97] = some x := by rw [hl, ← nx]; rfl
  have vb : valF l [98] = some y := by rw [hl, ← npy]; rfl
  have vc : valF l [99] = some 0 := by rw [hl]; rfl
  have vd : valF l [100] = some 0 := by rw [hl]; rfl
  obtain ⟨R, hR⟩ : ∃ R, doesF (opsS.getD j []) x y = R := ⟨_, rfl⟩
  have hRb : R ≠ .bad := by rw [← hR]; exact doesF_good _ _ _
  obtain ⟨p1, p2, p3⟩ := short_tree j hj12
  have big : ∀ s : ByteArray, s.data.toList.length ≤ 100 → s.size ≤ 1000000000 := fun s h => by rw [Lib.size_eq]; omega
  have hlx : sx.data.toList.length ≤ 21 := by rw [← Lib.size_eq]; exact lx
  have hly : sy.data.toList.length ≤ 21 := by rw [← Lib.size_eq]; exact ly
  have hlo : so.data.toList.length ≤ 2 := by rw [← Lib.size_eq]; exact lso
  have E1 := Lib.hid (fun (v : Value) (W : World) (hV : VarsAt W v l) (hT : Tabs W) => eval_at ((⟨#[97, 32]⟩ ++ so) ++ ⟨#[32, 98]⟩) (big _ (by simp; omega)) (shortT j) (by rw [show ((⟨#[97, 32]⟩ ++ so) ++ ⟨#[32, 98]⟩ : ByteArray).data.toList = [97, 32] ++ so.data.toList ++ [32, 98] by simp, tso]; exact p1) l R ((ev_short l j hj12 x y va vb).trans hR) hRb v W hV hT)
  have E2 := Lib.hid (fun (v : Value) (W : World) (hV : VarsAt W v l) (hT : Tabs W) => eval_at ((⟨#[36, 97]⟩ ++ so) ++ ⟨#[36, 123, 98, 125]⟩) (big _ (by simp; omega)) (shortT j) (by rw [show ((⟨#[36, 97]⟩ ++ so) ++ ⟨#[36, 123, 98, 125]⟩ : ByteArray).data.toList = [36, 97] ++ so.data.toList ++ [36, 123, 98, 125] by simp, tso]; exact p2) l R ((ev_short l j hj12 x y va vb).trans hR) hRb v W hV hT)
  have E3 := Lib.hid (fun (v : Value) (W : World) (hV : VarsAt W v l) (hT : Tabs W) => eval_at ((((((⟨#[40]⟩ ++ sx) ++ ⟨#[41]⟩) ++ so) ++ ⟨#[40]⟩) ++ sy) ++ ⟨#[41]⟩) (big _ (by simp; omega)) (.node (opsS.getD j []) [numTree x, numTree y])
    (by rw [show ((((((⟨#[40]⟩ ++ sx) ++ ⟨#[41]⟩) ++ so) ++ ⟨#[40]⟩) ++ sy) ++ ⟨#[41]⟩ : ByteArray).data.toList = 40 :: (sx.data.toList ++ 41 :: (so.data.toList ++ 40 :: (sy.data.toList ++ 41 :: []))) by simp, tx, ty, tso]; exact parse_nums j hj12 x y hx0 hx1 hy0 hy1) l R ((ev_nums l j hj12 x y hx0 hx1 hy0 hy1).trans hR) hRb v W hV hT)
  have E4 := Lib.hid (fun (v : Value) (W : World) (hV : VarsAt W v l) (hT : Tabs W) => eval_at ⟨#[99, 43, 100]⟩ (by decide) _ parse_cd l (.ok 0) ((ev_bin l (p := 0) (q := 0) rfl (by show (match valF l [99] with | some n => Res.ok n | none => .bad) = _; rw [vc]) (by show (match valF l [100] with | some n => Res.ok n | none => .bad) = _; rw [vd])).trans (show doesF [43] 0 0 = .ok 0 by kernel_rfl)) (by simp) v W hV hT)
  have HV3 : Hid (∀ (w : World) (e : TypeId) (B : Nat), B = w.heap.size → VarsAt (w.alloc (.cells #[.string ⟨#[97]⟩, .string sx, .string ⟨#[98]⟩, .string ((⟨#[32]⟩ ++ sy) ++ ⟨#[9]⟩), .string ⟨#[97]⟩, .string ⟨#[120]⟩] e)) (.slice (some ⟨B, 0, none⟩) 3 3) l) := by
    rw [hl, ← hpy]; exact fun w e B hB => .three w e _ sx _ py _ ⟨#[120]⟩ (by omega) (by omega) (by decide) B hB
  have bx : (x == -9223372036854775808) = false := by simp; omega
  have bY : (y == -9223372036854775808) = false := by simp; omega
  have ej : (k : Int) % 12 = (j : Int) := by omega
  have hj0 : (j : Int) < 12 := by omega
  have hk0 : (0 : Int) ≤ (k : Int) := by omega
  have hk1 : (k : Int) ≤ 255 := by omega
  have HT := Lib.hid hT
  obtain ⟨rn, hrn⟩ : ∃ rn, resN R = rn := ⟨_, rfl⟩
  obtain ⟨re, hre⟩ : ∃ re, resE R = re := ⟨_, rfl⟩
  rw [hrn, hre] at E1 E2 E3
  clear hcx hcy nx ny hl va vb vc vd hT hx0 hx1 hy0 hy1 hj tx ty tso tpy npy lpy hpy hso big hlx hly hlo p1 p2 p3 hR hRb hrn hre hk
  go_enter Tryz.func5, Tryz.ntmps5
  go_wp2_with fail
  refine HA.out.mono ?_; rintro e w1 ⟨rfl, b1⟩
  have B1 := Lib.hid b1; clear b1 HA
  go_wp2_with fail
  have B2 := Lib.hid (B1.out.alloc B1.out.size (.cells cellsS 9))
  refine (HX.out _).mono ?_; rintro e w2 ⟨rfl, b2⟩
  have B3 := Lib.hid (B2.out.trans (b2.mono B2.out.size)); clear b2
  go_wp2_with fail
  refine (HY.out _).mono ?_; rintro e w3 ⟨rfl, b3⟩
  have B4 := Lib.hid (B3.out.trans (b3.mono B3.out.size)); clear b3
  go_wp2_with fail
  have B5 := Lib.hid (B4.out.alloc B4.out.size (.cells #[.string ⟨#[97]⟩, .string sx, .string ⟨#[98]⟩, .string ((⟨#[32]⟩ ++ sy) ++ ⟨#[9]⟩), .string ⟨#[97]⟩, .string ⟨#[120]⟩] 25))
  have V1 := Lib.hid (HV3.out w3 25 w3.heap.size rfl)
  refine (E1.out _ _ V1.out (HT.out.keep B5.out)).mono ?_; rintro e w4 ⟨rfl, b4⟩
  have V2 := Lib.hid (V1.out.below b4)
  have B6 := Lib.hid (B5.out.trans (b4.mono B5.out.size)); clear b4
  go_wp2_with fail
  refine (E2.out _ _ V2.out (HT.out.keep B6.out)).mono ?_; rintro e w5 ⟨rfl, b5⟩
  have V3 := Lib.hid (V2.out.below b5)
  have B7 := Lib.hid (B6.out.trans (b5.mono B6.out.size)); clear b5
  go_wp2_with fail
  refine (HX.out _).mono ?_; rintro e w6 ⟨rfl, b6⟩
  have V4 := Lib.hid (V3.out.below b6)
  have B8 := Lib.hid (B7.out.trans (b6.mono B7.out.size)); clear b6
  go_wp2_with fail
  refine (HY.out _).mono ?_; rintro e w7 ⟨rfl, b7⟩
  have V5 := Lib.hid (V4.out.below b7)
  have B9 := Lib.hid (B8.out.trans (b7.mono B8.out.size)); clear b7
  go_wp2_with fail
  refine (E3.out _ _ V5.out (HT.out.keep B9.out)).mono ?_; rintro e w8 ⟨rfl, b8⟩
  have V6 := Lib.hid (V5.out.below b8)
  have B10 := Lib.hid (B9.out.trans (b8.mono B9.out.size)); clear b8
  go_wp2_with fail
  refine (E4.out _ _ V6.out (HT.out.keep B10.out)).mono ?_; rintro e w9 ⟨rfl, b9⟩
  have B11 := Lib.hid (B10.out.trans (b9.mono B10.out.size)); clear b9
  go_wp2_with fail
  go_ret
  exact ⟨rfl, B11.out⟩
theorem law_short (x : Int) (hx0 : -9223372036854775808 ≤ x) (hx1 : x ≤ 9223372036854775807) (op : Int) (ho0 : 0 ≤ op) (ho1 : op ≤ 255) (y : Int) (hy0 : -9223372036854775808 ≤ y) (hy1 : y ≤ 9223372036854775807) (w : World) (hT : Tabs w) :
    Calls Tryz.prog 5 #[.int .i64 x, .int .u8 op, .int .i64 y] w fun e w' => e = .returned (.bool true) ∧ Below w.heap.size w w' := by
  by_cases h : x = -9223372036854775808 ∨ y = -9223372036854775808
  · exact short_out x op y h w hT
  · obtain ⟨k, rfl⟩ : ∃ k : Nat, op = (k : Int) := ⟨op.toNat, by omega⟩
    exact short_in x k y (by omega) hx1 (by omega) (by omega) hy1 w hT
end Go.Proofs.YtdfpijbngbfjaaaGreatDoor
