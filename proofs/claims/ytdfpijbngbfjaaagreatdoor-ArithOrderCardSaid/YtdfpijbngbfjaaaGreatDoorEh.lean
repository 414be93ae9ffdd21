/-
  DERIVED. The walk of the law ArithOrder: for all numbers and operations it returns true and leaves what was there.
-/
import Derived.Test.YtdfpijbngbfjaaaGreatDoorEe
import Derived.Deep.QuietTactic
import Derived.BigQuiet
import Derived.Deep.RegionWith
import Derived.WalkSmall
namespace Go.Proofs.YtdfpijbngbfjaaaGreatDoor
open Go.RowKit
set_option maxRecDepth 100000 in
set_option maxHeartbeats 4000000 in
theorem order_out (x y z : Int) (a b : Int) (h : x = -9223372036854775808 ∨ y = -9223372036854775808 ∨ z = -9223372036854775808) (w : World) (hT : Tabs w) :
    Calls Tryz.prog 4 #[.int .i64 x, .int .i64 y, .int .i64 z, .int .u8 a, .int .u8 b] w fun e w' => e = .returned (.bool true) ∧ Below w.heap.size w w' := by
  have HA := Lib.hid (awake_any w hT)
  have main : ∀ bx bY bz : Bool, (x == -9223372036854775808) = bx → (y == -9223372036854775808) = bY → (z == -9223372036854775808) = bz → (bx || bY || bz) = true → Calls Tryz.prog 4 #[.int .i64 x, .int .i64 y, .int .i64 z, .int .u8 a, .int .u8 b] w fun e w' => e = .returned (.bool true) ∧ Below w.heap.size w w' := by
    intro bx bY bz hx hy hz hb
    clear h hT
    cases bx
    · cases bY
      · cases bz
        · cases hb
        · go_enter Tryz.func4, Tryz.ntmps4
          go_wp2_with fail
          refine HA.out.mono ?_; rintro e w1 ⟨rfl, b1⟩
          go_wp2_with fail
          go_ret
          exact ⟨rfl, b1⟩
      · go_enter Tryz.func4, Tryz.ntmps4
        go_wp2_with fail
        refine HA.out.mono ?_; rintro e w1 ⟨rfl, b1⟩
        go_wp2_with fail
        go_ret
        exact ⟨rfl, b1⟩
    · go_enter Tryz.func4, Tryz.ntmps4
      go_wp2_with fail
      refine HA.out.mono ?_; rintro e w1 ⟨rfl, b1⟩
      go_wp2_with fail
      go_ret
      exact ⟨rfl, b1⟩
  refine main _ _ _ rfl rfl rfl ?_
  rcases h with h | h | h <;> simp [h]
/-- ArithOrder's operations, and how they bind, as they lie. -/
def cellsO : List Value := [.string ⟨#[124, 124]⟩, .string ⟨#[38, 38]⟩, .string ⟨#[124]⟩, .string ⟨#[94]⟩, .string ⟨#[38]⟩, .string ⟨#[61, 61]⟩, .string ⟨#[33, 61]⟩, .string ⟨#[60]⟩, .string ⟨#[60, 61]⟩, .string ⟨#[62]⟩, .string ⟨#[62, 61]⟩, .string ⟨#[60, 60]⟩, .string ⟨#[62, 62]⟩, .string ⟨#[43]⟩, .string ⟨#[45]⟩, .string ⟨#[42]⟩, .string ⟨#[47]⟩, .string ⟨#[37]⟩]
def cellsB : List Value := [.int .i64 0, .int .i64 1, .int .i64 2, .int .i64 3, .int .i64 4, .int .i64 5, .int .i64 5, .int .i64 6, .int .i64 6, .int .i64 6, .int .i64 6, .int .i64 7, .int .i64 7, .int .i64 8, .int .i64 8, .int .i64 9, .int .i64 9, .int .i64 9]
theorem cellsO_at (j : Nat) (h : j < 18) : cellsO[j]? = some (.string ⟨(opsO.getD j []).toArray⟩) ∧ cellsB[j]? = some (.int .i64 (bindsO.getD j 0)) ∧ (opsO.getD j []).length ≤ 2 ∧ 0 ≤ bindsO.getD j 0 ∧ bindsO.getD j 0 ≤ 9 := by
  rcases (show j = 0 ∨ j = 1 ∨ j = 2 ∨ j = 3 ∨ j = 4 ∨ j = 5 ∨ j = 6 ∨ j = 7 ∨ j = 8 ∨ j = 9 ∨ j = 10 ∨ j = 11 ∨ j = 12 ∨ j = 13 ∨ j = 14 ∨ j = 15 ∨ j = 16 ∨ j = 17 by omega) with rfl | rfl | rfl | rfl | rfl | rfl | rfl | rfl | rfl | rfl | rfl | rfl | rfl | rfl | rfl | rfl | rfl | rfl
  all_goals exact ⟨rfl, rfl, by decide, by decide, by decide⟩
theorem eval_g (s : ByteArray) (hs : s.size ≤ 1000000000) (t : Tree) (hp : parseF 60 s.data.toList = some t) (l : List (ByteArray × ByteArray)) (g : Nat) (R : Res) (hR : evF l g t = R) (hb : R ≠ .bad) (v : Value) (w : World) (hV : VarsAt w v l) (hT : Tabs w) :
    Calls Tryz.prog 8 #[.string s, v] w fun e w' => e = .returned (.tuple #[.int .i64 (resN R), .int .i64 (resE R)]) ∧ Below w.heap.size w w' := by
  cases R with
  | ok n => exact eval_ok 60 g s hs t hp l n hR v w hV hT
  | zero => exact eval_zero 60 g s hs t hp l hR v w hV hT
  | bad => exact absurd rfl hb
theorem rows_new (w : World) (a b : List Value) (e e2 : TypeId) : RowIs ((w.alloc (.cells a.toArray e)).alloc (.cells b.toArray e2)) w.heap.size e a ∧ RowIs ((w.alloc (.cells a.toArray e)).alloc (.cells b.toArray e2)) (w.heap.size + 1) e2 b := by
  have h1 := (RowIs.new w e a).alloc (.cells b.toArray e2)
  have h2 := RowIs.new (w.alloc (.cells a.toArray e)) e2 b
  have e : (w.alloc (.cells a.toArray e)).heap.size = w.heap.size + 1 := by simp
  rw [e] at h2
  exact ⟨h1, h2⟩
/-- What holds while ArithOrder's regions draw. -/
structure LawE (bo bb i j : Nat) (oi oj : ByteArray) (bi bj : Int) (v : Value) (l : List (ByteArray × ByteArray)) (w wx : World) : Prop where
  c1 : wx.cell? ⟨bo, i, none⟩ = some (.string oi)
  c2 : wx.cell? ⟨bo, j, none⟩ = some (.string oj)
  c3 : wx.cell? ⟨bb, i, none⟩ = some (.int .i64 bi)
  c4 : wx.cell? ⟨bb, j, none⟩ = some (.int .i64 bj)
  below : Below w.heap.size w wx
  vars : VarsAt wx v l
theorem LawE.next {bo bb i j : Nat} {oi oj : ByteArray} {bi bj : Int} {v : Value} {l : List (ByteArray × ByteArray)} {w wx wy : World} (h : LawE bo bb i j oi oj bi bj v l w wx) (hb : Below wx.heap.size wx wy) : LawE bo bb i j oi oj bi bj v l w wy :=
  ⟨(hb.cell (block_lt_of_cell h.c1)).trans h.c1, (hb.cell (block_lt_of_cell h.c2)).trans h.c2, (hb.cell (block_lt_of_cell h.c3)).trans h.c3, (hb.cell (block_lt_of_cell h.c4)).trans h.c4, h.below.trans (hb.mono h.below.size), h.vars.below hb⟩
theorem LawE.all {bo bb i j : Nat} {oi oj : ByteArray} {bi bj : Int} {v : Value} {l : List (ByteArray × ByteArray)} {w wx : World} (h : LawE bo bb i j oi oj bi bj v l w wx) : (wx.cell? ⟨bo, i, none⟩ = some (.string oi) ∧ wx.cell? ⟨bo, j, none⟩ = some (.string oj) ∧ wx.cell? ⟨bb, i, none⟩ = some (.int .i64 bi) ∧ wx.cell? ⟨bb, j, none⟩ = some (.int .i64 bj) ∧ bo < wx.heap.size ∧ bb < wx.heap.size) ∧ LawE bo bb i j oi oj bi bj v l w wx :=
  ⟨⟨h.c1, h.c2, h.c3, h.c4, block_lt_of_cell h.c1, block_lt_of_cell h.c3⟩, h⟩
set_option maxRecDepth 100000 in
set_option maxHeartbeats 8000000 in
theorem order_in (x y z : Int) (ka kb : Nat) (hx0 : -9223372036854775807 ≤ x) (hx1 : x ≤ 9223372036854775807) (hy0 : -9223372036854775807 ≤ y) (hy1 : y ≤ 9223372036854775807) (hz0 : -9223372036854775807 ≤ z) (hz1 : z ≤ 9223372036854775807) (ha : ka ≤ 255) (hb : kb ≤ 255) (w : World) (hT : Tabs w) :
    Calls Tryz.prog 4 #[.int .i64 x, .int .i64 y, .int .i64 z, .int .u8 (ka : Int), .int .u8 (kb : Int)] w fun e w' => e = .returned (.bool true) ∧ Below w.heap.size w w' := by
  have HA := Lib.hid (awake_any w hT)
  obtain ⟨i, hi⟩ : ∃ i, ka % 18 = i := ⟨_, rfl⟩
  obtain ⟨j, hj⟩ : ∃ j, kb % 18 = j := ⟨_, rfl⟩
  have hi18 : i < 18 := by omega
  have hj18 : j < 18 := by omega
  obtain ⟨sx, _, nx, lx, hcx⟩ := num_at x hx0 hx1
  obtain ⟨sy, _, ny, ly, hcy⟩ := num_at y hy0 hy1
  obtain ⟨sz, _, nz, lz, hcz⟩ := num_at z hz0 hz1
  have HX := Lib.hid hcx; have HY := Lib.hid hcy; have HZ := Lib.hid hcz
  obtain ⟨oi, hoi⟩ : ∃ oi : ByteArray, oi = ⟨(opsO.getD i []).toArray⟩ := ⟨_, rfl⟩
  obtain ⟨oj, hoj⟩ : ∃ oj : ByteArray, oj = ⟨(opsO.getD j []).toArray⟩ := ⟨_, rfl⟩
  obtain ⟨bi, hbi⟩ : ∃ bi : Int, bi = bindsO.getD i 0 := ⟨_, rfl⟩
  obtain ⟨bj, hbj⟩ : ∃ bj : Int, bj = bindsO.getD j 0 := ⟨_, rfl⟩
  obtain ⟨ci1, ci2, ci3, _⟩ := cellsO_at i hi18
  obtain ⟨cj1, cj2, cj3, _⟩ := cellsO_at j hj18
  rw [← hoi] at ci1
  rw [← hoj] at cj1
  rw [← hbi] at ci2
  rw [← hbj] at cj2
  have tsi : oi.data.toList = opsO.getD i [] := by rw [hoi]
  have tsj : oj.data.toList = opsO.getD j [] := by rw [hoj]
  have lsi : oi.size ≤ 2 := by rw [Lib.size_eq, tsi]; exact ci3
  have lsj : oj.size ≤ 2 := by rw [Lib.size_eq, tsj]; exact cj3
  obtain ⟨l, hl⟩ : ∃ l : List (ByteArray × ByteArray), l = [(⟨#[120]⟩, sx), (⟨#[121]⟩, sy), (⟨#[122]⟩, sz)] := ⟨_, rfl⟩
  have vx : (valF l [120]).isSome = true := by rw [hl]; show (numberF sx).isSome = true; rw [nx]; rfl
  have vy : (valF l [121]).isSome = true := by rw [hl]; show (numberF sy).isSome = true; rw [ny]; rfl
  have vz : (valF l [122]).isSome = true := by rw [hl]; show (numberF sz).isSome = true; rw [nz]; rfl
  obtain ⟨t, pt, pu, gt⟩ := order_tree i j hi18 hj18
  obtain ⟨R, hR⟩ : ∃ R, evF l 9 t = R := ⟨_, rfl⟩
  have hRb : R ≠ .bad := by rw [← hR]; exact goodT_ev l vx vy vz 9 t gt
  have hlsi : oi.data.toList.length ≤ 2 := by rw [← Lib.size_eq]; exact lsi
  have hlsj : oj.data.toList.length ≤ 2 := by rw [← Lib.size_eq]; exact lsj
  have big : ∀ s : ByteArray, s.data.toList.length ≤ 100 → s.size ≤ 1000000000 := fun s h => by rw [Lib.size_eq]; omega
  have pB : parseF 60 (if bi < bj then rightO i j else leftO i j) = some t := by rw [hbi, hbj]; exact pu
  have E1 := Lib.hid (fun (v : Value) (W : World) (hV : VarsAt W v l) (hT : Tabs W) => eval_g ((((⟨#[120, 32]⟩ ++ oi) ++ ⟨#[9, 121, 10]⟩) ++ oj) ++ ⟨#[32, 122]⟩) (big _ (by simp; omega)) t (by rw [show ((((⟨#[120, 32]⟩ ++ oi) ++ ⟨#[9, 121, 10]⟩) ++ oj) ++ ⟨#[32, 122]⟩ : ByteArray).data.toList = [120, 32] ++ oi.data.toList ++ [9, 121, 10] ++ oj.data.toList ++ [32, 122] by simp, tsi, tsj]; exact pt) l 9 R hR hRb v W hV hT)
  have E2 := Lib.hid (fun (h : ¬ bi < bj) (v : Value) (W : World) (hV : VarsAt W v l) (hT : Tabs W) => eval_g ((((⟨#[40, 120, 32]⟩ ++ oi) ++ ⟨#[32, 121, 41, 32]⟩) ++ oj) ++ ⟨#[32, 122]⟩) (big _ (by simp; omega)) t (by rw [show ((((⟨#[40, 120, 32]⟩ ++ oi) ++ ⟨#[32, 121, 41, 32]⟩) ++ oj) ++ ⟨#[32, 122]⟩ : ByteArray).data.toList = [40, 120, 32] ++ oi.data.toList ++ [32, 121, 41, 32] ++ oj.data.toList ++ [32, 122] by simp, tsi, tsj]; rw [if_neg h] at pB; exact pB) l 9 R hR hRb v W hV hT)
  have E3 := Lib.hid (fun (h : bi < bj) (v : Value) (W : World) (hV : VarsAt W v l) (hT : Tabs W) => eval_g ((((⟨#[120, 32]⟩ ++ oi) ++ ⟨#[32, 40, 121, 32]⟩) ++ oj) ++ ⟨#[32, 122, 41]⟩) (big _ (by simp; omega)) t (by rw [show ((((⟨#[120, 32]⟩ ++ oi) ++ ⟨#[32, 40, 121, 32]⟩) ++ oj) ++ ⟨#[32, 122, 41]⟩ : ByteArray).data.toList = [120, 32] ++ oi.data.toList ++ [32, 40, 121, 32] ++ oj.data.toList ++ [32, 122, 41] by simp, tsi, tsj]; rw [if_pos h] at pB; exact pB) l 9 R hR hRb v W hV hT)
  have HV3 : Hid (∀ (w : World) (e : TypeId) (B : Nat), B = w.heap.size → VarsAt (w.alloc (.cells #[.string ⟨#[120]⟩, .string sx, .string ⟨#[121]⟩, .string sy, .string ⟨#[122]⟩, .string sz] e)) (.slice (some ⟨B, 0, none⟩) 3 3) l) := by
    rw [hl]; exact fun w e B hB => .three w e _ sx _ sy _ sz (by omega) (by omega) (by omega) B hB
  have bx : (x == -9223372036854775808) = false := by simp; omega
  have bY : (y == -9223372036854775808) = false := by simp; omega
  have bz : (z == -9223372036854775808) = false := by simp; omega
  have ei : (ka : Int) % 18 = (i : Int) := by omega
  have ej : (kb : Int) % 18 = (j : Int) := by omega
  have hi0 : (i : Int) < 18 := by omega
  have hj0 : (j : Int) < 18 := by omega
  have hk0 : (0 : Int) ≤ (ka : Int) := by omega
  have hk1 : (ka : Int) ≤ 255 := by omega
  have hk2 : (0 : Int) ≤ (kb : Int) := by omega
  have hk3 : (kb : Int) ≤ 255 := by omega
  have HT := Lib.hid hT
  obtain ⟨rn, hrn⟩ : ∃ rn, resN R = rn := ⟨_, rfl⟩
  obtain ⟨re, hre⟩ : ∃ re, resE R = re := ⟨_, rfl⟩
  have HRE : Hid (re = 0 ∨ re = 22) := by
    unfold Hid; rw [← hre]
    cases R with
    | ok n => exact .inl rfl
    | zero => exact .inr rfl
    | bad => exact absurd rfl hRb
  rw [hrn, hre] at E1 E2 E3
  have HC := Lib.hid (And.intro ci1 (And.intro cj1 (And.intro ci2 cj2)))
  clear hcx hcy hcz nx ny nz hl vx vy vz hT hx0 hx1 hy0 hy1 hz0 hz1 hi hj ha hb hoi hoj hbi hbj ci1 ci2 ci3 cj1 cj2 cj3 tsi tsj hlsi hlsj big pt pu gt pB hR hRb hrn hre lx ly lz
  go_enter Tryz.func4, Tryz.ntmps4
  go_wp2_with fail
  refine HA.out.mono ?_; rintro e w1 ⟨rfl, b1⟩
  have B1 := Lib.hid b1; clear b1 HA
  go_wp2_with fail
  obtain ⟨ro, rb⟩ := rows_new w1 cellsO cellsB 9 3
  refine (HX.out _).mono ?_; rintro e w2 ⟨rfl, b2⟩
  have hb2 := ((B1.out.alloc B1.out.size (.cells cellsO.toArray 9)).alloc (by simp; have := B1.out.size; omega) (.cells cellsB.toArray 3))
  have B2 := Lib.hid (hb2.trans (b2.mono hb2.size))
  have HRO := Lib.hid (ro.below b2)
  have HRB := Lib.hid (rb.below b2)
  clear ro rb hb2 b2
  go_wp2_with fail
  refine (HY.out _).mono ?_; rintro e w3 ⟨rfl, b3⟩
  have B3 := Lib.hid (B2.out.trans (b3.mono B2.out.size))
  have HRO2 := Lib.hid (HRO.out.below b3)
  have HRB2 := Lib.hid (HRB.out.below b3)
  clear b3 HRO HRB
  go_wp2_with fail
  refine (HZ.out _).mono ?_; rintro e w4 ⟨rfl, b4⟩
  have B4 := Lib.hid (B3.out.trans (b4.mono B3.out.size))
  have HRO3 := Lib.hid ((HRO2.out.below b4).alloc (.cells #[.string ⟨#[120]⟩, .string sx, .string ⟨#[121]⟩, .string sy, .string ⟨#[122]⟩, .string sz] 25))
  have HRB3 := Lib.hid ((HRB2.out.below b4).alloc (.cells #[.string ⟨#[120]⟩, .string sx, .string ⟨#[121]⟩, .string sy, .string ⟨#[122]⟩, .string sz] 25))
  clear b4 HRO2 HRB2
  have B5 := Lib.hid (B4.out.alloc B4.out.size (.cells #[.string ⟨#[120]⟩, .string sx, .string ⟨#[121]⟩, .string sy, .string ⟨#[122]⟩, .string sz] 25))
  have L1 : LawE w1.heap.size (w1.heap.size + 1) i j oi oj bi bj (.slice (some ⟨w4.heap.size, 0, none⟩) 3 3) l w (w4.alloc (.cells #[.string ⟨#[120]⟩, .string sx, .string ⟨#[121]⟩, .string sy, .string ⟨#[122]⟩, .string sz] 25)) :=
    ⟨(HRO3.out.cell i).trans HC.out.1, (HRO3.out.cell j).trans HC.out.2.1, (HRB3.out.cell i).trans HC.out.2.2.1, (HRB3.out.cell j).trans HC.out.2.2.2, B5.out, HV3.out w4 25 w4.heap.size rfl⟩
  have LX := Lib.hid L1
  obtain ⟨⟨d1, d2, d3, d4, m1, m2⟩, -⟩ := L1.all
  clear L1
  by_cases hbb : bi < bj
  · go_wp2_with fail
    go_quiet (fail)
    go_wp2_with fail
    go_quiet (fail)
    go_wp2_with fail
    go_quiet (fail)
    go_wp2_with fail
    go_region_with ((go_at_call 8; refine (E1.out _ _ (LX.out.next (below_drewN (Below.refl _ _) _)).vars (HT.out.keep (LX.out.next (below_drewN (Below.refl _ _) _)).below)).mono ?_; rintro e wn ⟨rfl, hb⟩; have hn := (LX.out.next (below_drewN (Below.refl _ _) _)).next hb))
    all_goals
      have L9 := Lib.hid hn
      go_wp2_with fail
      refine (E3.out hbb _ _ L9.out.vars (HT.out.keep L9.out.below)).mono ?_; rintro e w9 ⟨rfl, b9⟩
      have B9 := Lib.hid (L9.out.below.trans (b9.mono L9.out.below.size))
      clear b9
      rcases HRE.out with rfl | rfl
      · go_wp2_with fail
        go_ret
        exact ⟨rfl, B9.out⟩
      · go_wp2_with fail
        go_ret
        exact ⟨rfl, B9.out⟩
  · go_wp2_with fail
    go_quiet (fail)
    go_wp2_with fail
    go_quiet (fail)
    go_wp2_with fail
    go_region_with ((go_at_call 8; refine (E1.out _ _ (LX.out.next (below_drewN (Below.refl _ _) _)).vars (HT.out.keep (LX.out.next (below_drewN (Below.refl _ _) _)).below)).mono ?_; rintro e wn ⟨rfl, hb⟩; have hn := (LX.out.next (below_drewN (Below.refl _ _) _)).next hb))
    all_goals
      have L9 := Lib.hid hn
      go_wp2_with fail
      refine (E2.out hbb _ _ L9.out.vars (HT.out.keep L9.out.below)).mono ?_; rintro e w9 ⟨rfl, b9⟩
      have B9 := Lib.hid (L9.out.below.trans (b9.mono L9.out.below.size))
      clear b9
      rcases HRE.out with rfl | rfl
      · go_wp2_with fail
        go_ret
        exact ⟨rfl, B9.out⟩
      · go_wp2_with fail
        go_ret
        exact ⟨rfl, B9.out⟩
theorem law_order (x : Int) (hx0 : -9223372036854775808 ≤ x) (hx1 : x ≤ 9223372036854775807) (y : Int) (hy0 : -9223372036854775808 ≤ y) (hy1 : y ≤ 9223372036854775807) (z : Int) (hz0 : -9223372036854775808 ≤ z) (hz1 : z ≤ 9223372036854775807) (a : Int) (ha0 : 0 ≤ a) (ha1 : a ≤ 255) (b : Int) (hb0 : 0 ≤ b) (hb1 : b ≤ 255) (w : World) (hT : Tabs w) :
    Calls Tryz.prog 4 #[.int .i64 x, .int .i64 y, .int .i64 z, .int .u8 a, .int .u8 b] w fun e w' => e = .returned (.bool true) ∧ Below w.heap.size w w' := by
  by_cases h : x = -9223372036854775808 ∨ y = -9223372036854775808 ∨ z = -9223372036854775808
  · exact order_out x y z a b h w hT
  · obtain ⟨ka, rfl⟩ : ∃ k : Nat, a = (k : Int) := ⟨a.toNat, by omega⟩
    obtain ⟨kb, rfl⟩ : ∃ k : Nat, b = (k : Int) := ⟨b.toNat, by omega⟩
    exact order_in x y z ka kb (by omega) hx1 (by omega) hy1 (by omega) hz1 (by omega) (by omega) w hT
end Go.Proofs.YtdfpijbngbfjaaaGreatDoor
