/-
  DERIVED. The walk of ExpandArith (printed by gen_arith.py).
-/
import Derived.Test.YtkmpbkhlcapbgaaGreatDoorZZw
import Derived.Test.YtkmpbkhlcapbgaaGreatDoorZ49
namespace Go.Proofs.YtkmpbkhlcapbgaaGreatDoor
open Go Go.RowKit
set_option maxRecDepth 100000 in
set_option maxHeartbeats 8000000 in
theorem arith_out_a (x y : Int) (h : ByteArray) (hx : x = -9223372036854775808) (w : World) (hT : Full w) :
    Calls Tryz.prog 7 #[.int .i64 x, .int .i64 y, .string h] w fun e w' => e = .returned (.bool true) ∧ Below w.heap.size w w' := by
  have HA := Lib.hid (awake_any w hT)
  clear hT
  subst hx
  go_enter Tryz.func7, Tryz.ntmps7
  go_wp2_with fail
  refine HA.out.mono ?_; rintro e w1 ⟨rfl, hb⟩
  have HB := Lib.hid hb
  clear hb
  go_wp2_with fail
  go_ret
  exact ⟨rfl, HB.out⟩
set_option maxRecDepth 100000 in
set_option maxHeartbeats 8000000 in
theorem arith_out_b (x y : Int) (h : ByteArray) (hx : x ≠ -9223372036854775808) (hy : y = -9223372036854775808) (w : World) (hT : Full w) :
    Calls Tryz.prog 7 #[.int .i64 x, .int .i64 y, .string h] w fun e w' => e = .returned (.bool true) ∧ Below w.heap.size w w' := by
  have HA := Lib.hid (awake_any w hT)
  clear hT
  subst hy
  have hx' : (x == -9223372036854775808) = false := by simpa using hx
  clear hx
  go_enter Tryz.func7, Tryz.ntmps7
  go_wp2_with fail
  refine HA.out.mono ?_; rintro e w1 ⟨rfl, hb⟩
  have HB := Lib.hid hb
  clear hb
  go_wp2_with fail
  go_ret
  exact ⟨rfl, HB.out⟩
set_option maxRecDepth 100000 in
set_option maxHeartbeats 8000000 in
theorem arith_out_c (x y : Int) (h : ByteArray) (hx : x ≠ -9223372036854775808) (hy : y ≠ -9223372036854775808) (hh : 30 < h.size) (w : World) (hT : Full w) :
    Calls Tryz.prog 7 #[.int .i64 x, .int .i64 y, .string h] w fun e w' => e = .returned (.bool true) ∧ Below w.heap.size w w' := by
  have HA := Lib.hid (awake_any w hT)
  clear hT
  have hx' : (x == -9223372036854775808) = false := by simpa using hx
  have hy' : (y == -9223372036854775808) = false := by simpa using hy
  have hh' : (30 : Int) < (h.size : Int) := by omega
  clear hx hy hh
  go_enter Tryz.func7, Tryz.ntmps7
  go_wp2_with fail
  refine HA.out.mono ?_; rintro e w1 ⟨rfl, hb⟩
  have HB := Lib.hid hb
  clear hb
  go_wp2_with fail
  go_ret
  exact ⟨rfl, HB.out⟩
set_option maxRecDepth 100000 in
set_option maxHeartbeats 8000000 in
theorem arith_out_d (x y : Int) (h : ByteArray) (hx : x ≠ -9223372036854775808) (hy : y ≠ -9223372036854775808) (hh : h = ⟨#[]⟩) (w : World) (hT : Full w) :
    Calls Tryz.prog 7 #[.int .i64 x, .int .i64 y, .string h] w fun e w' => e = .returned (.bool true) ∧ Below w.heap.size w w' := by
  have HA := Lib.hid (awake_any w hT)
  clear hT
  subst hh
  have hx' : (x == -9223372036854775808) = false := by simpa using hx
  have hy' : (y == -9223372036854775808) = false := by simpa using hy
  clear hx hy
  go_enter Tryz.func7, Tryz.ntmps7
  go_wp2_with fail
  refine HA.out.mono ?_; rintro e w1 ⟨rfl, hb⟩
  have HB := Lib.hid hb
  clear hb
  go_wp2_with fail
  go_ret
  exact ⟨rfl, HB.out⟩
theorem ne_nil5 (v : ByteArray) (h : v ≠ ⟨#[]⟩) : v.data.toList ≠ [] := fun e => h (by rw [← bytes_of v [] e])
set_option maxRecDepth 100000 in
set_option maxHeartbeats 16000000 in
theorem arith_main (x y : Int) (h : ByteArray) (x0 : -9223372036854775807 ≤ x) (x1 : x ≤ 9223372036854775807) (y0 : -9223372036854775807 ≤ y) (y1 : y ≤ 9223372036854775807) (hh : h.size ≤ 30) (hne : h ≠ ⟨#[]⟩) (w : World) (hT : Full w) :
    Calls Tryz.prog 7 #[.int .i64 x, .int .i64 y, .string h] w fun e w' => e = .returned (.bool true) ∧ Below w.heap.size w w' := by
  have HA := Lib.hid (awake_any w hT)
  have HT := Lib.hid hT
  have HF := Lib.hid hT.lt
  have hx' : (x == -9223372036854775808) = false := by simp; omega
  have hy' : (y == -9223372036854775808) = false := by simp; omega
  have hh' : ¬ (30 : Int) < (h.size : Int) := by omega
  have hn' : (h.toList == []) = false := by
    have := ne_nil5 h hne
    rw [Lib.toList_data]; simpa using this
  have hz := trim_sizes h hh 2 (by omega)
  have HR := Lib.hid (And.intro x0 (And.intro x1 (And.intro y0 (And.intro y1 hh))))
  obtain ⟨sx, hsx⟩ : ∃ sx : ByteArray, ⟨(numL x).toArray⟩ = sx := ⟨_, rfl⟩
  obtain ⟨sy, hsy⟩ : ∃ sy : ByteArray, ⟨(numL y).toArray⟩ = sy := ⟨_, rfl⟩
  have HSX := Lib.hid (show sx.data.toList = numL x by rw [← hsx])
  have HSY := Lib.hid (show sy.data.toList = numL y by rw [← hsy])
  have HNX : Hid (∀ w, Calls Tryz.prog 17 #[.int .i64 x] w fun e w' => e = .returned (.string sx) ∧ Below w.heap.size w w') := by rw [← hsx]; exact num5_ok x (by omega) x1
  have HNY : Hid (∀ w, Calls Tryz.prog 17 #[.int .i64 y] w fun e w' => e = .returned (.string sy) ∧ Below w.heap.size w w') := by rw [← hsy]; exact num5_ok y (by omega) y1
  obtain ⟨z, hzz⟩ : ∃ z, wrap64 (x + y) = z := ⟨_, rfl⟩
  obtain ⟨TS, hTS⟩ : ∃ TS : ByteArray, ⟨(numL z).toArray⟩ = TS := ⟨_, rfl⟩
  have HTS : Hid (TS.data.toList = numL (wrap64 (x + y))) := by unfold Hid; rw [← hTS, ← hzz]
  have hwr := wrap_range (x + y)
  have HNZ : Hid (∀ w, Calls Tryz.prog 17 #[.int .i64 z] w fun e w' => e = .returned (.string TS) ∧ Below w.heap.size w w') := by rw [← hTS, ← hzz]; exact num5_ok _ hwr.1 hwr.2
  obtain ⟨TB, hTB⟩ : ∃ TB : ByteArray, (if y < x then ⟨#[49]⟩ else ⟨#[48]⟩) = TB := ⟨_, rfl⟩
  have HTB : Hid (TB.data.toList = if y < x then [49] else [48]) := by unfold Hid; rw [← hTB]; split <;> rfl
  have HTC := Lib.hid hTB
  clear hT hh hne hsx hsy hTS hTB hwr x0 x1 y0 y1
  go_enter Tryz.func7, Tryz.ntmps7
  go_wp2_with fail
  refine HA.out.mono ?_; rintro e w1 ⟨rfl, hb⟩
  have HB := Lib.hid hb
  clear hb
  go_wp2_with fail
  refine (HNX.out _).mono ?_; rintro e wa ⟨rfl, hb⟩
  have HBA := Lib.hid (HB.out.trans (hb.mono HB.out.size))
  clear hb
  go_wp2_with fail
  refine (def_set sx _).mono ?_; rintro r w2 ⟨va1, nv1, cv1, rfl, hE, hb2⟩
  have HB2 : Hid (Below w.heap.size w w2) := HBA.out.trans (hb2.mono HBA.out.size)
  have HE2 : Hid (EnvA w2 (.slice va1 nv1 cv1) (.slice none 0 0) (envD (some sx.data.toList))) := hE.keep (Nat.le_refl _) fun b q _ => ⟨rfl, trivial⟩
  clear hE hb2
  go_wp2_with fail
  refine (HNY.out _).mono ?_; rintro e wb ⟨rfl, hb⟩
  have HBB := Lib.hid (HB2.out.trans (hb.mono HB2.out.size))
  have HS := Lib.hid (second_set sx sy va1 nv1 cv1 none 0 0 wb (HE2.out.below hb))
  clear hb
  go_wp2_with fail
  refine HS.out.mono ?_; rintro r w3 ⟨va2, nv2, cv2, rfl, hE, hb3⟩
  have HB3 := Lib.hid (HBB.out.trans (hb3.mono HBB.out.size))
  have HS3 := Lib.hid (third_set sx sy h va2 nv2 cv2 none 0 0 w3 hE)
  clear hE hb3 HS
  go_wp2_with fail
  refine HS3.out.mono ?_; rintro r w4 ⟨va, nv, cv, rfl, hE, hb4⟩
  have HB4 := Lib.hid (HB3.out.trans (hb4.mono HB3.out.size))
  have HE4 : Hid (EnvA w4 (.slice va nv cv) (.slice none 0 0) (envA (numL x) (numL y) h.data.toList)) := by rw [← HSX.out, ← HSY.out]; exact hE
  clear hE hb4 HS3
  go_wp2_with fail
  obtain ⟨W1, hW1⟩ : ∃ W1, w4.alloc (.cells #[.slice va nv cv, .slice none 0 0, .int .i64 0, .string ⟨#[]⟩] 28) = W1 := ⟨_, rfl⟩
  have r1 : RowIs W1 w4.heap.size 28 [.slice va nv cv, .slice none 0 0, .int .i64 0, .string ⟨#[]⟩] := by rw [← hW1]; exact RowIs.new w4 _ _
  have B1 : Below w.heap.size w W1 := by rw [← hW1]; exact HB4.out.alloc HB4.out.size _
  have E1 : EnvA W1 (.slice va nv cv) (.slice none 0 0) (envA (numL x) (numL y) h.data.toList) := by rw [← hW1]; exact HE4.out.below ((Below.refl _ _).alloc (Nat.le_refl _) _)
  rw [hW1]
  have HR1 := Lib.hid r1
  have HB1 := Lib.hid B1
  have HE1 := Lib.hid E1
  clear r1 B1 E1 hW1
  have HC2 : Hid (Calls Tryz.prog 14 #[env0 va nv cv none 0 0 ⟨#[]⟩, .string ⟨#[36, 40, 40, 120, 43, 36, 121, 41, 41]⟩] W1 (TextRes TS 0 ⟨#[]⟩ (envA (numL x) (numL y) h.data.toList) W1)) := call_ra x y h HR.out.1 HR.out.2.1 HR.out.2.2.1 HR.out.2.2.2.1 HR.out.2.2.2.2 va nv cv none 0 0 W1 HE1.out (HT.out.below HF.out HB1.out) TS HTS.out
  refine HC2.out.mono ?_; rintro x_ w2 ⟨va2, nv2, cv2, aa2, na2, ca2, rfl, hE2, hb2⟩
  obtain ⟨c0, c1, c2, c3, f0, f1, f2, f3, lt1⟩ := four_facts (HR1.out.below hb2)
  clear HC2
  go_wp2_with fail
  obtain ⟨W2, hW2⟩ : ∃ W2, (w2.alloc (.cells #[.slice va2 nv2 cv2, .slice aa2 na2 ca2, .int .i64 0, .string ⟨#[]⟩] 28)).alloc (.cells #[.int .i64 0, .string ⟨#[]⟩] 33) = W2 := ⟨_, rfl⟩
  obtain ⟨re2, rf2, bb2⟩ := two_boxes [.slice va2 nv2 cv2, .slice aa2 na2 ca2, .int .i64 0, .string ⟨#[]⟩] [.int .i64 0, .string ⟨#[]⟩] 28 33 hW2
  rw [hW2]
  clear hW2
  have b2 : Below W1.heap.size W1 W2 := hb2.trans (bb2.mono hb2.size)
  have bX2 : Below W1.heap.size W1 W2 := b2
  have HX2 := Lib.hid (And.intro b2 (And.intro bX2 rf2))
  clear b2 bX2 rf2 re2 bb2 hb2 hE2 c0 c1 c2 c3 f0 f1 f2 f3 lt1
  have HC3 : Hid (Calls Tryz.prog 14 #[env0 va nv cv none 0 0 ⟨#[]⟩, .string ⟨#[36, 40, 40, 120, 62, 121, 41, 41]⟩] W2 (TextRes TB 0 ⟨#[]⟩ (envA (numL x) (numL y) h.data.toList) W2)) := call_rb x y h HR.out.1 HR.out.2.1 HR.out.2.2.1 HR.out.2.2.2.1 HR.out.2.2.2.2 va nv cv none 0 0 W2 (HE1.out.below HX2.out.2.1) (HT.out.below HF.out (HB1.out.trans (HX2.out.2.1.mono HB1.out.size))) TB HTB.out
  refine HC3.out.mono ?_; rintro x_ w3 ⟨va3, nv3, cv3, aa3, na3, ca3, rfl, hE3, hb3⟩
  obtain ⟨c0, c1, c2, c3, f0, f1, f2, f3, lt1⟩ := four_facts ((HR1.out.below HX2.out.2.1).below hb3)
  clear HC3
  go_wp2_with fail
  obtain ⟨W3, hW3⟩ : ∃ W3, (w3.alloc (.cells #[.slice va3 nv3 cv3, .slice aa3 na3 ca3, .int .i64 0, .string ⟨#[]⟩] 28)).alloc (.cells #[.int .i64 0, .string ⟨#[]⟩] 33) = W3 := ⟨_, rfl⟩
  obtain ⟨re3, rf3, bb3⟩ := two_boxes [.slice va3 nv3 cv3, .slice aa3 na3 ca3, .int .i64 0, .string ⟨#[]⟩] [.int .i64 0, .string ⟨#[]⟩] 28 33 hW3
  rw [hW3]
  clear hW3
  have b3 : Below W2.heap.size W2 W3 := hb3.trans (bb3.mono hb3.size)
  have bX3 : Below W1.heap.size W1 W3 := HX2.out.2.1.trans (b3.mono HX2.out.2.1.size)
  have HX3 := Lib.hid (And.intro b3 (And.intro bX3 rf3))
  clear b3 bX3 rf3 re3 bb3 hb3 hE3 c0 c1 c2 c3 f0 f1 f2 f3 lt1
  have HC4 : Hid (Calls Tryz.prog 14 #[env0 va nv cv none 0 0 ⟨#[]⟩, .string ⟨#[126, 47, 97]⟩] W3 (TextRes (h ++ ⟨#[47, 97]⟩) 0 ⟨#[]⟩ (envA (numL x) (numL y) h.data.toList) W3)) := call_rc (numL x) (numL y) h HR.out.2.2.2.2 va nv cv none 0 0 W3 (HE1.out.below HX3.out.2.1) (HT.out.below HF.out (HB1.out.trans (HX3.out.2.1.mono HB1.out.size)))
  refine HC4.out.mono ?_; rintro x_ w4 ⟨va4, nv4, cv4, aa4, na4, ca4, rfl, hE4, hb4⟩
  obtain ⟨c0, c1, c2, c3, f0, f1, f2, f3, lt1⟩ := four_facts ((HR1.out.below HX3.out.2.1).below hb4)
  clear HC4
  go_wp2_with fail
  obtain ⟨W4, hW4⟩ : ∃ W4, (w4.alloc (.cells #[.slice va4 nv4 cv4, .slice aa4 na4 ca4, .int .i64 0, .string ⟨#[]⟩] 28)).alloc (.cells #[.int .i64 0, .string ⟨#[]⟩] 33) = W4 := ⟨_, rfl⟩
  obtain ⟨re4, rf4, bb4⟩ := two_boxes [.slice va4 nv4 cv4, .slice aa4 na4 ca4, .int .i64 0, .string ⟨#[]⟩] [.int .i64 0, .string ⟨#[]⟩] 28 33 hW4
  rw [hW4]
  clear hW4
  have b4 : Below W3.heap.size W3 W4 := hb4.trans (bb4.mono hb4.size)
  have bX4 : Below W1.heap.size W1 W4 := HX3.out.2.1.trans (b4.mono HX3.out.2.1.size)
  have HX4 := Lib.hid (And.intro b4 (And.intro bX4 rf4))
  clear b4 bX4 rf4 re4 bb4 hb4 hE4 c0 c1 c2 c3 f0 f1 f2 f3 lt1
  have HC5 : Hid (Calls Tryz.prog 14 #[env0 va nv cv none 0 0 ⟨#[]⟩, .string ⟨#[97, 126, 47, 39, 126, 39]⟩] W4 (TextRes ⟨#[97, 126, 47, 126]⟩ 0 ⟨#[]⟩ (envA (numL x) (numL y) h.data.toList) W4)) := call_rd (numL x) (numL y) h va nv cv none 0 0 W4 (HE1.out.below HX4.out.2.1) (HT.out.below HF.out (HB1.out.trans (HX4.out.2.1.mono HB1.out.size)))
  refine HC5.out.mono ?_; rintro x_ w5 ⟨va5, nv5, cv5, aa5, na5, ca5, rfl, hE5, hb5⟩
  obtain ⟨c0, c1, c2, c3, f0, f1, f2, f3, lt1⟩ := four_facts ((HR1.out.below HX4.out.2.1).below hb5)
  clear HC5
  go_wp2_with fail
  obtain ⟨W5, hW5⟩ : ∃ W5, (w5.alloc (.cells #[.slice va5 nv5 cv5, .slice aa5 na5 ca5, .int .i64 0, .string ⟨#[]⟩] 28)).alloc (.cells #[.int .i64 0, .string ⟨#[]⟩] 33) = W5 := ⟨_, rfl⟩
  obtain ⟨re5, rf5, bb5⟩ := two_boxes [.slice va5 nv5 cv5, .slice aa5 na5 ca5, .int .i64 0, .string ⟨#[]⟩] [.int .i64 0, .string ⟨#[]⟩] 28 33 hW5
  rw [hW5]
  clear hW5
  have b5 : Below W4.heap.size W4 W5 := hb5.trans (bb5.mono hb5.size)
  have bX5 : Below W1.heap.size W1 W5 := HX4.out.2.1.trans (b5.mono HX4.out.2.1.size)
  have HX5 := Lib.hid (And.intro b5 (And.intro bX5 rf5))
  clear b5 bX5 rf5 re5 bb5 hb5 hE5 c0 c1 c2 c3 f0 f1 f2 f3 lt1
  have HU := Lib.hid (home_unset (numL x) (numL y) h.data.toList va nv cv none 0 0 W5 (HE1.out.below HX5.out.2.1))
  refine HU.out.mono ?_; rintro r_ wu ⟨vu, nu, cu, rfl, hEu, hbu⟩
  have HBU := Lib.hid hbu
  have HC6 : Hid (Calls Tryz.prog 14 #[env0 vu nu cu none 0 0 ⟨#[]⟩, .string ⟨#[126]⟩] wu (TextRes ⟨#[126]⟩ 0 ⟨#[]⟩ ((envA (numL x) (numL y) h.data.toList).unset [72, 79, 77, 69]) wu)) := call_rk (numL x) (numL y) h vu nu cu none 0 0 wu hEu (HT.out.below HF.out (HB1.out.trans ((HX5.out.2.1.trans (hbu.mono HX5.out.2.1.size)).mono HB1.out.size)))
  clear hEu hbu HU
  go_wp2_with fail
  refine HC6.out.mono ?_; rintro x_ w6 ⟨va6, nv6, cv6, aa6, na6, ca6, rfl, hE6, hb6u⟩
  have hb6 : Below W5.heap.size W5 w6 := HBU.out.trans (hb6u.mono HBU.out.size)
  clear hb6u HBU
  obtain ⟨c0, c1, c2, c3, f0, f1, f2, f3, lt1⟩ := four_facts ((HR1.out.below HX5.out.2.1).below hb6)
  clear HC6
  go_wp2_with fail
  obtain ⟨W6, hW6⟩ : ∃ W6, (w6.alloc (.cells #[.slice va6 nv6 cv6, .slice aa6 na6 ca6, .int .i64 0, .string ⟨#[]⟩] 28)).alloc (.cells #[.int .i64 0, .string ⟨#[]⟩] 33) = W6 := ⟨_, rfl⟩
  obtain ⟨re6, rf6, bb6⟩ := two_boxes [.slice va6 nv6 cv6, .slice aa6 na6 ca6, .int .i64 0, .string ⟨#[]⟩] [.int .i64 0, .string ⟨#[]⟩] 28 33 hW6
  rw [hW6]
  clear hW6
  have b6 : Below W5.heap.size W5 W6 := hb6.trans (bb6.mono hb6.size)
  have bX6 : Below W1.heap.size W1 W6 := HX5.out.2.1.trans (b6.mono HX5.out.2.1.size)
  have HX6 := Lib.hid (And.intro b6 (And.intro bX6 rf6))
  clear b6 bX6 rf6 re6 bb6 hb6 hE6 c0 c1 c2 c3 f0 f1 f2 f3 lt1
  have HC7 : Hid (Calls Tryz.prog 12 #[env0 va nv cv none 0 0 ⟨#[]⟩, .string ⟨#[126]⟩] W6 fun r w' => ∃ q c va2 nv2 cv2 aa2 na2 ca2, r = .returned (.tuple #[.slice (some ⟨q, 0, none⟩) 1 c, env0 va2 nv2 cv2 aa2 na2 ca2 ⟨#[]⟩, .agg #[.int .i64 0, .string ⟨#[]⟩]]) ∧ w'.cell? ⟨q, 0, none⟩ = some (.string h) ∧ Below W6.heap.size W6 w') := call_rm (numL x) (numL y) h HR.out.2.2.2.2 va nv cv none 0 0 W6 (HE1.out.below HX6.out.2.1) (HT.out.below HF.out (HB1.out.trans (HX6.out.2.1.mono HB1.out.size)))
  refine HC7.out.mono ?_; rintro x_ w7 ⟨qf, cf, va7, nv7, cv7, aa7, na7, ca7, rfl, hq7, hb7⟩
  have HQ7 := Lib.hid hq7
  clear hq7
  obtain ⟨c0, c1, c2, c3, f0, f1, f2, f3, lt1⟩ := four_facts ((HR1.out.below HX6.out.2.1).below hb7)
  clear HC7
  go_upto_region 14 with fail
  obtain ⟨W7, hW7⟩ : ∃ W7, (w7.alloc (.cells #[.slice va7 nv7 cv7, .slice aa7 na7 ca7, .int .i64 0, .string ⟨#[]⟩] 28)).alloc (.cells #[.int .i64 0, .string ⟨#[]⟩] 33) = W7 := ⟨_, rfl⟩
  obtain ⟨re7, rf7, bb7⟩ := two_boxes [.slice va7 nv7 cv7, .slice aa7 na7 ca7, .int .i64 0, .string ⟨#[]⟩] [.int .i64 0, .string ⟨#[]⟩] 28 33 hW7
  have HQ8 : Hid (W7.cell? ⟨qf, 0, none⟩ = some (.string h)) := (bb7.cell (block_lt_of_cell HQ7.out)).trans HQ7.out
  rw [hW7]
  clear hW7 HQ7
  have b7 : Below W6.heap.size W6 W7 := hb7.trans (bb7.mono hb7.size)
  have bX7 : Below W1.heap.size W1 W7 := HX6.out.2.1.trans (b7.mono HX6.out.2.1.size)
  have HX7 := Lib.hid (And.intro b7 (And.intro bX7 rf7))
  clear b7 bX7 rf7 re7 bb7 hb7 c0 c1 c2 c3 f0 f1 f2 f3 lt1
  have b67 := HX7.out.1
  have b57 := HX6.out.1.trans (b67.mono HX6.out.1.size)
  have b47 := HX5.out.1.trans (b57.mono HX5.out.1.size)
  have b37 := HX4.out.1.trans (b47.mono HX4.out.1.size)
  have b27 := HX3.out.1.trans (b37.mono HX3.out.1.size)
  obtain ⟨i20, i21, i22, i23, i24⟩ := two_facts (HX2.out.2.2.below b27)
  obtain ⟨i30, i31, i32, i33, i34⟩ := two_facts (HX3.out.2.2.below b37)
  obtain ⟨i40, i41, i42, i43, i44⟩ := two_facts (HX4.out.2.2.below b47)
  obtain ⟨i50, i51, i52, i53, i54⟩ := two_facts (HX5.out.2.2.below b57)
  obtain ⟨i60, i61, i62, i63, i64⟩ := two_facts (HX6.out.2.2.below b67)
  obtain ⟨i70, i71, i72, i73, i74⟩ := two_facts HX7.out.2.2
  have HBF : Hid (Below w.heap.size w W7) := HB1.out.trans (HX7.out.2.1.mono HB1.out.size)
  have hc2 := HTC.out
  clear b67 b57 b47 b37 b27 HX2 HX3 HX4 HX5 HX6 HX7 HR1 HE1 HTB HTC
  by_cases hc : y < x
  · rw [if_pos hc] at hc2
    subst hc2
    go_wp2_with fail
    refine (HNZ.out _).mono ?_; rintro x_ w8 ⟨rfl, hb8⟩
    have hq9 : w8.cell? ⟨qf, 0, none⟩ = some (.string h) := (hb8.cell (block_lt_of_cell HQ8.out)).trans HQ8.out
    have HB8 := Lib.hid (HBF.out.trans (hb8.mono HBF.out.size))
    clear hb8
    go_wp2_with fail
    go_ret
    exact ⟨rfl, HB8.out⟩
  · rw [if_neg hc] at hc2
    subst hc2
    go_wp2_with fail
    refine (HNZ.out _).mono ?_; rintro x_ w8 ⟨rfl, hb8⟩
    have hq9 : w8.cell? ⟨qf, 0, none⟩ = some (.string h) := (hb8.cell (block_lt_of_cell HQ8.out)).trans HQ8.out
    have HB8 := Lib.hid (HBF.out.trans (hb8.mono HBF.out.size))
    clear hb8
    go_wp2_with fail
    go_ret
    exact ⟨rfl, HB8.out⟩
theorem law_arith (x : Int) (x0 : -9223372036854775808 ≤ x) (x1 : x ≤ 9223372036854775807) (y : Int) (y0 : -9223372036854775808 ≤ y) (y1 : y ≤ 9223372036854775807) (h : ByteArray) (_hh : h.size ≤ maxLen) (w : World) (hT : Full w) :
    Calls Tryz.prog 7 #[.int .i64 x, .int .i64 y, .string h] w fun e w' => e = .returned (.bool true) ∧ Below w.heap.size w w' := by
  by_cases hx : x = -9223372036854775808
  · exact arith_out_a x y h hx w hT
  · by_cases hy : y = -9223372036854775808
    · exact arith_out_b x y h hx hy w hT
    · rcases Nat.lt_or_ge 30 h.size with hh | hh
      · exact arith_out_c x y h hx hy hh w hT
      · by_cases hn : h = ⟨#[]⟩
        · exact arith_out_d x y h hx hy hn w hT
        · exact arith_main x y h (by omega) x1 (by omega) y1 hh hn w hT
end Go.Proofs.YtkmpbkhlcapbgaaGreatDoor
