/-
  DERIVED. The walk of ExpandTrims, where nothing is too long and no quote is in the word (printed by gen_trims.py).
-/
import Derived.Test.YtkmpbkhlcapbgaaGreatDoorZ49
namespace Go.Proofs.YtkmpbkhlcapbgaaGreatDoor
open Go Go.RowKit
set_option maxRecDepth 100000 in
set_option maxHeartbeats 16000000 in
theorem trims_main (v w0 : ByteArray) (h1 : v.size ≤ 30) (h2 : w0.size ≤ 30) (hq : (39 : UInt8) ∉ w0.data.toList) (w : World) (hT : Full w) :
    Calls Tryz.prog 5 #[.string v, .string w0] w fun e w' => e = .returned (.bool true) ∧ Below w.heap.size w w' := by
  have HA := Lib.hid (awake_any w hT)
  have HT := Lib.hid hT
  have HF := Lib.hid hT.lt
  have h1' : ¬ (30 : Int) < (v.size : Int) := by omega
  have h2' : ¬ (30 : Int) < (w0.size : Int) := by omega
  have hz := trim_sizes w0 h2
  have HQ := Lib.hid hq
  have H12 := Lib.hid (And.intro h1 h2)
  obtain ⟨T1, hT1⟩ : ∃ T1, Gb.cutF w0 (Gb.qm w0.size) v true false = T1 := ⟨_, rfl⟩
  obtain ⟨T2, hT2⟩ : ∃ T2, Gb.cutF w0 (Gb.qm w0.size) v false false = T2 := ⟨_, rfl⟩
  obtain ⟨dg, hdg⟩ : ∃ dg : ByteArray, ⟨(Lib.decDigits v.size).toArray⟩ = dg := ⟨_, rfl⟩
  obtain ⟨bd, hbd⟩ : ∃ bd : ByteArray, ⟨badT.toArray⟩ = bd := ⟨_, rfl⟩
  have HN := Lib.hid (len_read v dg h1 hdg)
  have HT1 := Lib.hid hT1
  have HT2 := Lib.hid hT2
  have HDG := Lib.hid hdg
  have HBD := Lib.hid hbd
  have HWB := Lib.hid (want_both v w0 T1 T2 hT1 hT2)
  have hs1 := hz 5 (by omega)
  have hs2 := hz 7 (by omega)
  clear hT hq hz h1 h2 hT1 hT2 hdg hbd
  go_enter Tryz.func5, Tryz.ntmps5
  go_wp2_with fail
  refine HA.out.mono ?_; rintro e w1 ⟨rfl, hb⟩
  have HB := Lib.hid hb
  clear hb
  go_wp2_with fail
  go_loopg [6] w0.size (fun g s6 wx => wx = w1 ∧ ∃ i : Nat, i + g = w0.size ∧ s6 = .int .i64 i)
  case atStart => exact ⟨rfl, 0, by omega, rfl⟩
  case round =>
    obtain ⟨rfl, i, hig, rfl⟩ := hrel
    cases gk with
    | succ g =>
      have hi : i < w0.size := by omega
      have hc1 : w0[i].toNat ≠ 39 := fun e => HQ.out (by
        have : w0[i] = 39 := UInt8.toNat_inj.1 (e.trans rfl)
        rw [← this]
        exact List.getElem_mem (by simpa using hi))
      have hc2 : ((w0[i].toNat : Int) == 39) = false := by simp; omega
      go_wp2_with fail
      go_roundg g
      case measure => omega
      case rel => exact ⟨rfl, i + 1, by omega, rfl⟩
    | zero =>
      obtain rfl : i = w0.size := by omega
      go_wp2_with fail
      refine (def_set v _).mono ?_; rintro r w2 ⟨va1, nv1, cv1, rfl, hE, hb2⟩
      have HS := Lib.hid (second_set v w0 va1 nv1 cv1 none 0 0 w2 (hE.keep (Nat.le_refl _) fun b q _ => ⟨rfl, trivial⟩))
      have HB2 : Hid (Below w.heap.size w w2) := HB.out.trans (hb2.mono HB.out.size)
      clear hE hb2
      go_wp2_with fail
      refine HS.out.mono ?_; rintro r w3 ⟨va, nv, cv, rfl, hE, hb3⟩
      have HB3 := Lib.hid (HB2.out.trans (hb3.mono HB2.out.size))
      have HE3 := Lib.hid hE
      clear hE hb3 HS
      go_wp2_with fail
      obtain ⟨W1, hW1⟩ : ∃ W1, w3.alloc (.cells #[.slice va nv cv, .slice none 0 0, .int .i64 0, .string ⟨#[]⟩] 28) = W1 := ⟨_, rfl⟩
      have r1 : RowIs W1 w3.heap.size 28 [.slice va nv cv, .slice none 0 0, .int .i64 0, .string ⟨#[]⟩] := by rw [← hW1]; exact RowIs.new w3 _ _
      have B1 : Below w.heap.size w W1 := by rw [← hW1]; exact HB3.out.alloc HB3.out.size _
      have E1 : EnvA W1 (.slice va nv cv) (.slice none 0 0) (envT v.data.toList w0.data.toList) := by rw [← hW1]; exact HE3.out.below ((Below.refl _ _).alloc (Nat.le_refl _) _)
      rw [hW1]
      have HR1 := Lib.hid r1
      have HB1 := Lib.hid B1
      have HE1 := Lib.hid E1
      clear r1 B1 E1 hW1
      have HC2 : Hid (Calls Tryz.prog 14 #[env0 va nv cv none 0 0 ⟨#[]⟩, .string (⟨#[36, 123, 120, 37, 39]⟩ ++ w0 ++ ⟨#[39, 125]⟩)] W1 (TextRes T1 0 ⟨#[]⟩ (envT v.data.toList w0.data.toList) W1)) := call_a v w0 H12.out.1 H12.out.2 va nv cv none 0 0 W1 HE1.out (HT.out.below HF.out HB1.out) HQ.out T1 HT1.out
      refine HC2.out.mono ?_; rintro x w2 ⟨va2, nv2, cv2, aa2, na2, ca2, rfl, hE2, hb2⟩
      obtain ⟨c0, c1, c2, c3, f0, f1, f2, f3, lt1⟩ := four_facts (HR1.out.below hb2)
      clear HC2
      go_wp2_with fail
      obtain ⟨W2, hW2⟩ : ∃ W2, (w2.alloc (.cells #[.slice va2 nv2 cv2, .slice aa2 na2 ca2, .int .i64 0, .string ⟨#[]⟩] 28)).alloc (.cells #[.int .i64 0, .string ⟨#[]⟩] 33) = W2 := ⟨_, rfl⟩
      obtain ⟨re2, rf2, bb2⟩ := two_boxes [.slice va2 nv2 cv2, .slice aa2 na2 ca2, .int .i64 0, .string ⟨#[]⟩] [.int .i64 0, .string ⟨#[]⟩] 28 33 hW2
      rw [hW2]
      clear hW2
      have b2 : Below W1.heap.size W1 W2 := hb2.trans (bb2.mono hb2.size)
      have bX2 : Below W1.heap.size W1 W2 := b2
      have HX2 := Lib.hid (And.intro b2 (And.intro bX2 rf2))
      clear b2 bX2 rf2 re2 bb2 hb2 hE2 c0 c1 c2 c3 f0 f1 f2 f3 lt1
      have HC3 : Hid (Calls Tryz.prog 14 #[env0 va nv cv none 0 0 ⟨#[]⟩, .string ⟨#[36, 123, 120, 35, 34, 36, 121, 34, 125]⟩] W2 (TextRes T2 0 ⟨#[]⟩ (envT v.data.toList w0.data.toList) W2)) := call_b v w0 H12.out.1 H12.out.2 va nv cv none 0 0 W2 (HE1.out.below HX2.out.2.1) (HT.out.below HF.out (HB1.out.trans (HX2.out.2.1.mono HB1.out.size))) T2 HT2.out
      refine HC3.out.mono ?_; rintro x w3 ⟨va3, nv3, cv3, aa3, na3, ca3, rfl, hE3, hb3⟩
      obtain ⟨c0, c1, c2, c3, f0, f1, f2, f3, lt1⟩ := four_facts ((HR1.out.below HX2.out.2.1).below hb3)
      clear HC3
      go_wp2_with fail
      obtain ⟨W3, hW3⟩ : ∃ W3, (w3.alloc (.cells #[.slice va3 nv3 cv3, .slice aa3 na3 ca3, .int .i64 0, .string ⟨#[]⟩] 28)).alloc (.cells #[.int .i64 0, .string ⟨#[]⟩] 33) = W3 := ⟨_, rfl⟩
      obtain ⟨re3, rf3, bb3⟩ := two_boxes [.slice va3 nv3 cv3, .slice aa3 na3 ca3, .int .i64 0, .string ⟨#[]⟩] [.int .i64 0, .string ⟨#[]⟩] 28 33 hW3
      rw [hW3]
      clear hW3
      have b3 : Below W2.heap.size W2 W3 := hb3.trans (bb3.mono hb3.size)
      have bX3 : Below W1.heap.size W1 W3 := HX2.out.2.1.trans (b3.mono HX2.out.2.1.size)
      have HX3 := Lib.hid (And.intro b3 (And.intro bX3 rf3))
      clear b3 bX3 rf3 re3 bb3 hb3 hE3 c0 c1 c2 c3 f0 f1 f2 f3 lt1
      have HC4 : Hid (Calls Tryz.prog 14 #[env0 va nv cv none 0 0 ⟨#[]⟩, .string ⟨#[36, 123, 120, 35, 35, 42, 125]⟩] W3 (TextRes ⟨#[]⟩ 0 ⟨#[]⟩ (envT v.data.toList w0.data.toList) W3)) := call_c v w0 H12.out.1 va nv cv none 0 0 W3 (HE1.out.below HX3.out.2.1) (HT.out.below HF.out (HB1.out.trans (HX3.out.2.1.mono HB1.out.size)))
      refine HC4.out.mono ?_; rintro x w4 ⟨va4, nv4, cv4, aa4, na4, ca4, rfl, hE4, hb4⟩
      obtain ⟨c0, c1, c2, c3, f0, f1, f2, f3, lt1⟩ := four_facts ((HR1.out.below HX3.out.2.1).below hb4)
      clear HC4
      go_wp2_with fail
      obtain ⟨W4, hW4⟩ : ∃ W4, (w4.alloc (.cells #[.slice va4 nv4 cv4, .slice aa4 na4 ca4, .int .i64 0, .string ⟨#[]⟩] 28)).alloc (.cells #[.int .i64 0, .string ⟨#[]⟩] 33) = W4 := ⟨_, rfl⟩
      obtain ⟨re4, rf4, bb4⟩ := two_boxes [.slice va4 nv4 cv4, .slice aa4 na4 ca4, .int .i64 0, .string ⟨#[]⟩] [.int .i64 0, .string ⟨#[]⟩] 28 33 hW4
      rw [hW4]
      clear hW4
      have b4 : Below W3.heap.size W3 W4 := hb4.trans (bb4.mono hb4.size)
      have bX4 : Below W1.heap.size W1 W4 := HX3.out.2.1.trans (b4.mono HX3.out.2.1.size)
      have HX4 := Lib.hid (And.intro b4 (And.intro bX4 rf4))
      clear b4 bX4 rf4 re4 bb4 hb4 hE4 c0 c1 c2 c3 f0 f1 f2 f3 lt1
      have HC5 : Hid (Calls Tryz.prog 14 #[env0 va nv cv none 0 0 ⟨#[]⟩, .string ⟨#[36, 123, 120, 37, 42, 125]⟩] W4 (TextRes v 0 ⟨#[]⟩ (envT v.data.toList w0.data.toList) W4)) := call_d v w0 H12.out.1 va nv cv none 0 0 W4 (HE1.out.below HX4.out.2.1) (HT.out.below HF.out (HB1.out.trans (HX4.out.2.1.mono HB1.out.size)))
      refine HC5.out.mono ?_; rintro x w5 ⟨va5, nv5, cv5, aa5, na5, ca5, rfl, hE5, hb5⟩
      obtain ⟨c0, c1, c2, c3, f0, f1, f2, f3, lt1⟩ := four_facts ((HR1.out.below HX4.out.2.1).below hb5)
      clear HC5
      go_wp2_with fail
      obtain ⟨W5, hW5⟩ : ∃ W5, (w5.alloc (.cells #[.slice va5 nv5 cv5, .slice aa5 na5 ca5, .int .i64 0, .string ⟨#[]⟩] 28)).alloc (.cells #[.int .i64 0, .string ⟨#[]⟩] 33) = W5 := ⟨_, rfl⟩
      obtain ⟨re5, rf5, bb5⟩ := two_boxes [.slice va5 nv5 cv5, .slice aa5 na5 ca5, .int .i64 0, .string ⟨#[]⟩] [.int .i64 0, .string ⟨#[]⟩] 28 33 hW5
      rw [hW5]
      clear hW5
      have b5 : Below W4.heap.size W4 W5 := hb5.trans (bb5.mono hb5.size)
      have bX5 : Below W1.heap.size W1 W5 := HX4.out.2.1.trans (b5.mono HX4.out.2.1.size)
      have HX5 := Lib.hid (And.intro b5 (And.intro bX5 rf5))
      clear b5 bX5 rf5 re5 bb5 hb5 hE5 c0 c1 c2 c3 f0 f1 f2 f3 lt1
      have HC6 : Hid (Calls Tryz.prog 14 #[env0 va nv cv none 0 0 ⟨#[]⟩, .string ⟨#[36, 123, 35, 120, 125]⟩] W5 (TextRes dg 0 ⟨#[]⟩ (envT v.data.toList w0.data.toList) W5)) := by rw [← HDG.out]; exact call_n v w0 H12.out.1 va nv cv none 0 0 W5 (HE1.out.below HX5.out.2.1) (HT.out.below HF.out (HB1.out.trans (HX5.out.2.1.mono HB1.out.size)))
      refine HC6.out.mono ?_; rintro x w6 ⟨va6, nv6, cv6, aa6, na6, ca6, rfl, hE6, hb6⟩
      obtain ⟨c0, c1, c2, c3, f0, f1, f2, f3, lt1⟩ := four_facts ((HR1.out.below HX5.out.2.1).below hb6)
      clear HC6
      go_wp2_with fail
      obtain ⟨W6, hW6⟩ : ∃ W6, (w6.alloc (.cells #[.slice va6 nv6 cv6, .slice aa6 na6 ca6, .int .i64 0, .string ⟨#[]⟩] 28)).alloc (.cells #[.int .i64 0, .string ⟨#[]⟩] 33) = W6 := ⟨_, rfl⟩
      obtain ⟨re6, rf6, bb6⟩ := two_boxes [.slice va6 nv6 cv6, .slice aa6 na6 ca6, .int .i64 0, .string ⟨#[]⟩] [.int .i64 0, .string ⟨#[]⟩] 28 33 hW6
      rw [hW6]
      clear hW6
      have b6 : Below W5.heap.size W5 W6 := hb6.trans (bb6.mono hb6.size)
      have bX6 : Below W1.heap.size W1 W6 := HX5.out.2.1.trans (b6.mono HX5.out.2.1.size)
      have HX6 := Lib.hid (And.intro b6 (And.intro bX6 rf6))
      clear b6 bX6 rf6 re6 bb6 hb6 hE6 c0 c1 c2 c3 f0 f1 f2 f3 lt1
      have HC7 : Hid (Calls Tryz.prog 14 #[env0 va nv cv none 0 0 ⟨#[]⟩, .string ⟨#[36, 40, 40, 36, 123, 120, 43, 49, 125, 48, 43, 49, 41, 41]⟩] W6 (TextRes ⟨#[]⟩ 11 bd (envT v.data.toList w0.data.toList) W6)) := by rw [← HBD.out]; exact call_m v w0 va nv cv none 0 0 W6 (HE1.out.below HX6.out.2.1) (HT.out.below HF.out (HB1.out.trans (HX6.out.2.1.mono HB1.out.size)))
      refine HC7.out.mono ?_; rintro x w7 ⟨va7, nv7, cv7, aa7, na7, ca7, rfl, hE7, hb7⟩
      obtain ⟨c0, c1, c2, c3, f0, f1, f2, f3, lt1⟩ := four_facts ((HR1.out.below HX6.out.2.1).below hb7)
      clear HC7
      go_upto_region 19 with fail
      obtain ⟨W7, hW7⟩ : ∃ W7, (w7.alloc (.cells #[.slice va7 nv7 cv7, .slice aa7 na7 ca7, .int .i64 0, .string ⟨#[]⟩] 28)).alloc (.cells #[.int .i64 11, .string bd] 33) = W7 := ⟨_, rfl⟩
      obtain ⟨re7, rf7, bb7⟩ := two_boxes [.slice va7 nv7 cv7, .slice aa7 na7 ca7, .int .i64 0, .string ⟨#[]⟩] [.int .i64 11, .string bd] 28 33 hW7
      rw [hW7]
      clear hW7
      have b7 : Below W6.heap.size W6 W7 := hb7.trans (bb7.mono hb7.size)
      have bX7 : Below W1.heap.size W1 W7 := HX6.out.2.1.trans (b7.mono HX6.out.2.1.size)
      have HX7 := Lib.hid (And.intro b7 (And.intro bX7 rf7))
      clear b7 bX7 rf7 re7 bb7 hb7 hE7 c0 c1 c2 c3 f0 f1 f2 f3 lt1
      have b67 := HX7.out.1
      have b57 := HX6.out.1.trans (b67.mono HX6.out.1.size)
      have b47 := HX5.out.1.trans (b57.mono HX5.out.1.size)
      have b37 := HX4.out.1.trans (b47.mono HX4.out.1.size)
      have b27 := HX3.out.1.trans (b37.mono HX3.out.1.size)
      obtain ⟨i20, i21, i22, i23, i24⟩ := two_facts ((HX2.out.2.2.below b27).alloc (.cells #[.string ⟨#[]⟩, .string dg] 46))
      obtain ⟨i30, i31, i32, i33, i34⟩ := two_facts ((HX3.out.2.2.below b37).alloc (.cells #[.string ⟨#[]⟩, .string dg] 46))
      obtain ⟨i40, i41, i42, i43, i44⟩ := two_facts ((HX4.out.2.2.below b47).alloc (.cells #[.string ⟨#[]⟩, .string dg] 46))
      obtain ⟨i50, i51, i52, i53, i54⟩ := two_facts ((HX5.out.2.2.below b57).alloc (.cells #[.string ⟨#[]⟩, .string dg] 46))
      obtain ⟨i60, i61, i62, i63, i64⟩ := two_facts ((HX6.out.2.2.below b67).alloc (.cells #[.string ⟨#[]⟩, .string dg] 46))
      obtain ⟨i70, i71, i72, i73, i74⟩ := two_facts (HX7.out.2.2.alloc (.cells #[.string ⟨#[]⟩, .string dg] 46))
      have HBF : Hid (Below w.heap.size w (W7.alloc (.cells #[.string ⟨#[]⟩, .string dg] 46))) := (HB1.out.trans (HX7.out.2.1.mono HB1.out.size)).alloc (by have := HB1.out.size; have := HX7.out.2.1.size; omega) _
      clear b67 b57 b47 b37 b27 HX2 HX3 HX4 HX5 HX6 HX7 HR1 HE1 HT1 HT2
      rcases HWB.out with ⟨hc, hv1, hv2⟩ | ⟨d, hd, b1, b2, g1, g2, hv1, hv2⟩
      · have hc' : ¬ (w0.size : Int) ≤ (v.size : Int) := by omega
        clear HWB hc
        subst hv1
        subst hv2
        go_wp2_with fail
        refine (HN.out _).mono ?_; rintro x w8 ⟨rfl, rfl⟩
        go_wp2_with fail
        go_ret
        exact ⟨rfl, HBF.out⟩
      · have hc' : (w0.size : Int) ≤ (v.size : Int) := by omega
        have hd0 : (v.size : Int) - (w0.size : Int) = (d : Int) := by omega
        have hd1 : IntKind.i64.wrap (d : Int) = (d : Int) := wrap_small _ (by have := H12.out; omega) (by have := H12.out; omega)
        have hd2 : (d : Int) ≤ (v.size : Int) := by omega
        have hd3 : d ≤ v.size := by omega
        have hd4 : w0.size ≤ v.size := by omega
        clear HWB hd
        cases b1 <;> cases b2 <;> simp only [if_true, Bool.false_eq_true, if_false] at hv1 hv2 <;> subst hv1 <;> subst hv2
        all_goals
          go_wp2_with fail
          refine (HN.out _).mono ?_; rintro x w8 ⟨rfl, rfl⟩
          go_wp2_with fail
          go_ret
          exact ⟨rfl, HBF.out⟩
theorem law_trims (v : ByteArray) (_hv : v.size ≤ maxLen) (w0 : ByteArray) (_hw : w0.size ≤ maxLen) (w : World) (hT : Full w) :
    Calls Tryz.prog 5 #[.string v, .string w0] w fun e w' => e = .returned (.bool true) ∧ Below w.heap.size w w' := by
  by_cases h : 30 < v.size ∨ 30 < w0.size
  · exact trims_out v w0 h w hT
  · have h1 : v.size ≤ 30 := by omega
    have h2 : w0.size ≤ 30 := by omega
    by_cases hq : (39 : UInt8) ∈ w0.data.toList
    · exact trims_quote v w0 h1 h2 hq w hT
    · exact trims_main v w0 h1 h2 hq w hT
end Go.Proofs.YtkmpbkhlcapbgaaGreatDoor
