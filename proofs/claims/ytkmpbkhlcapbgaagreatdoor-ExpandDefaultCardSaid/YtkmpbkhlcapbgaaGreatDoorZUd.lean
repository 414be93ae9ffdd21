/-
  DERIVED. The walk of ExpandDefault, where nothing is too long and no quote is in the word (printed by gen_default.py).
-/
import Derived.Test.YtkmpbkhlcapbgaaGreatDoorZUc
namespace Go.Proofs.YtkmpbkhlcapbgaaGreatDoor
open Go Go.RowKit
theorem def_get (e : EnvT) (T : ByteArray) (h0 : e.status = 0) (h1 : e.flags = []) (hg : e.get [120] = some T.data.toList) (va : Option Addr) (nv cv : Nat) (aa : Option Addr) (na ca : Nat) (w : World) (hE : EnvA w (.slice va nv cv) (.slice aa na ca) e) :
    Calls Tryz.prog 15 #[env0 va nv cv aa na ca ⟨#[]⟩, .string ⟨#[120]⟩] w fun x w' => x = .returned (.tuple #[.string T, .bool true]) ∧ Below w.heap.size w w' := by
  have h := get_ok ⟨#[120]⟩ (by decide) (by decide) e va nv cv aa na ca w hE
  simp only [envVal, h0, h1] at h
  refine h.mono ?_
  rintro x w' ⟨rfl, hb⟩
  refine ⟨?_, hb⟩
  rw [show e.get (⟨#[120]⟩ : ByteArray).data.toList = some T.data.toList from hg]
  rfl
theorem set_four {w w2 : World} {n g : Nat} {a b c d : Value} {vv av : Value} {e : EnvT} (hB : Below n w w2) (hn : n ≤ g) (hr : RowIs w2 g 28 [a, b, c, d]) (hE : EnvC w2 (fun b => b ≠ g) vv av e) (p0 p1 p2 p3 : Value) (W1 : World)
    (h : ((((w2.setCell ⟨g, 0, none⟩ p0).setCell ⟨g, 1, none⟩ p1).setCell ⟨g, 2, none⟩ p2).setCell ⟨g, 3, none⟩ p3) = W1) : RowIs W1 g 28 [p0, p1, p2, p3] ∧ Below n w W1 ∧ EnvA W1 vv av e := by
  subst h
  refine ⟨(((hr.set 0 p0).set 1 p1).set 2 p2).set 3 p3, (((hB.setCell (p := ⟨g, 0, none⟩) hn p0).setCell (p := ⟨g, 1, none⟩) hn p1).setCell (p := ⟨g, 2, none⟩) hn p2).setCell (p := ⟨g, 3, none⟩) hn p3, ?_⟩
  have hk : ∀ b, b ≠ g → ((((w2.setCell ⟨g, 0, none⟩ p0).setCell ⟨g, 1, none⟩ p1).setCell ⟨g, 2, none⟩ p2).setCell ⟨g, 3, none⟩ p3).heap[b]? = w2.heap[b]? := fun b q =>
    (Below.heap_setCell _ _ _ _ (show b ≠ (⟨g, 3, none⟩ : Addr).block from q)).trans ((Below.heap_setCell _ _ _ _ (show b ≠ (⟨g, 2, none⟩ : Addr).block from q)).trans ((Below.heap_setCell _ _ _ _ (show b ≠ (⟨g, 1, none⟩ : Addr).block from q)).trans (Below.heap_setCell _ _ _ _ (show b ≠ (⟨g, 0, none⟩ : Addr).block from q))))
  exact hE.keep (by simp) (fun b q _ => ⟨hk b q, trivial⟩)
theorem word_sizes (w0 : ByteArray) (h : w0.size ≤ 30) : ∀ n : Nat, n ≤ 60 → ¬ 9223372036854775807 < w0.size + n ∧ w0.size + n ≤ 9223372036854775807 := by omega
theorem ne_nil (v : ByteArray) (h : v ≠ ⟨#[]⟩) : v.data.toList ≠ [] := fun e => h (by rw [← bytes_of v [] e])
theorem one_x (v : ByteArray) (h : v ≠ ⟨#[]⟩) : (((some v.data.toList).isSome && !((some v.data.toList).getD []).isEmpty) = true) := by
  have := ne_nil v h
  cases hc : v.data.toList with
  | nil => exact absurd hc this
  | cons a t => rfl

theorem does_A (v : ByteArray) (hv : v ≠ ⟨#[]⟩) : doesP [58, 45] (((some v.data.toList) : Option (List UInt8)).getD []) ((some v.data.toList) : Option (List UInt8)).isSome = 1 ∧ doesP [45] (((some v.data.toList) : Option (List UInt8)).getD []) ((some v.data.toList) : Option (List UInt8)).isSome = 1 ∧ doesP [58, 61] (((some v.data.toList) : Option (List UInt8)).getD []) ((some v.data.toList) : Option (List UInt8)).isSome = 1 ∧ doesP [58, 43] (((some v.data.toList) : Option (List UInt8)).getD []) ((some v.data.toList) : Option (List UInt8)).isSome = 2 ∧ doesP [43] (((some v.data.toList) : Option (List UInt8)).getD []) ((some v.data.toList) : Option (List UInt8)).isSome = 2 := by
  obtain ⟨a, b, c, d, e⟩ := does_tab (some v.data.toList)
  rw [a, b, c, d, e, one_x v hv]
  exact ⟨rfl, rfl, rfl, rfl, rfl⟩
set_option maxRecDepth 100000 in
set_option maxHeartbeats 16000000 in
theorem default_A (v w0 : ByteArray) (h1 : v.size ≤ 30) (h2 : w0.size ≤ 30) (hv : v ≠ ⟨#[]⟩) (hq : (39 : UInt8) ∉ w0.data.toList) (w : World) (hT : Tab w) :
    Calls Tryz.prog 4 #[.string v, .string w0, .bool true] w fun e w' => e = .returned (.bool true) ∧ Below w.heap.size w w' := by
  have HA := Lib.hid (awake_any w hT)
  have HT := Lib.hid hT
  have HF := Lib.hid hT.lt
  have h2' : ¬ (30 : Int) < (w0.size : Int) := by omega
  have hz := word_sizes w0 h2
  have HQ := Lib.hid hq
  have H2 := Lib.hid h2
  have h1' : ¬ (30 : Int) < (v.size : Int) := by omega
  have HX : Hid ((((some v.data.toList) : Option (List UInt8)).getD []).length ≤ 30) := (by show v.data.toList.length ≤ 30; simpa using h1)
  have HD := Lib.hid (does_A v hv)
  have hv0 : (v.toList == []) = false := by
    have := ne_nil v hv
    rw [Lib.toList_data]; simpa using this
  have hv1 : (v.toList != []) = true := by simp [bne, hv0]
  have HV := Lib.hid hv
  have hs1 := hz 1 (by omega)
  have hs2 := hz 2 (by omega)
  have hs6 := hz 6 (by omega)
  have hs7 := hz 7 (by omega)
  have hs5 := hz 5 (by omega)
  clear hT hq hz hv
  go_enter Tryz.func4, Tryz.ntmps4
  go_wp2_with fail
  refine HA.out.mono ?_; rintro e w1 ⟨rfl, hb⟩
  have HB := Lib.hid hb
  clear hb
  go_wp2_with fail
  go_loopg [8] w0.size (fun g s8 wx => wx = w1 ∧ ∃ i : Nat, i + g = w0.size ∧ s8 = .int .i64 i)
  case atStart => exact ⟨rfl, 0, by omega, rfl⟩
  case round =>
    obtain ⟨rfl, i, hig, rfl⟩ := hrel
    cases gk with
    | succ g =>
      have hi : i < w0.size := by omega
      have hc1 : w0[i].toNat ≠ 39 := fun e => HQ.out (by
        have : w0[i] = 39 := UInt8.toNat_inj.1 (e.trans rfl)
        rw [← this]
        exact List.getElem_mem (by simpa using hi))
      have hc2 : ((w0[i].toNat : Int) == 39) = false := by simp; omega
      go_wp2_with fail
      go_roundg g
      case measure => omega
      case rel => exact ⟨rfl, i + 1, by omega, rfl⟩
    | zero =>
      obtain rfl : i = w0.size := by omega
      go_wp2_with fail
      refine (def_set v _).mono ?_; rintro r w2 ⟨va, nv, cv, rfl, hE, hb2⟩
      have r0 := (RowIs.new wr 28 [.slice none 0 0, .slice none 0 0, .int .i64 0, .string ⟨#[]⟩]).below hb2
      obtain ⟨c0, c1, c2, c3, f0, f1, f2, f3, lt1⟩ := four_facts r0
      have hE' : EnvC w2 (fun b => b ≠ wr.heap.size) (.slice va nv cv) (.slice none 0 0) (envD (some v.data.toList)) := hE.keep (Nat.le_refl _) fun b q _ => ⟨rfl, by simp at q; omega⟩
      have HE := Lib.hid hE'
      have HR := Lib.hid r0
      have HB2 : Hid (Below w.heap.size w w2) := (HB.out.alloc HB.out.size _).trans (hb2.mono (by have := HB.out.size; simp; omega))
      clear hE hE' r0 hb2
      go_wp2_with fail
      obtain ⟨W1, hW1⟩ : ∃ W1, ((((w2.setCell ⟨wr.heap.size, 0, none⟩ (.slice va nv cv)).setCell ⟨wr.heap.size, 1, none⟩ (.slice none 0 0)).setCell ⟨wr.heap.size, 2, none⟩ (.int .i64 0)).setCell ⟨wr.heap.size, 3, none⟩ (.string ⟨#[]⟩)) = W1 := ⟨_, rfl⟩
      obtain ⟨r1, B1, E1⟩ : RowIs W1 wr.heap.size 28 [.slice va nv cv, .slice none 0 0, .int .i64 0, .string ⟨#[]⟩] ∧ Below w.heap.size w W1 ∧ EnvA W1 (.slice va nv cv) (.slice none 0 0) (envD (some v.data.toList)) := set_four HB2.out HB.out.size HR.out HE.out _ _ _ _ W1 hW1
      rw [hW1]
      clear hW1 c0 c1 c2 c3 f0 f1 f2 f3 lt1
      have HR1 := Lib.hid r1
      have HB1 := Lib.hid B1
      have HE1 := Lib.hid E1
      clear r1 B1 E1
      have HC2 : Hid (Calls Tryz.prog 14 #[env0 va nv cv none 0 0 ⟨#[]⟩, .string (⟨#[36, 123, 120, 58, 45]⟩ ++ (⟨#[39]⟩ ++ w0 ++ ⟨#[39]⟩) ++ ⟨#[125]⟩)] W1 (TextRes v 0 ⟨#[]⟩ (envD (some v.data.toList)) W1)) := def_call (some v.data.toList) [58, 45] w0 v (by decide) (by decide) HX.out H2.out HQ.out 1 HD.out.1 (by decide) (by rfl) va nv cv none 0 0 W1 HE1.out (HT.out.below HF.out HB1.out)
      refine HC2.out.mono ?_; rintro x w2 ⟨va2, nv2, cv2, aa2, na2, ca2, rfl, hE2, hb2⟩
      obtain ⟨c0, c1, c2, c3, f0, f1, f2, f3, lt1⟩ := four_facts (HR1.out.below hb2)
      clear HC2
      go_wp2_with fail
      obtain ⟨W2, hW2⟩ : ∃ W2, (w2.alloc (.cells #[.slice va2 nv2 cv2, .slice aa2 na2 ca2, .int .i64 0, .string ⟨#[]⟩] 28)).alloc (.cells #[.int .i64 0, .string ⟨#[]⟩] 33) = W2 := ⟨_, rfl⟩
      obtain ⟨re2, rf2, bb2⟩ := two_boxes [.slice va2 nv2 cv2, .slice aa2 na2 ca2, .int .i64 0, .string ⟨#[]⟩] [.int .i64 0, .string ⟨#[]⟩] 28 33 hW2
      rw [hW2]
      clear hW2
      have b2 : Below W1.heap.size W1 W2 := hb2.trans (bb2.mono hb2.size)
      have bX2 : Below W1.heap.size W1 W2 := b2
      have eX2 : EnvA W2 (.slice va2 nv2 cv2) (.slice aa2 na2 ca2) (envD (some v.data.toList)) := hE2.below bb2
      have HX2 := Lib.hid (And.intro b2 (And.intro bX2 (And.intro rf2 (And.intro re2 eX2))))
      clear b2 bX2 rf2 re2 bb2 hb2 hE2 eX2 c0 c1 c2 c3 f0 f1 f2 f3 lt1
      have HC3 : Hid (Calls Tryz.prog 14 #[env0 va nv cv none 0 0 ⟨#[]⟩, .string (⟨#[36, 123, 120, 45]⟩ ++ (⟨#[39]⟩ ++ w0 ++ ⟨#[39]⟩) ++ ⟨#[125]⟩)] W2 (TextRes v 0 ⟨#[]⟩ (envD (some v.data.toList)) W2)) := def_call (some v.data.toList) [45] w0 v (by decide) (by decide) HX.out H2.out HQ.out 1 HD.out.2.1 (by decide) (by rfl) va nv cv none 0 0 W2 (HE1.out.below HX2.out.2.1) (HT.out.below HF.out (HB1.out.trans (HX2.out.2.1.mono HB1.out.size)))
      refine HC3.out.mono ?_; rintro x w3 ⟨va3, nv3, cv3, aa3, na3, ca3, rfl, hE3, hb3⟩
      obtain ⟨c0, c1, c2, c3, f0, f1, f2, f3, lt1⟩ := four_facts ((HR1.out.below HX2.out.2.1).below hb3)
      clear HC3
      go_wp2_with fail
      obtain ⟨W3, hW3⟩ : ∃ W3, (w3.alloc (.cells #[.slice va3 nv3 cv3, .slice aa3 na3 ca3, .int .i64 0, .string ⟨#[]⟩] 28)).alloc (.cells #[.int .i64 0, .string ⟨#[]⟩] 33) = W3 := ⟨_, rfl⟩
      obtain ⟨re3, rf3, bb3⟩ := two_boxes [.slice va3 nv3 cv3, .slice aa3 na3 ca3, .int .i64 0, .string ⟨#[]⟩] [.int .i64 0, .string ⟨#[]⟩] 28 33 hW3
      rw [hW3]
      clear hW3
      have b3 : Below W2.heap.size W2 W3 := hb3.trans (bb3.mono hb3.size)
      have bX3 : Below W1.heap.size W1 W3 := HX2.out.2.1.trans (b3.mono HX2.out.2.1.size)
      have eX3 : EnvA W3 (.slice va3 nv3 cv3) (.slice aa3 na3 ca3) (envD (some v.data.toList)) := hE3.below bb3
      have HX3 := Lib.hid (And.intro b3 (And.intro bX3 (And.intro rf3 (And.intro re3 eX3))))
      clear b3 bX3 rf3 re3 bb3 hb3 hE3 eX3 c0 c1 c2 c3 f0 f1 f2 f3 lt1
      have HC4 : Hid (Calls Tryz.prog 14 #[env0 va nv cv none 0 0 ⟨#[]⟩, .string (⟨#[36, 123, 120, 58, 61]⟩ ++ (⟨#[39]⟩ ++ w0 ++ ⟨#[39]⟩) ++ ⟨#[125]⟩)] W3 (TextRes v 0 ⟨#[]⟩ (envD (some v.data.toList)) W3)) := def_call (some v.data.toList) [58, 61] w0 v (by decide) (by decide) HX.out H2.out HQ.out 1 HD.out.2.2.1 (by decide) (by rfl) va nv cv none 0 0 W3 (HE1.out.below HX3.out.2.1) (HT.out.below HF.out (HB1.out.trans (HX3.out.2.1.mono HB1.out.size)))
      refine HC4.out.mono ?_; rintro x w4 ⟨va4, nv4, cv4, aa4, na4, ca4, rfl, hE4, hb4⟩
      obtain ⟨c0, c1, c2, c3, f0, f1, f2, f3, lt1⟩ := four_facts ((HR1.out.below HX3.out.2.1).below hb4)
      clear HC4
      go_wp2_with fail
      obtain ⟨W4, hW4⟩ : ∃ W4, (w4.alloc (.cells #[.slice va4 nv4 cv4, .slice aa4 na4 ca4, .int .i64 0, .string ⟨#[]⟩] 28)).alloc (.cells #[.int .i64 0, .string ⟨#[]⟩] 33) = W4 := ⟨_, rfl⟩
      obtain ⟨re4, rf4, bb4⟩ := two_boxes [.slice va4 nv4 cv4, .slice aa4 na4 ca4, .int .i64 0, .string ⟨#[]⟩] [.int .i64 0, .string ⟨#[]⟩] 28 33 hW4
      rw [hW4]
      clear hW4
      have b4 : Below W3.heap.size W3 W4 := hb4.trans (bb4.mono hb4.size)
      have bX4 : Below W1.heap.size W1 W4 := HX3.out.2.1.trans (b4.mono HX3.out.2.1.size)
      have eX4 : EnvA W4 (.slice va4 nv4 cv4) (.slice aa4 na4 ca4) (envD (some v.data.toList)) := hE4.below bb4
      have HX4 := Lib.hid (And.intro b4 (And.intro bX4 (And.intro rf4 (And.intro re4 eX4))))
      clear b4 bX4 rf4 re4 bb4 hb4 hE4 eX4 c0 c1 c2 c3 f0 f1 f2 f3 lt1
      have HC5 : Hid (Calls Tryz.prog 14 #[env0 va nv cv none 0 0 ⟨#[]⟩, .string (⟨#[36, 123, 120, 58, 43]⟩ ++ (⟨#[39]⟩ ++ w0 ++ ⟨#[39]⟩) ++ ⟨#[125]⟩)] W4 (TextRes w0 0 ⟨#[]⟩ (envD (some v.data.toList)) W4)) := def_call (some v.data.toList) [58, 43] w0 w0 (by decide) (by decide) HX.out H2.out HQ.out 2 HD.out.2.2.2.1 (by decide) (by rfl) va nv cv none 0 0 W4 (HE1.out.below HX4.out.2.1) (HT.out.below HF.out (HB1.out.trans (HX4.out.2.1.mono HB1.out.size)))
      refine HC5.out.mono ?_; rintro x w5 ⟨va5, nv5, cv5, aa5, na5, ca5, rfl, hE5, hb5⟩
      obtain ⟨c0, c1, c2, c3, f0, f1, f2, f3, lt1⟩ := four_facts ((HR1.out.below HX4.out.2.1).below hb5)
      clear HC5
      go_wp2_with fail
      obtain ⟨W5, hW5⟩ : ∃ W5, (w5.alloc (.cells #[.slice va5 nv5 cv5, .slice aa5 na5 ca5, .int .i64 0, .string ⟨#[]⟩] 28)).alloc (.cells #[.int .i64 0, .string ⟨#[]⟩] 33) = W5 := ⟨_, rfl⟩
      obtain ⟨re5, rf5, bb5⟩ := two_boxes [.slice va5 nv5 cv5, .slice aa5 na5 ca5, .int .i64 0, .string ⟨#[]⟩] [.int .i64 0, .string ⟨#[]⟩] 28 33 hW5
      rw [hW5]
      clear hW5
      have b5 : Below W4.heap.size W4 W5 := hb5.trans (bb5.mono hb5.size)
      have bX5 : Below W1.heap.size W1 W5 := HX4.out.2.1.trans (b5.mono HX4.out.2.1.size)
      have eX5 : EnvA W5 (.slice va5 nv5 cv5) (.slice aa5 na5 ca5) (envD (some v.data.toList)) := hE5.below bb5
      have HX5 := Lib.hid (And.intro b5 (And.intro bX5 (And.intro rf5 (And.intro re5 eX5))))
      clear b5 bX5 rf5 re5 bb5 hb5 hE5 eX5 c0 c1 c2 c3 f0 f1 f2 f3 lt1
      have HC6 : Hid (Calls Tryz.prog 14 #[env0 va nv cv none 0 0 ⟨#[]⟩, .string (⟨#[36, 123, 120, 43]⟩ ++ (⟨#[39]⟩ ++ w0 ++ ⟨#[39]⟩) ++ ⟨#[125]⟩)] W5 (TextRes w0 0 ⟨#[]⟩ (envD (some v.data.toList)) W5)) := def_call (some v.data.toList) [43] w0 w0 (by decide) (by decide) HX.out H2.out HQ.out 2 HD.out.2.2.2.2 (by decide) (by rfl) va nv cv none 0 0 W5 (HE1.out.below HX5.out.2.1) (HT.out.below HF.out (HB1.out.trans (HX5.out.2.1.mono HB1.out.size)))
      refine HC6.out.mono ?_; rintro x w6 ⟨va6, nv6, cv6, aa6, na6, ca6, rfl, hE6, hb6⟩
      obtain ⟨c0, c1, c2, c3, f0, f1, f2, f3, lt1⟩ := four_facts ((HR1.out.below HX5.out.2.1).below hb6)
      clear HC6
      go_wp2_with fail
      obtain ⟨W6, hW6⟩ : ∃ W6, (w6.alloc (.cells #[.slice va6 nv6 cv6, .slice aa6 na6 ca6, .int .i64 0, .string ⟨#[]⟩] 28)).alloc (.cells #[.int .i64 0, .string ⟨#[]⟩] 33) = W6 := ⟨_, rfl⟩
      obtain ⟨re6, rf6, bb6⟩ := two_boxes [.slice va6 nv6 cv6, .slice aa6 na6 ca6, .int .i64 0, .string ⟨#[]⟩] [.int .i64 0, .string ⟨#[]⟩] 28 33 hW6
      rw [hW6]
      clear hW6
      have b6 : Below W5.heap.size W5 W6 := hb6.trans (bb6.mono hb6.size)
      have bX6 : Below W1.heap.size W1 W6 := HX5.out.2.1.trans (b6.mono HX5.out.2.1.size)
      have eX6 : EnvA W6 (.slice va6 nv6 cv6) (.slice aa6 na6 ca6) (envD (some v.data.toList)) := hE6.below bb6
      have HX6 := Lib.hid (And.intro b6 (And.intro bX6 (And.intro rf6 (And.intro re6 eX6))))
      clear b6 bX6 rf6 re6 bb6 hb6 hE6 eX6 c0 c1 c2 c3 f0 f1 f2 f3 lt1
      have HC7 := Lib.hid (fail_call (some v.data.toList) v 0 ⟨#[]⟩ HX.out (by rw [if_pos (one_x v HV.out)]; exact ⟨rfl, rfl, rfl⟩) va nv cv none 0 0 W6 (HE1.out.below HX6.out.2.1) (HT.out.below HF.out (HB1.out.trans (HX6.out.2.1.mono HB1.out.size))))
      refine HC7.out.mono ?_; rintro x w7 ⟨va7, nv7, cv7, aa7, na7, ca7, rfl, hE7, hb7⟩
      have b67 : Below W6.heap.size W6 w7 := hb7
      have b57 := HX6.out.1.trans (b67.mono HX6.out.1.size)
      have b47 := HX5.out.1.trans (b57.mono HX5.out.1.size)
      have b37 := HX4.out.1.trans (b47.mono HX4.out.1.size)
      have b27 := HX3.out.1.trans (b37.mono HX3.out.1.size)
      have b17 := HX2.out.1.trans (b27.mono HX2.out.1.size)
      obtain ⟨i20, i21, i22, i23, i24⟩ := two_facts (((HX2.out.2.2.1.below b27).alloc (.cells #[.slice va7 nv7 cv7, .slice aa7 na7 ca7, .int .i64 0, .string ⟨#[]⟩] 28)).alloc (.cells #[.int .i64 0, .string ⟨#[]⟩] 33))
      obtain ⟨i30, i31, i32, i33, i34⟩ := two_facts (((HX3.out.2.2.1.below b37).alloc (.cells #[.slice va7 nv7 cv7, .slice aa7 na7 ca7, .int .i64 0, .string ⟨#[]⟩] 28)).alloc (.cells #[.int .i64 0, .string ⟨#[]⟩] 33))
      obtain ⟨i40, i41, i42, i43, i44⟩ := two_facts (((HX4.out.2.2.1.below b47).alloc (.cells #[.slice va7 nv7 cv7, .slice aa7 na7 ca7, .int .i64 0, .string ⟨#[]⟩] 28)).alloc (.cells #[.int .i64 0, .string ⟨#[]⟩] 33))
      obtain ⟨i50, i51, i52, i53, i54⟩ := two_facts (((HX5.out.2.2.1.below b57).alloc (.cells #[.slice va7 nv7 cv7, .slice aa7 na7 ca7, .int .i64 0, .string ⟨#[]⟩] 28)).alloc (.cells #[.int .i64 0, .string ⟨#[]⟩] 33))
      obtain ⟨i60, i61, i62, i63, i64⟩ := two_facts (((HX6.out.2.2.1.below b67).alloc (.cells #[.slice va7 nv7 cv7, .slice aa7 na7 ca7, .int .i64 0, .string ⟨#[]⟩] 28)).alloc (.cells #[.int .i64 0, .string ⟨#[]⟩] 33))
      obtain ⟨o0, o1, o2, o3, o4, o5, o6, o7, o8⟩ := four_facts (((HX4.out.2.2.2.1.below b47).alloc (.cells #[.slice va7 nv7 cv7, .slice aa7 na7 ca7, .int .i64 0, .string ⟨#[]⟩] 28)).alloc (.cells #[.int .i64 0, .string ⟨#[]⟩] 33))
      have hE47 : EnvA ((w7.alloc (.cells #[.slice va7 nv7 cv7, .slice aa7 na7 ca7, .int .i64 0, .string ⟨#[]⟩] 28)).alloc (.cells #[.int .i64 0, .string ⟨#[]⟩] 33)) (.slice va4 nv4 cv4) (.slice aa4 na4 ca4) _ := (HX4.out.2.2.2.2.below b47).below (below_two (Below.refl _ w7) (Nat.le_refl _) (.cells #[.slice va7 nv7 cv7, .slice aa7 na7 ca7, .int .i64 0, .string ⟨#[]⟩] 28) (.cells #[.int .i64 0, .string ⟨#[]⟩] 33))
      have HG := Lib.hid (def_get _ v (envD_st _).1 (envD_st _).2 (envD_get _) va4 nv4 cv4 aa4 na4 ca4 _ hE47)
      have HBF : Hid (Below w.heap.size w ((w7.alloc (.cells #[.slice va7 nv7 cv7, .slice aa7 na7 ca7, .int .i64 0, .string ⟨#[]⟩] 28)).alloc (.cells #[.int .i64 0, .string ⟨#[]⟩] 33))) := below_two (HB1.out.trans (b17.mono HB1.out.size)) (by have := HB1.out.size; have := b17.size; omega) (.cells #[.slice va7 nv7 cv7, .slice aa7 na7 ca7, .int .i64 0, .string ⟨#[]⟩] 28) (.cells #[.int .i64 0, .string ⟨#[]⟩] 33)
      clear HC7 hb7 b67 b57 b47 b37 b27 b17 HX2 HX3 HX4 HX5 HX6 HR1 HE1 hE7 hE47
      go_wp2_with fail
      refine HG.out.mono ?_; rintro x w8 ⟨rfl, hb8⟩
      have HB8 := Lib.hid hb8
      clear hb8 HG
      go_wp2_with fail
      go_ret
      exact ⟨rfl, HBF.out.trans (HB8.out.mono HBF.out.size)⟩
theorem does_B  : doesP [58, 45] (((some []) : Option (List UInt8)).getD []) ((some []) : Option (List UInt8)).isSome = 2 ∧ doesP [45] (((some []) : Option (List UInt8)).getD []) ((some []) : Option (List UInt8)).isSome = 1 ∧ doesP [58, 61] (((some []) : Option (List UInt8)).getD []) ((some []) : Option (List UInt8)).isSome = 3 ∧ doesP [58, 43] (((some []) : Option (List UInt8)).getD []) ((some []) : Option (List UInt8)).isSome = 5 ∧ doesP [43] (((some []) : Option (List UInt8)).getD []) ((some []) : Option (List UInt8)).isSome = 2 := by
  exact ⟨rfl, rfl, rfl, rfl, rfl⟩
set_option maxRecDepth 100000 in
set_option maxHeartbeats 16000000 in
theorem default_B (w0 : ByteArray) (h2 : w0.size ≤ 30) (hq : (39 : UInt8) ∉ w0.data.toList) (w : World) (hT : Tab w) :
    Calls Tryz.prog 4 #[.string (⟨#[]⟩ : ByteArray), .string w0, .bool true] w fun e w' => e = .returned (.bool true) ∧ Below w.heap.size w w' := by
  have HA := Lib.hid (awake_any w hT)
  have HT := Lib.hid hT
  have HF := Lib.hid hT.lt
  have h2' : ¬ (30 : Int) < (w0.size : Int) := by omega
  have hz := word_sizes w0 h2
  have HQ := Lib.hid hq
  have H2 := Lib.hid h2
  have HX : Hid ((((some []) : Option (List UInt8)).getD []).length ≤ 30) := (by unfold Hid; decide)
  have HD := Lib.hid (does_B)
  have hs1 := hz 1 (by omega)
  have hs2 := hz 2 (by omega)
  have hs6 := hz 6 (by omega)
  have hs7 := hz 7 (by omega)
  have hs5 := hz 5 (by omega)
  clear hT hq hz
  go_enter Tryz.func4, Tryz.ntmps4
  go_wp2_with fail
  refine HA.out.mono ?_; rintro e w1 ⟨rfl, hb⟩
  have HB := Lib.hid hb
  clear hb
  go_wp2_with fail
  go_loopg [8] w0.size (fun g s8 wx => wx = w1 ∧ ∃ i : Nat, i + g = w0.size ∧ s8 = .int .i64 i)
  case atStart => exact ⟨rfl, 0, by omega, rfl⟩
  case round =>
    obtain ⟨rfl, i, hig, rfl⟩ := hrel
    cases gk with
    | succ g =>
      have hi : i < w0.size := by omega
      have hc1 : w0[i].toNat ≠ 39 := fun e => HQ.out (by
        have : w0[i] = 39 := UInt8.toNat_inj.1 (e.trans rfl)
        rw [← this]
        exact List.getElem_mem (by simpa using hi))
      have hc2 : ((w0[i].toNat : Int) == 39) = false := by simp; omega
      go_wp2_with fail
      go_roundg g
      case measure => omega
      case rel => exact ⟨rfl, i + 1, by omega, rfl⟩
    | zero =>
      obtain rfl : i = w0.size := by omega
      go_wp2_with fail
      refine (def_set (⟨#[]⟩ : ByteArray) _).mono ?_; rintro r w2 ⟨va, nv, cv, rfl, hE, hb2⟩
      have r0 := (RowIs.new wr 28 [.slice none 0 0, .slice none 0 0, .int .i64 0, .string ⟨#[]⟩]).below hb2
      obtain ⟨c0, c1, c2, c3, f0, f1, f2, f3, lt1⟩ := four_facts r0
      have hE' : EnvC w2 (fun b => b ≠ wr.heap.size) (.slice va nv cv) (.slice none 0 0) (envD (some (⟨#[]⟩ : ByteArray).data.toList)) := hE.keep (Nat.le_refl _) fun b q _ => ⟨rfl, by simp at q; omega⟩
      have HE := Lib.hid hE'
      have HR := Lib.hid r0
      have HB2 : Hid (Below w.heap.size w w2) := (HB.out.alloc HB.out.size _).trans (hb2.mono (by have := HB.out.size; simp; omega))
      clear hE hE' r0 hb2
      go_wp2_with fail
      obtain ⟨W1, hW1⟩ : ∃ W1, ((((w2.setCell ⟨wr.heap.size, 0, none⟩ (.slice va nv cv)).setCell ⟨wr.heap.size, 1, none⟩ (.slice none 0 0)).setCell ⟨wr.heap.size, 2, none⟩ (.int .i64 0)).setCell ⟨wr.heap.size, 3, none⟩ (.string ⟨#[]⟩)) = W1 := ⟨_, rfl⟩
      obtain ⟨r1, B1, E1⟩ : RowIs W1 wr.heap.size 28 [.slice va nv cv, .slice none 0 0, .int .i64 0, .string ⟨#[]⟩] ∧ Below w.heap.size w W1 ∧ EnvA W1 (.slice va nv cv) (.slice none 0 0) (envD (some [])) := set_four HB2.out HB.out.size HR.out HE.out _ _ _ _ W1 hW1
      rw [hW1]
      clear hW1 c0 c1 c2 c3 f0 f1 f2 f3 lt1
      have HR1 := Lib.hid r1
      have HB1 := Lib.hid B1
      have HE1 := Lib.hid E1
      clear r1 B1 E1
      have HC2 : Hid (Calls Tryz.prog 14 #[env0 va nv cv none 0 0 ⟨#[]⟩, .string (⟨#[36, 123, 120, 58, 45]⟩ ++ (⟨#[39]⟩ ++ w0 ++ ⟨#[39]⟩) ++ ⟨#[125]⟩)] W1 (TextRes w0 0 ⟨#[]⟩ (envD (some [])) W1)) := def_call (some []) [58, 45] w0 w0 (by decide) (by decide) HX.out H2.out HQ.out 2 HD.out.1 (by decide) (by rfl) va nv cv none 0 0 W1 HE1.out (HT.out.below HF.out HB1.out)
      refine HC2.out.mono ?_; rintro x w2 ⟨va2, nv2, cv2, aa2, na2, ca2, rfl, hE2, hb2⟩
      obtain ⟨c0, c1, c2, c3, f0, f1, f2, f3, lt1⟩ := four_facts (HR1.out.below hb2)
      clear HC2
      go_wp2_with fail
      obtain ⟨W2, hW2⟩ : ∃ W2, (w2.alloc (.cells #[.slice va2 nv2 cv2, .slice aa2 na2 ca2, .int .i64 0, .string ⟨#[]⟩] 28)).alloc (.cells #[.int .i64 0, .string ⟨#[]⟩] 33) = W2 := ⟨_, rfl⟩
      obtain ⟨re2, rf2, bb2⟩ := two_boxes [.slice va2 nv2 cv2, .slice aa2 na2 ca2, .int .i64 0, .string ⟨#[]⟩] [.int .i64 0, .string ⟨#[]⟩] 28 33 hW2
      rw [hW2]
      clear hW2
      have b2 : Below W1.heap.size W1 W2 := hb2.trans (bb2.mono hb2.size)
      have bX2 : Below W1.heap.size W1 W2 := b2
      have eX2 : EnvA W2 (.slice va2 nv2 cv2) (.slice aa2 na2 ca2) (envD (some [])) := hE2.below bb2
      have HX2 := Lib.hid (And.intro b2 (And.intro bX2 (And.intro rf2 (And.intro re2 eX2))))
      clear b2 bX2 rf2 re2 bb2 hb2 hE2 eX2 c0 c1 c2 c3 f0 f1 f2 f3 lt1
      have HC3 : Hid (Calls Tryz.prog 14 #[env0 va nv cv none 0 0 ⟨#[]⟩, .string (⟨#[36, 123, 120, 45]⟩ ++ (⟨#[39]⟩ ++ w0 ++ ⟨#[39]⟩) ++ ⟨#[125]⟩)] W2 (TextRes ⟨#[]⟩ 0 ⟨#[]⟩ (envD (some [])) W2)) := def_call (some []) [45] w0 ⟨#[]⟩ (by decide) (by decide) HX.out H2.out HQ.out 1 HD.out.2.1 (by decide) (by rfl) va nv cv none 0 0 W2 (HE1.out.below HX2.out.2.1) (HT.out.below HF.out (HB1.out.trans (HX2.out.2.1.mono HB1.out.size)))
      refine HC3.out.mono ?_; rintro x w3 ⟨va3, nv3, cv3, aa3, na3, ca3, rfl, hE3, hb3⟩
      obtain ⟨c0, c1, c2, c3, f0, f1, f2, f3, lt1⟩ := four_facts ((HR1.out.below HX2.out.2.1).below hb3)
      clear HC3
      go_wp2_with fail
      obtain ⟨W3, hW3⟩ : ∃ W3, (w3.alloc (.cells #[.slice va3 nv3 cv3, .slice aa3 na3 ca3, .int .i64 0, .string ⟨#[]⟩] 28)).alloc (.cells #[.int .i64 0, .string ⟨#[]⟩] 33) = W3 := ⟨_, rfl⟩
      obtain ⟨re3, rf3, bb3⟩ := two_boxes [.slice va3 nv3 cv3, .slice aa3 na3 ca3, .int .i64 0, .string ⟨#[]⟩] [.int .i64 0, .string ⟨#[]⟩] 28 33 hW3
      rw [hW3]
      clear hW3
      have b3 : Below W2.heap.size W2 W3 := hb3.trans (bb3.mono hb3.size)
      have bX3 : Below W1.heap.size W1 W3 := HX2.out.2.1.trans (b3.mono HX2.out.2.1.size)
      have eX3 : EnvA W3 (.slice va3 nv3 cv3) (.slice aa3 na3 ca3) (envD (some [])) := hE3.below bb3
      have HX3 := Lib.hid (And.intro b3 (And.intro bX3 (And.intro rf3 (And.intro re3 eX3))))
      clear b3 bX3 rf3 re3 bb3 hb3 hE3 eX3 c0 c1 c2 c3 f0 f1 f2 f3 lt1
      have HC4 : Hid (Calls Tryz.prog 14 #[env0 va nv cv none 0 0 ⟨#[]⟩, .string (⟨#[36, 123, 120, 58, 61]⟩ ++ (⟨#[39]⟩ ++ w0 ++ ⟨#[39]⟩) ++ ⟨#[125]⟩)] W3 (TextRes w0 0 ⟨#[]⟩ ((envD (some [])).set [120] w0.data.toList) W3)) := def_call (some []) [58, 61] w0 w0 (by decide) (by decide) HX.out H2.out HQ.out 3 HD.out.2.2.1 (by decide) (by rfl) va nv cv none 0 0 W3 (HE1.out.below HX3.out.2.1) (HT.out.below HF.out (HB1.out.trans (HX3.out.2.1.mono HB1.out.size)))
      refine HC4.out.mono ?_; rintro x w4 ⟨va4, nv4, cv4, aa4, na4, ca4, rfl, hE4, hb4⟩
      obtain ⟨c0, c1, c2, c3, f0, f1, f2, f3, lt1⟩ := four_facts ((HR1.out.below HX3.out.2.1).below hb4)
      clear HC4
      go_wp2_with fail
      obtain ⟨W4, hW4⟩ : ∃ W4, (w4.alloc (.cells #[.slice va4 nv4 cv4, .slice aa4 na4 ca4, .int .i64 0, .string ⟨#[]⟩] 28)).alloc (.cells #[.int .i64 0, .string ⟨#[]⟩] 33) = W4 := ⟨_, rfl⟩
      obtain ⟨re4, rf4, bb4⟩ := two_boxes [.slice va4 nv4 cv4, .slice aa4 na4 ca4, .int .i64 0, .string ⟨#[]⟩] [.int .i64 0, .string ⟨#[]⟩] 28 33 hW4
      rw [hW4]
      clear hW4
      have b4 : Below W3.heap.size W3 W4 := hb4.trans (bb4.mono hb4.size)
      have bX4 : Below W1.heap.size W1 W4 := HX3.out.2.1.trans (b4.mono HX3.out.2.1.size)
      have eX4 : EnvA W4 (.slice va4 nv4 cv4) (.slice aa4 na4 ca4) ((envD (some [])).set [120] w0.data.toList) := hE4.below bb4
      have HX4 := Lib.hid (And.intro b4 (And.intro bX4 (And.intro rf4 (And.intro re4 eX4))))
      clear b4 bX4 rf4 re4 bb4 hb4 hE4 eX4 c0 c1 c2 c3 f0 f1 f2 f3 lt1
      have HC5 : Hid (Calls Tryz.prog 14 #[env0 va nv cv none 0 0 ⟨#[]⟩, .string (⟨#[36, 123, 120, 58, 43]⟩ ++ (⟨#[39]⟩ ++ w0 ++ ⟨#[39]⟩) ++ ⟨#[125]⟩)] W4 (TextRes ⟨#[]⟩ 0 ⟨#[]⟩ (envD (some [])) W4)) := def_call (some []) [58, 43] w0 ⟨#[]⟩ (by decide) (by decide) HX.out H2.out HQ.out 5 HD.out.2.2.2.1 (by decide) (by rfl) va nv cv none 0 0 W4 (HE1.out.below HX4.out.2.1) (HT.out.below HF.out (HB1.out.trans (HX4.out.2.1.mono HB1.out.size)))
      refine HC5.out.mono ?_; rintro x w5 ⟨va5, nv5, cv5, aa5, na5, ca5, rfl, hE5, hb5⟩
      obtain ⟨c0, c1, c2, c3, f0, f1, f2, f3, lt1⟩ := four_facts ((HR1.out.below HX4.out.2.1).below hb5)
      clear HC5
      go_wp2_with fail
      obtain ⟨W5, hW5⟩ : ∃ W5, (w5.alloc (.cells #[.slice va5 nv5 cv5, .slice aa5 na5 ca5, .int .i64 0, .string ⟨#[]⟩] 28)).alloc (.cells #[.int .i64 0, .string ⟨#[]⟩] 33) = W5 := ⟨_, rfl⟩
      obtain ⟨re5, rf5, bb5⟩ := two_boxes [.slice va5 nv5 cv5, .slice aa5 na5 ca5, .int .i64 0, .string ⟨#[]⟩] [.int .i64 0, .string ⟨#[]⟩] 28 33 hW5
      rw [hW5]
      clear hW5
      have b5 : Below W4.heap.size W4 W5 := hb5.trans (bb5.mono hb5.size)
      have bX5 : Below W1.heap.size W1 W5 := HX4.out.2.1.trans (b5.mono HX4.out.2.1.size)
      have eX5 : EnvA W5 (.slice va5 nv5 cv5) (.slice aa5 na5 ca5) (envD (some [])) := hE5.below bb5
      have HX5 := Lib.hid (And.intro b5 (And.intro bX5 (And.intro rf5 (And.intro re5 eX5))))
      clear b5 bX5 rf5 re5 bb5 hb5 hE5 eX5 c0 c1 c2 c3 f0 f1 f2 f3 lt1
      have HC6 : Hid (Calls Tryz.prog 14 #[env0 va nv cv none 0 0 ⟨#[]⟩, .string (⟨#[36, 123, 120, 43]⟩ ++ (⟨#[39]⟩ ++ w0 ++ ⟨#[39]⟩) ++ ⟨#[125]⟩)] W5 (TextRes w0 0 ⟨#[]⟩ (envD (some [])) W5)) := def_call (some []) [43] w0 w0 (by decide) (by decide) HX.out H2.out HQ.out 2 HD.out.2.2.2.2 (by decide) (by rfl) va nv cv none 0 0 W5 (HE1.out.below HX5.out.2.1) (HT.out.below HF.out (HB1.out.trans (HX5.out.2.1.mono HB1.out.size)))
      refine HC6.out.mono ?_; rintro x w6 ⟨va6, nv6, cv6, aa6, na6, ca6, rfl, hE6, hb6⟩
      obtain ⟨c0, c1, c2, c3, f0, f1, f2, f3, lt1⟩ := four_facts ((HR1.out.below HX5.out.2.1).below hb6)
      clear HC6
      go_wp2_with fail
      obtain ⟨W6, hW6⟩ : ∃ W6, (w6.alloc (.cells #[.slice va6 nv6 cv6, .slice aa6 na6 ca6, .int .i64 0, .string ⟨#[]⟩] 28)).alloc (.cells #[.int .i64 0, .string ⟨#[]⟩] 33) = W6 := ⟨_, rfl⟩
      obtain ⟨re6, rf6, bb6⟩ := two_boxes [.slice va6 nv6 cv6, .slice aa6 na6 ca6, .int .i64 0, .string ⟨#[]⟩] [.int .i64 0, .string ⟨#[]⟩] 28 33 hW6
      rw [hW6]
      clear hW6
      have b6 : Below W5.heap.size W5 W6 := hb6.trans (bb6.mono hb6.size)
      have bX6 : Below W1.heap.size W1 W6 := HX5.out.2.1.trans (b6.mono HX5.out.2.1.size)
      have eX6 : EnvA W6 (.slice va6 nv6 cv6) (.slice aa6 na6 ca6) (envD (some [])) := hE6.below bb6
      have HX6 := Lib.hid (And.intro b6 (And.intro bX6 (And.intro rf6 (And.intro re6 eX6))))
      clear b6 bX6 rf6 re6 bb6 hb6 hE6 eX6 c0 c1 c2 c3 f0 f1 f2 f3 lt1
      have HC7 := Lib.hid (fail_call (some []) ⟨#[]⟩ 23 ⟨#[120]⟩ HX.out (by rw [if_neg (by decide)]; exact ⟨rfl, rfl, rfl⟩) va nv cv none 0 0 W6 (HE1.out.below HX6.out.2.1) (HT.out.below HF.out (HB1.out.trans (HX6.out.2.1.mono HB1.out.size))))
      refine HC7.out.mono ?_; rintro x w7 ⟨va7, nv7, cv7, aa7, na7, ca7, rfl, hE7, hb7⟩
      have b67 : Below W6.heap.size W6 w7 := hb7
      have b57 := HX6.out.1.trans (b67.mono HX6.out.1.size)
      have b47 := HX5.out.1.trans (b57.mono HX5.out.1.size)
      have b37 := HX4.out.1.trans (b47.mono HX4.out.1.size)
      have b27 := HX3.out.1.trans (b37.mono HX3.out.1.size)
      have b17 := HX2.out.1.trans (b27.mono HX2.out.1.size)
      obtain ⟨i20, i21, i22, i23, i24⟩ := two_facts (((HX2.out.2.2.1.below b27).alloc (.cells #[.slice va7 nv7 cv7, .slice aa7 na7 ca7, .int .i64 0, .string ⟨#[]⟩] 28)).alloc (.cells #[.int .i64 23, .string ⟨#[120]⟩] 33))
      obtain ⟨i30, i31, i32, i33, i34⟩ := two_facts (((HX3.out.2.2.1.below b37).alloc (.cells #[.slice va7 nv7 cv7, .slice aa7 na7 ca7, .int .i64 0, .string ⟨#[]⟩] 28)).alloc (.cells #[.int .i64 23, .string ⟨#[120]⟩] 33))
      obtain ⟨i40, i41, i42, i43, i44⟩ := two_facts (((HX4.out.2.2.1.below b47).alloc (.cells #[.slice va7 nv7 cv7, .slice aa7 na7 ca7, .int .i64 0, .string ⟨#[]⟩] 28)).alloc (.cells #[.int .i64 23, .string ⟨#[120]⟩] 33))
      obtain ⟨i50, i51, i52, i53, i54⟩ := two_facts (((HX5.out.2.2.1.below b57).alloc (.cells #[.slice va7 nv7 cv7, .slice aa7 na7 ca7, .int .i64 0, .string ⟨#[]⟩] 28)).alloc (.cells #[.int .i64 23, .string ⟨#[120]⟩] 33))
      obtain ⟨i60, i61, i62, i63, i64⟩ := two_facts (((HX6.out.2.2.1.below b67).alloc (.cells #[.slice va7 nv7 cv7, .slice aa7 na7 ca7, .int .i64 0, .string ⟨#[]⟩] 28)).alloc (.cells #[.int .i64 23, .string ⟨#[120]⟩] 33))
      obtain ⟨o0, o1, o2, o3, o4, o5, o6, o7, o8⟩ := four_facts (((HX4.out.2.2.2.1.below b47).alloc (.cells #[.slice va7 nv7 cv7, .slice aa7 na7 ca7, .int .i64 0, .string ⟨#[]⟩] 28)).alloc (.cells #[.int .i64 23, .string ⟨#[120]⟩] 33))
      have hE47 : EnvA ((w7.alloc (.cells #[.slice va7 nv7 cv7, .slice aa7 na7 ca7, .int .i64 0, .string ⟨#[]⟩] 28)).alloc (.cells #[.int .i64 23, .string ⟨#[120]⟩] 33)) (.slice va4 nv4 cv4) (.slice aa4 na4 ca4) _ := (HX4.out.2.2.2.2.below b47).below (below_two (Below.refl _ w7) (Nat.le_refl _) (.cells #[.slice va7 nv7 cv7, .slice aa7 na7 ca7, .int .i64 0, .string ⟨#[]⟩] 28) (.cells #[.int .i64 23, .string ⟨#[120]⟩] 33))
      have HG := Lib.hid (def_get _ w0 (by rw [(set_status _ _ _).1]; exact (envD_st _).1) (by rw [(set_status _ _ _).2.1]; exact (envD_st _).2) (envD_set _ _) va4 nv4 cv4 aa4 na4 ca4 _ hE47)
      have HBF : Hid (Below w.heap.size w ((w7.alloc (.cells #[.slice va7 nv7 cv7, .slice aa7 na7 ca7, .int .i64 0, .string ⟨#[]⟩] 28)).alloc (.cells #[.int .i64 23, .string ⟨#[120]⟩] 33))) := below_two (HB1.out.trans (b17.mono HB1.out.size)) (by have := HB1.out.size; have := b17.size; omega) (.cells #[.slice va7 nv7 cv7, .slice aa7 na7 ca7, .int .i64 0, .string ⟨#[]⟩] 28) (.cells #[.int .i64 23, .string ⟨#[120]⟩] 33)
      clear HC7 hb7 b67 b57 b47 b37 b27 b17 HX2 HX3 HX4 HX5 HX6 HR1 HE1 hE7 hE47
      go_wp2_with fail
      refine HG.out.mono ?_; rintro x w8 ⟨rfl, hb8⟩
      have HB8 := Lib.hid hb8
      clear hb8 HG
      go_wp2_with fail
      go_ret
      exact ⟨rfl, HBF.out.trans (HB8.out.mono HBF.out.size)⟩
theorem does_C  : doesP [58, 45] ((none : Option (List UInt8)).getD []) (none : Option (List UInt8)).isSome = 2 ∧ doesP [45] ((none : Option (List UInt8)).getD []) (none : Option (List UInt8)).isSome = 2 ∧ doesP [58, 61] ((none : Option (List UInt8)).getD []) (none : Option (List UInt8)).isSome = 3 ∧ doesP [58, 43] ((none : Option (List UInt8)).getD []) (none : Option (List UInt8)).isSome = 5 ∧ doesP [43] ((none : Option (List UInt8)).getD []) (none : Option (List UInt8)).isSome = 5 := by
  exact ⟨rfl, rfl, rfl, rfl, rfl⟩
set_option maxRecDepth 100000 in
set_option maxHeartbeats 16000000 in
theorem default_C (v w0 : ByteArray) (h1 : v.size ≤ 30) (h2 : w0.size ≤ 30) (hq : (39 : UInt8) ∉ w0.data.toList) (w : World) (hT : Tab w) :
    Calls Tryz.prog 4 #[.string v, .string w0, .bool false] w fun e w' => e = .returned (.bool true) ∧ Below w.heap.size w w' := by
  have HA := Lib.hid (awake_any w hT)
  have HT := Lib.hid hT
  have HF := Lib.hid hT.lt
  have h2' : ¬ (30 : Int) < (w0.size : Int) := by omega
  have hz := word_sizes w0 h2
  have HQ := Lib.hid hq
  have H2 := Lib.hid h2
  have h1' : ¬ (30 : Int) < (v.size : Int) := by omega
  have HX : Hid (((none : Option (List UInt8)).getD []).length ≤ 30) := (by unfold Hid; decide)
  have HD := Lib.hid (does_C)
  have hs1 := hz 1 (by omega)
  have hs2 := hz 2 (by omega)
  have hs6 := hz 6 (by omega)
  have hs7 := hz 7 (by omega)
  have hs5 := hz 5 (by omega)
  clear hT hq hz
  go_enter Tryz.func4, Tryz.ntmps4
  go_wp2_with fail
  refine HA.out.mono ?_; rintro e w1 ⟨rfl, hb⟩
  have HB := Lib.hid hb
  clear hb
  go_wp2_with fail
  go_loopg [8] w0.size (fun g s8 wx => wx = w1 ∧ ∃ i : Nat, i + g = w0.size ∧ s8 = .int .i64 i)
  case atStart => exact ⟨rfl, 0, by omega, rfl⟩
  case round =>
    obtain ⟨rfl, i, hig, rfl⟩ := hrel
    cases gk with
    | succ g =>
      have hi : i < w0.size := by omega
      have hc1 : w0[i].toNat ≠ 39 := fun e => HQ.out (by
        have : w0[i] = 39 := UInt8.toNat_inj.1 (e.trans rfl)
        rw [← this]
        exact List.getElem_mem (by simpa using hi))
      have hc2 : ((w0[i].toNat : Int) == 39) = false := by simp; omega
      go_wp2_with fail
      go_roundg g
      case measure => omega
      case rel => exact ⟨rfl, i + 1, by omega, rfl⟩
    | zero =>
      obtain rfl : i = w0.size := by omega
      go_wp2_with fail
      obtain ⟨va, hva⟩ : ∃ va : Option Addr, va = none := ⟨_, rfl⟩
      obtain ⟨nv, hnv⟩ : ∃ nv : Nat, nv = 0 := ⟨_, rfl⟩
      obtain ⟨cv, hcv⟩ : ∃ cv : Nat, cv = 0 := ⟨_, rfl⟩
      obtain ⟨W1, hW1⟩ : ∃ W1, (wr.alloc (.cells #[.slice none 0 0, .slice none 0 0, .int .i64 0, .string ⟨#[]⟩] 28)) = W1 := ⟨_, rfl⟩
      have r1 : RowIs W1 wr.heap.size 28 [.slice none 0 0, .slice none 0 0, .int .i64 0, .string ⟨#[]⟩] := by rw [← hW1]; exact RowIs.new wr _ _
      have B1 : Below w.heap.size w W1 := by rw [← hW1]; exact HB.out.alloc HB.out.size _
      have E1 : EnvA W1 (.slice none 0 0) (.slice none 0 0) (envD none) := env_zero W1
      rw [hW1]
      clear hW1
      have HR1 := Lib.hid r1
      have HB1 := Lib.hid B1
      have HE1 := Lib.hid E1
      clear r1 B1 E1
      have HC2 : Hid (Calls Tryz.prog 14 #[env0 none 0 0 none 0 0 ⟨#[]⟩, .string (⟨#[36, 123, 120, 58, 45]⟩ ++ (⟨#[39]⟩ ++ w0 ++ ⟨#[39]⟩) ++ ⟨#[125]⟩)] W1 (TextRes w0 0 ⟨#[]⟩ (envD none) W1)) := def_call none [58, 45] w0 w0 (by decide) (by decide) HX.out H2.out HQ.out 2 HD.out.1 (by decide) (by rfl) none 0 0 none 0 0 W1 HE1.out (HT.out.below HF.out HB1.out)
      refine HC2.out.mono ?_; rintro x w2 ⟨va2, nv2, cv2, aa2, na2, ca2, rfl, hE2, hb2⟩
      obtain ⟨c0, c1, c2, c3, f0, f1, f2, f3, lt1⟩ := four_facts (HR1.out.below hb2)
      clear HC2
      go_wp2_with fail
      obtain ⟨W2, hW2⟩ : ∃ W2, (w2.alloc (.cells #[.slice va2 nv2 cv2, .slice aa2 na2 ca2, .int .i64 0, .string ⟨#[]⟩] 28)).alloc (.cells #[.int .i64 0, .string ⟨#[]⟩] 33) = W2 := ⟨_, rfl⟩
      obtain ⟨re2, rf2, bb2⟩ := two_boxes [.slice va2 nv2 cv2, .slice aa2 na2 ca2, .int .i64 0, .string ⟨#[]⟩] [.int .i64 0, .string ⟨#[]⟩] 28 33 hW2
      rw [hW2]
      clear hW2
      have b2 : Below W1.heap.size W1 W2 := hb2.trans (bb2.mono hb2.size)
      have bX2 : Below W1.heap.size W1 W2 := b2
      have eX2 : EnvA W2 (.slice va2 nv2 cv2) (.slice aa2 na2 ca2) (envD none) := hE2.below bb2
      have HX2 := Lib.hid (And.intro b2 (And.intro bX2 (And.intro rf2 (And.intro re2 eX2))))
      clear b2 bX2 rf2 re2 bb2 hb2 hE2 eX2 c0 c1 c2 c3 f0 f1 f2 f3 lt1
      have HC3 : Hid (Calls Tryz.prog 14 #[env0 none 0 0 none 0 0 ⟨#[]⟩, .string (⟨#[36, 123, 120, 45]⟩ ++ (⟨#[39]⟩ ++ w0 ++ ⟨#[39]⟩) ++ ⟨#[125]⟩)] W2 (TextRes w0 0 ⟨#[]⟩ (envD none) W2)) := def_call none [45] w0 w0 (by decide) (by decide) HX.out H2.out HQ.out 2 HD.out.2.1 (by decide) (by rfl) none 0 0 none 0 0 W2 (HE1.out.below HX2.out.2.1) (HT.out.below HF.out (HB1.out.trans (HX2.out.2.1.mono HB1.out.size)))
      refine HC3.out.mono ?_; rintro x w3 ⟨va3, nv3, cv3, aa3, na3, ca3, rfl, hE3, hb3⟩
      obtain ⟨c0, c1, c2, c3, f0, f1, f2, f3, lt1⟩ := four_facts ((HR1.out.below HX2.out.2.1).below hb3)
      clear HC3
      go_wp2_with fail
      obtain ⟨W3, hW3⟩ : ∃ W3, (w3.alloc (.cells #[.slice va3 nv3 cv3, .slice aa3 na3 ca3, .int .i64 0, .string ⟨#[]⟩] 28)).alloc (.cells #[.int .i64 0, .string ⟨#[]⟩] 33) = W3 := ⟨_, rfl⟩
      obtain ⟨re3, rf3, bb3⟩ := two_boxes [.slice va3 nv3 cv3, .slice aa3 na3 ca3, .int .i64 0, .string ⟨#[]⟩] [.int .i64 0, .string ⟨#[]⟩] 28 33 hW3
      rw [hW3]
      clear hW3
      have b3 : Below W2.heap.size W2 W3 := hb3.trans (bb3.mono hb3.size)
      have bX3 : Below W1.heap.size W1 W3 := HX2.out.2.1.trans (b3.mono HX2.out.2.1.size)
      have eX3 : EnvA W3 (.slice va3 nv3 cv3) (.slice aa3 na3 ca3) (envD none) := hE3.below bb3
      have HX3 := Lib.hid (And.intro b3 (And.intro bX3 (And.intro rf3 (And.intro re3 eX3))))
      clear b3 bX3 rf3 re3 bb3 hb3 hE3 eX3 c0 c1 c2 c3 f0 f1 f2 f3 lt1
      have HC4 : Hid (Calls Tryz.prog 14 #[env0 none 0 0 none 0 0 ⟨#[]⟩, .string (⟨#[36, 123, 120, 58, 61]⟩ ++ (⟨#[39]⟩ ++ w0 ++ ⟨#[39]⟩) ++ ⟨#[125]⟩)] W3 (TextRes w0 0 ⟨#[]⟩ ((envD none).set [120] w0.data.toList) W3)) := def_call none [58, 61] w0 w0 (by decide) (by decide) HX.out H2.out HQ.out 3 HD.out.2.2.1 (by decide) (by rfl) none 0 0 none 0 0 W3 (HE1.out.below HX3.out.2.1) (HT.out.below HF.out (HB1.out.trans (HX3.out.2.1.mono HB1.out.size)))
      refine HC4.out.mono ?_; rintro x w4 ⟨va4, nv4, cv4, aa4, na4, ca4, rfl, hE4, hb4⟩
      obtain ⟨c0, c1, c2, c3, f0, f1, f2, f3, lt1⟩ := four_facts ((HR1.out.below HX3.out.2.1).below hb4)
      clear HC4
      go_wp2_with fail
      obtain ⟨W4, hW4⟩ : ∃ W4, (w4.alloc (.cells #[.slice va4 nv4 cv4, .slice aa4 na4 ca4, .int .i64 0, .string ⟨#[]⟩] 28)).alloc (.cells #[.int .i64 0, .string ⟨#[]⟩] 33) = W4 := ⟨_, rfl⟩
      obtain ⟨re4, rf4, bb4⟩ := two_boxes [.slice va4 nv4 cv4, .slice aa4 na4 ca4, .int .i64 0, .string ⟨#[]⟩] [.int .i64 0, .string ⟨#[]⟩] 28 33 hW4
      rw [hW4]
      clear hW4
      have b4 : Below W3.heap.size W3 W4 := hb4.trans (bb4.mono hb4.size)
      have bX4 : Below W1.heap.size W1 W4 := HX3.out.2.1.trans (b4.mono HX3.out.2.1.size)
      have eX4 : EnvA W4 (.slice va4 nv4 cv4) (.slice aa4 na4 ca4) ((envD none).set [120] w0.data.toList) := hE4.below bb4
      have HX4 := Lib.hid (And.intro b4 (And.intro bX4 (And.intro rf4 (And.intro re4 eX4))))
      clear b4 bX4 rf4 re4 bb4 hb4 hE4 eX4 c0 c1 c2 c3 f0 f1 f2 f3 lt1
      have HC5 : Hid (Calls Tryz.prog 14 #[env0 none 0 0 none 0 0 ⟨#[]⟩, .string (⟨#[36, 123, 120, 58, 43]⟩ ++ (⟨#[39]⟩ ++ w0 ++ ⟨#[39]⟩) ++ ⟨#[125]⟩)] W4 (TextRes ⟨#[]⟩ 0 ⟨#[]⟩ (envD none) W4)) := def_call none [58, 43] w0 ⟨#[]⟩ (by decide) (by decide) HX.out H2.out HQ.out 5 HD.out.2.2.2.1 (by decide) (by rfl) none 0 0 none 0 0 W4 (HE1.out.below HX4.out.2.1) (HT.out.below HF.out (HB1.out.trans (HX4.out.2.1.mono HB1.out.size)))
      refine HC5.out.mono ?_; rintro x w5 ⟨va5, nv5, cv5, aa5, na5, ca5, rfl, hE5, hb5⟩
      obtain ⟨c0, c1, c2, c3, f0, f1, f2, f3, lt1⟩ := four_facts ((HR1.out.below HX4.out.2.1).below hb5)
      clear HC5
      go_wp2_with fail
      obtain ⟨W5, hW5⟩ : ∃ W5, (w5.alloc (.cells #[.slice va5 nv5 cv5, .slice aa5 na5 ca5, .int .i64 0, .string ⟨#[]⟩] 28)).alloc (.cells #[.int .i64 0, .string ⟨#[]⟩] 33) = W5 := ⟨_, rfl⟩
      obtain ⟨re5, rf5, bb5⟩ := two_boxes [.slice va5 nv5 cv5, .slice aa5 na5 ca5, .int .i64 0, .string ⟨#[]⟩] [.int .i64 0, .string ⟨#[]⟩] 28 33 hW5
      rw [hW5]
      clear hW5
      have b5 : Below W4.heap.size W4 W5 := hb5.trans (bb5.mono hb5.size)
      have bX5 : Below W1.heap.size W1 W5 := HX4.out.2.1.trans (b5.mono HX4.out.2.1.size)
      have eX5 : EnvA W5 (.slice va5 nv5 cv5) (.slice aa5 na5 ca5) (envD none) := hE5.below bb5
      have HX5 := Lib.hid (And.intro b5 (And.intro bX5 (And.intro rf5 (And.intro re5 eX5))))
      clear b5 bX5 rf5 re5 bb5 hb5 hE5 eX5 c0 c1 c2 c3 f0 f1 f2 f3 lt1
      have HC6 : Hid (Calls Tryz.prog 14 #[env0 none 0 0 none 0 0 ⟨#[]⟩, .string (⟨#[36, 123, 120, 43]⟩ ++ (⟨#[39]⟩ ++ w0 ++ ⟨#[39]⟩) ++ ⟨#[125]⟩)] W5 (TextRes ⟨#[]⟩ 0 ⟨#[]⟩ (envD none) W5)) := def_call none [43] w0 ⟨#[]⟩ (by decide) (by decide) HX.out H2.out HQ.out 5 HD.out.2.2.2.2 (by decide) (by rfl) none 0 0 none 0 0 W5 (HE1.out.below HX5.out.2.1) (HT.out.below HF.out (HB1.out.trans (HX5.out.2.1.mono HB1.out.size)))
      refine HC6.out.mono ?_; rintro x w6 ⟨va6, nv6, cv6, aa6, na6, ca6, rfl, hE6, hb6⟩
      obtain ⟨c0, c1, c2, c3, f0, f1, f2, f3, lt1⟩ := four_facts ((HR1.out.below HX5.out.2.1).below hb6)
      clear HC6
      go_wp2_with fail
      obtain ⟨W6, hW6⟩ : ∃ W6, (w6.alloc (.cells #[.slice va6 nv6 cv6, .slice aa6 na6 ca6, .int .i64 0, .string ⟨#[]⟩] 28)).alloc (.cells #[.int .i64 0, .string ⟨#[]⟩] 33) = W6 := ⟨_, rfl⟩
      obtain ⟨re6, rf6, bb6⟩ := two_boxes [.slice va6 nv6 cv6, .slice aa6 na6 ca6, .int .i64 0, .string ⟨#[]⟩] [.int .i64 0, .string ⟨#[]⟩] 28 33 hW6
      rw [hW6]
      clear hW6
      have b6 : Below W5.heap.size W5 W6 := hb6.trans (bb6.mono hb6.size)
      have bX6 : Below W1.heap.size W1 W6 := HX5.out.2.1.trans (b6.mono HX5.out.2.1.size)
      have eX6 : EnvA W6 (.slice va6 nv6 cv6) (.slice aa6 na6 ca6) (envD none) := hE6.below bb6
      have HX6 := Lib.hid (And.intro b6 (And.intro bX6 (And.intro rf6 (And.intro re6 eX6))))
      clear b6 bX6 rf6 re6 bb6 hb6 hE6 eX6 c0 c1 c2 c3 f0 f1 f2 f3 lt1
      have HC7 := Lib.hid (fail_call none ⟨#[]⟩ 23 ⟨#[120]⟩ HX.out (by rw [if_neg (by decide)]; exact ⟨rfl, rfl, rfl⟩) none 0 0 none 0 0 W6 (HE1.out.below HX6.out.2.1) (HT.out.below HF.out (HB1.out.trans (HX6.out.2.1.mono HB1.out.size))))
      refine HC7.out.mono ?_; rintro x w7 ⟨va7, nv7, cv7, aa7, na7, ca7, rfl, hE7, hb7⟩
      have b67 : Below W6.heap.size W6 w7 := hb7
      have b57 := HX6.out.1.trans (b67.mono HX6.out.1.size)
      have b47 := HX5.out.1.trans (b57.mono HX5.out.1.size)
      have b37 := HX4.out.1.trans (b47.mono HX4.out.1.size)
      have b27 := HX3.out.1.trans (b37.mono HX3.out.1.size)
      have b17 := HX2.out.1.trans (b27.mono HX2.out.1.size)
      obtain ⟨i20, i21, i22, i23, i24⟩ := two_facts (((HX2.out.2.2.1.below b27).alloc (.cells #[.slice va7 nv7 cv7, .slice aa7 na7 ca7, .int .i64 0, .string ⟨#[]⟩] 28)).alloc (.cells #[.int .i64 23, .string ⟨#[120]⟩] 33))
      obtain ⟨i30, i31, i32, i33, i34⟩ := two_facts (((HX3.out.2.2.1.below b37).alloc (.cells #[.slice va7 nv7 cv7, .slice aa7 na7 ca7, .int .i64 0, .string ⟨#[]⟩] 28)).alloc (.cells #[.int .i64 23, .string ⟨#[120]⟩] 33))
      obtain ⟨i40, i41, i42, i43, i44⟩ := two_facts (((HX4.out.2.2.1.below b47).alloc (.cells #[.slice va7 nv7 cv7, .slice aa7 na7 ca7, .int .i64 0, .string ⟨#[]⟩] 28)).alloc (.cells #[.int .i64 23, .string ⟨#[120]⟩] 33))
      obtain ⟨i50, i51, i52, i53, i54⟩ := two_facts (((HX5.out.2.2.1.below b57).alloc (.cells #[.slice va7 nv7 cv7, .slice aa7 na7 ca7, .int .i64 0, .string ⟨#[]⟩] 28)).alloc (.cells #[.int .i64 23, .string ⟨#[120]⟩] 33))
      obtain ⟨i60, i61, i62, i63, i64⟩ := two_facts (((HX6.out.2.2.1.below b67).alloc (.cells #[.slice va7 nv7 cv7, .slice aa7 na7 ca7, .int .i64 0, .string ⟨#[]⟩] 28)).alloc (.cells #[.int .i64 23, .string ⟨#[120]⟩] 33))
      obtain ⟨o0, o1, o2, o3, o4, o5, o6, o7, o8⟩ := four_facts (((HX4.out.2.2.2.1.below b47).alloc (.cells #[.slice va7 nv7 cv7, .slice aa7 na7 ca7, .int .i64 0, .string ⟨#[]⟩] 28)).alloc (.cells #[.int .i64 23, .string ⟨#[120]⟩] 33))
      have hE47 : EnvA ((w7.alloc (.cells #[.slice va7 nv7 cv7, .slice aa7 na7 ca7, .int .i64 0, .string ⟨#[]⟩] 28)).alloc (.cells #[.int .i64 23, .string ⟨#[120]⟩] 33)) (.slice va4 nv4 cv4) (.slice aa4 na4 ca4) _ := (HX4.out.2.2.2.2.below b47).below (below_two (Below.refl _ w7) (Nat.le_refl _) (.cells #[.slice va7 nv7 cv7, .slice aa7 na7 ca7, .int .i64 0, .string ⟨#[]⟩] 28) (.cells #[.int .i64 23, .string ⟨#[120]⟩] 33))
      have HG := Lib.hid (def_get _ w0 (by rw [(set_status _ _ _).1]; exact (envD_st _).1) (by rw [(set_status _ _ _).2.1]; exact (envD_st _).2) (envD_set _ _) va4 nv4 cv4 aa4 na4 ca4 _ hE47)
      have HBF : Hid (Below w.heap.size w ((w7.alloc (.cells #[.slice va7 nv7 cv7, .slice aa7 na7 ca7, .int .i64 0, .string ⟨#[]⟩] 28)).alloc (.cells #[.int .i64 23, .string ⟨#[120]⟩] 33))) := below_two (HB1.out.trans (b17.mono HB1.out.size)) (by have := HB1.out.size; have := b17.size; omega) (.cells #[.slice va7 nv7 cv7, .slice aa7 na7 ca7, .int .i64 0, .string ⟨#[]⟩] 28) (.cells #[.int .i64 23, .string ⟨#[120]⟩] 33)
      clear HC7 hb7 b67 b57 b47 b37 b27 b17 HX2 HX3 HX4 HX5 HX6 HR1 HE1 hE7 hE47
      go_wp2_with fail
      refine HG.out.mono ?_; rintro x w8 ⟨rfl, hb8⟩
      have HB8 := Lib.hid hb8
      clear hb8 HG
      go_wp2_with fail
      go_ret
      exact ⟨rfl, HBF.out.trans (HB8.out.mono HBF.out.size)⟩
theorem law_default (v : ByteArray) (_hv : v.size ≤ maxLen) (w0 : ByteArray) (_hw : w0.size ≤ maxLen) (set : Bool) (w : World) (hT : Tab w) :
    Calls Tryz.prog 4 #[.string v, .string w0, .bool set] w fun e w' => e = .returned (.bool true) ∧ Below w.heap.size w w' := by
  by_cases h : 30 < v.size ∨ 30 < w0.size
  · exact default_out v w0 set h w hT
  · have h1 : v.size ≤ 30 := by omega
    have h2 : w0.size ≤ 30 := by omega
    by_cases hq : (39 : UInt8) ∈ w0.data.toList
    · exact default_quote v w0 set h1 h2 hq w hT
    · cases set
      · exact default_C v w0 h1 h2 hq w hT
      · by_cases hv : v = ⟨#[]⟩
        · subst hv
          exact default_B w0 h2 hq w hT
        · exact default_A v w0 h1 h2 hv hq w hT
end Go.Proofs.YtkmpbkhlcapbgaaGreatDoor
