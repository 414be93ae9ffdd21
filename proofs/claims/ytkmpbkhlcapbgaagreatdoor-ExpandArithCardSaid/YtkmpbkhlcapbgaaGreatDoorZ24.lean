/-
  DERIVED. The walk of expand's arith: a sum's number, or why it has none.
-/
import Derived.Test.YtkmpbkhlcapbgaaGreatDoorZ20
import Derived.Test.YtkmpbkhlcapbgaaGreatDoorShelf
import Derived.Lib.ItoaNum
import Derived.RegionDies
import Derived.Deep.RegionWith
namespace Go.Proofs.YtkmpbkhlcapbgaaGreatDoor
open Go Go.RowKit Go.Sort
theorem below_growR (w : World) (q : Nat) (os : Array Obj) : Below w.heap.size w (grow (w.drewN q) os) :=
  ⟨rfl, rfl, rfl, by first | (simp [grow]; done) | (simp [grow]; omega), fun i hi => by
    show ((w.drewN q).heap ++ os)[i]? = _
    rw [Array.getElem?_append_left (by show i < w.heap.size; omega)]
    rfl⟩
theorem format_at (n : Int) (h0 : -9223372036854775808 ≤ n) (h1 : n ≤ 9223372036854775807) (w : World) (hM : More w) :
    Calls Tryz.prog 98 #[.int .i64 n, .int .i64 10] w fun e w' => e = .returned (.string ⟨(Lib.itoa n).toArray⟩) ∧ Below w.heap.size w w' :=
  (Tryz.strconv_FormatInt_10 n h0 h1 w hM.pow).mono fun e w' ⟨he, k, os, hw⟩ => ⟨he, by rw [hw]; exact below_growR _ _ _⟩
set_option maxRecDepth 100000 in
set_option maxHeartbeats 8000000 in
theorem xarith_ok (P : Par) (hPK : ParOK P) (g : Nat) (A : Nat → Prop) (e : EnvT) (r : RowT) (k : Nat) (t op : ByteArray) (q : Bool) (a : Option Addr) (m c : Nat) (w : World) (out : ExT) (hW : WorkAt g A w e r)
    (ho : (match P.ev e t.data.toList with
      | none => none
      | some (.inl s) => keepR e (putR r s (sortC q))
      | some (.inr x) => some (.fault x t.data.toList)) = some out) :
    Calls Tryz.prog 67 #[.pointer (some ⟨g, 0, none⟩), .agg #[.int .i64 (k : Nat), .string t, .string op, .bool q, .slice a m c]] w (OutPost g A w out) := by
  have hlg := hW.lt
  have hAl := (Below.refl w.heap.size w).alloc (Nat.le_refl _) (partO k t op q a m c)
  have hW2 := hW.below hAl
  have hK := Kept.of (g := g) hAl
  have hBX := RowIs.new w 92 [.int .i64 k, .string t, .string op, .bool q, .slice a m c]
  go_enter Tryz.func67, Tryz.ntmps67
  go_upto_region 1 with fail
  obtain ⟨W1, hW1⟩ : ∃ W1, (w.alloc (.cells #[.int .i64 k, .string t, .string op, .bool q, .slice a m c] 92)) = W1 := ⟨_, rfl⟩
  have hW3 : WorkAt g A W1 e r := by rw [← hW1]; exact hW2
  have hK3 : Kept g w W1 := by rw [← hW1]; exact hK
  have hB3 : RowIs W1 w.heap.size 92 [.int .i64 k, .string t, .string op, .bool q, .slice a m c] := by rw [← hW1]; exact hBX
  rw [hW1]
  clear hW1 hW hAl hW2 hK hBX
  have hbd := (Below.refl W1.heap.size W1).drew
  have HW := Lib.hid (hW3.below hbd)
  have HK := Lib.hid (hK3.trans (Kept.of hbd))
  have HB := Lib.hid (row_drew hB3)
  obtain ⟨u0, u1, u2, u3, u4, v0, v1, v2, v3, v4, ltu⟩ := five_facts HB.out
  clear hW3 hK3 hB3
  obtain ⟨vv, aa, na, ca, hC⟩ := HW.out
  obtain ⟨va, nv, cv, rfl⟩ := hC.shape
  obtain ⟨d0, d1, d2, d3, d4, d5, g0, g1, g2, g3, g4, g5, lth⟩ := six_facts hC.row
  have hEv : ∀ o, P.ev e t.data.toList = some o → Calls Tryz.prog 97 #[.string t, .slice va nv cv] W1.drew (EvPost o W1.drew) := fun o ho => hPK.ev e t o ho _ _ _ _ hC.env HW.out.full
  clear hC
  cases hev : P.ev e t.data.toList with
  | none => rw [hev] at ho; cases ho
  | some o =>
    have hE := hEv o hev
    rw [hev] at ho
    clear hEv hev
    cases o with
    | inl s =>
      have ho' : keepR e (putR r s (sortC q)) = some out := ho
      obtain ⟨rfl, hb, -⟩ := keepR_is ho'
      have HP : Hid (∀ W, WorkAt g A W e r → Calls Tryz.prog 84 #[.pointer (some ⟨g, 0, none⟩), .string ⟨s.toArray⟩, .int .u8 ((sortC q).toNat : Int)] W (WkPost g A e (putR r s (sortC q)) W)) := fun W h => wput_at g A e r ⟨s.toArray⟩ (sortC q) W h hb
      have HE : Hid (Calls Tryz.prog 97 #[.string t, .slice va nv cv] W1.drew fun x w' => ∃ n : Int, -9223372036854775808 ≤ n ∧ n ≤ 9223372036854775807 ∧ s = Lib.itoa n ∧ x = .returned (.tuple #[.int .i64 n, .int .i64 0]) ∧ Below W1.drew.heap.size W1.drew w') := hE.mono fun x w' ⟨h1, n, h2, h3, h4, h5⟩ => ⟨n, h2, h3, h4, h5, h1⟩
      clear hE ho ho' hb
      go_region_with (go_at_call 97; refine HE.out.mono ?_; rintro y wn ⟨n, h1, h2, hs, rfl, hbn⟩; have HN := Lib.hid (And.intro h1 (And.intro h2 hs)); have HW1 := Lib.hid (HW.out.below hbn); have HK1 := Lib.hid (HK.out.trans (Kept.of hbn)); have HB1 := Lib.hid (HB.out.below hbn); clear h1 h2 hs hbn)
      all_goals
        clear u0 u1 u2 u3 u4 v0 v1 v2 v3 v4 ltu d0 d1 d2 d3 d4 d5 g0 g1 g2 g3 g4 g5 lth HE HW HK HB
        have hbe := (Below.refl wn.heap.size wn).drew
        have HBe := Lib.hid hbe
        have HF : Hid (Calls Tryz.prog 98 #[.int .i64 n, .int .i64 10] wn.drew fun e w' => e = .returned (.string ⟨s.toArray⟩) ∧ Below wn.drew.heap.size wn.drew w') := by rw [HN.out.2.2]; exact format_at n HN.out.1 HN.out.2.1 wn.drew (HW1.out.below hbe).full
        obtain ⟨b0, b1, b2, b3, b4, f0, f1, f2, f3, f4, ltb⟩ := five_facts (row_drew HB1.out)
        clear hbe
        go_wp2_with fail
        go_region_with (first
          | (go_at_call 98; refine HF.out.mono ?_; rintro y wm ⟨rfl, hbm⟩; have HVV := Lib.hid (And.intro (HB1.out.below (HBe.out.trans (hbm.mono HBe.out.size))) (And.intro (HW1.out.below (HBe.out.trans (hbm.mono HBe.out.size))) (HK1.out.trans (Kept.of (HBe.out.trans (hbm.mono HBe.out.size)))))); obtain ⟨j0, j1, j2, j3, j4, k0, k1, k2, k3, k4, ltj⟩ := five_facts HVV.out.1; clear hbm)
          | (go_at_call 89; refine (sort_at q _).mono ?_; rintro y wx ⟨rfl, rfl⟩)
          | (go_at_call 84; refine (HP.out _ HVV.out.2.1).mono ?_; rintro y wy ⟨rfl, hx, hk⟩; have HZ := Lib.hid (And.intro hx (HVV.out.2.2.trans hk)); clear hx hk))
        all_goals
          go_wp2_with fail
          go_end0
          exact ⟨rfl, HZ.out.1, HZ.out.2⟩
    | inr x =>
      have ho' : some (ExT.fault x t.data.toList) = some out := ho
      obtain rfl := Option.some.inj ho'
      have HE : Hid (Calls Tryz.prog 97 #[.string t, .slice va nv cv] W1.drew fun y w' => x ≠ 0 ∧ y = .returned (.tuple #[.int .i64 0, .int .i64 x]) ∧ Below W1.drew.heap.size W1.drew w') := hE.mono fun y w' ⟨h1, h2, h3⟩ => ⟨h2, h3, h1⟩
      clear hE ho ho'
      go_region_with (go_at_call 97; refine HE.out.mono ?_; rintro y wn ⟨hx0, rfl, hbn⟩; have HX0 := Lib.hid hx0; have HK1 := Lib.hid (HK.out.trans (Kept.of hbn)); have HB1 := Lib.hid (HB.out.below hbn); clear hx0 hbn)
      all_goals
        clear u0 u1 u2 u3 u4 v0 v1 v2 v3 v4 ltu d0 d1 d2 d3 d4 d5 g0 g1 g2 g3 g4 g5 lth HE HW HK HB
        have hx1 : (x == 0) = false := by simpa using HX0.out
        have hx2 : (x != 0) = true := by simpa using HX0.out
        obtain ⟨b0, b1, b2, b3, b4, f0, f1, f2, f3, f4, ltb⟩ := five_facts HB1.out
        go_wp2_with fail
        refine (xfail_at x t _).mono ?_; rintro y wz ⟨rfl, rfl⟩
        go_wp2_with fail
        exact ⟨rfl, rfl, HK1.out⟩
end Go.Proofs.YtkmpbkhlcapbgaaGreatDoor
