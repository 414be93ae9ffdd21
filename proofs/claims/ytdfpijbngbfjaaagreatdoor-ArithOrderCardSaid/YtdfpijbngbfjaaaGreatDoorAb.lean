/-
  DERIVED. The walk of arith's one: a name behind a dollar, in braces; trees in memory; one as the parser has it.
-/
import Derived.Test.YtdfpijbngbfjaaaGreatDoorAv
import Derived.Test.YtdfpijbngbfjaaaGreatDoorAy
namespace Go.Proofs.YtdfpijbngbfjaaaGreatDoor
open Go.RowKit
theorem cut_yes (u p x : ByteArray) (h : Lib.hasPrefix u.data.toList p.data.toList = true) (hx : x.data.toList = u.data.toList.drop p.size) (w : World) :
    Calls Tryz.prog 15 #[.string u, .string p] w fun e w' => e = .returned (.tuple #[.string x, .bool true]) ∧ w' = w := by
  have hc := Tryz.strings_CutPrefix u p w
  rw [h] at hc
  have e : x = ⟨(Lib.trimPrefix u.data.toList p.data.toList).toArray⟩ := by
    rw [← Lib.mk_data x, hx]; unfold Lib.trimPrefix; rw [if_pos h, ← Lib.size_eq]
  rw [e]
  exact hc
theorem has_pre (u p : ByteArray) (b : Bool) (h : Lib.hasPrefix u.data.toList p.data.toList = b) (w : World) :
    Calls Tryz.prog 36 #[.string u, .string p] w fun e w' => e = .returned (.bool b) ∧ w' = w := by
  have hc := Tryz.strings_HasPrefix u p w
  rw [h] at hc
  exact hc
set_option maxRecDepth 100000 in
set_option maxHeartbeats 4000000 in
theorem one_dollar (g : Nat) (s u x : ByteArray) (d : Int) (hu : u.data.toList = dropB s.data.toList) (hsz : u.size ≤ 1000000000) (hx : x.data.toList = u.data.toList.drop 1) (n : Nat) (hn : longZ (bl x) = n) (h0 : 0 < n) (hA : nameAll (bl (x.extract 0 n)) true = true)
    (p1 : Lib.hasPrefix u.data.toList [36, 123] = false) (p2 : Lib.hasPrefix u.data.toList [36] = true) (w : World)
    (hg : g ≠ 1) (hr : RowIs w g 40 [.string s, .int .i64 d]) (hS : SignsAt w) :
    Calls Tryz.prog 73 #[.pointer (some ⟨g, 0, none⟩)] w fun e w' => e = .returned (varV (x.extract 0 n)) ∧ RowIs w' g 40 [.string (x.extract n x.size), .int .i64 d] ∧ Kept g w w' := by
  obtain ⟨t, ht⟩ : ∃ t : ByteArray, signF s.data.toList = t.data.toList := ⟨⟨(signF s.data.toList).toArray⟩, rfl⟩
  have HS := Lib.hid (fun w => sign_any g s u d hu t ht w hg)
  obtain ⟨ra, hc1⟩ := cut_no u ⟨#[36, 123]⟩ p1
  have HC1 := Lib.hid hc1
  have HC2 := Lib.hid (cut_yes u ⟨#[36]⟩ x p2 hx)
  have HGS := Lib.hid hg
  clear hc1
  have hxs : x.size ≤ 1000000000 := by rw [Lib.size_eq, hx, List.length_drop, ← Lib.size_eq]; omega
  have HNM : Hid (∀ w, RowIs w g 40 [.string x, .int .i64 d] → Calls Tryz.prog 91 #[.pointer (some ⟨g, 0, none⟩)] w fun e w' => e = .returned (.agg #[.string ⟨#[36]⟩, .int .i64 0, .string (x.extract 0 n), .slice none 0 0]) ∧ RowIs w' g 40 [.string (x.extract n x.size), .int .i64 d] ∧ Kept g w w') := name_yes g x d n (by omega) hn h0 hA
  have lg := hr.lt
  have HR := Lib.hid hr
  have HSA := Lib.hid hS
  clear hu ht hx hxs hn h0 hA p1 p2 hr hS hg hsz
  go_enter Tryz.func73, Tryz.ntmps73
  go_wp2_with fail
  have k0 := (Kept.refl g w).alloc (.cells #[.string ⟨#[]⟩, .int .i64 0, .string ⟨#[]⟩, .slice none 0 0] 43)
  refine (HS.out _ (HR.out.alloc _) (HSA.out.kept HGS.out k0)).mono ?_; rintro e w1 ⟨rfl, r1, k1⟩
  have K1 := k0.trans k1
  have hne : w.heap.size ≠ g := by omega
  have rz : RowIs w1 w.heap.size 43 treeL := k1.row (RowIs.new _ _ _) hne
  have c1 : w1.cell? ⟨g, 0, none⟩ = some (.string u) := by rw [r1.cell]; rfl
  have f1 : w1.frozen? ⟨g, 0, none⟩ = false := r1.free _
  have l1 := r1.lt
  have HR1 := Lib.hid r1
  have HK1 := Lib.hid K1
  have HRZ := Lib.hid rz
  clear r1 k1 K1 k0 rz
  go_wp2_with fail
  refine (HC1.out _).mono ?_; rintro e w2 ⟨rfl, hw⟩; subst hw
  go_wp2_with fail
  refine (HC2.out _).mono ?_; rintro e w2 ⟨rfl, hw⟩; subst hw
  go_wp2_with fail
  refine (HNM.out _ (HR1.out.set 0 _)).mono ?_; rintro e w5 ⟨rfl, r5, k5⟩
  have q5 := k5.row (HRZ.out.other (Ne.intro fun h => hne h) _) hne
  have K5 := (HK1.out.set 0 (.string x)).trans k5
  obtain ⟨j0, j1, j2, j3, i0, i1, i2, i3, l5⟩ := tree_facts q5
  have HR5 := Lib.hid r5
  have HK5 := Lib.hid K5
  clear r5 k5 q5 K5
  go_wp2_with fail
  exact bodyPost_ret (v := varV (x.extract 0 n)) (by simp [results, Tryz.results73, go_sem, varV, j0, j1, j2, j3]) rfl ⟨rfl, (((HR5.out.other (Ne.symm hne) _).other (Ne.symm hne) _).other (Ne.symm hne) _).other (Ne.symm hne) _,
    (((HK5.out.new (Nat.le_refl _) 0 _).new (Nat.le_refl _) 1 _).new (Nat.le_refl _) 2 _).new (Nat.le_refl _) 3 _⟩
end Go.Proofs.YtdfpijbngbfjaaaGreatDoor
