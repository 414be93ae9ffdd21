/-
  DERIVED. The walk of arith's one: a number; a name.
-/
import Derived.Test.YtdfpijbngbfjaaaGreatDoorAu
import Derived.Test.YtdfpijbngbfjaaaGreatDoorDg
namespace Go.Proofs.YtdfpijbngbfjaaaGreatDoor
open Go.RowKit
/-- A number, as a tree in memory. -/
def numT (x : Int) : Value := .agg #[.string ⟨#[]⟩, .int .i64 x, .string ⟨#[]⟩, .slice none 0 0]
theorem cut_no (u p : ByteArray) (h : Lib.hasPrefix u.data.toList p.data.toList = false) :
    ∃ r : ByteArray, ∀ w, Calls Tryz.prog 15 #[.string u, .string p] w fun e w' => e = .returned (.tuple #[.string r, .bool false]) ∧ w' = w :=
  ⟨_, fun w => by have hc := Tryz.strings_CutPrefix u p w; rw [h] at hc; exact hc⟩
theorem SignsAt.kept {g : Nat} {w w' : World} (h : SignsAt w) (hg : g ≠ 1) (k : Kept g w w') : SignsAt w' := fun i hi => k.cell (Ne.symm hg) (h i hi)
theorem Kept.new {g : Nat} {w w' : World} (h : Kept g w w') {b : Nat} (hb : w.heap.size ≤ b) (j : Nat) (v : Value) : Kept g w (w'.setCell ⟨b, j, none⟩ v) := by
  have k := (Below.refl w.heap.size w').setCell (p := ⟨b, j, none⟩) hb v
  exact ⟨k.os.trans h.os, k.tape.trans h.tape, k.output.trans h.output, Nat.le_trans h.size k.size, fun i hi hg => (k.block i hi).trans (h.block i hi hg)⟩
abbrev treeL : List Value := [.string ⟨#[]⟩, .int .i64 0, .string ⟨#[]⟩, .slice none 0 0]
theorem tree_facts {W : World} {b e : Nat} {x0 x1 x2 x3 : Value} (r : RowIs W b e [x0, x1, x2, x3]) :
    W.cell? ⟨b, 0, none⟩ = some x0 ∧ W.cell? ⟨b, 1, none⟩ = some x1 ∧ W.cell? ⟨b, 2, none⟩ = some x2 ∧ W.cell? ⟨b, 3, none⟩ = some x3 ∧ W.frozen? ⟨b, 0, none⟩ = false ∧ W.frozen? ⟨b, 1, none⟩ = false ∧ W.frozen? ⟨b, 2, none⟩ = false ∧ W.frozen? ⟨b, 3, none⟩ = false ∧ b < W.heap.size :=
  ⟨by rw [r.cell]; rfl, by rw [r.cell]; rfl, by rw [r.cell]; rfl, by rw [r.cell]; rfl, r.free _, r.free _, r.free _, r.free _, r.lt⟩
set_option maxRecDepth 100000 in
set_option maxHeartbeats 4000000 in
theorem one_num (g : Nat) (s u : ByteArray) (d : Int) (hu : u.data.toList = dropB s.data.toList) (hsz : u.size ≤ 1000000000) (n : Nat) (hn : longZ (bl u) = n) (x : Int) (hx : digitsF (u.extract 0 n) = some x)
    (p1 : Lib.hasPrefix u.data.toList [36, 123] = false) (p2 : Lib.hasPrefix u.data.toList [36] = false) (w : World)
    (hg : g ≠ 1) (hr : RowIs w g 40 [.string s, .int .i64 d]) (hS : SignsAt w) (hE : ∀ w', Kept g w w' → Env w') :
    Calls Tryz.prog 73 #[.pointer (some ⟨g, 0, none⟩)] w fun e w' => e = .returned (numT x) ∧ RowIs w' g 40 [.string (u.extract n u.size), .int .i64 d] ∧ Kept g w w' := by
  obtain ⟨t, ht⟩ : ∃ t : ByteArray, signF s.data.toList = t.data.toList := ⟨⟨(signF s.data.toList).toArray⟩, rfl⟩
  have HS := Lib.hid (fun w => sign_any g s u d hu t ht w hg)
  obtain ⟨ra, hc1⟩ := cut_no u ⟨#[36, 123]⟩ p1
  obtain ⟨rb, hc2⟩ := cut_no u ⟨#[36]⟩ p2
  have HC1 := Lib.hid hc1
  have HC2 := Lib.hid hc2
  have HGS := Lib.hid hg
  clear hc1 hc2
  have hle : n ≤ u.size := by rw [← hn, ← bl_length]; exact longZ_le _
  have HL := Lib.hid (long_any u (by omega) n hn)
  have HD := Lib.hid (digits_any (u.extract 0 n) (by rw [ByteArray.size_extract]; omega) trivial (some x) hx)
  have h1 : (0 : Int) ≤ (n : Int) := by omega
  have h2 : (n : Int) ≤ (u.size : Int) := by omega
  have lg := hr.lt
  have HR := Lib.hid hr
  have HSA := Lib.hid hS
  have HE := Lib.hid hE
  clear hu ht hn hx p1 p2 hr hS hE hg hsz
  go_enter Tryz.func73, Tryz.ntmps73
  go_wp2_with fail
  have k0 := (Kept.refl g w).alloc (.cells #[.string ⟨#[]⟩, .int .i64 0, .string ⟨#[]⟩, .slice none 0 0] 43)
  refine (HS.out _ (HR.out.alloc _) (HSA.out.kept HGS.out k0)).mono ?_; rintro e w1 ⟨rfl, r1, k1⟩
  have K1 := k0.trans k1
  have hne : w.heap.size ≠ g := by omega
  have rz : RowIs w1 w.heap.size 43 treeL := k1.row (RowIs.new _ _ _) hne
  obtain ⟨z0, z1, z2, z3, y0, y1, y2, y3, lz⟩ := tree_facts rz
  have c1 : w1.cell? ⟨g, 0, none⟩ = some (.string u) := by rw [r1.cell]; rfl
  have f1 : w1.frozen? ⟨g, 0, none⟩ = false := r1.free _
  have l1 := r1.lt
  have HR1 := Lib.hid r1
  have HK1 := Lib.hid K1
  have HRZ := Lib.hid rz
  clear r1 k1 K1 k0 rz
  go_wp2_with fail
  refine (HC1.out _).mono ?_; rintro e w2 ⟨rfl, hw⟩; subst hw
  go_wp2_with fail
  refine (HC2.out _).mono ?_; rintro e w2 ⟨rfl, hw⟩; subst hw
  go_wp2_with fail
  refine (HL.out _).mono ?_; rintro e w3 ⟨rfl, rfl⟩
  go_wp2_with fail
  refine (HD.out _ (HE.out _ HK1.out)).mono ?_; rintro e w4 ⟨rfl, b4⟩
  have r4 := HR1.out.below b4
  have q4 := HRZ.out.below b4
  have K4 := HK1.out.trans (.of b4)
  obtain ⟨j0, j1, j2, j3, i0, i1, i2, i3, l4⟩ := tree_facts q4
  have c4 : w4.cell? ⟨g, 0, none⟩ = some (.string u) := by rw [r4.cell]; rfl
  have f4 : w4.frozen? ⟨g, 0, none⟩ = false := r4.free _
  have lg4 := r4.lt
  have HR4 := Lib.hid r4
  have HK4 := Lib.hid K4
  have hne2 : ¬ g = w.heap.size := by omega
  clear r4 q4 K4 b4
  go_wp2_with fail
  exact bodyPost_ret (v := numT x) (by simp [results, Tryz.results73, go_sem, numT, j0, j1, j2, j3]) rfl ⟨rfl, ((((HR4.out.set 0 _).other (Ne.symm hne) _).other (Ne.symm hne) _).other (Ne.symm hne) _).other (Ne.symm hne) _,
    ((((HK4.out.set 0 _).new (Nat.le_refl _) 0 _).new (Nat.le_refl _) 1 _).new (Nat.le_refl _) 2 _).new (Nat.le_refl _) 3 _⟩
set_option maxRecDepth 100000 in
set_option maxHeartbeats 4000000 in
theorem one_name_plain (g : Nat) (s u : ByteArray) (d : Int) (hu : u.data.toList = dropB s.data.toList) (hsz : u.size ≤ 1000000000) (n : Nat) (hn : longZ (bl u) = n) (hx : digitsF (u.extract 0 n) = none) (h0 : 0 < n) (hA : nameAll (bl (u.extract 0 n)) true = true)
    (p1 : Lib.hasPrefix u.data.toList [36, 123] = false) (p2 : Lib.hasPrefix u.data.toList [36] = false) (w : World)
    (hg : g ≠ 1) (hr : RowIs w g 40 [.string s, .int .i64 d]) (hS : SignsAt w) (hE : ∀ w', Kept g w w' → Env w') :
    Calls Tryz.prog 73 #[.pointer (some ⟨g, 0, none⟩)] w fun e w' => e = .returned (varV (u.extract 0 n)) ∧ RowIs w' g 40 [.string (u.extract n u.size), .int .i64 d] ∧ Kept g w w' := by
  obtain ⟨t, ht⟩ : ∃ t : ByteArray, signF s.data.toList = t.data.toList := ⟨⟨(signF s.data.toList).toArray⟩, rfl⟩
  have HS := Lib.hid (fun w => sign_any g s u d hu t ht w hg)
  obtain ⟨ra, hc1⟩ := cut_no u ⟨#[36, 123]⟩ p1
  obtain ⟨rb, hc2⟩ := cut_no u ⟨#[36]⟩ p2
  have HC1 := Lib.hid hc1
  have HC2 := Lib.hid hc2
  have HGS := Lib.hid hg
  clear hc1 hc2
  have hle : n ≤ u.size := by rw [← hn, ← bl_length]; exact longZ_le _
  have HL := Lib.hid (long_any u (by omega) n hn)
  have HD := Lib.hid (digits_any (u.extract 0 n) (by rw [ByteArray.size_extract]; omega) trivial none hx)
  have HNM : Hid (∀ w, RowIs w g 40 [.string u, .int .i64 d] → Calls Tryz.prog 91 #[.pointer (some ⟨g, 0, none⟩)] w fun e w' => e = .returned (.agg #[.string ⟨#[36]⟩, .int .i64 0, .string (u.extract 0 n), .slice none 0 0]) ∧ RowIs w' g 40 [.string (u.extract n u.size), .int .i64 d] ∧ Kept g w w') := name_yes g u d n (by omega) hn h0 hA
  have h1 : (0 : Int) ≤ (n : Int) := by omega
  have h2 : (n : Int) ≤ (u.size : Int) := by omega
  have lg := hr.lt
  have HR := Lib.hid hr
  have HSA := Lib.hid hS
  have HE := Lib.hid hE
  clear hu ht hn hx h0 hA p1 p2 hr hS hE hg hsz
  go_enter Tryz.func73, Tryz.ntmps73
  go_wp2_with fail
  have k0 := (Kept.refl g w).alloc (.cells #[.string ⟨#[]⟩, .int .i64 0, .string ⟨#[]⟩, .slice none 0 0] 43)
  refine (HS.out _ (HR.out.alloc _) (HSA.out.kept HGS.out k0)).mono ?_; rintro e w1 ⟨rfl, r1, k1⟩
  have K1 := k0.trans k1
  have hne : w.heap.size ≠ g := by omega
  have rz : RowIs w1 w.heap.size 43 treeL := k1.row (RowIs.new _ _ _) hne
  obtain ⟨z0, z1, z2, z3, y0, y1, y2, y3, lz⟩ := tree_facts rz
  have c1 : w1.cell? ⟨g, 0, none⟩ = some (.string u) := by rw [r1.cell]; rfl
  have f1 : w1.frozen? ⟨g, 0, none⟩ = false := r1.free _
  have l1 := r1.lt
  have HR1 := Lib.hid r1
  have HK1 := Lib.hid K1
  have HRZ := Lib.hid rz
  clear r1 k1 K1 k0 rz
  go_wp2_with fail
  refine (HC1.out _).mono ?_; rintro e w2 ⟨rfl, hw⟩; subst hw
  go_wp2_with fail
  refine (HC2.out _).mono ?_; rintro e w2 ⟨rfl, hw⟩; subst hw
  go_wp2_with fail
  refine (HL.out _).mono ?_; rintro e w3 ⟨rfl, rfl⟩
  go_wp2_with fail
  refine (HD.out _ (HE.out _ HK1.out)).mono ?_; rintro e w4 ⟨rfl, b4⟩
  have r4 := HR1.out.below b4
  have q4 := HRZ.out.below b4
  have K4 := HK1.out.trans (.of b4)
  clear b4
  go_wp2_with fail
  refine (HNM.out _ r4).mono ?_; rintro e w5 ⟨rfl, r5, k5⟩
  have q5 := k5.row q4 hne
  have K5 := K4.trans k5
  obtain ⟨j0, j1, j2, j3, i0, i1, i2, i3, l5⟩ := tree_facts q5
  have HR5 := Lib.hid r5
  have HK5 := Lib.hid K5
  clear r4 q4 K4 r5 k5 q5 K5
  go_wp2_with fail
  exact bodyPost_ret (v := varV (u.extract 0 n)) (by simp [results, Tryz.results73, go_sem, varV, j0, j1, j2, j3]) rfl ⟨rfl, (((HR5.out.other (Ne.symm hne) _).other (Ne.symm hne) _).other (Ne.symm hne) _).other (Ne.symm hne) _,
    (((HK5.out.new (Nat.le_refl _) 0 _).new (Nat.le_refl _) 1 _).new (Nat.le_refl _) 2 _).new (Nat.le_refl _) 3 _⟩
end Go.Proofs.YtdfpijbngbfjaaaGreatDoor
