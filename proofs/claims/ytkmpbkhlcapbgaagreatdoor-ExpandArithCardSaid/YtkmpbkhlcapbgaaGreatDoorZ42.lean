/-
  DERIVED. The walk of arith's one, as the parser has it.
-/
import Derived.Test.YtkmpbkhlcapbgaaGreatDoorZ40
namespace Go.Proofs.YtkmpbkhlcapbgaaGreatDoor
open Go.RowKit
set_option maxRecDepth 100000 in
set_option maxHeartbeats 4000000 in
theorem one_brace (g : Nat) (s u x : ByteArray) (d : Int) (hu : u.data.toList = dropB s.data.toList) (hsz : u.size ≤ 1000000000) (hx : x.data.toList = u.data.toList.drop 2) (n : Nat) (hn : longZ (bl x) = n) (h0 : 0 < n) (hA : nameAll (bl (x.extract 0 n)) true = true)
    (p1 : Lib.hasPrefix u.data.toList [36, 123] = true) (y : ByteArray) (hy : y = x.extract n x.size) (p2 : Lib.hasPrefix y.data.toList [125] = true) (w : World)
    (hg : g ≠ 8) (hr : RowIs w g 174 [.string s, .int .i64 d]) (hS : SignsAt w) :
    Calls Tryz.prog 206 #[.pointer (some ⟨g, 0, none⟩)] w fun e w' => e = .returned (varV (x.extract 0 n)) ∧ RowIs w' g 174 [.string (y.extract 1 y.size), .int .i64 d] ∧ Kept g w w' := by
  obtain ⟨t, ht⟩ : ∃ t : ByteArray, signF s.data.toList = t.data.toList := ⟨⟨(signF s.data.toList).toArray⟩, rfl⟩
  have HS := Lib.hid (fun w => sign_any g s u d hu t ht w hg)
  have HC1 := Lib.hid (cut_yes u ⟨#[36, 123]⟩ x p1 hx)
  have HP2 := Lib.hid (has_pre y ⟨#[125]⟩ true p2)
  have HGS := Lib.hid hg
  have hxs : x.size ≤ 1000000000 := by rw [Lib.size_eq, hx, List.length_drop, ← Lib.size_eq]; omega
  have HNM : Hid (∀ w, RowIs w g 174 [.string x, .int .i64 d] → Calls Tryz.prog 213 #[.pointer (some ⟨g, 0, none⟩)] w fun e w' => e = .returned (.agg #[.string ⟨#[36]⟩, .int .i64 0, .string (x.extract 0 n), .slice none 0 0]) ∧ RowIs w' g 174 [.string y, .int .i64 d] ∧ Kept g w w') := hy ▸ name_yes g x d n (by omega) hn h0 hA
  have h1y : (1 : Int) ≤ (y.size : Int) := by
    have h := (List.isPrefixOf_iff_prefix.1 p2).length_le
    rw [← Lib.size_eq] at h
    simp at h
    omega
  have lg := hr.lt
  have HR := Lib.hid hr
  have HSA := Lib.hid hS
  clear hu ht hx hxs hn h0 hA p1 p2 hr hS hg hsz hy
  go_enter Tryz.func206, Tryz.ntmps206
  go_wp2_with fail
  have k0 := (Kept.refl g w).alloc (.cells #[.string ⟨#[]⟩, .int .i64 0, .string ⟨#[]⟩, .slice none 0 0] 177)
  refine (HS.out _ (HR.out.alloc _) (HSA.out.kept HGS.out k0)).mono ?_; rintro e w1 ⟨rfl, r1, k1⟩
  have K1 := k0.trans k1
  have hne : w.heap.size ≠ g := by omega
  have rz : RowIs w1 w.heap.size 177 treeL := k1.row (RowIs.new _ _ _) hne
  have c1 : w1.cell? ⟨g, 0, none⟩ = some (.string u) := by rw [r1.cell]; rfl
  have f1 : w1.frozen? ⟨g, 0, none⟩ = false := r1.free _
  have l1 := r1.lt
  have HR1 := Lib.hid r1
  have HK1 := Lib.hid K1
  have HRZ := Lib.hid rz
  clear r1 k1 K1 k0 rz
  go_wp2_with fail
  refine (HC1.out _).mono ?_; rintro e w2 ⟨rfl, hw⟩; subst hw
  go_wp2_with fail
  refine (HNM.out _ (HR1.out.set 0 _)).mono ?_; rintro e w5 ⟨rfl, r5, k5⟩
  have q5 := k5.row (HRZ.out.other (Ne.intro fun h => hne h) (.string x) (a := ⟨g, 0, none⟩)) hne
  have K5 := (HK1.out.set 0 (.string x)).trans k5
  obtain ⟨j0, j1, j2, j3, i0, i1, i2, i3, l5⟩ := tree_facts q5
  have c5 : w5.cell? ⟨g, 0, none⟩ = some (.string y) := by rw [r5.cell]; rfl
  have f5 : w5.frozen? ⟨g, 0, none⟩ = false := r5.free _
  have lg5 := r5.lt
  have HR5 := Lib.hid r5
  have HK5 := Lib.hid K5
  have HQ5 := Lib.hid q5
  have hne2 : ¬ g = w.heap.size := by omega
  clear r5 k5 q5 K5
  go_wp2_with fail
  refine (HP2.out _).mono ?_; rintro e w6 ⟨rfl, hw⟩; subst hw
  go_wp2_with fail
  have hfin := (((((HQ5.out.other hne (.string (y.extract 1 y.size)) (a := ⟨g, 0, none⟩)).set 0 (.string ⟨#[36]⟩)).set 1 (.int .i64 0)).set 2 (.string (x.extract 0 n))).set 3 (.slice none 0 0)).alloc (.cells #[.string ⟨#[36]⟩, .int .i64 0, .string (x.extract 0 n), .slice none 0 0] 177)
  obtain ⟨e0, e1, e2, e3, _⟩ := tree_facts hfin
  exact bodyPost_ret (v := varV (x.extract 0 n)) (by simp [results, Tryz.results206, go_sem, varV, e0, e1, e2, e3]) rfl ⟨rfl, (((((HR5.out.set 0 _).other hne2 _).other hne2 _).other hne2 _).other hne2 _).alloc _,
    (((((HK5.out.set 0 _).new (Nat.le_refl _) 0 _).new (Nat.le_refl _) 1 _).new (Nat.le_refl _) 2 _).new (Nat.le_refl _) 3 _).alloc _⟩
theorem nameF_of {x : ByteArray} {t : Tree} {r : List UInt8} (h : nameF x.data.toList = some (t, r)) :
    ∃ n, longZ (bl x) = n ∧ 0 < n ∧ nameAll (bl (x.extract 0 n)) true = true ∧ t = .var (x.extract 0 n).data.toList ∧ r = (x.extract n x.size).data.toList := by
  unfold nameF at h
  split at h
  · rename_i hN
    simp only [Option.some.injEq, Prod.mk.injEq] at h
    have e : longF x.data.toList = longZ (bl x) := longF_eq _
    have ed : (x.extract 0 (longF x.data.toList)).data.toList = x.data.toList.take (longF x.data.toList) := by rw [Lib.extract_data]; simp
    refine ⟨longF x.data.toList, e.symm, ?_, ?_, ?_, ?_⟩
    · rw [isName_eq] at hN
      simp only [Bool.and_eq_true, decide_eq_true_eq, List.length_take] at hN
      omega
    · rw [isName_eq] at hN
      simp only [Bool.and_eq_true] at hN
      have := hN.2
      rw [← ed] at this
      exact this
    · rw [ed]; exact h.1.symm
    · rw [Lib.extract_to_end]; exact h.2.symm
  · cases h
theorem pre_of {u : ByteArray} {p t : List UInt8} (h : u.data.toList = p ++ t) : Lib.hasPrefix u.data.toList p = true := by
  show p.isPrefixOf u.data.toList = true
  rw [h, List.isPrefixOf_iff_prefix]
  exact ⟨t, rfl⟩
theorem varPost {g d : Nat} {w : World} {s v : ByteArray} {e : Ending} {w' : World} (h : e = .returned (varV s) ∧ RowIs w' g 174 [.string v, .int .i64 (d : Int)] ∧ Kept g w w') : TreePost g d (.var s.data.toList) v (w.heap.size ≤ ·) w e w' := by
  obtain ⟨rfl, r, k⟩ := h
  exact ⟨⟨#[36]⟩, 0, s, none, 0, rfl, .var s, r, k⟩
theorem one_at (d : Nat) (s v : ByteArray) (t : Tree) (h : oneF s.data.toList = some (t, v.data.toList)) (g : Nat) (w : World) (hr : Rd g s d w) :
    Calls Tryz.prog 206 #[.pointer (some ⟨g, 0, none⟩)] w (TreePost g d t v (w.heap.size ≤ ·) w) := by
  obtain ⟨u, hu⟩ : ∃ u : ByteArray, u.data.toList = dropB s.data.toList := ⟨⟨(dropB s.data.toList).toArray⟩, rfl⟩
  have hsz : u.size ≤ 1000000000 := by have h1 := dropB_le s.data.toList; have h2 := hr.size; rw [Lib.size_eq] at h2 ⊢; rw [hu]; omega
  unfold oneF at h
  rw [← hu] at h
  split at h
  · rename_i l hl
    have p1 : Lib.hasPrefix u.data.toList [36, 123] = true := pre_of (t := l) hl
    obtain ⟨x, hx⟩ : ∃ x : ByteArray, x.data.toList = l := ⟨⟨l.toArray⟩, rfl⟩
    split at h
    · rename_i a r hn
      rw [← hx] at hn
      obtain ⟨n, e1, e2, e3, e4, e5⟩ := nameF_of hn
      simp only [Option.some.injEq, Prod.mk.injEq] at h
      have p2 : Lib.hasPrefix (x.extract n x.size).data.toList [125] = true := pre_of (t := r) e5.symm
      refine (one_brace g s u x d hu hsz (by rw [hx, hl]; rfl) n e1 e2 e3 p1 _ rfl p2 w hr.gs hr.row hr.signs).mono fun e w' hp => ?_
      have ev : (x.extract n x.size).extract 1 (x.extract n x.size).size = v := by
        rw [← Lib.mk_data (ByteArray.extract _ _ _), ← Lib.mk_data v, Lib.extract_to_end, ← e5, ← h.2]; rfl
      rw [ev] at hp
      rw [← h.1, e4]
      exact varPost hp
    · cases h
  · rename_i l hno hl
    have p1 : Lib.hasPrefix u.data.toList [36, 123] = false := by
      rw [hl]
      cases l with
      | nil => rfl
      | cons c l =>
        by_cases hc : c = 123
        · subst hc; exact (hno l rfl).elim
        · simp [Lib.hasPrefix, List.isPrefixOf, Ne.symm hc]
    have p2 : Lib.hasPrefix u.data.toList [36] = true := pre_of (t := l) hl
    obtain ⟨x, hx⟩ : ∃ x : ByteArray, x.data.toList = l := ⟨⟨l.toArray⟩, rfl⟩
    rw [← hx] at h
    obtain ⟨n, e1, e2, e3, e4, e5⟩ := nameF_of h
    refine (one_dollar g s u x d hu hsz (by rw [hx, hl]; rfl) n e1 e2 e3 p1 p2 w hr.gs hr.row hr.signs).mono fun e w' hp => ?_
    have ev : x.extract n x.size = v := by rw [← Lib.mk_data (ByteArray.extract _ _ _), ← Lib.mk_data v, e5]
    rw [ev] at hp
    rw [e4]
    exact varPost hp
  · rename_i l hno1 hno2
    have p2 : Lib.hasPrefix u.data.toList [36] = false := by
      cases hul : u.data.toList with
      | nil => rfl
      | cons c l =>
        by_cases hc : c = 36
        · subst hc; exact absurd hul (hno2 l)
        · simp [Lib.hasPrefix, List.isPrefixOf, Ne.symm hc]
    have p1 : Lib.hasPrefix u.data.toList [36, 123] = false := by
      cases hul : u.data.toList with
      | nil => rfl
      | cons c l =>
        by_cases hc : c = 36
        · subst hc; exact absurd hul (hno2 l)
        · simp [Lib.hasPrefix, List.isPrefixOf, Ne.symm hc]
    have e : longF u.data.toList = longZ (bl u) := longF_eq _
    have ed : (⟨(u.data.toList.take (longF u.data.toList)).toArray⟩ : ByteArray) = u.extract 0 (longF u.data.toList) := by
      rw [← Lib.mk_data (ByteArray.extract _ _ _), Lib.extract_data]; simp
    split at h
    · rename_i x hx
      simp only [Option.some.injEq, Prod.mk.injEq] at h
      rw [ed] at hx
      refine (one_num g s u d hu hsz _ e.symm x hx p1 p2 w hr.gs hr.row hr.signs hr.env).mono fun e w' hp => ?_
      have ev : u.extract (longF u.data.toList) u.size = v := by rw [← Lib.mk_data (ByteArray.extract _ _ _), ← Lib.mk_data v, Lib.extract_to_end, h.2]
      rw [ev] at hp
      obtain ⟨rfl, r, k⟩ := hp
      rw [← h.1]
      exact ⟨⟨#[]⟩, x, ⟨#[]⟩, none, 0, rfl, .num x, r, k⟩
    · rename_i hx
      rw [ed] at hx
      obtain ⟨n, e1, e2, e3, e4, e5⟩ := nameF_of h
      have en : longF u.data.toList = n := e.trans e1
      rw [en] at hx
      refine (one_name_plain g s u d hu hsz n e1 hx e2 e3 p1 p2 w hr.gs hr.row hr.signs hr.env).mono fun e w' hp => ?_
      have ev : u.extract n u.size = v := by rw [← Lib.mk_data (ByteArray.extract _ _ _), ← Lib.mk_data v, e5]
      rw [ev] at hp
      rw [e4]
      exact varPost hp
end Go.Proofs.YtkmpbkhlcapbgaaGreatDoor
