/-
  DERIVED. The walks of param's Trim, the document's Trim, and the law ParamTrims.
-/
import Derived.Test.YtmcaphmgjhkgfaaDoorPc
import Derived.Test.YtmcaphmgjhkgfaaDoorRe
import Derived.Deep.RegionHeld3
namespace Go.Proofs.YtmcaphmgjhkgfaaDoor
open Go.RowKit Go.Sort Gl
/-- A value without what an operation cuts off. -/
def trimF (op value t m : ByteArray) : ByteArray :=
  if (trimsF op.data.toList).1 then cutF t m value (trimsF op.data.toList).2.1 (trimsF op.data.toList).2.2 else value
set_option maxHeartbeats 4000000 in
theorem trim_any (op value t m : ByteArray) (ht : t.size ≤ 1000000000) (hv : value.size ≤ 1000000000) (r : ByteArray) (hr : trimF op value t m = r) (w : World) :
    Calls Tryd.prog 12 #[.string op, .string value, .agg #[.string t, .string m]] w fun e w' => e = .returned (.string r) ∧ Below w.heap.size w w' := by
  have HR : Hid ((if (trimsF op.data.toList).1 then cutF t m value (trimsF op.data.toList).2.1 (trimsF op.data.toList).2.2 else value) = r) := hr
  clear hr
  have HT := Lib.hid (trims_any op)
  obtain ⟨q, hq⟩ : ∃ q, q = trimsF op.data.toList := ⟨_, rfl⟩
  rw [← hq] at HR HT
  clear hq
  obtain ⟨q1, q2, q3⟩ := q
  have hb0 := (Below.refl w.heap.size w).alloc (Nat.le_refl _) (.cells #[.string t, .string m] 31)
  have r0 := RowIs.new w 31 [.string t, .string m]
  cases q1
  · go_enter Tryd.func12, Tryd.ntmps12
    go_wp2_with fail
    refine (HT.out _).mono ?_; rintro e w1 ⟨rfl, hb⟩
    go_wp2_with fail
    go_ret
    exact ⟨by rw [← HR.out]; rfl, hb0.trans (hb.mono (by simp))⟩
  · go_enter Tryd.func12, Tryd.ntmps12
    go_wp2_with fail
    refine (HT.out _).mono ?_; rintro e w1 ⟨rfl, hb⟩
    obtain ⟨c0, c1, l0⟩ := pat_facts (r0.below hb)
    go_wp2_with fail
    refine (cut_any value t m q2 q3 ht hv _).mono ?_; rintro e w2 ⟨rfl, hb2⟩
    have B1 := hb0.trans (hb.mono (by simp))
    go_wp2_with fail
    go_ret
    exact ⟨by rw [← HR.out]; rfl, B1.trans (hb2.mono B1.size)⟩
theorem op_is (op : ByteArray) (l : List UInt8) (h : (op.toList == l) = true) : op.data.toList = l := by
  rw [Lib.toList_data] at h; simpa using h
set_option maxHeartbeats 8000000 in
theorem rtrim_any (op value t m : ByteArray) (ht : t.size ≤ 1000000000) (hv : value.size ≤ 1000000000) (r : ByteArray) (hr : trimF op value t m = r) (w : World) :
    Calls Tryd.prog 13 #[.string op, .string value, .string t, .string m] w fun e w' => e = .returned (.string r) ∧ Below w.heap.size w w' := by
  have HR := Lib.hid hr; clear hr
  cases h1 : (op.toList == [37])
  · cases h2 : (op.toList == [37, 37])
    · cases h3 : (op.toList == [35])
      · cases h4 : (op.toList == [35, 35])
        · have HV : Hid (r = value) := by
            unfold Hid; rw [← HR.out]; unfold trimF trimsF
            have g1 := h1; have g2 := h2; have g3 := h3; have g4 := h4
            rw [Lib.toList_data] at g1 g2 g3 g4
            simp only [g1, g2, g3, g4]; rfl
          go_enter Tryd.func13, Tryd.ntmps13
          go_wp2_with fail
          go_ret
          exact ⟨by rw [HV.out]; rfl, Below.refl _ _⟩
        · have HV : Hid (r = cutF t m value false true) := by
            unfold Hid; rw [← HR.out]; unfold trimF; rw [op_is _ _ h4]; rfl
          go_enter Tryd.func13, Tryd.ntmps13
          go_wp2_with fail
          refine (rcut_any value t m false true ht hv _).mono ?_; rintro e w2 ⟨rfl, hb2⟩
          go_wp2_with fail
          go_ret
          exact ⟨by rw [HV.out]; rfl, hb2⟩
      · have HV : Hid (r = cutF t m value false false) := by
          unfold Hid; rw [← HR.out]; unfold trimF; rw [op_is _ _ h3]; rfl
        go_enter Tryd.func13, Tryd.ntmps13
        go_wp2_with fail
        refine (rcut_any value t m false false ht hv _).mono ?_; rintro e w2 ⟨rfl, hb2⟩
        go_wp2_with fail
        go_ret
        exact ⟨by rw [HV.out]; rfl, hb2⟩
    · have HV : Hid (r = cutF t m value true true) := by
        unfold Hid; rw [← HR.out]; unfold trimF; rw [op_is _ _ h2]; rfl
      go_enter Tryd.func13, Tryd.ntmps13
      go_wp2_with fail
      refine (rcut_any value t m true true ht hv _).mono ?_; rintro e w2 ⟨rfl, hb2⟩
      go_wp2_with fail
      go_ret
      exact ⟨by rw [HV.out]; rfl, hb2⟩
  · have HV : Hid (r = cutF t m value true false) := by
      unfold Hid; rw [← HR.out]; unfold trimF; rw [op_is _ _ h1]; rfl
    go_enter Tryd.func13, Tryd.ntmps13
    go_wp2_with fail
    refine (rcut_any value t m true false ht hv _).mono ?_; rintro e w2 ⟨rfl, hb2⟩
    go_wp2_with fail
    go_ret
    exact ⟨by rw [HV.out]; rfl, hb2⟩
/-- A pattern that lies boxed at the call's first block. -/
def LawS (w : World) (t m : ByteArray) (wx : World) : Prop := RowIs wx w.heap.size 31 [.string t, .string m] ∧ Below w.heap.size w wx
theorem LawS.start (w : World) (t m : ByteArray) : LawS w t m (w.alloc (.cells #[.string t, .string m] 31)) := ⟨RowIs.new _ _ _, (Below.refl _ _).alloc (Nat.le_refl _) _⟩
theorem LawS.next {w wx wy : World} {t m : ByteArray} (h : LawS w t m wx) (hb : Below wx.heap.size wx wy) : LawS w t m wy := ⟨h.1.below hb, h.2.trans (hb.mono h.2.size)⟩
theorem LawS.drew {w wx : World} {t m : ByteArray} (h : LawS w t m wx) : LawS w t m wx.drew := h.next (Below.refl _ _).drew
theorem LawS.facts {w wx : World} {t m : ByteArray} (h : LawS w t m wx) : wx.cell? ⟨w.heap.size, 0, none⟩ = some (.string t) ∧ wx.cell? ⟨w.heap.size, 1, none⟩ = some (.string m) ∧ w.heap.size < wx.heap.size := pat_facts h.1
theorem LawS.all {w wx : World} {t m : ByteArray} (h : LawS w t m wx) : wx.cell? ⟨w.heap.size, 0, none⟩ = some (.string t) ∧ wx.cell? ⟨w.heap.size, 1, none⟩ = some (.string m) ∧ LawS w t m wx := ⟨h.facts.1, h.facts.2.1, h⟩
def starsF (t : ByteArray) (k : Nat) : Nat := ((List.range k).filter fun i => bt t i == 42).length
theorem starsF_succ (t : ByteArray) (k : Nat) : starsF t (k + 1) = starsF t k + if bt t k == 42 then 1 else 0 := by
  unfold starsF; rw [List.range_succ, List.filter_append, List.length_append]; congr 1
  cases h : bt t k == 42 <;> simp [h]
theorem starsF_le (t : ByteArray) (k : Nat) : starsF t k ≤ k := by
  unfold starsF; exact Nat.le_trans (List.length_filter_le _ _) (by simp)
def TrimRel (t m : ByteArray) (w : World) (g : Nat) (c k : Value) (wr : World) : Prop :=
  ∃ n : Nat, k = .int .i64 n ∧ n ≤ t.size ∧ c = .int .i64 (starsF t n) ∧ LawS w t m wr ∧ n + g = t.size
set_option maxRecDepth 100000 in
set_option maxHeartbeats 8000000 in
theorem law_trims (op : ByteArray) (_ho : op.size ≤ maxLen) (value : ByteArray) (hv : value.size ≤ maxLen) (t m : ByteArray) (ht : t.size ≤ maxLen) (_hm : m.size ≤ maxLen) (w : World) (hE : Env w) :
    Calls Tryd.prog 5 #[.string op, .string value, .agg #[.string t, .string m]] w fun e w' => e = .returned (.bool true) ∧ Below w.heap.size w w' := by
  unfold maxLen at hv ht
  have S0 := LawS.start w t m
  have HE := Lib.hid (hE.keep S0.2)
  clear hE
  go_enter Tryd.func5, Tryd.ntmps5
  go_wp2_with fail
  refine (awake_any _ HE.out).mono ?_; rintro e w1 ⟨rfl, hb⟩
  have S1 := S0.next hb; clear S0 hb HE
  go_wp2_with fail
  have hst : Hid (TrimRel t m w t.size (.int .i64 ((0 : Nat) : Int)) (.int .i64 ((0 : Nat) : Int)) w1) := ⟨0, rfl, Nat.zero_le _, rfl, S1, by omega⟩
  clear S1
  go_loopg [8, 9] t.size (fun g c k wr => TrimRel t m w g c k wr)
  case atStart => exact hst.out
  case round =>
    clear hst
    obtain ⟨n, rfl, hn, rfl, S2, hg⟩ := hrel
    have HG := Lib.hid hg; clear hg
    obtain ⟨c0, c1, l0⟩ := S2.facts
    have hsl := starsF_le t n
    have hgt := get_bt t
    by_cases hl : n < t.size
    · have hs := starsF_succ t n
      cases hb : bt t n == 42
      · rw [hb] at hs
        have HS := Lib.hid hs; clear hs
        go_wp2_with fail
        go_roundg (t.size - (n + 1))
        case measure => have := HG.out; omega
        case rel => exact ⟨n + 1, by go_num, by omega, by rw [HS.out]; rfl, S2, by omega⟩
      · rw [hb] at hs
        have HS := Lib.hid hs; clear hs
        go_wp2_with fail
        go_roundg (t.size - (n + 1))
        case measure => have := HG.out; omega
        case rel => exact ⟨n + 1, by go_num, by omega, by rw [HS.out]; simp, S2, by omega⟩
    · obtain rfl : n = t.size := by omega
      obtain ⟨q, hq⟩ : ∃ q, q = starsF t t.size := ⟨_, rfl⟩
      rw [← hq] at hsl
      rw [← hq]
      clear hq hgt HG
      by_cases h1 : t.size ≤ 20
      · have h1' : ¬ (20 : Int) < (t.size : Int) := by omega
        by_cases h2 : q ≤ 5
        · have h2' : ¬ (5 : Int) < (q : Int) := by omega
          by_cases h3 : value.size ≤ 16
          · have h3' : ¬ (16 : Int) < (value.size : Int) := by omega
            obtain ⟨r, hr⟩ : ∃ r, trimF op value t m = r := ⟨_, rfl⟩
            have HR := Lib.hid hr; clear hr
            have S3 := S2.drew
            have ht2 : t.size ≤ 1000000000 := by omega
            have hv2 : value.size ≤ 1000000000 := by omega
            go_wp2_with fail
            go_region_held3 (fun wx => wx.cell? ⟨w.heap.size, 0, none⟩ = some (.string t) ∧ wx.cell? ⟨w.heap.size, 1, none⟩ = some (.string m) ∧ LawS w t m wx) (exact LawS.all (by assumption))
              (first | (go_at_call 12; refine (trim_any op value t m ht2 hv2 r HR.out _).mono ?_; rintro e wn ⟨rfl, hb⟩; have hn := LawS.next (by assumption) hb) | (go_at_call 13; refine (rtrim_any op value t m ht2 hv2 r HR.out _).mono ?_; rintro e wn ⟨rfl, hb⟩; have hn := LawS.next (by assumption) hb))
            all_goals
              go_wp2_with fail
              go_ret
              exact ⟨by first | rfl | simp, hn.2⟩
          · have h3' : (16 : Int) < (value.size : Int) := by omega
            go_wp2_with fail
            go_ret
            exact ⟨rfl, S2.2⟩
        · have h2' : (5 : Int) < (q : Int) := by omega
          go_wp2_with fail
          go_ret
          exact ⟨rfl, S2.2⟩
      · have h1' : (20 : Int) < (t.size : Int) := by omega
        go_wp2_with fail
        go_ret
        exact ⟨rfl, S2.2⟩
end Go.Proofs.YtmcaphmgjhkgfaaDoor
