/-
  DERIVED. The walk of the law GlobMatches: for every pattern and text it returns true and leaves what was there.
-/
import Derived.Test.YtmcaphmgjhkgfaaWa
import Derived.Test.YtmcaphmgjhkgfaaRf
import Derived.Deep.RegionHeld3
namespace Go.Proofs.Ytmcaphmgjhkgfaa
open Go.RowKit Go.Sort Gl
/-- A pattern that lies boxed at the call's first block. -/
def LawS (w : World) (t m : ByteArray) (wx : World) : Prop := RowIs wx w.heap.size 23 [.string t, .string m] ∧ Below w.heap.size w wx
theorem LawS.start (w : World) (t m : ByteArray) : LawS w t m (w.alloc (.cells #[.string t, .string m] 23)) := ⟨RowIs.new _ _ _, (Below.refl _ _).alloc (Nat.le_refl _) _⟩
theorem LawS.next {w wx wy : World} {t m : ByteArray} (h : LawS w t m wx) (hb : Below wx.heap.size wx wy) : LawS w t m wy := ⟨h.1.below hb, h.2.trans (hb.mono h.2.size)⟩
theorem LawS.drew {w wx : World} {t m : ByteArray} (h : LawS w t m wx) : LawS w t m wx.drew := h.next (Below.refl _ _).drew
theorem LawS.facts {w wx : World} {t m : ByteArray} (h : LawS w t m wx) : wx.cell? ⟨w.heap.size, 0, none⟩ = some (.string t) ∧ wx.cell? ⟨w.heap.size, 1, none⟩ = some (.string m) ∧ w.heap.size < wx.heap.size := pat_facts h.1
theorem LawS.all {w wx : World} {t m : ByteArray} (h : LawS w t m wx) : wx.cell? ⟨w.heap.size, 0, none⟩ = some (.string t) ∧ wx.cell? ⟨w.heap.size, 1, none⟩ = some (.string m) ∧ LawS w t m wx := ⟨h.facts.1, h.facts.2.1, h⟩
theorem rplain_at (t m : ByteArray) (ht : t.size ≤ 1000000000) (b : Bool) (h : plainF t m = b) (w : World) :
    Calls Try.prog 13 #[.string t, .string m] w fun e w' => e = .returned (.bool b) ∧ Below w.heap.size w w' := by
  subst h; exact (rplain_any t m ht w).mono fun e w' ⟨he, hw⟩ => ⟨he, hw ▸ Below.refl _ _⟩
theorem few_at (t m : ByteArray) (ht : t.size ≤ maxLen) (b : Bool) (h : fewB t = b) (w : World) :
    Calls Try.prog 9 #[.agg #[.string t, .string m]] w fun e w' => e = .returned (.bool b) ∧ Below w.heap.size w w' := by
  subst h; exact few_any t m ht w
theorem few_size {t : ByteArray} (h : fewB t = true) : t.size ≤ 20 := by
  simp only [fewB, Bool.and_eq_true, decide_eq_true_eq] at h; exact h.1
set_option maxRecDepth 100000 in
set_option maxHeartbeats 8000000 in
theorem law_matches (t m : ByteArray) (ht : t.size ≤ maxLen) (_hm : m.size ≤ maxLen) (s : ByteArray) (hs : s.size ≤ maxLen) (w : World) :
    Calls Try.prog 3 #[.agg #[.string t, .string m], .string s] w fun e w' => e = .returned (.bool true) ∧ Below w.heap.size w w' := by
  have hs' := hs
  unfold maxLen at hs'
  have S0 := LawS.start w t m
  obtain ⟨fb, hfb⟩ : ∃ fb, fewB t = fb := ⟨_, rfl⟩
  obtain ⟨mb, hmb⟩ : ∃ mb, matchF t m (bl s) = mb := ⟨_, rfl⟩
  obtain ⟨pb, hpb⟩ : ∃ pb, plainF t m = pb := ⟨_, rfl⟩
  have HF := Lib.hid hfb; have HM := Lib.hid hmb; have HP := Lib.hid hpb
  clear hfb hmb hpb
  go_enter Try.func3, Try.ntmps3
  go_wp2_with fail
  refine (awake_any _).mono ?_; rintro e w1 ⟨rfl, hb⟩
  have S1 := S0.next hb; clear S0 hb
  obtain ⟨c0, c1, l0⟩ := S1.facts
  go_wp2_with fail
  refine (few_at t m ht fb HF.out _).mono ?_; rintro e w2 ⟨rfl, hb⟩
  have S2 := S1.next hb; clear S1 hb c0 c1 l0
  obtain ⟨c0, c1, l0⟩ := S2.facts
  cases fb
  · go_wp2_with fail
    go_ret
    exact ⟨rfl, S2.2⟩
  · have ht2 : t.size ≤ 1000000000 := by have := few_size HF.out; omega
    by_cases hsz : s.size ≤ 20
    · have hs2 : s.size ≤ 1000000000 := by omega
      have hsz' : ¬ (20 : Int) < (s.size : Int) := by omega
      have S3 := S2.drew
      go_wp2_with fail
      go_region_held3 (fun wx => wx.cell? ⟨w.heap.size, 0, none⟩ = some (.string t) ∧ wx.cell? ⟨w.heap.size, 1, none⟩ = some (.string m) ∧ LawS w t m wx) (exact LawS.all (by assumption))
        (first | (go_at_call 10; refine (match_at t m s ht2 hs2 mb HM.out _).mono ?_; rintro e wn ⟨rfl, hb⟩; have hn := LawS.next (by assumption) hb) | (go_at_call 11; refine (rmatch_at t m s ht2 hs2 mb HM.out _).mono ?_; rintro e wn ⟨rfl, hb⟩; have hn := LawS.next (by assumption) hb) | (go_at_call 12; refine (plain_at t m ht2 pb HP.out _).mono ?_; rintro e wn ⟨rfl, hb⟩; have hn := LawS.next (by assumption) hb) | (go_at_call 13; refine (rplain_at t m ht2 pb HP.out _).mono ?_; rintro e wn ⟨rfl, hb⟩; have hn := LawS.next (by assumption) hb))
      all_goals
        go_wp2_with fail
        go_ret
        exact ⟨rfl, hn.2⟩
    · have hsz' : (20 : Int) < (s.size : Int) := by omega
      go_wp2_with fail
      go_ret
      exact ⟨rfl, S2.2⟩
end Go.Proofs.Ytmcaphmgjhkgfaa
