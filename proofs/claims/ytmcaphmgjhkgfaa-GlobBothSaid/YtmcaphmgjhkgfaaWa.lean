/-
  DERIVED. The walks of the statements' own helpers of layer 11: the document's example, and few.
-/
import Derived.Test.YtmcaphmgjhkgfaaGh
import Derived.Test.YtmcaphmgjhkgfaaAw
namespace Go.Proofs.Ytmcaphmgjhkgfaa
open Go.RowKit Go.Sort Gl
theorem aw7 : pickF ⟨#[42]⟩ ⟨#[]⟩ [⟨#[98]⟩, ⟨#[46, 99]⟩, ⟨#[97]⟩, ⟨#[98]⟩] = [[97], [98]] := by
  unfold pickF
  rw [show namesF ⟨#[42]⟩ ⟨#[]⟩ [⟨#[98]⟩, ⟨#[46, 99]⟩, ⟨#[97]⟩, ⟨#[98]⟩] = [[98], [97], [98]] from by kernel_rfl, ← insAll_eq]
  decide
theorem plain_at (t m : ByteArray) (ht : t.size ≤ 1000000000) (b : Bool) (h : plainF t m = b) (w : World) :
    Calls Try.prog 12 #[.agg #[.string t, .string m]] w fun e w' => e = .returned (.bool b) ∧ Below w.heap.size w w' := by
  subst h; exact plain_any t m ht w
theorem cut_at (s t m : ByteArray) (fin longest : Bool) (ht : t.size ≤ 1000000000) (hs : s.size ≤ 1000000000) (r : ByteArray) (h : cutF t m s fin longest = r) (w : World) :
    Calls Try.prog 14 #[.string s, .agg #[.string t, .string m], .bool fin, .bool longest] w fun e w' => e = .returned (.string r) ∧ Below w.heap.size w w' := by
  subst h; exact cut_any s t m fin longest ht hs w
/-- What Pick comes to at known names. -/
theorem pick_at (t m : ByteArray) (ss : List ByteArray) (ht : t.size ≤ 1000000000) (hss : ss.length ≤ 1000000000) (hsz : ∀ x ∈ ss, x.size ≤ 1000000000) (l : List Bs) (h : pickF t m ss = l) (v : Value) (w : World) (hv : StrsAt w v ss) :
    Calls Try.prog 16 #[.agg #[.string t, .string m], v] w (PickPost l w) := by
  subst h; exact pick_any t m ss ht hss hsz v w hv
set_option maxRecDepth 100000 in
set_option maxHeartbeats 8000000 in
theorem awake_any (w : World) :
    Calls Try.prog 8 #[] w fun e w' => e = .returned (.bool true) ∧ Below w.heap.size w w' := by
  go_enter Try.func8, Try.ntmps8
  go_wp2_with fail
  refine (pick_at ⟨#[42]⟩ ⟨#[]⟩ [⟨#[98]⟩, ⟨#[46, 99]⟩, ⟨#[97]⟩, ⟨#[98]⟩] (by decide) (by decide) (by decide) _ aw7 _ _ ?_).mono ?_
  · exact ⟨some ⟨w.heap.size + 1, 0, none⟩, 4, rfl, .inr ⟨w.heap.size + 1, 0, rfl, fun i hi => by
      have : i < 4 := hi
      rcases (show i = 0 ∨ i = 1 ∨ i = 2 ∨ i = 3 by omega) with rfl | rfl | rfl | rfl <;> simp⟩⟩
  rintro e w1 ⟨v, rfl, ho, hb1⟩
  have hbw : Below w.heap.size w w1 := below_call hb1 (((Below.refl _ _).alloc (Nat.le_refl _) _).alloc (by simp) _)
  have r0 : RowIs w1 w.heap.size 23 [.string ⟨#[97, 42, 91, 48, 45, 57, 93]⟩, .string ⟨#[]⟩] := ((RowIs.new w 23 [.string ⟨#[97, 42, 91, 48, 45, 57, 93]⟩, .string ⟨#[]⟩]).alloc _).below hb1
  obtain ⟨gq, cq, rfl, _, _, _, hc⟩ := own_cells ho (by decide)
  have q0 : w1.cell? ⟨gq, 0, none⟩ = some (.string ⟨#[97]⟩) := hc 0 (by decide)
  clear hb1 ho hc
  obtain ⟨c0, c1, l0⟩ := pat_facts r0
  have HBW := Lib.hid hbw; clear hbw
  have lq := block_lt_of_cell q0
  clear r0
  go_wp2_with fail
  refine (match_at _ _ _ (by decide) (by decide) _ aw1 _).mono ?_; rintro e w2 ⟨rfl, hb⟩
  obtain ⟨hc, _⟩ := bcell hb
  replace q0 := (hc gq 0 lq).trans q0; replace c0 := (hc _ 0 l0).trans c0; replace c1 := (hc _ 1 l0).trans c1
  replace lq := Nat.lt_of_lt_of_le lq hb.size; replace l0 := Nat.lt_of_lt_of_le l0 hb.size
  have HBW2 := Lib.hid (below_call hb HBW.out); clear hb hc HBW
  go_wp2_with fail
  refine (match_at _ _ _ (by decide) (by decide) _ aw2 _).mono ?_; rintro e w3 ⟨rfl, hb⟩
  obtain ⟨hc, _⟩ := bcell hb
  replace q0 := (hc gq 0 lq).trans q0; replace c0 := (hc _ 0 l0).trans c0; replace c1 := (hc _ 1 l0).trans c1
  replace lq := Nat.lt_of_lt_of_le lq hb.size; replace l0 := Nat.lt_of_lt_of_le l0 hb.size
  have HBW3 := Lib.hid (below_call hb HBW2.out); clear hb hc HBW2
  go_wp2_with fail
  refine (match_at _ _ _ (by decide) (by decide) _ aw3 _).mono ?_; rintro e w4 ⟨rfl, hb⟩
  obtain ⟨hc, _⟩ := bcell hb
  replace q0 := (hc gq 0 lq).trans q0; replace c0 := (hc _ 0 l0).trans c0; replace c1 := (hc _ 1 l0).trans c1
  replace lq := Nat.lt_of_lt_of_le lq hb.size; replace l0 := Nat.lt_of_lt_of_le l0 hb.size
  have HBW4 := Lib.hid (below_call hb HBW3.out); clear hb hc HBW3
  go_wp2_with fail
  refine (plain_at _ _ (by decide) _ aw4 _).mono ?_; rintro e w5 ⟨rfl, hb⟩
  obtain ⟨hc, _⟩ := bcell hb
  replace q0 := (hc gq 0 lq).trans q0
  replace lq := Nat.lt_of_lt_of_le lq hb.size
  have HBW5 := Lib.hid (below_call hb HBW4.out); clear hb hc HBW4 c0 c1 l0
  go_wp2_with fail
  refine (plain_at _ _ (by decide) _ aw5 _).mono ?_; rintro e w6 ⟨rfl, hb⟩
  obtain ⟨hc, _⟩ := bcell hb
  replace q0 := (hc gq 0 lq).trans q0
  replace lq := Nat.lt_of_lt_of_le lq hb.size
  have HBW6 := Lib.hid (below_call hb HBW5.out); clear hb hc HBW5
  go_wp2_with fail
  refine (cut_at _ _ _ _ _ (by decide) (by decide) _ aw6 _).mono ?_; rintro e w7 ⟨rfl, hb⟩
  obtain ⟨hc, _⟩ := bcell hb
  replace q0 := (hc gq 0 lq).trans q0
  have HBW7 := Lib.hid (below_call hb HBW6.out); clear hb hc HBW6 lq
  go_wp2_with fail
  go_ret
  exact ⟨rfl, HBW7.out⟩
/-- few. -/
def starsF (t : ByteArray) (k : Nat) : Nat := ((List.range k).filter fun i => bt t i == 42).length
def fewB (t : ByteArray) : Bool := decide (t.size ≤ 20) && decide (starsF t t.size ≤ 5)
theorem starsF_succ (t : ByteArray) (k : Nat) : starsF t (k + 1) = starsF t k + if bt t k == 42 then 1 else 0 := by
  unfold starsF; rw [List.range_succ, List.filter_append, List.length_append]; congr 1
  cases h : bt t k == 42 <;> simp [h]
theorem starsF_le (t : ByteArray) (k : Nat) : starsF t k ≤ k := by
  unfold starsF; exact Nat.le_trans (List.length_filter_le _ _) (by simp)
def FewRel (t m : ByteArray) (w : World) (g : Nat) (c k : Value) (wr : World) : Prop :=
  ∃ n : Nat, k = .int .i64 n ∧ n ≤ t.size ∧ c = .int .i64 (starsF t n) ∧ RowIs wr w.heap.size 23 [.string t, .string m] ∧ Below w.heap.size w wr ∧ n + g = t.size
set_option maxRecDepth 100000 in
set_option maxHeartbeats 4000000 in
theorem few_any (t m : ByteArray) (ht : t.size ≤ maxLen) (w : World) :
    Calls Try.prog 9 #[.agg #[.string t, .string m]] w fun e w' => e = .returned (.bool (fewB t)) ∧ Below w.heap.size w w' := by
  unfold maxLen at ht
  go_enter Try.func9, Try.ntmps9
  go_wp2_with fail
  have hst : Hid (FewRel t m w t.size (.int .i64 ((0 : Nat) : Int)) (.int .i64 ((0 : Nat) : Int)) (w.alloc (.cells #[.string t, .string m] 23))) :=
    ⟨0, rfl, Nat.zero_le _, rfl, RowIs.new _ _ _, (Below.refl _ _).alloc (Nat.le_refl _) _, by omega⟩
  go_loopg [3, 4] t.size (fun g c k wr => FewRel t m w g c k wr)
  case atStart => exact hst.out
  case round =>
    clear hst
    obtain ⟨n, rfl, hn, rfl, r0, hbel, hg⟩ := hrel
    have HG := Lib.hid hg; clear hg
    obtain ⟨c0, c1, l0⟩ := pat_facts r0
    have hsl := starsF_le t n
    have hgt := get_bt t
    by_cases hl : n < t.size
    · have hs := starsF_succ t n
      cases hb : bt t n == 42
      · rw [hb] at hs
        have HS := Lib.hid hs; clear hs
        go_wp2_with fail
        go_roundg (t.size - (n + 1))
        case measure => have := HG.out; omega
        case rel => exact ⟨n + 1, by go_num, by omega, by rw [HS.out]; rfl, r0, hbel, by omega⟩
      · rw [hb] at hs
        have HS := Lib.hid hs; clear hs
        go_wp2_with fail
        go_roundg (t.size - (n + 1))
        case measure => have := HG.out; omega
        case rel => exact ⟨n + 1, by go_num, by omega, by rw [HS.out]; simp, r0, hbel, by omega⟩
    · obtain rfl : n = t.size := by omega
      have HF : Hid (fewB t = (decide (t.size ≤ 20) && decide (starsF t t.size ≤ 5))) := rfl
      obtain ⟨q, hq⟩ : ∃ q, q = starsF t t.size := ⟨_, rfl⟩
      rw [← hq] at hsl HF
      rw [← hq]
      clear hq hgt
      by_cases h1 : t.size ≤ 20
      · by_cases h2 : q ≤ 5
        · have h2' : (q : Int) ≤ 5 := by omega
          go_wp2_with fail
          go_ret
          exact ⟨by rw [HF.out]; simp [h1, h2], hbel⟩
        · have h2' : ¬ (q : Int) ≤ 5 := by omega
          go_wp2_with fail
          go_ret
          exact ⟨by rw [HF.out]; simp [h1, h2], hbel⟩
      · go_wp2_with fail
        go_ret
        exact ⟨by rw [HF.out]; simp [h1], hbel⟩
end Go.Proofs.Ytmcaphmgjhkgfaa
