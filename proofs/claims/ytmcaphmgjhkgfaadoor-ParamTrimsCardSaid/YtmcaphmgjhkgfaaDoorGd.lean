/-
  DERIVED. The walks of the signs' has: what one byte a sign may be.
-/
import Derived.Test.YtmcaphmgjhkgfaaDoorGc
namespace Go.Proofs.YtmcaphmgjhkgfaaDoor
open Go.RowKit Gl
set_option maxHeartbeats 1000000 in
theorem closure_any (a b x : Int) (p : Addr) (w : World) (hp : w.cell? p = some (.int .u8 x)) :
    Calls Tryd.prog 75 #[.agg #[.int .u8 a, .int .u8 b], .pointer (some p)] w fun e w' => e = .returned (.bool (decide (a ≤ x) && decide (x ≤ b))) ∧ Below w.heap.size w w' := by
  obtain ⟨pb, po, ps⟩ := p
  obtain rfl : ps = none := by simpa using World.cell?_spot hp
  have hlt := block_lt_of_cell hp
  by_cases h1 : a ≤ x
  · by_cases h2 : x ≤ b
    · go_enter Tryd.func75, Tryd.ntmps75
      go_wp2
      go_ret
      refine ⟨by first | rfl | (simp; done) | (simp; omega), ?_⟩
      go_grown
    · go_enter Tryd.func75, Tryd.ntmps75
      go_wp2
      go_ret
      refine ⟨by first | rfl | (simp; done) | (simp; omega), ?_⟩
      go_grown
  · go_enter Tryd.func75, Tryd.ntmps75
    go_wp2
    go_ret
    refine ⟨by first | rfl | (simp; done) | (simp; omega), ?_⟩
    go_grown
set_option maxHeartbeats 1000000 in
theorem self_has (c x : Int) (w : World) :
    Calls Tryd.prog 77 #[.int .u8 c, .int .u8 x] w fun e w' => e = .returned (.bool (c == x)) ∧ Below w.heap.size w w' := by
  go_enter Tryd.func77, Tryd.ntmps77
  go_wp2
  go_ret
  refine ⟨rfl, ?_⟩
  go_grown
set_option maxHeartbeats 1000000 in
theorem one_has (x : Int) (w : World) :
    Calls Tryd.prog 72 #[.agg #[], .int .u8 x] w fun e w' => e = .returned (.bool true) ∧ Below w.heap.size w w' := by
  go_enter Tryd.func72, Tryd.ntmps72
  go_wp2
  go_ret
  refine ⟨rfl, ?_⟩
  go_grown
def inPair (x : Int) (p : Int × Int) : Bool := decide (p.1 ≤ x) && decide (x ≤ p.2)
theorem pairCells_at (l : List (Int × Int)) : ∀ (k : Nat) (hk : k < l.length), (pairCells l)[k * 2]? = some (.int .u8 (l[k]).1) ∧ (pairCells l)[k * 2 + 1]? = some (.int .u8 (l[k]).2) := by
  induction l with
  | nil => intro k hk; simp at hk
  | cons p l ih =>
    intro k hk
    cases k with
    | zero => simp [pairCells]
    | succ k =>
      have := ih k (by simpa using hk)
      rw [show (k + 1) * 2 = k * 2 + 1 + 1 from by omega]
      simpa [pairCells] using this
theorem closure_at (q : Int × Int) (x : Int) (p : Addr) (b : Bool) (h : inPair x q = b) (w : World) (hp : w.cell? p = some (.int .u8 x)) :
    Calls Tryd.prog 75 #[.agg #[.int .u8 q.1, .int .u8 q.2], .pointer (some p)] w fun e w' => e = .returned (.bool b) ∧ Below w.heap.size w w' := by
  subst h; exact closure_any q.1 q.2 x p w hp
/-- What the walk of IndexFunc comes to. -/
def IdxPost (x : Int) (sp : List (Int × Int)) (w : World) (e : Ending) (w' : World) : Prop :=
  ∃ r : Int, e = .returned (.int .i64 r) ∧ decide (0 ≤ r) = sp.any (inPair x) ∧ Below w.heap.size w w'
set_option maxHeartbeats 2000000 in
theorem index_any (sp : List (Int × Int)) (hs : sp.length ≤ 9223372036854775807) (sv : Value) (x : Int) (base : Nat) (p : Addr) (w : World) (hp : w.cell? p = some (.int .u8 x)) (hown : w.ownsRow base 93 2 sv sp.length (pairCells sp)) :
    Calls Tryd.prog 76 #[sv, .func (Fn.func 75) #[] #[.pointer (some p)]] w (IdxPost x sp w) := by
  obtain ⟨ao, cap, rfl⟩ := own_slice hown
  go_enter Tryd.func76, Tryd.ntmps76
  go_wp2_with fail
  go_loopw [8] (fun k wr => ∃ n : Nat, k = .int .i64 n ∧ n ≤ sp.length ∧ Below w.heap.size w wr ∧ Hid ((sp.take n).any (inPair x) = false)) (fun k _ => sp.length - (intOf k).toNat)
  case atStart => exact ⟨0, rfl, Nat.zero_le _, Below.refl _ _, by simp [Hid]⟩
  case round =>
    obtain ⟨n, rfl, hn, hbel, HT⟩ := hrel
    by_cases hlt : n < sp.length
    · obtain ⟨g, cp, hsl, hbg, _, _, hcell⟩ := own_cells (own_below hown hbel) (by omega)
      simp only [Value.slice.injEq] at hsl
      obtain ⟨rfl, _, rfl⟩ := hsl
      have hpa := pairCells_at sp n hlt
      have c0 : wr.cell? ⟨g, n * 2, none⟩ = some (.int .u8 (sp[n]).1) := (hcell _ (by omega)).trans hpa.1
      have c1 : wr.cell? ⟨g, n * 2 + 1, none⟩ = some (.int .u8 (sp[n]).2) := (hcell _ (by omega)).trans hpa.2
      have hp' : wr.cell? p = some (.int .u8 x) := (hbel.cell (block_lt_of_cell hp)).trans hp
      have HC := Lib.hid hcell; have HPA := Lib.hid hpa; have HP := Lib.hid hp'; have HP0 := Lib.hid hp
      have htake : Hid ((sp.take (n + 1)).any (inPair x) = ((sp.take n).any (inPair x) || inPair x sp[n])) := by
        unfold Hid; rw [List.take_succ_eq_append_getElem hlt, List.any_append]; simp
      have hat : Hid (∀ h : inPair x sp[n] = true, sp.any (inPair x) = true) := fun h => List.any_eq_true.2 ⟨_, List.getElem_mem hlt, h⟩
      clear hcell hpa hp' hp hown
      obtain ⟨pa, hpa⟩ : ∃ q, q = sp[n] := ⟨_, rfl⟩
      rw [← hpa] at c0 c1 htake hat
      clear HPA hpa
      cases hin : inPair x pa
      · have HIN := Lib.hid hin; clear hin
        go_wp2_with fail
        refine (closure_at pa x p false HIN.out _ HP.out).mono ?_; rintro e w2 ⟨rfl, hb2⟩
        go_wp2_with fail
        go_roundw
        case rel => exact ⟨n + 1, by go_num, by omega, hbel.trans (hb2.mono hbel.size), by unfold Hid; rw [htake.out, HT.out, HIN.out]; rfl⟩
        case measure => simp [intOf]; omega
      · have HIN := Lib.hid hin; clear hin
        go_wp2_with fail
        refine (closure_at pa x p true HIN.out _ HP.out).mono ?_; rintro e w2 ⟨rfl, hb2⟩
        go_wp2_with fail
        go_ret
        exact ⟨n, rfl, by rw [hat.out HIN.out]; simp, hbel.trans (hb2.mono hbel.size)⟩
    · have hfin : Hid (sp.any (inPair x) = false) := by
        have h := HT.out
        rw [List.take_of_length_le (by omega)] at h; exact h
      go_wp2_with fail
      go_ret
      exact ⟨-1, rfl, by rw [hfin.out]; rfl, hbel⟩
set_option maxHeartbeats 1000000 in
theorem contains_any (sp : List (Int × Int)) (hs : sp.length ≤ 9223372036854775807) (sv : Value) (x : Int) (base : Nat) (p : Addr) (w : World) (hp : w.cell? p = some (.int .u8 x)) (hown : w.ownsRow base 93 2 sv sp.length (pairCells sp)) :
    Calls Tryd.prog 74 #[sv, .func (Fn.func 75) #[] #[.pointer (some p)]] w fun e w' => e = .returned (.bool (sp.any (inPair x))) ∧ Below w.heap.size w w' := by
  have HI := Lib.hid (index_any sp hs sv x base p w hp hown)
  clear hp hown
  go_enter Tryd.func74, Tryd.ntmps74
  go_wp2_with fail
  refine HI.out.mono ?_
  rintro e w1 ⟨r, rfl, hr, hb⟩
  have HR := Lib.hid hr; clear hr
  go_wp2_with fail
  go_ret
  refine ⟨?_, hb⟩
  show Ending.returned (.bool (decide (0 ≤ r))) = _
  rw [HR.out]
set_option maxHeartbeats 1000000 in
theorem set_has (neg : Bool) (sp : List (Int × Int)) (hs : sp.length ≤ 9223372036854775807) (sv : Value) (x : Int) (base : Nat) (w : World) (hown : w.ownsRow base 93 2 sv sp.length (pairCells sp)) :
    Calls Tryd.prog 73 #[.agg #[.bool neg, sv], .int .u8 x] w fun e w' => e = .returned (.bool ((sp.any (inPair x)) != neg)) ∧ Below w.heap.size w w' := by
  obtain ⟨ao, cap, rfl⟩ := own_slice hown
  go_enter Tryd.func73, Tryd.ntmps73
  go_wp2_with fail
  refine (contains_any sp hs _ x base _ _ ?_ ((hown.alloc _).alloc _)).mono ?_
  · simp
  rintro e w1 ⟨rfl, hb⟩
  obtain ⟨hc, hf⟩ := bcell hb
  go_wp2
  go_ret
  refine ⟨?_, below_call hb ?_⟩
  · cases sp.any (inPair x) <;> cases neg <;> rfl
  · go_grown
end Go.Proofs.YtmcaphmgjhkgfaaDoor
