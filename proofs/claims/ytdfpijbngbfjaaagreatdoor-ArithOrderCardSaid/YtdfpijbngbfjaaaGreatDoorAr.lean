/-
  DERIVED. The walk of the law's number: a number's text.
-/
import Derived.Test.YtdfpijbngbfjaaaGreatDoorAq
import Derived.Deep.RegionWith
namespace Go.Proofs.YtdfpijbngbfjaaaGreatDoor
open Go.RowKit
/-- A number's digits, of those that are none below 0. -/
def decN (n : Nat) : List UInt8 := if n < 10 then [48 + UInt8.ofNat n] else decN (n / 10) ++ [48 + UInt8.ofNat (n % 10)]
/-- A number's text. -/
def numL (x : Int) : List UInt8 := if x < 0 then 45 :: decN (-x).toNat else decN x.toNat
def NumOK (x : Int) : Prop := ∀ w, Calls Tryz.prog 7 #[.int .i64 x] w fun e w' => e = .returned (.string ⟨(numL x).toArray⟩) ∧ Below w.heap.size w w'
theorem decN_small {n : Nat} (h : n < 10) : decN n = [48 + UInt8.ofNat n] := by rw [decN, if_pos h]
theorem decN_big {n : Nat} (h : ¬ n < 10) : decN n = decN (n / 10) ++ [48 + UInt8.ofNat (n % 10)] := by rw [decN, if_neg h]
theorem numL_nat (n : Nat) : numL (n : Int) = decN n := by unfold numL; rw [if_neg (by omega)]; simp
theorem numL_neg (n : Nat) (h : 0 < n) : numL (-(n : Int)) = 45 :: decN n := by unfold numL; rw [if_pos (by omega)]; simp
theorem decN_len (n : Nat) : (decN n).length ≤ n + 1 := by
  induction n using Nat.strongRecOn with
  | ind n ih =>
    by_cases h : n < 10
    · rw [decN_small h]; simp
    · rw [decN_big h, List.length_append]
      have := ih (n / 10) (by omega)
      simp only [List.length_cons, List.length_nil]
      omega
theorem decN_len20 (n : Nat) (h : n < 100000000000000000000) : (decN n).length ≤ 20 := by
  have key : ∀ k n : Nat, n < 10 ^ (k + 1) → (decN n).length ≤ k + 1 := by
    intro k
    induction k with
    | zero => intro n h; rw [decN_small (by omega)]; simp
    | succ k ih =>
      intro n h
      by_cases h9 : n < 10
      · rw [decN_small h9]; simp
      · rw [decN_big h9, List.length_append]
        have := ih (n / 10) (by rw [Nat.pow_succ] at h; omega)
        simp only [List.length_cons, List.length_nil]; omega
  exact key 19 n (by omega)
set_option maxRecDepth 100000 in
set_option maxHeartbeats 4000000 in
theorem num_small (n : Nat) (hn : n < 10) : NumOK (n : Int) := by
  intro w
  have h1 : ¬ (n : Int) ≤ -10 := by omega
  have h2 : ¬ (n : Int) < 0 := by omega
  have h3 : ¬ (10 : Int) ≤ (n : Int) := by omega
  have hst := fun (w : World) (b cap : Nat) (x : Int) => run_str1 (P := Tryz.prog) Tryz.underlying37 Tryz.underlying5 Tryz.underlying9 w b cap x
  have HL := Lib.hid ((numL_nat n).trans (decN_small hn))
  go_enter Tryz.func7, Tryz.ntmps7
  go_wp2_with fail
  go_ret
  exact ⟨by rw [HL.out]; rfl, by go_grown⟩
set_option maxRecDepth 100000 in
set_option maxHeartbeats 4000000 in
theorem num_small_neg (n : Nat) (h0 : 0 < n) (hn : n < 10) : NumOK (-(n : Int)) := by
  intro w
  have h1 : ¬ -(n : Int) ≤ -10 := by omega
  have h2 : -(n : Int) < 0 := by omega
  have e1 : IntKind.i64.wrap (48 - -(n : Int)) = 48 + (n : Int) := by rw [show (48 : Int) - -(n : Int) = 48 + (n : Int) by omega]; exact wrap_small _ (by omega) (by omega)
  have hst := fun (w : World) (b cap : Nat) (x : Int) => run_str1 (P := Tryz.prog) Tryz.underlying37 Tryz.underlying5 Tryz.underlying9 w b cap x
  have HL := Lib.hid (show numL (-(n : Int)) = [45, 48 + UInt8.ofNat n] by rw [numL_neg n h0, decN_small hn])
  obtain ⟨x, hx⟩ : ∃ x : Int, -(n : Int) = x := ⟨_, rfl⟩
  rw [hx] at h1 h2 HL ⊢
  have e2 : 48 - x = 48 + (n : Int) := by omega
  have hnb : (n : Int) < 10 := by omega
  have hn0 : (0 : Int) ≤ (n : Int) := by omega
  clear hx e1
  go_enter Tryz.func7, Tryz.ntmps7
  go_wp2_with fail
  go_ret
  exact ⟨by rw [HL.out]; rfl, by go_grown⟩
set_option maxRecDepth 100000 in
set_option maxHeartbeats 4000000 in
theorem num_big (n : Nat) (hn : ¬ n < 10) (hm : n < 9223372036854775808) (ih : NumOK ((n / 10 : Nat) : Int)) : NumOK (n : Int) := by
  intro w
  obtain ⟨q, hq⟩ : ∃ q, n / 10 = q := ⟨_, rfl⟩
  obtain ⟨r, hr⟩ : ∃ r, n % 10 = r := ⟨_, rfl⟩
  have hr10 : r < 10 := by omega
  have HL := Lib.hid (show numL (n : Int) = decN q ++ [48 + UInt8.ofNat r] by rw [numL_nat n, decN_big hn, hq, hr])
  have hlen := decN_len20 q (by omega)
  rw [hq] at ih
  obtain ⟨sq, hsq⟩ : ∃ sq : ByteArray, sq = ⟨(numL (q : Int)).toArray⟩ := ⟨_, rfl⟩
  have HSQ := Lib.hid (show sq.data.toList = decN q by rw [hsq, numL_nat])
  have hss : sq.size ≤ 20 := by rw [Lib.size_eq, HSQ.out]; exact hlen
  have HI : Hid (∀ w, Calls Tryz.prog 7 #[.int .i64 (q : Int)] w fun e w' => e = .returned (.string sq) ∧ Below w.heap.size w w') := by rw [hsq]; exact ih
  clear hlen hsq
  have e1 : (n : Int).tdiv 10 = (q : Int) := by rw [Int.tdiv_eq_ediv_of_nonneg (by omega)]; omega
  have e2 : (n : Int).tmod 10 = (r : Int) := by rw [Int.tmod_eq_emod_of_nonneg (by omega)]; omega
  have e3 : IntKind.i64.wrap (q : Int) = (q : Int) := wrap_small _ (by omega) (by omega)
  have e4 : IntKind.i64.wrap (48 + (r : Int)) = 48 + (r : Int) := wrap_small _ (by omega) (by omega)
  have e5 : IntKind.u8.wrap (48 + (r : Int)) = 48 + (r : Int) := by rw [IntKind.wrap_u8]; omega
  have h1 : ¬ (n : Int) ≤ -10 := by omega
  have h2 : ¬ (n : Int) < 0 := by omega
  have h3 : (10 : Int) ≤ (n : Int) := by omega
  have hst := fun (w : World) (b cap : Nat) (x : Int) => run_str1 (P := Tryz.prog) Tryz.underlying37 Tryz.underlying5 Tryz.underlying9 w b cap x
  clear ih hq hr hn hm
  go_enter Tryz.func7, Tryz.ntmps7
  go_wp2_with fail
  go_region_with ((go_at_call 7; refine (HI.out _).mono ?_; rintro e wn ⟨rfl, hb⟩; obtain ⟨hcc, hff⟩ := bcell hb))
  all_goals
    go_wp2_with fail
    go_ret
    have hfin : (sq ++ ⟨#[UInt8.ofNat (48 + r)]⟩ : ByteArray) = ⟨(numL (n : Int)).toArray⟩ := by
      rw [← Lib.mk_data (sq ++ _), HL.out]
      simp [HSQ.out]
    refine ⟨by simpa [Act.put] using hfin, ?_⟩
    first
    | exact below_call_alloc hb (Below.refl _ _).drew _
    | exact below_call hb (((Below.refl _ _).alloc (Nat.le_refl _) _).drew)
set_option maxRecDepth 100000 in
set_option maxHeartbeats 4000000 in
theorem num_big_neg (n : Nat) (hn : ¬ n < 10) (hm : n ≤ 9223372036854775808) (ih : NumOK (-((n / 10 : Nat) : Int))) : NumOK (-(n : Int)) := by
  intro w
  obtain ⟨q, hq⟩ : ∃ q, n / 10 = q := ⟨_, rfl⟩
  obtain ⟨r, hr⟩ : ∃ r, n % 10 = r := ⟨_, rfl⟩
  have hr10 : r < 10 := by omega
  have HL := Lib.hid (show numL (-(n : Int)) = 45 :: decN q ++ [48 + UInt8.ofNat r] by rw [numL_neg n (by omega), decN_big hn, hq, hr]; rfl)
  have hlen := decN_len20 q (by omega)
  rw [hq] at ih
  obtain ⟨sq, hsq⟩ : ∃ sq : ByteArray, sq = ⟨(numL (-(q : Int))).toArray⟩ := ⟨_, rfl⟩
  have HSQ := Lib.hid (show sq.data.toList = 45 :: decN q by rw [hsq, numL_neg q (by omega)])
  have hss : sq.size ≤ 21 := by rw [Lib.size_eq, HSQ.out, List.length_cons]; omega
  have HI : Hid (∀ w, Calls Tryz.prog 7 #[.int .i64 (-(q : Int))] w fun e w' => e = .returned (.string sq) ∧ Below w.heap.size w w') := by rw [hsq]; exact ih
  clear hlen hsq
  have e1 : (-(n : Int)).tdiv 10 = -(q : Int) := by rw [Int.neg_tdiv, Int.tdiv_eq_ediv_of_nonneg (by omega)]; omega
  have e2 : (-(n : Int)).tmod 10 = -(r : Int) := by rw [Int.neg_tmod, Int.tmod_eq_emod_of_nonneg (by omega)]; omega
  have e3 : IntKind.i64.wrap (-(q : Int)) = -(q : Int) := by rw [IntKind.wrap_i64]; omega
  have e4 : IntKind.i64.wrap (48 + (r : Int)) = 48 + (r : Int) := wrap_small _ (by omega) (by omega)
  have e5 : IntKind.u8.wrap (48 + (r : Int)) = 48 + (r : Int) := by rw [IntKind.wrap_u8]; omega
  obtain ⟨x, hx⟩ : ∃ x : Int, -(n : Int) = x := ⟨_, rfl⟩
  obtain ⟨y, hy⟩ : ∃ y : Int, -(q : Int) = y := ⟨_, rfl⟩
  obtain ⟨z, hz⟩ : ∃ z : Int, -(r : Int) = z := ⟨_, rfl⟩
  rw [hx] at e1 e2 HL ⊢
  rw [hy] at e1 e3 HI
  rw [hz] at e2
  have e6 : IntKind.i64.wrap (48 - z) = 48 + (r : Int) := by rw [show (48 : Int) - z = 48 + (r : Int) by omega]; exact e4
  have h1 : x ≤ -10 := by omega
  clear hx hy hz e4
  have hst := fun (w : World) (b cap : Nat) (x : Int) => run_str1 (P := Tryz.prog) Tryz.underlying37 Tryz.underlying5 Tryz.underlying9 w b cap x
  clear ih hq hr hn hm
  go_enter Tryz.func7, Tryz.ntmps7
  go_wp2_with fail
  go_region_with ((go_at_call 7; refine (HI.out _).mono ?_; rintro e wn ⟨rfl, hb⟩; obtain ⟨hcc, hff⟩ := bcell hb))
  all_goals
    go_wp2_with fail
    go_ret
    have hfin : (sq ++ ⟨#[UInt8.ofNat (48 + r)]⟩ : ByteArray) = ⟨(numL x).toArray⟩ := by
      rw [← Lib.mk_data (sq ++ _), HL.out]
      simp [HSQ.out]
    refine ⟨by simpa [Act.put] using hfin, ?_⟩
    first
    | exact below_call_alloc hb (Below.refl _ _).drew _
    | exact below_call hb (((Below.refl _ _).alloc (Nat.le_refl _) _).drew)
theorem num_ok (x : Int) (h0 : -9223372036854775808 ≤ x) (h1 : x ≤ 9223372036854775807) : NumOK x := by
  have pos : ∀ n : Nat, n < 9223372036854775808 → NumOK (n : Int) := by
    intro n
    induction n using Nat.strongRecOn with
    | ind n ih =>
      intro hn
      by_cases h : n < 10
      · exact num_small n h
      · exact num_big n h hn (ih (n / 10) (by omega) (by omega))
  have neg : ∀ n : Nat, 0 < n → n ≤ 9223372036854775808 → NumOK (-(n : Int)) := by
    intro n
    induction n using Nat.strongRecOn with
    | ind n ih =>
      intro h0 hn
      by_cases h : n < 10
      · exact num_small_neg n h0 h
      · exact num_big_neg n h hn (ih (n / 10) (by omega) (by omega) (by omega))
  by_cases hx : 0 ≤ x
  · have := pos x.toNat (by omega)
    rwa [show ((x.toNat : Nat) : Int) = x by omega] at this
  · have := neg (-x).toNat (by omega) (by omega)
    rwa [show (-((((-x).toNat : Nat)) : Int)) = x by omega] at this
end Go.Proofs.YtdfpijbngbfjaaaGreatDoor
