/-
  DERIVED. Plain: what ExpandArith's words come to. No program in sight. The walk of the law's number (chapter 15): a number's text.
-/
import Derived.Test.YtkmpbkhlcapbgaaGreatDoorZ39
import Derived.Test.YtkmpbkhlcapbgaaGreatDoorZ47
import Derived.Test.YtkmpbkhlcapbgaaGreatDoorZ11
import Derived.Deep.RegionWith
namespace Go.Proofs.YtkmpbkhlcapbgaaGreatDoor
open Go.RowKit
/-- The Env of ExpandArith. -/
def envA (x y h : List UInt8) : EnvT := ((E0.set [120] x).set [121] y).set [72, 79, 77, 69] h
theorem envA_is (x y h : List UInt8) : envA x y h = ⟨[([72, 79, 77, 69], h), ([120], x), ([121], y)], [], 0, []⟩ := by kernel_rfl
theorem envA_home (x y h : List UInt8) : (envA x y h).get [72, 79, 77, 69] = some h := by rw [envA_is]; kernel_rfl
theorem envA_few (x y h : List UInt8) : (envA x y h).vars.length = 3 := by rw [envA_is]; rfl
theorem envA_un (x y h : List UInt8) : (envA x y h).unset [72, 79, 77, 69] = ⟨[([120], x), ([121], y)], [], 0, []⟩ := by rw [envA_is]; kernel_rfl
theorem part_tilde (P : Par) (f : Nat) (e : EnvT) (r : RowT) (t op : List UInt8) (q : Bool) (wd : List PartT) (h : List UInt8) (hg : e.get [72, 79, 77, 69] = some h) (hl : r.1.length + h.length + 1 ≤ 1000000) (hv0 : e.vars.length ≤ 1000000) :
    partE P (f + 1) e r (.mk 5 t op q wd) = some (.ok e (putR r h 113)) := by
  rw [partE, if_neg (by decide), if_neg (by decide), if_pos rfl, hg]
  exact keepR_some (by have := putR_length r h 113; show (putR r h 113).1.length ≤ _; omega) hv0
theorem part_tilde_no (P : Par) (f : Nat) (e : EnvT) (r : RowT) (t op : List UInt8) (q : Bool) (wd : List PartT) (hg : e.get [72, 79, 77, 69] = none) (hl : r.1.length + 2 ≤ 1000000) (hv0 : e.vars.length ≤ 1000000) :
    partE P (f + 1) e r (.mk 5 t op q wd) = some (.ok e (putR r [126] 108)) := by
  rw [partE, if_neg (by decide), if_neg (by decide), if_pos rfl, hg]
  exact keepR_some (by have := putR_length r [126] 108; simp at this; show (putR r [126] 108).1.length ≤ _; omega) hv0
theorem numL_len (x : Int) (h0 : -9223372036854775808 ≤ x) (h1 : x ≤ 9223372036854775807) : (numL x).length ≤ 21 := by
  unfold numL
  split
  · have := decN_len20 (-x).toNat (by omega)
    simp only [List.length_cons]; omega
  · have := decN_len20 x.toNat (by omega)
    omega
theorem wrap_range (n : Int) : -9223372036854775808 ≤ wrap64 n ∧ wrap64 n ≤ 9223372036854775807 := by
  unfold wrap64; omega
theorem val_x (x y h : List UInt8) : valF (bv (envA x y h).vars) [120] = numberF ⟨x.toArray⟩ := by rw [envA_is]; kernel_rfl
theorem val_y (x y h : List UInt8) : valF (bv (envA x y h).vars) [121] = numberF ⟨y.toArray⟩ := by rw [envA_is]; kernel_rfl
theorem parse_sum : parseF 60 [120, 43, 36, 121] = some (.node [43] [.var [120], .var [121]]) := by kernel_rfl
theorem parse_more : parseF 60 [120, 62, 121] = some (.node [62] [.var [120], .var [121]]) := by kernel_rfl
theorem ev_two (l : List (ByteArray × ByteArray)) (x y : Int) (hx : valF l [120] = some x) (hy : valF l [121] = some y) (f : Nat) (op : List UInt8) (ho : op ∈ binL) (n : Int) (hd : doesF op x y = .ok n) (h1 : op ≠ [38, 38]) (h2 : op ≠ [124, 124]) : evF l (f + 1 + 1) (.node op [.var [120], .var [121]]) = .ok n := by
  have ha : evF l (f + 1) (.var [120]) = .ok x := by
    show (match valF l [120] with | some n => Res.ok n | none => .bad) = _
    rw [hx]
  have hb : evF l (f + 1) (.var [121]) = .ok y := by
    show (match valF l [121] with | some n => Res.ok n | none => .bad) = _
    rw [hy]
  show (if op = [38, 38] then _ else if op = [124, 124] then _ else if op ∈ binL then _ else _) = _
  rw [if_neg h1, if_neg h2, if_pos ho, ha, hb]
  exact hd
section
variable (e : EnvT) (hv : e.vars.length ≤ 1000000)
include hv
theorem sum_one (t s : List UInt8) (hc : evX e t = some (.inl s)) (hs : s.length ≤ 100) : partsE PT 6 e ([], []) [.mk 4 t [] false []] = some (.ok e (putR ([], []) s 115)) :=
  parts_one PT 4 _ _ _ _ _ (part_sum PT 4 e ([], []) t [] false [] s hc (by rw [zero_row]; omega) hv)
theorem home_c (h : List UInt8) (hg : e.get [72, 79, 77, 69] = some h) (hh : h.length ≤ 30) : partsE PT 6 e ([], []) [.mk 5 [] [] false [], .mk 1 [47, 97] [] false []] = some (.ok e (putR (putR ([], []) h 113) [47, 97] 108)) := by
  rw [parts_cons PT 4 _ _ _ _ _ _ (part_tilde PT 4 e ([], []) [] [] false [] h hg (by rw [zero_row]; omega) hv)]
  exact parts_one PT 3 _ _ _ _ _ (part_lit PT 3 e _ [47, 97] [] false [] (by have := putR_length ([], []) h 113; simp at this ⊢; omega) hv)
theorem home_d : partsE PT 6 e ([], []) [.mk 1 [97, 126, 47] [] false [], .mk 2 [126] [] false []] = some (.ok e (putR (putR ([], []) [97, 126, 47] 108) [126] 113)) := by
  rw [parts_cons PT 4 _ _ _ _ _ _ (part_lit PT 4 e ([], []) [97, 126, 47] [] false [] (by decide) hv)]
  exact parts_one PT 3 _ _ _ _ _ (part_quo PT 3 e _ [126] [] false [] (by decide) hv)
theorem home_k (hg : e.get [72, 79, 77, 69] = none) : partsE PT 6 e ([], []) [.mk 5 [] [] false []] = some (.ok e (putR ([], []) [126] 108)) :=
  parts_one PT 4 _ _ _ _ _ (part_tilde_no PT 4 e ([], []) [] [] false [] hg (by decide) hv)
theorem home_m (h : List UInt8) (hg : e.get [72, 79, 77, 69] = some h) (hh : h.length ≤ 30) : partsE PT 6 e ([], []) [.mk 5 [] [] false []] = some (.ok e (putR ([], []) h 113)) :=
  parts_one PT 4 _ _ _ _ _ (part_tilde PT 4 e ([], []) [] [] false [] h hg (by rw [zero_row]; omega) hv)
end
section
variable (x y : Int) (h : List UInt8) (x0 : -9223372036854775807 ≤ x) (x1 : x ≤ 9223372036854775807) (y0 : -9223372036854775807 ≤ y) (y1 : y ≤ 9223372036854775807) (hh : h.length ≤ 30)
include x0 x1 y0 y1 hh
theorem envA_small (e : EnvT) (he : envA (numL x) (numL y) h = e) : ∀ p ∈ e.vars, p.2.length ≤ 1000000 := by
  intro p hp
  have hx := numL_len x (by omega) (by omega)
  have hy := numL_len y (by omega) (by omega)
  rw [← he, envA_is] at hp
  simp only [List.mem_cons, List.not_mem_nil, or_false] at hp
  rcases hp with rfl | rfl | rfl
  · show h.length ≤ _; omega
  · show (numL x).length ≤ _; omega
  · show (numL y).length ≤ _; omega
theorem arith_a (e : EnvT) (he : envA (numL x) (numL y) h = e) : partsE PT 6 e ([], []) [.mk 4 [120, 43, 36, 121] [] false []] = some (.ok e (putR ([], []) (numL (wrap64 (x + y))) 115)) := by
  obtain ⟨w1, w2⟩ := wrap_range (x + y)
  have hn := numL_len _ w1 w2
  have hx : valF (bv e.vars) [120] = some x := by rw [← he]; exact (val_x _ _ _).trans (num_text0 x x0 x1)
  have hy : valF (bv e.vars) [121] = some y := by rw [← he]; exact (val_y _ _ _).trans (num_text0 y y0 y1)
  refine sum_one e (by rw [← he, envA_few]; decide) _ _ ?_ (by omega)
  rw [← itoa_same]
  exact evX_ok _ _ (by decide) (by decide) (envA_small x y h x0 x1 y0 y1 hh e he) _ parse_sum _ (ev_two _ x y hx hy 58 [43] (by decide) _ rfl (by decide) (by decide)) w1 w2
theorem arith_b (e : EnvT) (he : envA (numL x) (numL y) h = e) : partsE PT 6 e ([], []) [.mk 4 [120, 62, 121] [] false []] = some (.ok e (putR ([], []) (if y < x then [49] else [48]) 115)) := by
  have hx : valF (bv e.vars) [120] = some x := by rw [← he]; exact (val_x _ _ _).trans (num_text0 x x0 x1)
  have hy : valF (bv e.vars) [121] = some y := by rw [← he]; exact (val_y _ _ _).trans (num_text0 y y0 y1)
  refine sum_one e (by rw [← he, envA_few]; decide) _ _ ?_ (by split <;> decide)
  have e1 : (if y < x then [49] else [48] : List UInt8) = Lib.itoa (truthF (decide (y < x))) := by
    by_cases hc : y < x
    · rw [if_pos hc, decide_eq_true hc]; decide +kernel
    · rw [if_neg hc, decide_eq_false hc]; decide +kernel
  rw [e1]
  have t : -9223372036854775808 ≤ truthF (decide (y < x)) ∧ truthF (decide (y < x)) ≤ 9223372036854775807 := by unfold truthF; split <;> omega
  exact evX_ok _ _ (by decide) (by decide) (envA_small x y h x0 x1 y0 y1 hh e he) _ parse_more _ (ev_two _ x y hx hy 58 [62] (by decide) _ rfl (by decide) (by decide)) t.1 t.2
end
theorem envA_home2 (x y h : List UInt8) (e : EnvT) (he : envA x y h = e) : e.get [72, 79, 77, 69] = some h ∧ e.vars.length ≤ 1000000 := by
  rw [← he]; exact ⟨envA_home x y h, by rw [envA_few]; decide⟩
theorem envA_gone (x y h : List UInt8) (e : EnvT) (he : (envA x y h).unset [72, 79, 77, 69] = e) : e.get [72, 79, 77, 69] = none ∧ e.vars.length ≤ 1000000 := by
  rw [← he, envA_un]; exact ⟨by kernel_rfl, show 2 ≤ 1000000 by decide⟩
theorem flat_two (a b : List UInt8) (c d : UInt8) (hc : c ≠ 101) (hd : d ≠ 101) : flatR (putR (putR ([], []) a c) b d) = a ++ b := by
  rw [flatR_put2 _ (put_len ([], []) rfl _ _) _ _ hd, flatR_put _ _ hc]
end Go.Proofs.YtkmpbkhlcapbgaaGreatDoor
namespace Go.Proofs.YtkmpbkhlcapbgaaGreatDoor
open Go.RowKit
def NumOK5 (x : Int) : Prop := ∀ w, Calls Tryz.prog 17 #[.int .i64 x] w fun e w' => e = .returned (.string ⟨(numL x).toArray⟩) ∧ Below w.heap.size w w'
set_option maxRecDepth 100000 in
set_option maxHeartbeats 4000000 in
theorem num5_small (n : Nat) (hn : n < 10) : NumOK5 (n : Int) := by
  intro w
  have h1 : ((n : Int) == -9223372036854775808) = false := by simp
  have h2 : ¬ (n : Int) < 0 := by omega
  have h3 : ¬ (10 : Int) ≤ (n : Int) := by omega
  have hst := fun (w : World) (b cap : Nat) (x : Int) => run_str1 (P := Tryz.prog) Tryz.underlying73 Tryz.underlying5 Tryz.underlying9 w b cap x
  have HL := Lib.hid ((numL_nat n).trans (decN_small hn))
  go_enter Tryz.func17, Tryz.ntmps17
  go_wp2_with fail
  go_ret
  exact ⟨by rw [HL.out]; rfl, by go_grown⟩
set_option maxRecDepth 100000 in
set_option maxHeartbeats 4000000 in
theorem num5_big (n : Nat) (hn : ¬ n < 10) (hm : n < 9223372036854775808) (ih : NumOK5 ((n / 10 : Nat) : Int)) : NumOK5 (n : Int) := by
  intro w
  obtain ⟨q, hq⟩ : ∃ q, n / 10 = q := ⟨_, rfl⟩
  obtain ⟨r, hr⟩ : ∃ r, n % 10 = r := ⟨_, rfl⟩
  have hr10 : r < 10 := by omega
  have HL := Lib.hid (show numL (n : Int) = decN q ++ [48 + UInt8.ofNat r] by rw [numL_nat n, decN_big hn, hq, hr])
  have hlen := decN_len20 q (by omega)
  rw [hq] at ih
  obtain ⟨sq, hsq⟩ : ∃ sq : ByteArray, sq = ⟨(numL (q : Int)).toArray⟩ := ⟨_, rfl⟩
  have HSQ := Lib.hid (show sq.data.toList = decN q by rw [hsq, numL_nat])
  have hss : sq.size ≤ 20 := by rw [Lib.size_eq, HSQ.out]; exact hlen
  have HI : Hid (∀ w, Calls Tryz.prog 17 #[.int .i64 (q : Int)] w fun e w' => e = .returned (.string sq) ∧ Below w.heap.size w w') := by rw [hsq]; exact ih
  clear hlen hsq
  have e1 : (n : Int).tdiv 10 = (q : Int) := by rw [Int.tdiv_eq_ediv_of_nonneg (by omega)]; omega
  have e2 : (n : Int).tmod 10 = (r : Int) := by rw [Int.tmod_eq_emod_of_nonneg (by omega)]; omega
  have e3 : IntKind.i64.wrap (q : Int) = (q : Int) := wrap_small _ (by omega) (by omega)
  have e4 : IntKind.i64.wrap (48 + (r : Int)) = 48 + (r : Int) := wrap_small _ (by omega) (by omega)
  have e5 : IntKind.u8.wrap (48 + (r : Int)) = 48 + (r : Int) := by rw [IntKind.wrap_u8]; omega
  have h1 : ((n : Int) == -9223372036854775808) = false := by simp
  have h2 : ¬ (n : Int) < 0 := by omega
  have h3 : (10 : Int) ≤ (n : Int) := by omega
  have hst := fun (w : World) (b cap : Nat) (x : Int) => run_str1 (P := Tryz.prog) Tryz.underlying73 Tryz.underlying5 Tryz.underlying9 w b cap x
  clear ih hq hr hn hm
  go_enter Tryz.func17, Tryz.ntmps17
  go_wp2_with fail
  go_region_with ((go_at_call 17; refine (HI.out _).mono ?_; rintro e wn ⟨rfl, hb⟩; obtain ⟨hcc, hff⟩ := bcell hb))
  all_goals
    go_wp2_with fail
    go_ret
    have hfin : (sq ++ ⟨#[UInt8.ofNat (48 + r)]⟩ : ByteArray) = ⟨(numL (n : Int)).toArray⟩ := by
      rw [← Lib.mk_data (sq ++ _), HL.out]
      simp [HSQ.out]
    refine ⟨by simpa [Act.put] using hfin, ?_⟩
    first
    | exact below_call_alloc hb (Below.refl _ _).drew _
    | exact below_call hb (((Below.refl _ _).alloc (Nat.le_refl _) _).drew)
set_option maxRecDepth 100000 in
set_option maxHeartbeats 4000000 in
theorem num5_neg (n : Nat) (h0 : 0 < n) (hm : n < 9223372036854775808) (ih : NumOK5 (n : Int)) : NumOK5 (-(n : Int)) := by
  intro w
  have HL := Lib.hid (show numL (-(n : Int)) = 45 :: numL (n : Int) by rw [numL_neg n h0, numL_nat])
  obtain ⟨sq, hsq⟩ : ∃ sq : ByteArray, sq = ⟨(numL (n : Int)).toArray⟩ := ⟨_, rfl⟩
  have HSQ := Lib.hid (show sq.data.toList = numL (n : Int) by rw [hsq])
  have hlen := decN_len20 n (by omega)
  have hss : sq.size ≤ 20 := by rw [Lib.size_eq, HSQ.out, numL_nat]; exact hlen
  have HI : Hid (∀ w, Calls Tryz.prog 17 #[.int .i64 (n : Int)] w fun e w' => e = .returned (.string sq) ∧ Below w.heap.size w w') := by rw [hsq]; exact ih
  obtain ⟨x, hx⟩ : ∃ x : Int, -(n : Int) = x := ⟨_, rfl⟩
  have h1 : (x == -9223372036854775808) = false := by simp; omega
  have h2 : x < 0 := by omega
  have e0 : -x = (n : Int) := by omega
  have e1 : IntKind.i64.wrap (n : Int) = (n : Int) := wrap_small _ (by omega) (by omega)
  have e3 : IntKind.i64.wrap (0 - x) = (n : Int) := by rw [show (0 : Int) - x = (n : Int) by omega]; exact e1
  rw [hx] at HL ⊢
  clear hlen hsq ih hx h0 hm
  go_enter Tryz.func17, Tryz.ntmps17
  go_wp2_with fail
  refine (HI.out _).mono ?_; rintro e wn ⟨rfl, hb⟩
  go_wp2_with fail
  go_ret
  have hfin : (⟨#[45]⟩ ++ sq : ByteArray) = ⟨(numL x).toArray⟩ := by
    rw [← Lib.mk_data (_ ++ sq), HL.out]
    simp [HSQ.out]
  exact ⟨by simpa [Act.put] using hfin, hb⟩
set_option maxRecDepth 100000 in
set_option maxHeartbeats 4000000 in
theorem num5_min : NumOK5 (-9223372036854775808) := by
  intro w
  have HL := Lib.hid (show numL (-9223372036854775808) = [45, 57, 50, 50, 51, 51, 55, 50, 48, 51, 54, 56, 53, 52, 55, 55, 53, 56, 48, 56] by decide +kernel)
  go_enter Tryz.func17, Tryz.ntmps17
  go_wp2_with fail
  go_ret
  exact ⟨by rw [HL.out]; rfl, by go_grown⟩
theorem num5_ok (x : Int) (h0 : -9223372036854775808 ≤ x) (h1 : x ≤ 9223372036854775807) : NumOK5 x := by
  have pos : ∀ n : Nat, n < 9223372036854775808 → NumOK5 (n : Int) := by
    intro n
    induction n using Nat.strongRecOn with
    | ind n ih =>
      intro hn
      by_cases h : n < 10
      · exact num5_small n h
      · exact num5_big n h hn (ih (n / 10) (by omega) (by omega))
  by_cases hx : 0 ≤ x
  · have := pos x.toNat (by omega)
    rwa [show ((x.toNat : Nat) : Int) = x by omega] at this
  · by_cases hm : x = -9223372036854775808
    · subst hm; exact num5_min
    · have := num5_neg (-x).toNat (by omega) (by omega) (pos _ (by omega))
      rwa [show (-((((-x).toNat : Nat)) : Int)) = x by omega] at this
end Go.Proofs.YtkmpbkhlcapbgaaGreatDoor
