/-
  DERIVED. Plain: what strings.ToLower makes of whatever bytes begins with "0x" just where the bytes themselves do, but for the case of the x: no rune beyond ASCII becomes an x. The walks of arith's digits and Number, of a text of whatever bytes. The walk of arith's Number, of a text of bytes below 128; and tester's number. The walks of arith's sign, pass and need; what a reader's call leaves. The walks of arith's pass and need. The walk of arith's name. The walk of arith's one: a number; a name. The walk of arith's one: a name behind a dollar, in braces; trees in memory; one as the parser has it.
-/
import Derived.Test.YtkmpbkhlcapbgaaGreatDoorZ35
import Derived.Shelf.Strings.CaseAny
import Derived.Shelf.Strings.SlTrimAscii
import Derived.Test.YtkmpbkhlcapbgaaGreatDoorZ08
import Derived.Test.YtkmpbkhlcapbgaaGreatDoorZ11
import Derived.Test.YtkmpbkhlcapbgaaGreatDoorZ02
import Derived.Test.YtkmpbkhlcapbgaaGreatDoorZ04
import Derived.Test.YtkmpbkhlcapbgaaGreatDoorZ12
import Derived.Deep.MidRow
namespace Go.Proofs.YtkmpbkhlcapbgaaGreatDoor
open Go.Lib
def noX (x : CaseRow) : Bool := decide (x.delta 1 > 1114111) || !(decide ((x.1 : Int) ≤ 120 - x.delta 1) && decide (120 - x.delta 1 ≤ (x.2.1 : Int)) && decide (128 ≤ 120 - x.delta 1))
theorem all_noX : caseT.all noX = true := by decide +kernel
theorem lower_noX (r : Int) (h : 128 ≤ r) : toLowerU r ≠ 120 := by
  unfold toLowerU
  rw [if_neg (by omega)]
  unfold toR lookupGo
  cases hi : lookupIdx caseA r (caseA.size + 1) 0 caseA.size with
  | none => simp only [Option.map_none]; omega
  | some i =>
    obtain ⟨hil, hlo, hhi⟩ := lookupIdx_some caseA r _ _ _ i hi
    have hm : caseA.getD i (0, 0, 0, 0, 0) ∈ caseT := by
      unfold caseA at hil ⊢
      simp only [List.size_toArray] at hil
      simp [Array.getD, hil]
    have hx := List.all_eq_true.1 all_noX _ hm
    simp only [Option.map_some]
    generalize caseA.getD i (0, 0, 0, 0, 0) = x at hx hlo hhi
    simp only [noX, Bool.or_eq_true, decide_eq_true_eq, Bool.not_eq_true', Bool.and_eq_false_iff, decide_eq_false_iff_not] at hx
    unfold convertR
    split <;> omega
theorem encode_head (x : Int) (hx : x ≠ 120) (h0 : 0 ≤ x) (t : List UInt8) : encodeRune x ≠ 120 :: t := by
  unfold encodeRune encodeRuneZ
  intro h
  repeat' split at h
  all_goals
    simp only [List.map_cons, List.map_nil, List.cons.injEq] at h
    have := congrArg UInt8.toNat h.1
    simp at this
    try omega
theorem encode_some (x : Int) : encodeRune x ≠ [] := by
  unfold encodeRune encodeRuneZ
  intro h
  repeat' split at h
  all_goals simp at h
theorem lowerD_low (b : UInt8) (t : List UInt8) (hb : b.toNat < 128) : toLowerD (b :: t) = lowerB b :: toLowerD t := by
  unfold toLowerD
  rw [mapD_step toLowerU (b :: t) (by simp), decodeL_ascii b t hb]
  dsimp only
  rw [if_pos (toLowerU_range b.toNat (by omega)).1, lower_byte ⟨b.toNat, hb⟩, List.drop_succ_cons, List.drop_zero]
  simp
theorem lowerD_high (b : UInt8) (t : List UInt8) (hb : 128 ≤ b.toNat) : ∃ c u, toLowerD (b :: t) = c :: u ∧ c ≠ 120 := by
  have h128 : 128 ≤ (decodeL (b :: t)).1 := by
    rw [← List.drop_zero (l := b :: t)]
    have := decode_high ⟨(b :: t).toArray⟩ 0 (Nat.zero_lt_succ _) hb
    exact this.1
  have hr := decodeL_rune (b :: t)
  have hx := lower_noX ((decodeL (b :: t)).1 : Int) (by omega)
  have h0 := (toLowerU_range (decodeL (b :: t)).1 hr).1
  unfold toLowerD
  rw [mapD_step toLowerU (b :: t) (by simp), if_pos h0]
  cases he : encodeRune (toLowerU ((decodeL (b :: t)).1 : Int)) with
  | nil => exact absurd he (encode_some _)
  | cons c u => exact ⟨c, _, rfl, fun e => encode_head _ hx h0 u (by rw [he, e])⟩
theorem lowerB_high (b : UInt8) (hb : 128 ≤ b.toNat) : lowerB b ≠ 120 := by
  rw [lowerB_of_not b (by
    cases h : isUpperB b with
    | false => rfl
    | true => have := isUpperB_int b; rw [h] at this; have := this.symm; simp only [Bool.and_eq_true, decide_eq_true_eq] at this; omega)]
  intro e; rw [e] at hb; simp at hb
theorem hex_lowerD (s : ByteArray) (h0 : 0 < s.size) (hd : bt s 0 ≤ 57) : hasPrefix (toLowerD s.data.toList) [48, 120] = hexP s := by
  unfold hexP
  cases hl : s.data.toList with
  | nil => have := size_eq s; rw [hl, List.length_nil] at this; omega
  | cons b t =>
    have hb : b.toNat < 128 := by
      have h1 := data_getElem? s 0 h0
      rw [hl] at h1
      have h2 := get_bt s 0 h0
      simp only [List.getElem?_cons_zero, Option.some.injEq] at h1
      have h3 : b.toNat = (s[0]'h0).toNat := congrArg UInt8.toNat h1
      omega
    rw [lowerD_low b t hb]
    show List.isPrefixOf _ _ = List.isPrefixOf _ _
    unfold toLowerA
    rw [List.map_cons]
    simp only [List.isPrefixOf]
    congr 1
    cases t with
    | nil => rfl
    | cons c u =>
      by_cases hc : c.toNat < 128
      · rw [lowerD_low c u hc]; simp only [List.map_cons, List.isPrefixOf]
      · obtain ⟨d, v, h1, h2⟩ := lowerD_high c u (by omega)
        rw [h1]
        have h3 := lowerB_high c (by omega)
        have h4 : ((120 : UInt8) == d) = false := by simpa using Ne.symm h2
        have h5 : ((120 : UInt8) == lowerB c) = false := by simpa using Ne.symm h3
        simp only [List.map_cons, List.isPrefixOf, h4, h5]
end Go.Proofs.YtkmpbkhlcapbgaaGreatDoor
namespace Go.Proofs.YtkmpbkhlcapbgaaGreatDoor
open Go.RowKit
theorem capGo_le (cap base : Int) (hb : 1 ≤ base) : ∀ (l : List Int) (n v : Int), 0 ≤ n → n ≤ cap → capGo cap base l n = some v → 0 ≤ v ∧ v ≤ cap := by
  intro l
  induction l with
  | nil => intro n v h0 h1 h; cases h; exact ⟨h0, h1⟩
  | cons c l ih =>
    intro n v h0 h1 h
    simp only [capGo] at h
    split at h
    · cases h
    · rename_i hn
      have hd := digitV_range c
      have h2 : n ≤ n * base := by
        have := Int.mul_le_mul_of_nonneg_left hb h0
        rw [Int.mul_one] at this; exact this
      exact ih _ v (by omega) (by omega) h
/-- What ParseUint gathers of a text that digits hands on. -/
theorem pu_for (s : ByteArray) (hs : s.size ≤ 9223372036854775800) (h0 : 0 < s.size) (_hd : 48 ≤ bt s 0 ∧ bt s 0 ≤ 57) (hc : (anyCh s && !hexP s || anyUs s) = false) :
    ∃ R : Option Int, (∀ w, Calls Tryz.prog 142 #[.string s, .int .i64 0, .int .i64 64] w (PuPost R w)) ∧ (R.bind fun v => if v ≤ maxI then some v else none) = digitsF s ∧ ∀ v, R = some v → 0 ≤ v ∧ v ≤ maxU := by
  rw [Bool.or_eq_false_iff] at hc
  obtain ⟨hc1, hc2⟩ := hc
  have hus : ∀ k, k < s.size → bt s k ≠ 95 := fun k hk e => by
    have := (anyUs_iff s).2 ⟨k, hk, e⟩; rw [hc2] at this; cases this
  have hm : (0 : Int) ≤ maxI := by rw [maxI_eq]; omega
  have hmu : (0 : Int) ≤ maxU := by rw [maxU_eq]; omega
  by_cases b0 : bt s 0 = 48
  · by_cases h1 : 2 < s.size
    · by_cases bx : bt s 1 = 120 ∨ bt s 1 = 88
      · have hbf : baseF s = (16, 2) := by unfold baseF; rw [if_pos ⟨h1, b0, bx⟩]
        refine ⟨capGo maxU 16 ((bl s).drop 2) 0, fun w => ?_, ?_, fun v hv => capGo_le _ _ (by omega) _ _ _ (by omega) hmu hv⟩
        · rcases bx with b1 | b1
          · exact pu_X s hs h1 b0 b1 hus _ rfl w
          · exact pu_Y s hs h1 b0 b1 hus _ rfl w
        · unfold digitsF; rw [if_neg (by omega), hbf]; exact (digGo_cap 16 (by omega) _ 0 (by omega) hm).symm
      · have hbf : baseF s = (8, 1) := by unfold baseF; rw [if_neg (fun e => bx e.2.2), if_pos ⟨by omega, b0⟩]
        have hx : hexP s = false := by
          cases e : hexP s with
          | false => rfl
          | true => exact absurd ((hexP_iff s).1 e).2.2 bx
        have ha : anyCh s = false := by rw [hx] at hc1; simpa using hc1
        have hn : ∀ c : Int, (c = 95 ∨ c = 98 ∨ c = 66 ∨ c = 111 ∨ c = 79) → bt s 1 ≠ c := fun c hcc e => by
          have := (anyCh_iff s).2 ⟨1, by omega, by rw [e]; exact hcc⟩
          rw [ha] at this; cases this
        refine ⟨capGo maxU 8 ((bl s).drop 1) 0, fun w => pu_O s hs h1 b0 ⟨fun e => bx (.inl e), fun e => bx (.inr e)⟩ ⟨hn 98 (by omega), hn 66 (by omega), hn 111 (by omega), hn 79 (by omega)⟩ hus _ rfl w, ?_, fun v hv => capGo_le _ _ (by omega) _ _ _ (by omega) hmu hv⟩
        unfold digitsF; rw [if_neg (by omega), hbf]; exact (digGo_cap 8 (by omega) _ 0 (by omega) hm).symm
    · refine ⟨capGo maxU 8 ((bl s).drop 1) 0, fun w => pu_P s hs h1 h0 b0 hus _ rfl w, ?_, fun v hv => capGo_le _ _ (by omega) _ _ _ (by omega) hmu hv⟩
      by_cases h2 : 1 < s.size
      · have hbf : baseF s = (8, 1) := by unfold baseF; rw [if_neg (fun e => h1 e.1), if_pos ⟨h2, b0⟩]
        unfold digitsF; rw [if_neg (by omega), hbf]; exact (digGo_cap 8 (by omega) _ 0 (by omega) hm).symm
      · have hbf : baseF s = (10, 0) := by unfold baseF; rw [if_neg (fun e => h1 e.1), if_neg (fun e => h2 e.1)]
        have e1 : (bl s).drop 1 = [] := List.drop_of_length_le (by rw [bl_length]; omega)
        unfold digitsF; rw [if_neg (by omega), hbf]
        simp only
        rw [bl_drop s 0 h0]
        simp only [Nat.zero_add, e1, b0]
        decide +kernel
  · have hbf : baseF s = (10, 0) := by unfold baseF; rw [if_neg (fun e => b0 e.2.1), if_neg (fun e => b0 e.2)]
    refine ⟨capGo maxU 10 ((bl s).drop 0) 0, fun w => pu_D s hs h0 b0 hus _ rfl w, ?_, fun v hv => capGo_le _ _ (by omega) _ _ _ (by omega) hmu hv⟩
    unfold digitsF; rw [if_neg (by omega), hbf]; exact (digGo_cap 10 (by omega) _ 0 (by omega) hm).symm
theorem pp_for (s : ByteArray) (hs : s.size ≤ 281474976710656) (h0 : 0 < s.size) (hd : 48 ≤ bt s 0 ∧ bt s 0 ≤ 57) (hc : (anyCh s && !hexP s || anyUs s) = false) (R : Option Int) (hR : digitsF s = R) (w : World) (hE : Env w) :
    Calls Tryz.prog 218 #[.string s, .int .i64 0, .int .i64 64] w (PpPost R w) := by
  obtain ⟨Q, h1, h2, h3⟩ := pu_for s (by omega) h0 hd hc
  exact ppint_any s hs Q R (by rw [h2, hR]) w hE fun w => pint_any s h0 (by omega) (by omega) Q h3 w h1
theorem ascii_list {l : List UInt8} (h : l.all (fun b => decide (b.toNat < 128)) = true) : ∀ (j : Nat) (b : UInt8), l[j]? = some b → b.toNat < 128 := fun j b hb => by
  have := List.all_eq_true.1 h b (List.mem_of_getElem? hb); simpa using this
/-- Nothing is asked of the bytes (the name is from when they had to be below 128). -/
def Ascii (_ : ByteArray) : Prop := True
set_option maxRecDepth 100000 in
set_option maxHeartbeats 8000000 in
theorem digits_any (s : ByteArray) (hs : s.size ≤ 1000000000) (_ha : Ascii s) (R : Option Int) (hR : digitsF s = R) (w : World) (hE : Env w) :
    Calls Tryz.prog 209 #[.string s] w fun e w' => e = .returned (.tuple #[.int .i64 (R.getD 0), .bool R.isSome]) ∧ Below w.heap.size w w' := by
  have hgs := get_bt s
  by_cases h0 : s.size = 0
  · have HR : Hid (R = none) := by unfold Hid; rw [← hR]; unfold digitsF; rw [if_pos h0]
    have hem : s.toList.isEmpty = true := by rw [empty_iff]; simp [h0]
    clear hR hE
    go_enter Tryz.func209, Tryz.ntmps209
    go_wp2_with fail
    go_ret2
    exact ⟨by rw [HR.out]; rfl, Below.refl _ _⟩
  · have hpos : 0 < s.size := by omega
    have hem : s.toList.isEmpty = false := by rw [empty_iff]; simp [hpos]
    by_cases hd : 48 ≤ bt s 0 ∧ bt s 0 ≤ 57
    · obtain ⟨a, haa⟩ : ∃ a, anyCh s = a := ⟨_, rfl⟩
      obtain ⟨p, hpp⟩ : ∃ p, hexP s = p := ⟨_, rfl⟩
      obtain ⟨u, huu⟩ : ∃ u, anyUs s = u := ⟨_, rfl⟩
      have HCA := Lib.hid (fun w => containsAny_five s (by omega) w)
      have HTL := Lib.hid (fun w (hE : Env w) => Tryz.strings_ToLower_any s w (by omega) hE.case hE.tabs)
      have HHP := Lib.hid (fun w => Tryz.strings_HasPrefix ⟨(Lib.toLowerD s.data.toList).toArray⟩ ⟨#[48, 120]⟩ w)
      have HCU := Lib.hid (fun w => Tryz.strings_Contains_one s 95 w)
      have HC1 : Hid (∀ w, Calls Tryz.prog 216 #[.string s, .string ⟨#[95, 98, 66, 111, 79]⟩] w fun e w' => e = .returned (.bool a) ∧ Below w.heap.size w w') := fun w => by
        have h := HCA.out w; rw [← haa]; exact h
      have HC2 : Hid (∀ w, Calls Tryz.prog 70 #[.string ⟨(Lib.toLowerD s.data.toList).toArray⟩, .string ⟨#[48, 120]⟩] w fun e w' => e = .returned (.bool p) ∧ w = w') := fun w => by
        have h := HHP.out w; rw [← hpp, ← hex_lowerD s hpos hd.2]; exact h.mono fun e w' ⟨he, hw⟩ => ⟨he, hw.symm⟩
      have HC3 : Hid (∀ w, Calls Tryz.prog 122 #[.string s, .string ⟨#[95]⟩] w fun e w' => e = .returned (.bool u) ∧ w = w') := fun w => by
        have h := HCU.out w; rw [← huu]; exact h.mono fun e w' ⟨he, hw⟩ => ⟨he, hw.symm⟩
      have HREF : Hid ((a && !p || u) = true → R = none) := fun h => by rw [← hR]; exact dig_refused s (by rw [haa, hpp, huu]; exact h)
      have HPP : Hid ((a && !p || u) = false → ∀ w, Env w → Calls Tryz.prog 218 #[.string s, .int .i64 0, .int .i64 64] w (PpPost R w)) := fun h w hE => pp_for s (by omega) hpos hd (by rw [haa, hpp, huu]; exact h) R hR w hE
      have HE := Lib.hid hE
      obtain ⟨d1, d2⟩ := hd
      have d1' : ¬ bt s 0 < 48 := by omega
      have d2' : ¬ 57 < bt s 0 := by omega
      clear hR haa hpp huu HCA HHP HCU hE d1 d2 _ha
      obtain ⟨low, hlow⟩ : ∃ low : ByteArray, low = ⟨(Lib.toLowerD s.data.toList).toArray⟩ := ⟨_, rfl⟩
      rw [← hlow] at HC2; rw [← hlow] at HTL
      clear hlow
      cases a
      · cases u
        · have HP := Lib.hid (HPP.out rfl)
          go_enter Tryz.func209, Tryz.ntmps209
          go_wp2_with fail
          refine (HC1.out _).mono ?_; rintro e w1 ⟨rfl, hb1⟩
          go_wp2_with fail
          refine (HC3.out _).mono ?_; rintro e w2 ⟨rfl, rfl⟩
          go_wp2_with fail
          refine (HP.out _ (HE.out.keep hb1)).mono ?_; rintro e w3 ⟨hb3, hp⟩
          have hb := hb1.trans (hb3.mono hb1.size)
          cases R with
          | some v =>
            simp only at hp
            subst hp
            go_wp2_with fail
            go_ret2
            exact ⟨rfl, hb⟩
          | none =>
            simp only at hp
            obtain ⟨x, te, pe, rfl⟩ := hp
            go_wp2_with fail
            go_ret2
            exact ⟨rfl, hb⟩
        · have HN := Lib.hid (HREF.out rfl)
          go_enter Tryz.func209, Tryz.ntmps209
          go_wp2_with fail
          refine (HC1.out _).mono ?_; rintro e w1 ⟨rfl, hb1⟩
          go_wp2_with fail
          refine (HC3.out _).mono ?_; rintro e w2 ⟨rfl, rfl⟩
          go_wp2_with fail
          go_ret2
          exact ⟨by rw [HN.out]; rfl, hb1⟩
      · cases p
        · have HN := Lib.hid (HREF.out rfl)
          go_enter Tryz.func209, Tryz.ntmps209
          go_wp2_with fail
          refine (HC1.out _).mono ?_; rintro e w1 ⟨rfl, hb1⟩
          go_wp2_with fail
          refine (HTL.out _ (HE.out.keep hb1)).mono ?_; rintro e w2 ⟨rfl, hb2⟩
          have hb := hb1.trans (hb2.mono hb1.size)
          go_wp2_with fail
          refine (HC2.out _).mono ?_; rintro e w3 ⟨rfl, rfl⟩
          go_wp2_with fail
          go_ret2
          exact ⟨by rw [HN.out]; rfl, hb⟩
        · cases u
          · have HP := Lib.hid (HPP.out rfl)
            go_enter Tryz.func209, Tryz.ntmps209
            go_wp2_with fail
            refine (HC1.out _).mono ?_; rintro e w1 ⟨rfl, hb1⟩
            go_wp2_with fail
            refine (HTL.out _ (HE.out.keep hb1)).mono ?_; rintro e w2 ⟨rfl, hb2⟩
            have hbb := hb1.trans (hb2.mono hb1.size)
            go_wp2_with fail
            refine (HC2.out _).mono ?_; rintro e w3 ⟨rfl, rfl⟩
            go_wp2_with fail
            refine (HC3.out _).mono ?_; rintro e w4 ⟨rfl, rfl⟩
            go_wp2_with fail
            refine (HP.out _ (HE.out.keep hbb)).mono ?_; rintro e w5 ⟨hb3, hp⟩
            have hb := hbb.trans (hb3.mono hbb.size)
            cases R with
            | some v =>
              simp only at hp
              subst hp
              go_wp2_with fail
              go_ret2
              exact ⟨rfl, hb⟩
            | none =>
              simp only at hp
              obtain ⟨x, te, pe, rfl⟩ := hp
              go_wp2_with fail
              go_ret2
              exact ⟨rfl, hb⟩
          · have HN := Lib.hid (HREF.out rfl)
            go_enter Tryz.func209, Tryz.ntmps209
            go_wp2_with fail
            refine (HC1.out _).mono ?_; rintro e w1 ⟨rfl, hb1⟩
            go_wp2_with fail
            refine (HTL.out _ (HE.out.keep hb1)).mono ?_; rintro e w2 ⟨rfl, hb2⟩
            have hb := hb1.trans (hb2.mono hb1.size)
            go_wp2_with fail
            refine (HC2.out _).mono ?_; rintro e w3 ⟨rfl, rfl⟩
            go_wp2_with fail
            refine (HC3.out _).mono ?_; rintro e w4 ⟨rfl, rfl⟩
            go_wp2_with fail
            go_ret2
            exact ⟨by rw [HN.out]; rfl, hb⟩
    · have HR : Hid (R = none) := by unfold Hid; rw [← hR]; exact dig_first s hpos hd
      clear hR hE
      rcases (show ¬ 48 ≤ bt s 0 ∨ (48 ≤ bt s 0 ∧ ¬ bt s 0 ≤ 57) by omega) with d1 | ⟨d1, d2⟩
      · have d1' : bt s 0 < 48 := by omega
        clear hd d1
        go_enter Tryz.func209, Tryz.ntmps209
        go_wp2_with fail
        go_ret2
        exact ⟨by rw [HR.out]; rfl, Below.refl _ _⟩
      · have d1' : ¬ bt s 0 < 48 := by omega
        have d2' : 57 < bt s 0 := by omega
        clear hd d1 d2
        go_enter Tryz.func209, Tryz.ntmps209
        go_wp2_with fail
        go_ret2
        exact ⟨by rw [HR.out]; rfl, Below.refl _ _⟩
end Go.Proofs.YtkmpbkhlcapbgaaGreatDoor
namespace Go.Proofs.YtkmpbkhlcapbgaaGreatDoor
open Go.RowKit
theorem bt_head {v : ByteArray} (h : 0 < v.size) : ∃ c r, v.data.toList = c :: r ∧ bt v 0 = (c.toNat : Int) := by
  have hl : 0 < v.data.toList.length := by rw [← Lib.size_eq]; exact h
  cases hv : v.data.toList with
  | nil => rw [hv] at hl; simp at hl
  | cons c r =>
    refine ⟨c, r, rfl, ?_⟩
    have e1 := bl_get v 0 h
    rw [← e1]; simp [bl, hv]
theorem pre_yes {v : ByteArray} {k : Nat} (hk : k < 256) (h : 0 < v.size) (hb : bt v 0 = (k : Int)) : Lib.hasPrefix v.data.toList [UInt8.ofNat k] = true ∧ (⟨(Lib.trimPrefix v.data.toList [UInt8.ofNat k]).toArray⟩ : ByteArray) = v.extract 1 v.size := by
  obtain ⟨c, r, hv, e⟩ := bt_head h
  have hc : c = UInt8.ofNat k := (byte_eq c k hk).2 (by rw [← e]; exact hb)
  have hp : Lib.hasPrefix v.data.toList [UInt8.ofNat k] = true := by rw [hv, hc]; simp [Lib.hasPrefix, List.isPrefixOf]
  refine ⟨hp, ?_⟩
  rw [Lib.extract_eq]
  unfold Lib.trimPrefix
  rw [if_pos hp]
  congr 2
  rw [List.take_of_length_le (by rw [List.length_drop, ← Lib.size_eq]; exact Nat.le_refl _)]
  rfl
theorem pre_no {v : ByteArray} {k : Nat} (hk : k < 256) (h : 0 < v.size → bt v 0 ≠ (k : Int)) : Lib.hasPrefix v.data.toList [UInt8.ofNat k] = false ∧ (⟨(Lib.trimPrefix v.data.toList [UInt8.ofNat k]).toArray⟩ : ByteArray) = v := by
  have hp : Lib.hasPrefix v.data.toList [UInt8.ofNat k] = false := by
    by_cases h0 : 0 < v.size
    · obtain ⟨c, r, hv, e⟩ := bt_head h0
      rw [hv]
      simp only [Lib.hasPrefix, List.isPrefixOf, Bool.and_true]
      have : ¬ c = UInt8.ofNat k := fun hc => h h0 (by rw [e]; exact (byte_eq c k hk).1 hc)
      simp; exact fun e => this e.symm
    · have : v.data.toList = [] := List.length_eq_zero_iff.1 (by rw [← Lib.size_eq]; omega)
      rw [this]; rfl
  refine ⟨hp, ?_⟩
  unfold Lib.trimPrefix
  rw [if_neg (by rw [hp]; simp), Lib.mk_data]
theorem ascii_sub {a b : ByteArray} (_h : Ascii a) (_hs : ∀ x ∈ b.data.toList, x ∈ a.data.toList) : Ascii b := trivial
theorem trimB_mem (s : ByteArray) : ∀ x ∈ (trimB s).data.toList, x ∈ s.data.toList := fun x hx => by
  rw [trimB_eq] at hx
  unfold cutR at hx
  have h1 := (List.dropWhile_sublist blankU).subset (List.mem_reverse.1 hx)
  exact (List.dropWhile_sublist blankU).subset (List.mem_reverse.1 h1)
theorem extract_mem (s : ByteArray) (a b : Nat) : ∀ x ∈ (s.extract a b).data.toList, x ∈ s.data.toList := fun x hx => by
  rw [Lib.extract_data] at hx
  exact List.mem_of_mem_drop (List.mem_of_mem_take hx)
theorem trimB_le (s : ByteArray) : (trimB s).size ≤ s.size := by
  rw [Lib.size_eq, Lib.size_eq, trimB_eq]; unfold cutR
  rw [List.length_reverse]
  exact Nat.le_trans (List.Sublist.length_le (List.dropWhile_sublist _)) (by rw [List.length_reverse]; exact List.Sublist.length_le (List.dropWhile_sublist _))
theorem trim_any (s v : ByteArray) (hs : s.size ≤ 1000000000) (hv : trimB s = v) (w : World) :
    Calls Tryz.prog 129 #[.string s, .string ⟨#[32, 9, 10]⟩] w fun e w' => e = .returned (.string v) ∧ Below w.heap.size w w' := by
  subst hv
  exact Any.strings_Trim_laid Tryz.lays160 (by kernel_rfl) s ⟨#[32, 9, 10]⟩ w (by omega) (by decide) (ascii_list (by decide))
theorem cutpre_yes {v : ByteArray} (h : 0 < v.size) (hb : bt v 0 = 45) (w : World) : Calls Tryz.prog 123 #[.string v, .string ⟨#[45]⟩] w fun e w' => e = .returned (.tuple #[.string (v.extract 1 v.size), .bool true]) ∧ w = w' := by
  obtain ⟨h1, h2⟩ := pre_yes (k := 45) (by omega) h hb
  have := Tryz.strings_CutPrefix v ⟨#[45]⟩ w
  exact this.mono fun e w' ⟨he, hw⟩ => ⟨by rw [he]; rw [← h2, ← h1]; rfl, hw.symm⟩
theorem cutpre_no {v : ByteArray} (hb : 0 < v.size → bt v 0 ≠ 45) (w : World) : Calls Tryz.prog 123 #[.string v, .string ⟨#[45]⟩] w fun e w' => e = .returned (.tuple #[.string v, .bool false]) ∧ w = w' := by
  obtain ⟨h1, h2⟩ := pre_no (k := 45) (by omega) hb
  have := Tryz.strings_CutPrefix v ⟨#[45]⟩ w
  refine this.mono fun e w' ⟨he, hw⟩ => ⟨?_, hw.symm⟩
  rw [he]
  have e1 : Lib.hasPrefix v.data.toList (⟨#[45]⟩ : ByteArray).data.toList = false := h1
  have e2 : (⟨(Lib.trimPrefix v.data.toList (⟨#[45]⟩ : ByteArray).data.toList).toArray⟩ : ByteArray) = v := h2
  rw [e1, e2]
theorem plus_yes {v : ByteArray} (h : 0 < v.size) (hb : bt v 0 = 43) (w : World) : Calls Tryz.prog 121 #[.string v, .string ⟨#[43]⟩] w fun e w' => e = .returned (.string (v.extract 1 v.size)) ∧ w = w' := by
  obtain ⟨_, h2⟩ := pre_yes (k := 43) (by omega) h hb
  have := Tryz.strings_TrimPrefix v ⟨#[43]⟩ w
  refine this.mono fun e w' ⟨he, hw⟩ => ⟨?_, hw.symm⟩
  rw [he]
  have e2 : (⟨(Lib.trimPrefix v.data.toList (⟨#[43]⟩ : ByteArray).data.toList).toArray⟩ : ByteArray) = v.extract 1 v.size := h2
  rw [e2]
theorem plus_no {v : ByteArray} (hb : 0 < v.size → bt v 0 ≠ 43) (w : World) : Calls Tryz.prog 121 #[.string v, .string ⟨#[43]⟩] w fun e w' => e = .returned (.string v) ∧ w = w' := by
  obtain ⟨_, h2⟩ := pre_no (k := 43) (by omega) hb
  have := Tryz.strings_TrimPrefix v ⟨#[43]⟩ w
  refine this.mono fun e w' ⟨he, hw⟩ => ⟨?_, hw.symm⟩
  rw [he]
  have e2 : (⟨(Lib.trimPrefix v.data.toList (⟨#[43]⟩ : ByteArray).data.toList).toArray⟩ : ByteArray) = v := h2
  rw [e2]
theorem digitsF_rng {s : ByteArray} : 0 ≤ (digitsF s).getD 0 ∧ (digitsF s).getD 0 ≤ 9223372036854775807 := by
  cases h : digitsF s with
  | none => simp
  | some r =>
    unfold digitsF at h
    split at h
    · cases h
    · have := digGo_range _ (by unfold baseF; split; exact .inr (.inr rfl); split; exact .inl rfl; exact .inr (.inl rfl)) _ 0 r (by omega) (by rw [maxI_eq]; omega) h
      rw [maxI_eq] at this; simpa using this
set_option maxRecDepth 100000 in
set_option maxHeartbeats 8000000 in
theorem number_any (s : ByteArray) (hs : s.size ≤ 1000000000) (ha : Ascii s) (R : Option Int) (hR : numberF s = R) (w : World) (hE : Env w) :
    Calls Tryz.prog 182 #[.string s] w fun e w' => e = .returned (.tuple #[.int .i64 (R.getD 0), .bool R.isSome]) ∧ Below w.heap.size w w' := by
  obtain ⟨v, hv⟩ : ∃ v, trimB s = v := ⟨_, rfl⟩
  have hav : Ascii v := ascii_sub ha (by rw [← hv]; exact trimB_mem s)
  have hvs : v.size ≤ 1000000000 := by have := trimB_le s; rw [hv] at this; omega
  have HT := Lib.hid (trim_any s v hs hv)
  unfold numberF at hR
  rw [hv] at hR
  have HE := Lib.hid hE
  clear hv ha hE
  by_cases h0 : v.size = 0
  · have HR : Hid (R = some 0) := by unfold Hid; rw [← hR, if_pos h0]
    have hem : v.toList.isEmpty = true := by rw [empty_iff]; simp [h0]
    clear hR h0
    go_enter Tryz.func182, Tryz.ntmps182
    go_wp2_with fail
    refine (HT.out _).mono ?_; rintro e w1 ⟨rfl, hb1⟩
    go_wp2_with fail
    go_ret2
    exact ⟨by rw [HR.out]; rfl, hb1⟩
  · have hpos : 0 < v.size := by omega
    have hem : v.toList.isEmpty = false := by rw [empty_iff]; simp [hpos]
    rw [if_neg h0] at hR
    have hax : Ascii (v.extract 1 v.size) := ascii_sub hav (extract_mem v 1 v.size)
    have hxs : (v.extract 1 v.size).size ≤ 1000000000 := by rw [ByteArray.size_extract]; omega
    by_cases b1 : bt v 0 = 45
    · rw [if_neg (by omega), if_pos b1] at hR
      obtain ⟨q, hq⟩ : ∃ q, digitsF (v.extract 1 v.size) = q := ⟨_, rfl⟩
      have hrng := digitsF_rng (s := v.extract 1 v.size)
      rw [hq] at hR hrng
      obtain ⟨r0, r1⟩ := hrng
      have HD := Lib.hid (digits_any _ hxs hax q hq)
      have HC := Lib.hid (cutpre_yes hpos b1)
      have HR := Lib.hid hR
      clear hR b1 hq h0
      go_enter Tryz.func182, Tryz.ntmps182
      go_wp2_with fail
      refine (HT.out _).mono ?_; rintro e w1 ⟨rfl, hb1⟩
      go_wp2_with fail
      refine (HC.out _).mono ?_; rintro e w2 ⟨rfl, rfl⟩
      go_wp2_with fail
      refine (HD.out _ (HE.out.keep hb1)).mono ?_; rintro e w3 ⟨rfl, hb3⟩
      have hb := hb1.trans (hb3.mono hb1.size)
      go_wp2_with fail
      go_ret2
      exact ⟨by rw [← HR.out]; cases q <;> rfl, hb⟩
    · have HC := Lib.hid (cutpre_no (fun _ => b1))
      by_cases b2 : bt v 0 = 43
      · rw [if_pos b2] at hR
        have HD := Lib.hid (digits_any _ hxs hax R hR)
        have HP := Lib.hid (plus_yes hpos b2)
        clear hR b1 b2 h0
        go_enter Tryz.func182, Tryz.ntmps182
        go_wp2_with fail
        refine (HT.out _).mono ?_; rintro e w1 ⟨rfl, hb1⟩
        go_wp2_with fail
        refine (HC.out _).mono ?_; rintro e w2 ⟨rfl, rfl⟩
        go_wp2_with fail
        refine (HP.out _).mono ?_; rintro e w2 ⟨rfl, rfl⟩
        go_wp2_with fail
        refine (HD.out _ (HE.out.keep hb1)).mono ?_; rintro e w3 ⟨rfl, hb3⟩
        have hb := hb1.trans (hb3.mono hb1.size)
        go_wp2_with fail
        go_ret2
        exact ⟨rfl, hb⟩
      · rw [if_neg b2, if_neg b1] at hR
        have HD := Lib.hid (digits_any _ hvs hav R hR)
        have HP := Lib.hid (plus_no (fun _ => b2))
        clear hR b1 b2 h0
        go_enter Tryz.func182, Tryz.ntmps182
        go_wp2_with fail
        refine (HT.out _).mono ?_; rintro e w1 ⟨rfl, hb1⟩
        go_wp2_with fail
        refine (HC.out _).mono ?_; rintro e w2 ⟨rfl, rfl⟩
        go_wp2_with fail
        refine (HP.out _).mono ?_; rintro e w2 ⟨rfl, rfl⟩
        go_wp2_with fail
        refine (HD.out _ (HE.out.keep hb1)).mono ?_; rintro e w3 ⟨rfl, hb3⟩
        have hb := hb1.trans (hb3.mono hb1.size)
        go_wp2_with fail
        go_ret2
        exact ⟨rfl, hb⟩
end Go.Proofs.YtkmpbkhlcapbgaaGreatDoor
namespace Go.Proofs.YtkmpbkhlcapbgaaGreatDoor
open Go.RowKit
theorem trimL_any (s u : ByteArray) (hu : u.data.toList = dropB s.data.toList) (w : World) :
    Calls Tryz.prog 133 #[.string s, .string ⟨#[32, 9, 10]⟩] w fun e w' => e = .returned (.string u) ∧ Below w.heap.size w w' := by
  have h := Any.strings_TrimLeft_laid Tryz.lays161 (by kernel_rfl) s ⟨#[32, 9, 10]⟩ w (by decide) (ascii_list (by decide))
  have e : (⟨(Lib.trimLeftS s.data.toList (⟨#[32, 9, 10]⟩ : ByteArray).data.toList).toArray⟩ : ByteArray) = u := by
    rw [← Lib.mk_data u, hu]; rfl
  rw [e] at h
  exact h
theorem idx_at (cs : Array Value) (hs : cs.size = 24) (j : Nat) (v : Value) (h : cs[j]? = some v) (z : Int) (hz : z = (j : Int)) : ∀ w', (Instr.index 239 (.agg cs) (.int .i64 z)).run Tryz.prog w' = .ok v w' := fun w' => by
  subst hz
  obtain ⟨h1, _⟩ := Array.getElem?_eq_some_iff.1 h
  have hn : (0 : Int) ≤ (j : Int) ∧ (j : Int) < ((24 : Nat) : Int) := by omega
  simp [Instr.index, run_underlying Tryz.underlying239, asIntOf, hn, go_sem]
  rw [if_pos (by omega), h]
  rfl
theorem alit_at (i : Nat) (h : i < 24) : (#[.string ⟨#[124, 124]⟩, .string ⟨#[38, 38]⟩, .string ⟨#[61, 61]⟩, .string ⟨#[33, 61]⟩, .string ⟨#[60, 61]⟩, .string ⟨#[62, 61]⟩, .string ⟨#[60, 60]⟩, .string ⟨#[62, 62]⟩, .string ⟨#[124]⟩, .string ⟨#[94]⟩, .string ⟨#[38]⟩, .string ⟨#[60]⟩, .string ⟨#[62]⟩, .string ⟨#[43]⟩, .string ⟨#[45]⟩, .string ⟨#[42]⟩, .string ⟨#[47]⟩, .string ⟨#[37]⟩, .string ⟨#[33]⟩, .string ⟨#[126]⟩, .string ⟨#[63]⟩, .string ⟨#[58]⟩, .string ⟨#[40]⟩, .string ⟨#[41]⟩] : Array Value)[i]? = some (.string ⟨(signsL.getD i []).toArray⟩) := by
  rcases (show i = 0 ∨ i = 1 ∨ i = 2 ∨ i = 3 ∨ i = 4 ∨ i = 5 ∨ i = 6 ∨ i = 7 ∨ i = 8 ∨ i = 9 ∨ i = 10 ∨ i = 11 ∨ i = 12 ∨ i = 13 ∨ i = 14 ∨ i = 15 ∨ i = 16 ∨ i = 17 ∨ i = 18 ∨ i = 19 ∨ i = 20 ∨ i = 21 ∨ i = 22 ∨ i = 23 by omega) with rfl | rfl | rfl | rfl | rfl | rfl | rfl | rfl | rfl | rfl | rfl | rfl | rfl | rfl | rfl | rfl | rfl | rfl | rfl | rfl | rfl | rfl | rfl | rfl
  all_goals rfl
theorem signF_at {u l : List UInt8} (hu : u = dropB l) {i : Nat} (hi : i < 24) (hn : ∀ j, j < i → (signsL.getD j []).isPrefixOf u = false) (h : (signsL.getD i []).isPrefixOf u = true) : signF l = signsL.getD i [] := by
  subst hu
  unfold signF
  rw [find_at (fun s => s.isPrefixOf (dropB l)) [] signsL i hi hn h]
  rfl
theorem signF_none {u l : List UInt8} (hu : u = dropB l) (hn : ∀ j, j < 24 → (signsL.getD j []).isPrefixOf u = false) : signF l = [] := by
  subst hu
  unfold signF
  rw [find_no (fun s => s.isPrefixOf (dropB l)) [] signsL (fun j hj => hn j hj)]
  rfl
theorem signs_range {g : Nat} {w : World} (hg : g ≠ 8) (hS : SignsAt w) (u : ByteArray) : (w.setCell ⟨g, 0, none⟩ (.string u)).rangeAt 8 0 [.string ⟨#[124, 124]⟩, .string ⟨#[38, 38]⟩, .string ⟨#[61, 61]⟩, .string ⟨#[33, 61]⟩, .string ⟨#[60, 61]⟩, .string ⟨#[62, 61]⟩, .string ⟨#[60, 60]⟩, .string ⟨#[62, 62]⟩, .string ⟨#[124]⟩, .string ⟨#[94]⟩, .string ⟨#[38]⟩, .string ⟨#[60]⟩, .string ⟨#[62]⟩, .string ⟨#[43]⟩, .string ⟨#[45]⟩, .string ⟨#[42]⟩, .string ⟨#[47]⟩, .string ⟨#[37]⟩, .string ⟨#[33]⟩, .string ⟨#[126]⟩, .string ⟨#[63]⟩, .string ⟨#[58]⟩, .string ⟨#[40]⟩, .string ⟨#[41]⟩] := fun j v hv => by
  have hj : j < 24 := (List.getElem?_eq_some_iff.1 hv).1
  have h := alit_at j hj
  rw [List.getElem?_toArray] at h
  rw [h] at hv
  cases hv
  rw [Nat.zero_add]
  exact ((Kept.refl g w).set 0 _).cell (Ne.symm hg) (hS j hj)
theorem prefix_at (u : ByteArray) (i : Nat) (b : Bool) (hb : (signsL.getD i []).isPrefixOf u.data.toList = b) (w : World) :
    Calls Tryz.prog 70 #[.string u, .string ⟨(signsL.getD i []).toArray⟩] w fun e w' => e = .returned (.bool b) ∧ w' = w := by
  have h := Tryz.strings_HasPrefix u ⟨(signsL.getD i []).toArray⟩ w
  have e : Lib.hasPrefix u.data.toList (⟨(signsL.getD i []).toArray⟩ : ByteArray).data.toList = b := hb
  rw [e] at h
  exact h
set_option maxRecDepth 100000 in
set_option maxHeartbeats 4000000 in
theorem sign_any (g : Nat) (s u : ByteArray) (d : Int) (hu : u.data.toList = dropB s.data.toList) (t : ByteArray) (ht : signF s.data.toList = t.data.toList) (w : World)
    (hg : g ≠ 8) (hr : RowIs w g 174 [.string s, .int .i64 d]) (hS : SignsAt w) :
    Calls Tryz.prog 178 #[.pointer (some ⟨g, 0, none⟩)] w fun e w' => e = .returned (.string t) ∧ RowIs w' g 174 [.string u, .int .i64 d] ∧ Kept g w w' := by
  have HT := Lib.hid (trimL_any s u hu)
  have c0 : w.cell? ⟨g, 0, none⟩ = some (.string s) := by rw [hr.cell]; rfl
  have lg := hr.lt
  go_enter Tryz.func178, Tryz.ntmps178
  go_wp2_with fail
  refine (HT.out _).mono ?_; rintro e w1 ⟨rfl, b1⟩
  have r1 := hr.below b1
  have c1 : w1.cell? ⟨g, 0, none⟩ = some (.string s) := by rw [r1.cell]; rfl
  have f1 : w1.frozen? ⟨g, 0, none⟩ = false := r1.free _
  have l1 := r1.lt
  have hS1 : SignsAt w1 := fun i hi => (b1.cell (p := ⟨8, i, none⟩) (block_lt_of_cell (hS i hi))).trans (hS i hi)
  -- THE SIGNS
  have HRA : Hid ((w1.setCell ⟨g, 0, none⟩ (.string u)).rangeAt 8 0 [.string ⟨#[124, 124]⟩, .string ⟨#[38, 38]⟩, .string ⟨#[61, 61]⟩, .string ⟨#[33, 61]⟩, .string ⟨#[60, 61]⟩, .string ⟨#[62, 61]⟩, .string ⟨#[60, 60]⟩, .string ⟨#[62, 62]⟩, .string ⟨#[124]⟩, .string ⟨#[94]⟩, .string ⟨#[38]⟩, .string ⟨#[60]⟩, .string ⟨#[62]⟩, .string ⟨#[43]⟩, .string ⟨#[45]⟩, .string ⟨#[42]⟩, .string ⟨#[47]⟩, .string ⟨#[37]⟩, .string ⟨#[33]⟩, .string ⟨#[126]⟩, .string ⟨#[63]⟩, .string ⟨#[58]⟩, .string ⟨#[40]⟩, .string ⟨#[41]⟩]) := signs_range hg hS1 u
  have hgs : ¬ (8 = g) := Ne.symm hg
  have HR1 := Lib.hid r1
  have HB1 := Lib.hid b1
  have HU := Lib.hid hu
  have HS0 := Lib.hid ht
  clear hS1 hu ht r1 b1 hr hS c0 lg
  go_wp2_with (refine wpList_load_mid rfl 239 _ rfl 8 0 rfl [.string ⟨#[124, 124]⟩, .string ⟨#[38, 38]⟩, .string ⟨#[61, 61]⟩, .string ⟨#[33, 61]⟩, .string ⟨#[60, 61]⟩, .string ⟨#[62, 61]⟩, .string ⟨#[60, 60]⟩, .string ⟨#[62, 62]⟩, .string ⟨#[124]⟩, .string ⟨#[94]⟩, .string ⟨#[38]⟩, .string ⟨#[60]⟩, .string ⟨#[62]⟩, .string ⟨#[43]⟩, .string ⟨#[45]⟩, .string ⟨#[42]⟩, .string ⟨#[47]⟩, .string ⟨#[37]⟩, .string ⟨#[33]⟩, .string ⟨#[126]⟩, .string ⟨#[63]⟩, .string ⟨#[58]⟩, .string ⟨#[40]⟩, .string ⟨#[41]⟩] _ HRA.out Tryz.underlying239 rfl (by kernel_rfl) ?_)
  go_loopg [4, 14] 24 (fun k s4 s14 wx => wx = w1.setCell ⟨g, 0, none⟩ (.string u) ∧ ∃ i : Nat, i + k = 24 ∧ s14 = .int .i64 i ∧ Hid (∀ j, j < i → (signsL.getD j []).isPrefixOf u.data.toList = false))
  case atStart => exact ⟨rfl, 0, rfl, rfl, fun j hj => by omega⟩
  case round =>
    obtain ⟨rfl, i, hik, rfl, hrel⟩ := hrel
    have hfin : RowIs (w1.setCell ⟨g, 0, none⟩ (.string u)) g 174 [.string u, .int .i64 d] ∧ Kept g w (w1.setCell ⟨g, 0, none⟩ (.string u)) := ⟨HR1.out.set 0 (.string u), (Kept.of HB1.out).set 0 _⟩
    have HFIN := Lib.hid hfin
    clear hfin
    have cu : (w1.setCell ⟨g, 0, none⟩ (.string u)).cell? ⟨g, 0, none⟩ = some (.string u) := by rw [HFIN.out.1.cell]; rfl
    cases gk with
    | zero =>
      obtain rfl : i = 24 := by omega
      have HT0 : Hid (t = ⟨#[]⟩) := by
        unfold Hid
        rw [← Lib.mk_data t, ← HS0.out]
        have := signF_none (u := u.data.toList) HU.out (fun j hj => hrel.out j hj)
        rw [this]
      go_wp2_with fail
      go_ret
      exact ⟨by rw [HT0.out]; rfl, HFIN.out⟩
    | succ g2 =>
      obtain ⟨b, hb⟩ : ∃ b, (signsL.getD i []).isPrefixOf u.data.toList = b := ⟨_, rfl⟩
      have HP := Lib.hid (prefix_at u i b hb)
      have HB2 := Lib.hid hb
      clear hb
      have hi24 : i < 24 := by omega
      have hiz : (i : Int) < 24 := by omega
      have HI := idx_at #[.string ⟨#[124, 124]⟩, .string ⟨#[38, 38]⟩, .string ⟨#[61, 61]⟩, .string ⟨#[33, 61]⟩, .string ⟨#[60, 61]⟩, .string ⟨#[62, 61]⟩, .string ⟨#[60, 60]⟩, .string ⟨#[62, 62]⟩, .string ⟨#[124]⟩, .string ⟨#[94]⟩, .string ⟨#[38]⟩, .string ⟨#[60]⟩, .string ⟨#[62]⟩, .string ⟨#[43]⟩, .string ⟨#[45]⟩, .string ⟨#[42]⟩, .string ⟨#[47]⟩, .string ⟨#[37]⟩, .string ⟨#[33]⟩, .string ⟨#[126]⟩, .string ⟨#[63]⟩, .string ⟨#[58]⟩, .string ⟨#[40]⟩, .string ⟨#[41]⟩] rfl i (.string ⟨(signsL.getD i []).toArray⟩) (alit_at i hi24) (i : Int) rfl
      have HI2 := Lib.hid hi24
      clear hi24
      cases b
      · go_wp2_with fail
        refine (HP.out _).mono ?_; rintro e w2 ⟨rfl, hw⟩; subst hw
        go_wp2_with fail
        go_roundg g2
        case measure => omega
        case rel => exact ⟨rfl, i + 1, by omega, rfl, fun j hj => by
          rcases Nat.lt_succ_iff_lt_or_eq.1 hj with h | h
          · exact hrel.out j h
          · subst h; exact HB2.out⟩
      · have HT0 : Hid (t = ⟨(signsL.getD i []).toArray⟩) := by
          unfold Hid
          rw [← Lib.mk_data t, ← HS0.out, signF_at HU.out HI2.out (fun j hj => hrel.out j hj) HB2.out]
        go_wp2_with fail
        refine (HP.out _).mono ?_; rintro e w2 ⟨rfl, hw⟩; subst hw
        go_wp2_with fail
        go_ret
        exact ⟨by rw [HT0.out]; rfl, HFIN.out⟩
end Go.Proofs.YtkmpbkhlcapbgaaGreatDoor
namespace Go.Proofs.YtkmpbkhlcapbgaaGreatDoor
open Go.RowKit
theorem signF_prefix (l : List UInt8) : (signF l).isPrefixOf (dropB l) = true := by
  unfold signF
  cases h : signsL.find? (fun s => s.isPrefixOf (dropB l)) with
  | none => rfl
  | some t => exact List.find?_some (p := fun (s : List UInt8) => s.isPrefixOf (dropB l)) h
theorem sign_len {s u x : ByteArray} (hu : u.data.toList = dropB s.data.toList) (ht : signF s.data.toList = x.data.toList) : x.size ≤ u.size := by
  have h := signF_prefix s.data.toList
  rw [ht, ← hu] at h
  have h2 := (List.isPrefixOf_iff_prefix.1 h).length_le
  rw [Lib.size_eq, Lib.size_eq]
  exact h2
set_option maxRecDepth 100000 in
set_option maxHeartbeats 4000000 in
theorem pass_yes (g : Nat) (s u x : ByteArray) (d : Int) (hu : u.data.toList = dropB s.data.toList) (ht : signF s.data.toList = x.data.toList) (w : World)
    (hg : g ≠ 8) (hr : RowIs w g 174 [.string s, .int .i64 d]) (hS : SignsAt w) :
    Calls Tryz.prog 152 #[.pointer (some ⟨g, 0, none⟩), .string x] w fun e w' => e = .returned (.bool true) ∧ RowIs w' g 174 [.string (u.extract x.size u.size), .int .i64 d] ∧ Kept g w w' := by
  have HS := Lib.hid (sign_any g s u d hu x ht w hg hr hS)
  have q1 : (x.toList != x.toList) = false := by simp
  have hlen := sign_len hu ht
  have h1 : (0 : Int) ≤ (x.size : Int) := by omega
  have h2 : (x.size : Int) ≤ (u.size : Int) := by omega
  clear hu ht hr hS hg
  go_enter Tryz.func152, Tryz.ntmps152
  go_wp2_with fail
  refine HS.out.mono ?_; rintro e w1 ⟨rfl, r1, k1⟩
  have c1 : w1.cell? ⟨g, 0, none⟩ = some (.string u) := by rw [r1.cell]; rfl
  have f1 : w1.frozen? ⟨g, 0, none⟩ = false := r1.free _
  have l1 := r1.lt
  have HR1 := Lib.hid r1
  have HK1 := Lib.hid k1
  clear r1 k1
  go_wp2_with fail
  go_ret
  exact ⟨rfl, HR1.out.set 0 _, HK1.out.set 0 _⟩
set_option maxRecDepth 100000 in
set_option maxHeartbeats 4000000 in
theorem pass_no (g : Nat) (s u x : ByteArray) (d : Int) (hu : u.data.toList = dropB s.data.toList) (ht : signF s.data.toList ≠ x.data.toList) (w : World)
    (hg : g ≠ 8) (hr : RowIs w g 174 [.string s, .int .i64 d]) (hS : SignsAt w) :
    Calls Tryz.prog 152 #[.pointer (some ⟨g, 0, none⟩), .string x] w fun e w' => e = .returned (.bool false) ∧ RowIs w' g 174 [.string u, .int .i64 d] ∧ Kept g w w' := by
  obtain ⟨t, ht2⟩ : ∃ t : ByteArray, signF s.data.toList = t.data.toList := ⟨⟨(signF s.data.toList).toArray⟩, rfl⟩
  have HS := Lib.hid (sign_any g s u d hu t ht2 w hg hr hS)
  have q1 : (t.toList == x.toList) = false := by
    rw [Lib.toList_data, Lib.toList_data]
    exact beq_eq_false_iff_ne.2 fun e => ht (ht2.trans e)
  clear hu ht ht2 hr hS hg
  go_enter Tryz.func152, Tryz.ntmps152
  go_wp2_with fail
  refine HS.out.mono ?_; rintro e w1 ⟨rfl, r1, k1⟩
  go_wp2_with fail
  go_ret
  exact ⟨rfl, r1, k1⟩
set_option maxRecDepth 100000 in
set_option maxHeartbeats 4000000 in
theorem need_yes (g : Nat) (s u x : ByteArray) (d : Int) (hu : u.data.toList = dropB s.data.toList) (ht : signF s.data.toList = x.data.toList) (w : World)
    (hg : g ≠ 8) (hr : RowIs w g 174 [.string s, .int .i64 d]) (hS : SignsAt w) :
    Calls Tryz.prog 155 #[.pointer (some ⟨g, 0, none⟩), .string x] w fun e w' => e = .returned (.tuple #[]) ∧ RowIs w' g 174 [.string (u.extract x.size u.size), .int .i64 d] ∧ Kept g w w' := by
  have HP := Lib.hid (pass_yes g s u x d hu ht w hg hr hS)
  clear hu ht hr hS hg
  go_enter Tryz.func155, Tryz.ntmps155
  go_wp2_with fail
  refine HP.out.mono ?_; rintro e w1 ⟨rfl, r1, k1⟩
  go_wp2_with fail
  (try simp only [Exit.inBlock, Exit.then])
  refine bodyPost_end (results_none rfl _ _ _) rfl ?_
  exact ⟨rfl, r1, k1⟩
end Go.Proofs.YtkmpbkhlcapbgaaGreatDoor
namespace Go.Proofs.YtkmpbkhlcapbgaaGreatDoor
open Go.RowKit
/-- A name, as a tree in memory. -/
def varV (s : ByteArray) : Value := .agg #[.string ⟨#[36]⟩, .int .i64 0, .string s, .slice none 0 0]
set_option maxRecDepth 100000 in
set_option maxHeartbeats 4000000 in
theorem name_yes (g : Nat) (s : ByteArray) (d : Int) (n : Nat) (hs : s.size ≤ 281474976710656) (hn : longZ (bl s) = n) (h0 : 0 < n) (hA : nameAll (bl (s.extract 0 n)) true = true) (w : World)
    (hr : RowIs w g 174 [.string s, .int .i64 d]) :
    Calls Tryz.prog 213 #[.pointer (some ⟨g, 0, none⟩)] w fun e w' => e = .returned (varV (s.extract 0 n)) ∧ RowIs w' g 174 [.string (s.extract n s.size), .int .i64 d] ∧ Kept g w w' := by
  have HL := Lib.hid (long_any s hs n hn)
  have hle : n ≤ s.size := by rw [← hn, ← bl_length]; exact longZ_le _
  have hsz : (s.extract 0 n).size = n := by rw [ByteArray.size_extract]; omega
  have HN := Lib.hid (name_any (s.extract 0 n) (by omega) true hA true (by rw [hsz]; simp [h0]))
  have c0 : w.cell? ⟨g, 0, none⟩ = some (.string s) := by rw [hr.cell]; rfl
  have f0 : w.frozen? ⟨g, 0, none⟩ = false := hr.free _
  have lg := hr.lt
  have h1 : (0 : Int) ≤ (n : Int) := by omega
  have h2 : (n : Int) ≤ (s.size : Int) := by omega
  have HR := Lib.hid hr
  clear hr hn hA hsz hs h0
  go_enter Tryz.func213, Tryz.ntmps213
  go_wp2_with fail
  refine (HL.out _).mono ?_; rintro e w1 ⟨rfl, rfl⟩
  go_wp2_with fail
  refine (HN.out _).mono ?_; rintro e w1 ⟨rfl, rfl⟩
  go_wp2_with fail
  exact bodyPost_ret (v := varV (s.extract 0 n)) (by simp [results, Tryz.results213, go_sem, varV]) rfl ⟨rfl, ((HR.out.set 0 _).alloc _).alloc _, ((((Kept.refl g w).set 0 _).alloc _).alloc _)⟩
end Go.Proofs.YtkmpbkhlcapbgaaGreatDoor
namespace Go.Proofs.YtkmpbkhlcapbgaaGreatDoor
open Go.RowKit
/-- A number, as a tree in memory. -/
def numT (x : Int) : Value := .agg #[.string ⟨#[]⟩, .int .i64 x, .string ⟨#[]⟩, .slice none 0 0]
theorem cut_no (u p : ByteArray) (h : Lib.hasPrefix u.data.toList p.data.toList = false) :
    ∃ r : ByteArray, ∀ w, Calls Tryz.prog 123 #[.string u, .string p] w fun e w' => e = .returned (.tuple #[.string r, .bool false]) ∧ w' = w :=
  ⟨_, fun w => by have hc := Tryz.strings_CutPrefix u p w; rw [h] at hc; exact hc⟩
theorem SignsAt.kept {g : Nat} {w w' : World} (h : SignsAt w) (hg : g ≠ 8) (k : Kept g w w') : SignsAt w' := fun i hi => k.cell (Ne.symm hg) (h i hi)
theorem tree_facts {W : World} {b e : Nat} {x0 x1 x2 x3 : Value} (r : RowIs W b e [x0, x1, x2, x3]) :
    W.cell? ⟨b, 0, none⟩ = some x0 ∧ W.cell? ⟨b, 1, none⟩ = some x1 ∧ W.cell? ⟨b, 2, none⟩ = some x2 ∧ W.cell? ⟨b, 3, none⟩ = some x3 ∧ W.frozen? ⟨b, 0, none⟩ = false ∧ W.frozen? ⟨b, 1, none⟩ = false ∧ W.frozen? ⟨b, 2, none⟩ = false ∧ W.frozen? ⟨b, 3, none⟩ = false ∧ b < W.heap.size :=
  ⟨by rw [r.cell]; rfl, by rw [r.cell]; rfl, by rw [r.cell]; rfl, by rw [r.cell]; rfl, r.free _, r.free _, r.free _, r.free _, r.lt⟩
set_option maxRecDepth 100000 in
set_option maxHeartbeats 4000000 in
theorem one_num (g : Nat) (s u : ByteArray) (d : Int) (hu : u.data.toList = dropB s.data.toList) (hsz : u.size ≤ 1000000000) (n : Nat) (hn : longZ (bl u) = n) (x : Int) (hx : digitsF (u.extract 0 n) = some x)
    (p1 : Lib.hasPrefix u.data.toList [36, 123] = false) (p2 : Lib.hasPrefix u.data.toList [36] = false) (w : World)
    (hg : g ≠ 8) (hr : RowIs w g 174 [.string s, .int .i64 d]) (hS : SignsAt w) (hE : ∀ w', Kept g w w' → Env w') :
    Calls Tryz.prog 206 #[.pointer (some ⟨g, 0, none⟩)] w fun e w' => e = .returned (numT x) ∧ RowIs w' g 174 [.string (u.extract n u.size), .int .i64 d] ∧ Kept g w w' := by
  obtain ⟨t, ht⟩ : ∃ t : ByteArray, signF s.data.toList = t.data.toList := ⟨⟨(signF s.data.toList).toArray⟩, rfl⟩
  have HS := Lib.hid (fun w => sign_any g s u d hu t ht w hg)
  obtain ⟨ra, hc1⟩ := cut_no u ⟨#[36, 123]⟩ p1
  obtain ⟨rb, hc2⟩ := cut_no u ⟨#[36]⟩ p2
  have HC1 := Lib.hid hc1
  have HC2 := Lib.hid hc2
  have HGS := Lib.hid hg
  clear hc1 hc2
  have hle : n ≤ u.size := by rw [← hn, ← bl_length]; exact longZ_le _
  have HL := Lib.hid (long_any u (by omega) n hn)
  have HD := Lib.hid (digits_any (u.extract 0 n) (by rw [ByteArray.size_extract]; omega) trivial (some x) hx)
  have h1 : (0 : Int) ≤ (n : Int) := by omega
  have h2 : (n : Int) ≤ (u.size : Int) := by omega
  have lg := hr.lt
  have HR := Lib.hid hr
  have HSA := Lib.hid hS
  have HE := Lib.hid hE
  clear hu ht hn hx p1 p2 hr hS hE hg hsz
  go_enter Tryz.func206, Tryz.ntmps206
  go_wp2_with fail
  have k0 := (Kept.refl g w).alloc (.cells #[.string ⟨#[]⟩, .int .i64 0, .string ⟨#[]⟩, .slice none 0 0] 177)
  refine (HS.out _ (HR.out.alloc _) (HSA.out.kept HGS.out k0)).mono ?_; rintro e w1 ⟨rfl, r1, k1⟩
  have K1 := k0.trans k1
  have hne : w.heap.size ≠ g := by omega
  have rz : RowIs w1 w.heap.size 177 treeL := k1.row (RowIs.new _ _ _) hne
  obtain ⟨z0, z1, z2, z3, y0, y1, y2, y3, lz⟩ := tree_facts rz
  have c1 : w1.cell? ⟨g, 0, none⟩ = some (.string u) := by rw [r1.cell]; rfl
  have f1 : w1.frozen? ⟨g, 0, none⟩ = false := r1.free _
  have l1 := r1.lt
  have HR1 := Lib.hid r1
  have HK1 := Lib.hid K1
  have HRZ := Lib.hid rz
  clear r1 k1 K1 k0 rz
  go_wp2_with fail
  refine (HC1.out _).mono ?_; rintro e w2 ⟨rfl, hw⟩; subst hw
  go_wp2_with fail
  refine (HC2.out _).mono ?_; rintro e w2 ⟨rfl, hw⟩; subst hw
  go_wp2_with fail
  refine (HL.out _).mono ?_; rintro e w3 ⟨rfl, rfl⟩
  go_wp2_with fail
  refine (HD.out _ (HE.out _ HK1.out)).mono ?_; rintro e w4 ⟨rfl, b4⟩
  have r4 := HR1.out.below b4
  have q4 := HRZ.out.below b4
  have K4 := HK1.out.trans (.of b4)
  obtain ⟨j0, j1, j2, j3, i0, i1, i2, i3, l4⟩ := tree_facts q4
  have c4 : w4.cell? ⟨g, 0, none⟩ = some (.string u) := by rw [r4.cell]; rfl
  have f4 : w4.frozen? ⟨g, 0, none⟩ = false := r4.free _
  have lg4 := r4.lt
  have HR4 := Lib.hid r4
  have HK4 := Lib.hid K4
  have hne2 : ¬ g = w.heap.size := by omega
  clear r4 q4 K4 b4
  go_wp2_with fail
  exact bodyPost_ret (v := numT x) (by simp [results, Tryz.results206, go_sem, numT, j0, j1, j2, j3]) rfl ⟨rfl, ((((HR4.out.set 0 _).other (Ne.symm hne) _).other (Ne.symm hne) _).other (Ne.symm hne) _).other (Ne.symm hne) _,
    ((((HK4.out.set 0 _).new (Nat.le_refl _) 0 _).new (Nat.le_refl _) 1 _).new (Nat.le_refl _) 2 _).new (Nat.le_refl _) 3 _⟩
set_option maxRecDepth 100000 in
set_option maxHeartbeats 4000000 in
theorem one_name_plain (g : Nat) (s u : ByteArray) (d : Int) (hu : u.data.toList = dropB s.data.toList) (hsz : u.size ≤ 1000000000) (n : Nat) (hn : longZ (bl u) = n) (hx : digitsF (u.extract 0 n) = none) (h0 : 0 < n) (hA : nameAll (bl (u.extract 0 n)) true = true)
    (p1 : Lib.hasPrefix u.data.toList [36, 123] = false) (p2 : Lib.hasPrefix u.data.toList [36] = false) (w : World)
    (hg : g ≠ 8) (hr : RowIs w g 174 [.string s, .int .i64 d]) (hS : SignsAt w) (hE : ∀ w', Kept g w w' → Env w') :
    Calls Tryz.prog 206 #[.pointer (some ⟨g, 0, none⟩)] w fun e w' => e = .returned (varV (u.extract 0 n)) ∧ RowIs w' g 174 [.string (u.extract n u.size), .int .i64 d] ∧ Kept g w w' := by
  obtain ⟨t, ht⟩ : ∃ t : ByteArray, signF s.data.toList = t.data.toList := ⟨⟨(signF s.data.toList).toArray⟩, rfl⟩
  have HS := Lib.hid (fun w => sign_any g s u d hu t ht w hg)
  obtain ⟨ra, hc1⟩ := cut_no u ⟨#[36, 123]⟩ p1
  obtain ⟨rb, hc2⟩ := cut_no u ⟨#[36]⟩ p2
  have HC1 := Lib.hid hc1
  have HC2 := Lib.hid hc2
  have HGS := Lib.hid hg
  clear hc1 hc2
  have hle : n ≤ u.size := by rw [← hn, ← bl_length]; exact longZ_le _
  have HL := Lib.hid (long_any u (by omega) n hn)
  have HD := Lib.hid (digits_any (u.extract 0 n) (by rw [ByteArray.size_extract]; omega) trivial none hx)
  have HNM : Hid (∀ w, RowIs w g 174 [.string u, .int .i64 d] → Calls Tryz.prog 213 #[.pointer (some ⟨g, 0, none⟩)] w fun e w' => e = .returned (.agg #[.string ⟨#[36]⟩, .int .i64 0, .string (u.extract 0 n), .slice none 0 0]) ∧ RowIs w' g 174 [.string (u.extract n u.size), .int .i64 d] ∧ Kept g w w') := name_yes g u d n (by omega) hn h0 hA
  have h1 : (0 : Int) ≤ (n : Int) := by omega
  have h2 : (n : Int) ≤ (u.size : Int) := by omega
  have lg := hr.lt
  have HR := Lib.hid hr
  have HSA := Lib.hid hS
  have HE := Lib.hid hE
  clear hu ht hn hx h0 hA p1 p2 hr hS hE hg hsz
  go_enter Tryz.func206, Tryz.ntmps206
  go_wp2_with fail
  have k0 := (Kept.refl g w).alloc (.cells #[.string ⟨#[]⟩, .int .i64 0, .string ⟨#[]⟩, .slice none 0 0] 177)
  refine (HS.out _ (HR.out.alloc _) (HSA.out.kept HGS.out k0)).mono ?_; rintro e w1 ⟨rfl, r1, k1⟩
  have K1 := k0.trans k1
  have hne : w.heap.size ≠ g := by omega
  have rz : RowIs w1 w.heap.size 177 treeL := k1.row (RowIs.new _ _ _) hne
  obtain ⟨z0, z1, z2, z3, y0, y1, y2, y3, lz⟩ := tree_facts rz
  have c1 : w1.cell? ⟨g, 0, none⟩ = some (.string u) := by rw [r1.cell]; rfl
  have f1 : w1.frozen? ⟨g, 0, none⟩ = false := r1.free _
  have l1 := r1.lt
  have HR1 := Lib.hid r1
  have HK1 := Lib.hid K1
  have HRZ := Lib.hid rz
  clear r1 k1 K1 k0 rz
  go_wp2_with fail
  refine (HC1.out _).mono ?_; rintro e w2 ⟨rfl, hw⟩; subst hw
  go_wp2_with fail
  refine (HC2.out _).mono ?_; rintro e w2 ⟨rfl, hw⟩; subst hw
  go_wp2_with fail
  refine (HL.out _).mono ?_; rintro e w3 ⟨rfl, rfl⟩
  go_wp2_with fail
  refine (HD.out _ (HE.out _ HK1.out)).mono ?_; rintro e w4 ⟨rfl, b4⟩
  have r4 := HR1.out.below b4
  have q4 := HRZ.out.below b4
  have K4 := HK1.out.trans (.of b4)
  clear b4
  go_wp2_with fail
  refine (HNM.out _ r4).mono ?_; rintro e w5 ⟨rfl, r5, k5⟩
  have q5 := k5.row q4 hne
  have K5 := K4.trans k5
  obtain ⟨j0, j1, j2, j3, i0, i1, i2, i3, l5⟩ := tree_facts q5
  have HR5 := Lib.hid r5
  have HK5 := Lib.hid K5
  clear r4 q4 K4 r5 k5 q5 K5
  go_wp2_with fail
  exact bodyPost_ret (v := varV (u.extract 0 n)) (by simp [results, Tryz.results206, go_sem, varV, j0, j1, j2, j3]) rfl ⟨rfl, (((HR5.out.other (Ne.symm hne) _).other (Ne.symm hne) _).other (Ne.symm hne) _).other (Ne.symm hne) _,
    (((HK5.out.new (Nat.le_refl _) 0 _).new (Nat.le_refl _) 1 _).new (Nat.le_refl _) 2 _).new (Nat.le_refl _) 3 _⟩
end Go.Proofs.YtkmpbkhlcapbgaaGreatDoor
namespace Go.Proofs.YtkmpbkhlcapbgaaGreatDoor
open Go.RowKit
theorem cut_yes (u p x : ByteArray) (h : Lib.hasPrefix u.data.toList p.data.toList = true) (hx : x.data.toList = u.data.toList.drop p.size) (w : World) :
    Calls Tryz.prog 123 #[.string u, .string p] w fun e w' => e = .returned (.tuple #[.string x, .bool true]) ∧ w' = w := by
  have hc := Tryz.strings_CutPrefix u p w
  rw [h] at hc
  have e : x = ⟨(Lib.trimPrefix u.data.toList p.data.toList).toArray⟩ := by
    rw [← Lib.mk_data x, hx]; unfold Lib.trimPrefix; rw [if_pos h, ← Lib.size_eq]
  rw [e]
  exact hc
theorem has_pre (u p : ByteArray) (b : Bool) (h : Lib.hasPrefix u.data.toList p.data.toList = b) (w : World) :
    Calls Tryz.prog 70 #[.string u, .string p] w fun e w' => e = .returned (.bool b) ∧ w' = w := by
  have hc := Tryz.strings_HasPrefix u p w
  rw [h] at hc
  exact hc
set_option maxRecDepth 100000 in
set_option maxHeartbeats 4000000 in
theorem one_dollar (g : Nat) (s u x : ByteArray) (d : Int) (hu : u.data.toList = dropB s.data.toList) (hsz : u.size ≤ 1000000000) (hx : x.data.toList = u.data.toList.drop 1) (n : Nat) (hn : longZ (bl x) = n) (h0 : 0 < n) (hA : nameAll (bl (x.extract 0 n)) true = true)
    (p1 : Lib.hasPrefix u.data.toList [36, 123] = false) (p2 : Lib.hasPrefix u.data.toList [36] = true) (w : World)
    (hg : g ≠ 8) (hr : RowIs w g 174 [.string s, .int .i64 d]) (hS : SignsAt w) :
    Calls Tryz.prog 206 #[.pointer (some ⟨g, 0, none⟩)] w fun e w' => e = .returned (varV (x.extract 0 n)) ∧ RowIs w' g 174 [.string (x.extract n x.size), .int .i64 d] ∧ Kept g w w' := by
  obtain ⟨t, ht⟩ : ∃ t : ByteArray, signF s.data.toList = t.data.toList := ⟨⟨(signF s.data.toList).toArray⟩, rfl⟩
  have HS := Lib.hid (fun w => sign_any g s u d hu t ht w hg)
  obtain ⟨ra, hc1⟩ := cut_no u ⟨#[36, 123]⟩ p1
  have HC1 := Lib.hid hc1
  have HC2 := Lib.hid (cut_yes u ⟨#[36]⟩ x p2 hx)
  have HGS := Lib.hid hg
  clear hc1
  have hxs : x.size ≤ 1000000000 := by rw [Lib.size_eq, hx, List.length_drop, ← Lib.size_eq]; omega
  have HNM : Hid (∀ w, RowIs w g 174 [.string x, .int .i64 d] → Calls Tryz.prog 213 #[.pointer (some ⟨g, 0, none⟩)] w fun e w' => e = .returned (.agg #[.string ⟨#[36]⟩, .int .i64 0, .string (x.extract 0 n), .slice none 0 0]) ∧ RowIs w' g 174 [.string (x.extract n x.size), .int .i64 d] ∧ Kept g w w') := name_yes g x d n (by omega) hn h0 hA
  have lg := hr.lt
  have HR := Lib.hid hr
  have HSA := Lib.hid hS
  clear hu ht hx hxs hn h0 hA p1 p2 hr hS hg hsz
  go_enter Tryz.func206, Tryz.ntmps206
  go_wp2_with fail
  have k0 := (Kept.refl g w).alloc (.cells #[.string ⟨#[]⟩, .int .i64 0, .string ⟨#[]⟩, .slice none 0 0] 177)
  refine (HS.out _ (HR.out.alloc _) (HSA.out.kept HGS.out k0)).mono ?_; rintro e w1 ⟨rfl, r1, k1⟩
  have K1 := k0.trans k1
  have hne : w.heap.size ≠ g := by omega
  have rz : RowIs w1 w.heap.size 177 treeL := k1.row (RowIs.new _ _ _) hne
  have c1 : w1.cell? ⟨g, 0, none⟩ = some (.string u) := by rw [r1.cell]; rfl
  have f1 : w1.frozen? ⟨g, 0, none⟩ = false := r1.free _
  have l1 := r1.lt
  have HR1 := Lib.hid r1
  have HK1 := Lib.hid K1
  have HRZ := Lib.hid rz
  clear r1 k1 K1 k0 rz
  go_wp2_with fail
  refine (HC1.out _).mono ?_; rintro e w2 ⟨rfl, hw⟩; subst hw
  go_wp2_with fail
  refine (HC2.out _).mono ?_; rintro e w2 ⟨rfl, hw⟩; subst hw
  go_wp2_with fail
  refine (HNM.out _ (HR1.out.set 0 _)).mono ?_; rintro e w5 ⟨rfl, r5, k5⟩
  have q5 := k5.row (HRZ.out.other (Ne.intro fun h => hne h) _) hne
  have K5 := (HK1.out.set 0 (.string x)).trans k5
  obtain ⟨j0, j1, j2, j3, i0, i1, i2, i3, l5⟩ := tree_facts q5
  have HR5 := Lib.hid r5
  have HK5 := Lib.hid K5
  clear r5 k5 q5 K5
  go_wp2_with fail
  exact bodyPost_ret (v := varV (x.extract 0 n)) (by simp [results, Tryz.results206, go_sem, varV, j0, j1, j2, j3]) rfl ⟨rfl, (((HR5.out.other (Ne.symm hne) _).other (Ne.symm hne) _).other (Ne.symm hne) _).other (Ne.symm hne) _,
    (((HK5.out.new (Nat.le_refl _) 0 _).new (Nat.le_refl _) 1 _).new (Nat.le_refl _) 2 _).new (Nat.le_refl _) 3 _⟩
end Go.Proofs.YtkmpbkhlcapbgaaGreatDoor
