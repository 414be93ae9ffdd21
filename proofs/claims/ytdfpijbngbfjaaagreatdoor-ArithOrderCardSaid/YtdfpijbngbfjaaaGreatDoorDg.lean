/-
  DERIVED. The walks of arith's digits and Number, of a text of whatever bytes.
-/
import Derived.Test.YtdfpijbngbfjaaaGreatDoorPi
import Derived.Test.YtdfpijbngbfjaaaGreatDoorDp
import Derived.Shelf.Strings.SlTrimAscii
import Derived.Test.YtdfpijbngbfjaaaGreatDoorIx
import Derived.Test.YtdfpijbngbfjaaaGreatDoorIy
namespace Go.Proofs.YtdfpijbngbfjaaaGreatDoor
open Go.RowKit
theorem capGo_le (cap base : Int) (hb : 1 ≤ base) : ∀ (l : List Int) (n v : Int), 0 ≤ n → n ≤ cap → capGo cap base l n = some v → 0 ≤ v ∧ v ≤ cap := by
  intro l
  induction l with
  | nil => intro n v h0 h1 h; cases h; exact ⟨h0, h1⟩
  | cons c l ih =>
    intro n v h0 h1 h
    simp only [capGo] at h
    split at h
    · cases h
    · rename_i hn
      have hd := digitV_range c
      have h2 : n ≤ n * base := by
        have := Int.mul_le_mul_of_nonneg_left hb h0
        rw [Int.mul_one] at this; exact this
      exact ih _ v (by omega) (by omega) h
/-- What ParseUint gathers of a text that digits hands on. -/
theorem pu_for (s : ByteArray) (hs : s.size ≤ 9223372036854775800) (h0 : 0 < s.size) (_hd : 48 ≤ bt s 0 ∧ bt s 0 ≤ 57) (hc : (anyCh s && !hexP s || anyUs s) = false) :
    ∃ R : Option Int, (∀ w, Calls Tryz.prog 86 #[.string s, .int .i64 0, .int .i64 64] w (PuPost R w)) ∧ (R.bind fun v => if v ≤ maxI then some v else none) = digitsF s ∧ ∀ v, R = some v → 0 ≤ v ∧ v ≤ maxU := by
  rw [Bool.or_eq_false_iff] at hc
  obtain ⟨hc1, hc2⟩ := hc
  have hus : ∀ k, k < s.size → bt s k ≠ 95 := fun k hk e => by
    have := (anyUs_iff s).2 ⟨k, hk, e⟩; rw [hc2] at this; cases this
  have hm : (0 : Int) ≤ maxI := by rw [maxI_eq]; omega
  have hmu : (0 : Int) ≤ maxU := by rw [maxU_eq]; omega
  by_cases b0 : bt s 0 = 48
  · by_cases h1 : 2 < s.size
    · by_cases bx : bt s 1 = 120 ∨ bt s 1 = 88
      · have hbf : baseF s = (16, 2) := by unfold baseF; rw [if_pos ⟨h1, b0, bx⟩]
        refine ⟨capGo maxU 16 ((bl s).drop 2) 0, fun w => ?_, ?_, fun v hv => capGo_le _ _ (by omega) _ _ _ (by omega) hmu hv⟩
        · rcases bx with b1 | b1
          · exact pu_X s hs h1 b0 b1 hus _ rfl w
          · exact pu_Y s hs h1 b0 b1 hus _ rfl w
        · unfold digitsF; rw [if_neg (by omega), hbf]; exact (digGo_cap 16 (by omega) _ 0 (by omega) hm).symm
      · have hbf : baseF s = (8, 1) := by unfold baseF; rw [if_neg (fun e => bx e.2.2), if_pos ⟨by omega, b0⟩]
        have hx : hexP s = false := by
          cases e : hexP s with
          | false => rfl
          | true => exact absurd ((hexP_iff s).1 e).2.2 bx
        have ha : anyCh s = false := by rw [hx] at hc1; simpa using hc1
        have hn : ∀ c : Int, (c = 95 ∨ c = 98 ∨ c = 66 ∨ c = 111 ∨ c = 79) → bt s 1 ≠ c := fun c hcc e => by
          have := (anyCh_iff s).2 ⟨1, by omega, by rw [e]; exact hcc⟩
          rw [ha] at this; cases this
        refine ⟨capGo maxU 8 ((bl s).drop 1) 0, fun w => pu_O s hs h1 b0 ⟨fun e => bx (.inl e), fun e => bx (.inr e)⟩ ⟨hn 98 (by omega), hn 66 (by omega), hn 111 (by omega), hn 79 (by omega)⟩ hus _ rfl w, ?_, fun v hv => capGo_le _ _ (by omega) _ _ _ (by omega) hmu hv⟩
        unfold digitsF; rw [if_neg (by omega), hbf]; exact (digGo_cap 8 (by omega) _ 0 (by omega) hm).symm
    · refine ⟨capGo maxU 8 ((bl s).drop 1) 0, fun w => pu_P s hs h1 h0 b0 hus _ rfl w, ?_, fun v hv => capGo_le _ _ (by omega) _ _ _ (by omega) hmu hv⟩
      by_cases h2 : 1 < s.size
      · have hbf : baseF s = (8, 1) := by unfold baseF; rw [if_neg (fun e => h1 e.1), if_pos ⟨h2, b0⟩]
        unfold digitsF; rw [if_neg (by omega), hbf]; exact (digGo_cap 8 (by omega) _ 0 (by omega) hm).symm
      · have hbf : baseF s = (10, 0) := by unfold baseF; rw [if_neg (fun e => h1 e.1), if_neg (fun e => h2 e.1)]
        have e1 : (bl s).drop 1 = [] := List.drop_of_length_le (by rw [bl_length]; omega)
        unfold digitsF; rw [if_neg (by omega), hbf]
        simp only
        rw [bl_drop s 0 h0]
        simp only [Nat.zero_add, e1, b0]
        decide +kernel
  · have hbf : baseF s = (10, 0) := by unfold baseF; rw [if_neg (fun e => b0 e.2.1), if_neg (fun e => b0 e.2)]
    refine ⟨capGo maxU 10 ((bl s).drop 0) 0, fun w => pu_D s hs h0 b0 hus _ rfl w, ?_, fun v hv => capGo_le _ _ (by omega) _ _ _ (by omega) hmu hv⟩
    unfold digitsF; rw [if_neg (by omega), hbf]; exact (digGo_cap 10 (by omega) _ 0 (by omega) hm).symm
theorem pp_for (s : ByteArray) (hs : s.size ≤ 281474976710656) (h0 : 0 < s.size) (hd : 48 ≤ bt s 0 ∧ bt s 0 ≤ 57) (hc : (anyCh s && !hexP s || anyUs s) = false) (R : Option Int) (hR : digitsF s = R) (w : World) (hE : Env w) :
    Calls Tryz.prog 39 #[.string s, .int .i64 0, .int .i64 64] w (PpPost R w) := by
  obtain ⟨Q, h1, h2, h3⟩ := pu_for s (by omega) h0 hd hc
  exact ppint_any s hs Q R (by rw [h2, hR]) w hE fun w => pint_any s h0 (by omega) (by omega) Q h3 w h1
theorem ascii_list {l : List UInt8} (h : l.all (fun b => decide (b.toNat < 128)) = true) : ∀ (j : Nat) (b : UInt8), l[j]? = some b → b.toNat < 128 := fun j b hb => by
  have := List.all_eq_true.1 h b (List.mem_of_getElem? hb); simpa using this
/-- Nothing is asked of the bytes (the name is from when they had to be below 128). -/
def Ascii (_ : ByteArray) : Prop := True
set_option maxRecDepth 100000 in
set_option maxHeartbeats 8000000 in
theorem digits_any (s : ByteArray) (hs : s.size ≤ 1000000000) (_ha : Ascii s) (R : Option Int) (hR : digitsF s = R) (w : World) (hE : Env w) :
    Calls Tryz.prog 17 #[.string s] w fun e w' => e = .returned (.tuple #[.int .i64 (R.getD 0), .bool R.isSome]) ∧ Below w.heap.size w w' := by
  have hgs := get_bt s
  by_cases h0 : s.size = 0
  · have HR : Hid (R = none) := by unfold Hid; rw [← hR]; unfold digitsF; rw [if_pos h0]
    have hem : s.toList.isEmpty = true := by rw [empty_iff]; simp [h0]
    clear hR hE
    go_enter Tryz.func17, Tryz.ntmps17
    go_wp2_with fail
    go_ret2
    exact ⟨by rw [HR.out]; rfl, Below.refl _ _⟩
  · have hpos : 0 < s.size := by omega
    have hem : s.toList.isEmpty = false := by rw [empty_iff]; simp [hpos]
    by_cases hd : 48 ≤ bt s 0 ∧ bt s 0 ≤ 57
    · obtain ⟨a, haa⟩ : ∃ a, anyCh s = a := ⟨_, rfl⟩
      obtain ⟨p, hpp⟩ : ∃ p, hexP s = p := ⟨_, rfl⟩
      obtain ⟨u, huu⟩ : ∃ u, anyUs s = u := ⟨_, rfl⟩
      have HCA := Lib.hid (fun w => containsAny_five s (by omega) w)
      have HTL := Lib.hid (fun w (hE : Env w) => Tryz.strings_ToLower_any s w (by omega) hE.case hE.tabs)
      have HHP := Lib.hid (fun w => Tryz.strings_HasPrefix ⟨(Lib.toLowerD s.data.toList).toArray⟩ ⟨#[48, 120]⟩ w)
      have HCU := Lib.hid (fun w => Tryz.strings_Contains_one s 95 w)
      have HC1 : Hid (∀ w, Calls Tryz.prog 35 #[.string s, .string ⟨#[95, 98, 66, 111, 79]⟩] w fun e w' => e = .returned (.bool a) ∧ Below w.heap.size w w') := fun w => by
        have h := HCA.out w; rw [← haa]; exact h
      have HC2 : Hid (∀ w, Calls Tryz.prog 36 #[.string ⟨(Lib.toLowerD s.data.toList).toArray⟩, .string ⟨#[48, 120]⟩] w fun e w' => e = .returned (.bool p) ∧ w = w') := fun w => by
        have h := HHP.out w; rw [← hpp, ← hex_lowerD s hpos hd.2]; exact h.mono fun e w' ⟨he, hw⟩ => ⟨he, hw.symm⟩
      have HC3 : Hid (∀ w, Calls Tryz.prog 38 #[.string s, .string ⟨#[95]⟩] w fun e w' => e = .returned (.bool u) ∧ w = w') := fun w => by
        have h := HCU.out w; rw [← huu]; exact h.mono fun e w' ⟨he, hw⟩ => ⟨he, hw.symm⟩
      have HREF : Hid ((a && !p || u) = true → R = none) := fun h => by rw [← hR]; exact dig_refused s (by rw [haa, hpp, huu]; exact h)
      have HPP : Hid ((a && !p || u) = false → ∀ w, Env w → Calls Tryz.prog 39 #[.string s, .int .i64 0, .int .i64 64] w (PpPost R w)) := fun h w hE => pp_for s (by omega) hpos hd (by rw [haa, hpp, huu]; exact h) R hR w hE
      have HE := Lib.hid hE
      obtain ⟨d1, d2⟩ := hd
      have d1' : ¬ bt s 0 < 48 := by omega
      have d2' : ¬ 57 < bt s 0 := by omega
      clear hR haa hpp huu HCA HHP HCU hE d1 d2 _ha
      obtain ⟨low, hlow⟩ : ∃ low : ByteArray, low = ⟨(Lib.toLowerD s.data.toList).toArray⟩ := ⟨_, rfl⟩
      rw [← hlow] at HC2; rw [← hlow] at HTL
      clear hlow
      cases a
      · cases u
        · have HP := Lib.hid (HPP.out rfl)
          go_enter Tryz.func17, Tryz.ntmps17
          go_wp2_with fail
          refine (HC1.out _).mono ?_; rintro e w1 ⟨rfl, hb1⟩
          go_wp2_with fail
          refine (HC3.out _).mono ?_; rintro e w2 ⟨rfl, rfl⟩
          go_wp2_with fail
          refine (HP.out _ (HE.out.keep hb1)).mono ?_; rintro e w3 ⟨hb3, hp⟩
          have hb := hb1.trans (hb3.mono hb1.size)
          cases R with
          | some v =>
            simp only at hp
            subst hp
            go_wp2_with fail
            go_ret2
            exact ⟨rfl, hb⟩
          | none =>
            simp only at hp
            obtain ⟨x, te, pe, rfl⟩ := hp
            go_wp2_with fail
            go_ret2
            exact ⟨rfl, hb⟩
        · have HN := Lib.hid (HREF.out rfl)
          go_enter Tryz.func17, Tryz.ntmps17
          go_wp2_with fail
          refine (HC1.out _).mono ?_; rintro e w1 ⟨rfl, hb1⟩
          go_wp2_with fail
          refine (HC3.out _).mono ?_; rintro e w2 ⟨rfl, rfl⟩
          go_wp2_with fail
          go_ret2
          exact ⟨by rw [HN.out]; rfl, hb1⟩
      · cases p
        · have HN := Lib.hid (HREF.out rfl)
          go_enter Tryz.func17, Tryz.ntmps17
          go_wp2_with fail
          refine (HC1.out _).mono ?_; rintro e w1 ⟨rfl, hb1⟩
          go_wp2_with fail
          refine (HTL.out _ (HE.out.keep hb1)).mono ?_; rintro e w2 ⟨rfl, hb2⟩
          have hb := hb1.trans (hb2.mono hb1.size)
          go_wp2_with fail
          refine (HC2.out _).mono ?_; rintro e w3 ⟨rfl, rfl⟩
          go_wp2_with fail
          go_ret2
          exact ⟨by rw [HN.out]; rfl, hb⟩
        · cases u
          · have HP := Lib.hid (HPP.out rfl)
            go_enter Tryz.func17, Tryz.ntmps17
            go_wp2_with fail
            refine (HC1.out _).mono ?_; rintro e w1 ⟨rfl, hb1⟩
            go_wp2_with fail
            refine (HTL.out _ (HE.out.keep hb1)).mono ?_; rintro e w2 ⟨rfl, hb2⟩
            have hbb := hb1.trans (hb2.mono hb1.size)
            go_wp2_with fail
            refine (HC2.out _).mono ?_; rintro e w3 ⟨rfl, rfl⟩
            go_wp2_with fail
            refine (HC3.out _).mono ?_; rintro e w4 ⟨rfl, rfl⟩
            go_wp2_with fail
            refine (HP.out _ (HE.out.keep hbb)).mono ?_; rintro e w5 ⟨hb3, hp⟩
            have hb := hbb.trans (hb3.mono hbb.size)
            cases R with
            | some v =>
              simp only at hp
              subst hp
              go_wp2_with fail
              go_ret2
              exact ⟨rfl, hb⟩
            | none =>
              simp only at hp
              obtain ⟨x, te, pe, rfl⟩ := hp
              go_wp2_with fail
              go_ret2
              exact ⟨rfl, hb⟩
          · have HN := Lib.hid (HREF.out rfl)
            go_enter Tryz.func17, Tryz.ntmps17
            go_wp2_with fail
            refine (HC1.out _).mono ?_; rintro e w1 ⟨rfl, hb1⟩
            go_wp2_with fail
            refine (HTL.out _ (HE.out.keep hb1)).mono ?_; rintro e w2 ⟨rfl, hb2⟩
            have hb := hb1.trans (hb2.mono hb1.size)
            go_wp2_with fail
            refine (HC2.out _).mono ?_; rintro e w3 ⟨rfl, rfl⟩
            go_wp2_with fail
            refine (HC3.out _).mono ?_; rintro e w4 ⟨rfl, rfl⟩
            go_wp2_with fail
            go_ret2
            exact ⟨by rw [HN.out]; rfl, hb⟩
    · have HR : Hid (R = none) := by unfold Hid; rw [← hR]; exact dig_first s hpos hd
      clear hR hE
      rcases (show ¬ 48 ≤ bt s 0 ∨ (48 ≤ bt s 0 ∧ ¬ bt s 0 ≤ 57) by omega) with d1 | ⟨d1, d2⟩
      · have d1' : bt s 0 < 48 := by omega
        clear hd d1
        go_enter Tryz.func17, Tryz.ntmps17
        go_wp2_with fail
        go_ret2
        exact ⟨by rw [HR.out]; rfl, Below.refl _ _⟩
      · have d1' : ¬ bt s 0 < 48 := by omega
        have d2' : 57 < bt s 0 := by omega
        clear hd d1 d2
        go_enter Tryz.func17, Tryz.ntmps17
        go_wp2_with fail
        go_ret2
        exact ⟨by rw [HR.out]; rfl, Below.refl _ _⟩
end Go.Proofs.YtdfpijbngbfjaaaGreatDoor
