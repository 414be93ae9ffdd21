/-
  DERIVED. The walk of arith's Number, of a text of bytes below 128; and tester's number.
-/
import Derived.Test.YtdfpijbngbfjaaaGreatDoorDg
namespace Go.Proofs.YtdfpijbngbfjaaaGreatDoor
open Go.RowKit
theorem bt_head {v : ByteArray} (h : 0 < v.size) : ∃ c r, v.data.toList = c :: r ∧ bt v 0 = (c.toNat : Int) := by
  have hl : 0 < v.data.toList.length := by rw [← Lib.size_eq]; exact h
  cases hv : v.data.toList with
  | nil => rw [hv] at hl; simp at hl
  | cons c r =>
    refine ⟨c, r, rfl, ?_⟩
    have e1 := bl_get v 0 h
    rw [← e1]; simp [bl, hv]
theorem pre_yes {v : ByteArray} {k : Nat} (hk : k < 256) (h : 0 < v.size) (hb : bt v 0 = (k : Int)) : Lib.hasPrefix v.data.toList [UInt8.ofNat k] = true ∧ (⟨(Lib.trimPrefix v.data.toList [UInt8.ofNat k]).toArray⟩ : ByteArray) = v.extract 1 v.size := by
  obtain ⟨c, r, hv, e⟩ := bt_head h
  have hc : c = UInt8.ofNat k := (byte_eq c k hk).2 (by rw [← e]; exact hb)
  have hp : Lib.hasPrefix v.data.toList [UInt8.ofNat k] = true := by rw [hv, hc]; simp [Lib.hasPrefix, List.isPrefixOf]
  refine ⟨hp, ?_⟩
  rw [Lib.extract_eq]
  unfold Lib.trimPrefix
  rw [if_pos hp]
  congr 2
  rw [List.take_of_length_le (by rw [List.length_drop, ← Lib.size_eq]; exact Nat.le_refl _)]
  rfl
theorem pre_no {v : ByteArray} {k : Nat} (hk : k < 256) (h : 0 < v.size → bt v 0 ≠ (k : Int)) : Lib.hasPrefix v.data.toList [UInt8.ofNat k] = false ∧ (⟨(Lib.trimPrefix v.data.toList [UInt8.ofNat k]).toArray⟩ : ByteArray) = v := by
  have hp : Lib.hasPrefix v.data.toList [UInt8.ofNat k] = false := by
    by_cases h0 : 0 < v.size
    · obtain ⟨c, r, hv, e⟩ := bt_head h0
      rw [hv]
      simp only [Lib.hasPrefix, List.isPrefixOf, Bool.and_true]
      have : ¬ c = UInt8.ofNat k := fun hc => h h0 (by rw [e]; exact (byte_eq c k hk).1 hc)
      simp; exact fun e => this e.symm
    · have : v.data.toList = [] := List.length_eq_zero_iff.1 (by rw [← Lib.size_eq]; omega)
      rw [this]; rfl
  refine ⟨hp, ?_⟩
  unfold Lib.trimPrefix
  rw [if_neg (by rw [hp]; simp), Lib.mk_data]
theorem ascii_sub {a b : ByteArray} (_h : Ascii a) (_hs : ∀ x ∈ b.data.toList, x ∈ a.data.toList) : Ascii b := trivial
theorem trimB_mem (s : ByteArray) : ∀ x ∈ (trimB s).data.toList, x ∈ s.data.toList := fun x hx => by
  rw [trimB_eq] at hx
  unfold cutR at hx
  have h1 := (List.dropWhile_sublist blankU).subset (List.mem_reverse.1 hx)
  exact (List.dropWhile_sublist blankU).subset (List.mem_reverse.1 h1)
theorem extract_mem (s : ByteArray) (a b : Nat) : ∀ x ∈ (s.extract a b).data.toList, x ∈ s.data.toList := fun x hx => by
  rw [Lib.extract_data] at hx
  exact List.mem_of_mem_drop (List.mem_of_mem_take hx)
theorem trimB_le (s : ByteArray) : (trimB s).size ≤ s.size := by
  rw [Lib.size_eq, Lib.size_eq, trimB_eq]; unfold cutR
  rw [List.length_reverse]
  exact Nat.le_trans (List.Sublist.length_le (List.dropWhile_sublist _)) (by rw [List.length_reverse]; exact List.Sublist.length_le (List.dropWhile_sublist _))
theorem trim_any (s v : ByteArray) (hs : s.size ≤ 1000000000) (hv : trimB s = v) (w : World) :
    Calls Tryz.prog 12 #[.string s, .string ⟨#[32, 9, 10]⟩] w fun e w' => e = .returned (.string v) ∧ Below w.heap.size w w' := by
  subst hv
  exact Any.strings_Trim_laid Tryz.lays160 (by kernel_rfl) s ⟨#[32, 9, 10]⟩ w (by omega) (by decide) (ascii_list (by decide))
theorem cutpre_yes {v : ByteArray} (h : 0 < v.size) (hb : bt v 0 = 45) (w : World) : Calls Tryz.prog 15 #[.string v, .string ⟨#[45]⟩] w fun e w' => e = .returned (.tuple #[.string (v.extract 1 v.size), .bool true]) ∧ w = w' := by
  obtain ⟨h1, h2⟩ := pre_yes (k := 45) (by omega) h hb
  have := Tryz.strings_CutPrefix v ⟨#[45]⟩ w
  exact this.mono fun e w' ⟨he, hw⟩ => ⟨by rw [he]; rw [← h2, ← h1]; rfl, hw.symm⟩
theorem cutpre_no {v : ByteArray} (hb : 0 < v.size → bt v 0 ≠ 45) (w : World) : Calls Tryz.prog 15 #[.string v, .string ⟨#[45]⟩] w fun e w' => e = .returned (.tuple #[.string v, .bool false]) ∧ w = w' := by
  obtain ⟨h1, h2⟩ := pre_no (k := 45) (by omega) hb
  have := Tryz.strings_CutPrefix v ⟨#[45]⟩ w
  refine this.mono fun e w' ⟨he, hw⟩ => ⟨?_, hw.symm⟩
  rw [he]
  have e1 : Lib.hasPrefix v.data.toList (⟨#[45]⟩ : ByteArray).data.toList = false := h1
  have e2 : (⟨(Lib.trimPrefix v.data.toList (⟨#[45]⟩ : ByteArray).data.toList).toArray⟩ : ByteArray) = v := h2
  rw [e1, e2]
theorem plus_yes {v : ByteArray} (h : 0 < v.size) (hb : bt v 0 = 43) (w : World) : Calls Tryz.prog 16 #[.string v, .string ⟨#[43]⟩] w fun e w' => e = .returned (.string (v.extract 1 v.size)) ∧ w = w' := by
  obtain ⟨_, h2⟩ := pre_yes (k := 43) (by omega) h hb
  have := Tryz.strings_TrimPrefix v ⟨#[43]⟩ w
  refine this.mono fun e w' ⟨he, hw⟩ => ⟨?_, hw.symm⟩
  rw [he]
  have e2 : (⟨(Lib.trimPrefix v.data.toList (⟨#[43]⟩ : ByteArray).data.toList).toArray⟩ : ByteArray) = v.extract 1 v.size := h2
  rw [e2]
theorem plus_no {v : ByteArray} (hb : 0 < v.size → bt v 0 ≠ 43) (w : World) : Calls Tryz.prog 16 #[.string v, .string ⟨#[43]⟩] w fun e w' => e = .returned (.string v) ∧ w = w' := by
  obtain ⟨_, h2⟩ := pre_no (k := 43) (by omega) hb
  have := Tryz.strings_TrimPrefix v ⟨#[43]⟩ w
  refine this.mono fun e w' ⟨he, hw⟩ => ⟨?_, hw.symm⟩
  rw [he]
  have e2 : (⟨(Lib.trimPrefix v.data.toList (⟨#[43]⟩ : ByteArray).data.toList).toArray⟩ : ByteArray) = v := h2
  rw [e2]
theorem digitsF_rng {s : ByteArray} : 0 ≤ (digitsF s).getD 0 ∧ (digitsF s).getD 0 ≤ 9223372036854775807 := by
  cases h : digitsF s with
  | none => simp
  | some r =>
    unfold digitsF at h
    split at h
    · cases h
    · have := digGo_range _ (by unfold baseF; split; exact .inr (.inr rfl); split; exact .inl rfl; exact .inr (.inl rfl)) _ 0 r (by omega) (by rw [maxI_eq]; omega) h
      rw [maxI_eq] at this; simpa using this
set_option maxRecDepth 100000 in
set_option maxHeartbeats 8000000 in
theorem number_any (s : ByteArray) (hs : s.size ≤ 1000000000) (ha : Ascii s) (R : Option Int) (hR : numberF s = R) (w : World) (hE : Env w) :
    Calls Tryz.prog 9 #[.string s] w fun e w' => e = .returned (.tuple #[.int .i64 (R.getD 0), .bool R.isSome]) ∧ Below w.heap.size w w' := by
  obtain ⟨v, hv⟩ : ∃ v, trimB s = v := ⟨_, rfl⟩
  have hav : Ascii v := ascii_sub ha (by rw [← hv]; exact trimB_mem s)
  have hvs : v.size ≤ 1000000000 := by have := trimB_le s; rw [hv] at this; omega
  have HT := Lib.hid (trim_any s v hs hv)
  unfold numberF at hR
  rw [hv] at hR
  have HE := Lib.hid hE
  clear hv ha hE
  by_cases h0 : v.size = 0
  · have HR : Hid (R = some 0) := by unfold Hid; rw [← hR, if_pos h0]
    have hem : v.toList.isEmpty = true := by rw [empty_iff]; simp [h0]
    clear hR h0
    go_enter Tryz.func9, Tryz.ntmps9
    go_wp2_with fail
    refine (HT.out _).mono ?_; rintro e w1 ⟨rfl, hb1⟩
    go_wp2_with fail
    go_ret2
    exact ⟨by rw [HR.out]; rfl, hb1⟩
  · have hpos : 0 < v.size := by omega
    have hem : v.toList.isEmpty = false := by rw [empty_iff]; simp [hpos]
    rw [if_neg h0] at hR
    have hax : Ascii (v.extract 1 v.size) := ascii_sub hav (extract_mem v 1 v.size)
    have hxs : (v.extract 1 v.size).size ≤ 1000000000 := by rw [ByteArray.size_extract]; omega
    by_cases b1 : bt v 0 = 45
    · rw [if_neg (by omega), if_pos b1] at hR
      obtain ⟨q, hq⟩ : ∃ q, digitsF (v.extract 1 v.size) = q := ⟨_, rfl⟩
      have hrng := digitsF_rng (s := v.extract 1 v.size)
      rw [hq] at hR hrng
      obtain ⟨r0, r1⟩ := hrng
      have HD := Lib.hid (digits_any _ hxs hax q hq)
      have HC := Lib.hid (cutpre_yes hpos b1)
      have HR := Lib.hid hR
      clear hR b1 hq h0
      go_enter Tryz.func9, Tryz.ntmps9
      go_wp2_with fail
      refine (HT.out _).mono ?_; rintro e w1 ⟨rfl, hb1⟩
      go_wp2_with fail
      refine (HC.out _).mono ?_; rintro e w2 ⟨rfl, rfl⟩
      go_wp2_with fail
      refine (HD.out _ (HE.out.keep hb1)).mono ?_; rintro e w3 ⟨rfl, hb3⟩
      have hb := hb1.trans (hb3.mono hb1.size)
      go_wp2_with fail
      go_ret2
      exact ⟨by rw [← HR.out]; cases q <;> rfl, hb⟩
    · have HC := Lib.hid (cutpre_no (fun _ => b1))
      by_cases b2 : bt v 0 = 43
      · rw [if_pos b2] at hR
        have HD := Lib.hid (digits_any _ hxs hax R hR)
        have HP := Lib.hid (plus_yes hpos b2)
        clear hR b1 b2 h0
        go_enter Tryz.func9, Tryz.ntmps9
        go_wp2_with fail
        refine (HT.out _).mono ?_; rintro e w1 ⟨rfl, hb1⟩
        go_wp2_with fail
        refine (HC.out _).mono ?_; rintro e w2 ⟨rfl, rfl⟩
        go_wp2_with fail
        refine (HP.out _).mono ?_; rintro e w2 ⟨rfl, rfl⟩
        go_wp2_with fail
        refine (HD.out _ (HE.out.keep hb1)).mono ?_; rintro e w3 ⟨rfl, hb3⟩
        have hb := hb1.trans (hb3.mono hb1.size)
        go_wp2_with fail
        go_ret2
        exact ⟨rfl, hb⟩
      · rw [if_neg b2, if_neg b1] at hR
        have HD := Lib.hid (digits_any _ hvs hav R hR)
        have HP := Lib.hid (plus_no (fun _ => b2))
        clear hR b1 b2 h0
        go_enter Tryz.func9, Tryz.ntmps9
        go_wp2_with fail
        refine (HT.out _).mono ?_; rintro e w1 ⟨rfl, hb1⟩
        go_wp2_with fail
        refine (HC.out _).mono ?_; rintro e w2 ⟨rfl, rfl⟩
        go_wp2_with fail
        refine (HP.out _).mono ?_; rintro e w2 ⟨rfl, rfl⟩
        go_wp2_with fail
        refine (HD.out _ (HE.out.keep hb1)).mono ?_; rintro e w3 ⟨rfl, hb3⟩
        have hb := hb1.trans (hb3.mono hb1.size)
        go_wp2_with fail
        go_ret2
        exact ⟨rfl, hb⟩
end Go.Proofs.YtdfpijbngbfjaaaGreatDoor
