/-
  DERIVED. The walks of the document's Is, member, End and in: they only reckon, so the world stays.
-/
import Derived.Test.YtmcaphmgjhkgfaaDoorGa
import Derived.Test.YtmcaphmgjhkgfaaDoorRs
import Derived.Deep.LoopGhost
namespace Go.Proofs.YtmcaphmgjhkgfaaDoor
open Go.RowKit Gl
set_option maxHeartbeats 400000 in
theorem rquoted_is (m : ByteArray) (i : Nat) (w : World) :
    Calls Tryd.prog 51 #[.string m, .int .i64 i] w fun e w' => e = .returned (.bool (quotedB m i)) ∧ w = w' := by
  have hb := get_bt m
  by_cases h : i < m.size
  · go_enter Tryd.func51, Tryd.ntmps51
    go_wp2
    go_ret
    exact ⟨by simp [quotedB, h], rfl⟩
  · go_enter Tryd.func51, Tryd.ntmps51
    go_wp2
    go_ret
    exact ⟨by simp [quotedB, h], rfl⟩
set_option maxHeartbeats 1000000 in
theorem ris_is (t m : ByteArray) (k : Int) (i : Nat) (hk : k = (i : Int)) (c : Int) (b : Bool) (hb : isB t m i c = b) (w : World) :
    Calls Tryd.prog 39 #[.string t, .string m, .int .i64 k, .int .u8 c] w fun e w' => e = .returned (.bool b) ∧ w = w' := by
  subst hk hb
  have hb := get_bt t
  by_cases h : i < t.size
  · by_cases hc : bt t i = c
    · have hc' : (bt t i == c) = true := by simpa using hc
      have HC := Lib.hid hc; clear hc
      go_enter Tryd.func39, Tryd.ntmps39
      go_wp2_with fail
      refine (rquoted_is m i _).mono ?_; rintro e w1 ⟨rfl, rfl⟩
      go_wp2_with fail
      go_ret
      exact ⟨by simp [isB, h, hc'], rfl⟩
    · have hc' : (bt t i == c) = false := by simpa using hc
      have HC := Lib.hid hc; clear hc
      go_enter Tryd.func39, Tryd.ntmps39
      go_wp2_with fail
      refine (rquoted_is m i _).mono ?_; rintro e w1 ⟨rfl, rfl⟩
      go_wp2_with fail
      go_ret
      exact ⟨by simp [isB, h, hc'], rfl⟩
  · go_enter Tryd.func39, Tryd.ntmps39
    go_wp2_with fail
    refine (rquoted_is m i _).mono ?_; rintro e w1 ⟨rfl, rfl⟩
    go_wp2_with fail
    go_ret
    exact ⟨by simp [isB, h], rfl⟩
set_option maxHeartbeats 2000000 in
theorem rmember_any (t m : ByteArray) (_ht : t.size ≤ 1000000000) (i : Nat) (hi : i ≤ 4000000000) (w : World) :
    Calls Tryd.prog 52 #[.string t, .string m, .int .i64 i] w fun e w' => e = .returned (.int .i64 (memF t m i)) ∧ w = w' := by
  obtain ⟨b1, h1⟩ : ∃ b1, isB t m (i + 1) 45 = b1 := ⟨_, rfl⟩
  obtain ⟨b2, h2⟩ : ∃ b2, isB t m (i + 2) 93 = b2 := ⟨_, rfl⟩
  have hm : Hid (memF t m i = if b1 && decide (i + 2 < t.size) && !b2 then i + 3 else i + 1) := by unfold Hid memF dash; rw [h1, h2]
  have H1 := Lib.hid h1; have H2 := Lib.hid h2; clear h1 h2
  cases b1
  · go_enter Tryd.func52, Tryd.ntmps52
    go_wp2_with fail
    refine (ris_is t m _ (i + 1) (by omega) _ _ H1.out _).mono ?_; rintro e w1 ⟨rfl, rfl⟩
    go_wp2_with fail
    refine (ris_is t m _ (i + 2) (by omega) _ _ H2.out _).mono ?_; rintro e w1 ⟨rfl, rfl⟩
    go_wp2_with fail
    go_ret
    exact ⟨ret_int (by rw [hm.out]; simp), rfl⟩
  · by_cases h3 : i + 2 < t.size
    · cases b2
      all_goals
        go_enter Tryd.func52, Tryd.ntmps52
        go_wp2_with fail
        refine (ris_is t m _ (i + 1) (by omega) _ _ H1.out _).mono ?_; rintro e w1 ⟨rfl, rfl⟩
        go_wp2_with fail
        refine (ris_is t m _ (i + 2) (by omega) _ _ H2.out _).mono ?_; rintro e w1 ⟨rfl, rfl⟩
        go_wp2_with fail
        go_ret
        exact ⟨ret_int (by rw [hm.out]; simp [h3]), rfl⟩
    · go_enter Tryd.func52, Tryd.ntmps52
      go_wp2_with fail
      refine (ris_is t m _ (i + 1) (by omega) _ _ H1.out _).mono ?_; rintro e w1 ⟨rfl, rfl⟩
      go_wp2_with fail
      refine (ris_is t m _ (i + 2) (by omega) _ _ H2.out _).mono ?_; rintro e w1 ⟨rfl, rfl⟩
      go_wp2_with fail
      go_ret
      exact ⟨ret_int (by rw [hm.out]; simp [h3]), rfl⟩
theorem rmember_at (t m : ByteArray) (ht : t.size ≤ 1000000000) (k : Int) (i : Nat) (hk : k = (i : Int)) (hi : i ≤ 4000000000) (w : World) :
    Calls Tryd.prog 52 #[.string t, .string m, .int .i64 k] w fun e w' => e = .returned (.int .i64 (memF t m i)) ∧ w = w' := by
  subst hk; exact rmember_any t m ht i hi w
set_option maxHeartbeats 4000000 in
theorem rend_any (t m : ByteArray) (ht : t.size ≤ 1000000000) (i : Nat) (hi : i ≤ 1000000000) (w : World) :
    Calls Tryd.prog 40 #[.string t, .string m, .int .i64 i] w fun e w' => e = .returned (.int .i64 (endF t m i)) ∧ w = w' := by
  obtain ⟨b1, h1⟩ : ∃ b1, isB t m (i + 1) 33 = b1 := ⟨_, rfl⟩
  obtain ⟨F, hF⟩ : ∃ F, F = setFirst t m i := ⟨_, rfl⟩
  have hF2 : Hid (F = if b1 then i + 2 else i + 1) := by unfold Hid; rw [hF]; unfold setFirst; rw [h1]
  have hst := Run.start t m i
  rw [← hF] at hst
  have hgt := memF_gt t m F
  have hFi : i + 1 ≤ F ∧ F ≤ i + 2 := by rw [hF2.out]; split <;> omega
  have H1 := Lib.hid h1; have HST := Lib.hid hst; have HF := Lib.hid hF
  clear h1 hst hF
  cases b1
  · obtain rfl : F = i + 1 := by rw [hF2.out]; rfl
    go_enter Tryd.func40, Tryd.ntmps40
    go_wp2_with fail
    refine (ris_is t m _ (i + 1) (by omega) _ _ H1.out _).mono ?_; rintro e w1 ⟨rfl, rfl⟩
    go_wp2_with fail
    refine (rmember_at t m ht _ (i + 1) (by omega) (by omega) _).mono ?_; rintro e w1 ⟨rfl, rfl⟩
    obtain ⟨k0, hk0⟩ : ∃ k0, k0 = memF t m (i + 1) := ⟨_, rfl⟩
    rw [← hk0] at hgt; rw [← hk0] at HST
    rw [← hk0]
    clear hk0
    go_wp2_with fail
    go_loopg [7, 9] (t.size + 10) (fun g k _ wr => ∃ n : Nat, k = .int .i64 n ∧ n ≤ 4000000000 ∧ (∃ sp, Hid (Run t m i n sp)) ∧ wr = w ∧ t.size + 10 - n ≤ g)
    case atStart => exact ⟨k0, rfl, by omega, ⟨_, HST⟩, rfl, by omega⟩
    case round =>
      obtain ⟨n, rfl, hn, ⟨sp, HR⟩, rfl, hg⟩ := hrel
      have HG := Lib.hid hg; clear hg
      by_cases hl : n < t.size
      · cases h2 : isB t m n 93
        · have H2 := Lib.hid h2; clear h2
          have hm := memF_gt t m n
          have hml := memF_le t m n hl
          have HR2 := HR.out.step hl H2.out
          have HR3 := Lib.hid HR2; clear HR2
          go_wp2_with fail
          refine (ris_is t m _ n (by omega) _ _ H2.out _).mono ?_; rintro e w1 ⟨rfl, rfl⟩
          go_wp2_with fail
          refine (rmember_at t m ht _ n (by omega) (by omega) _).mono ?_; rintro e w1 ⟨rfl, rfl⟩
          go_wp2_with fail
          go_roundg (t.size + 10 - memF t m n)
          case measure => have := HG.out; omega
          case rel => exact ⟨_, rfl, by omega, ⟨_, HR3⟩, rfl, by omega⟩
        · have H2 := Lib.hid h2; clear h2
          have he := Lib.hid (HR.out.shut hl H2.out)
          go_wp2_with fail
          refine (ris_is t m _ n (by omega) _ _ H2.out _).mono ?_; rintro e w1 ⟨rfl, rfl⟩
          go_wp2_with fail
          go_ret
          exact ⟨ret_int (by rw [he.out]; omega), rfl⟩
      · have he := Lib.hid (HR.out.out hl)
        go_wp2_with fail
        go_ret
        exact ⟨ret_int (by rw [he.out]), rfl⟩
  · obtain rfl : F = i + 2 := by rw [hF2.out]; rfl
    go_enter Tryd.func40, Tryd.ntmps40
    go_wp2_with fail
    refine (ris_is t m _ (i + 1) (by omega) _ _ H1.out _).mono ?_; rintro e w1 ⟨rfl, rfl⟩
    go_wp2_with fail
    refine (rmember_at t m ht _ (i + 2) (by omega) (by omega) _).mono ?_; rintro e w1 ⟨rfl, rfl⟩
    obtain ⟨k0, hk0⟩ : ∃ k0, k0 = memF t m (i + 2) := ⟨_, rfl⟩
    rw [← hk0] at hgt; rw [← hk0] at HST
    rw [← hk0]
    clear hk0
    go_wp2_with fail
    go_loopg [7, 9] (t.size + 10) (fun g k _ wr => ∃ n : Nat, k = .int .i64 n ∧ n ≤ 4000000000 ∧ (∃ sp, Hid (Run t m i n sp)) ∧ wr = w ∧ t.size + 10 - n ≤ g)
    case atStart => exact ⟨k0, rfl, by omega, ⟨_, HST⟩, rfl, by omega⟩
    case round =>
      obtain ⟨n, rfl, hn, ⟨sp, HR⟩, rfl, hg⟩ := hrel
      have HG := Lib.hid hg; clear hg
      by_cases hl : n < t.size
      · cases h2 : isB t m n 93
        · have H2 := Lib.hid h2; clear h2
          have hm := memF_gt t m n
          have hml := memF_le t m n hl
          have HR2 := HR.out.step hl H2.out
          have HR3 := Lib.hid HR2; clear HR2
          go_wp2_with fail
          refine (ris_is t m _ n (by omega) _ _ H2.out _).mono ?_; rintro e w1 ⟨rfl, rfl⟩
          go_wp2_with fail
          refine (rmember_at t m ht _ n (by omega) (by omega) _).mono ?_; rintro e w1 ⟨rfl, rfl⟩
          go_wp2_with fail
          go_roundg (t.size + 10 - memF t m n)
          case measure => have := HG.out; omega
          case rel => exact ⟨_, rfl, by omega, ⟨_, HR3⟩, rfl, by omega⟩
        · have H2 := Lib.hid h2; clear h2
          have he := Lib.hid (HR.out.shut hl H2.out)
          go_wp2_with fail
          refine (ris_is t m _ n (by omega) _ _ H2.out _).mono ?_; rintro e w1 ⟨rfl, rfl⟩
          go_wp2_with fail
          go_ret
          exact ⟨ret_int (by rw [he.out]; omega), rfl⟩
      · have he := Lib.hid (HR.out.out hl)
        go_wp2_with fail
        go_ret
        exact ⟨ret_int (by rw [he.out]), rfl⟩
end Go.Proofs.YtmcaphmgjhkgfaaDoor
