/-
  DERIVED. The walk of the law GlobPlain: for every two texts it returns true and leaves what was there.
-/
import Derived.Test.YtmcaphmgjhkgfaaWb
import Derived.Test.YtmcaphmgjhkgfaaGq
namespace Go.Proofs.Ytmcaphmgjhkgfaa
open Go.RowKit Go.Sort Gl
theorem extract_eq (t : ByteArray) (a b c : Nat) (h : b = c) : t.extract a b = t.extract a c := by rw [h]
set_option maxRecDepth 100000 in
set_option maxHeartbeats 16000000 in
theorem law_plain (s : ByteArray) (hs : s.size ≤ maxLen) (t : ByteArray) (ht : t.size ≤ maxLen) (w : World) :
    Calls Try.prog 5 #[.string s, .string t] w fun e w' => e = .returned (.bool true) ∧ Below w.heap.size w w' := by
  unfold maxLen at hs ht
  go_enter Try.func5, Try.ntmps5
  go_wp2_with fail
  refine (awake_any _).mono ?_; rintro e w1 ⟨rfl, hb⟩
  by_cases hs1 : s.size ≤ 30
  · by_cases ht1 : t.size ≤ 60
    · have hs1' : ¬ (30 : Int) < (s.size : Int) := by omega
      have ht1' : ¬ (60 : Int) < (t.size : Int) := by omega
      go_wp2_with fail
      go_loopg [6, 7] s.size (fun g q k wr => ∃ n : Nat, k = .int .i64 n ∧ n ≤ s.size ∧ q = .string (qm n) ∧ w1 = wr ∧ n + g = s.size)
      case atStart => exact ⟨0, rfl, Nat.zero_le _, rfl, rfl, by omega⟩
      case round =>
        obtain ⟨n, rfl, hn, rfl, rfl, hg⟩ := hrel
        have HG := Lib.hid hg; clear hg
        by_cases hl : n < s.size
        · have HQ := Lib.hid (qm_succ n)
          have hqn : (qm n).size ≤ 30 := by rw [qm_size]; omega
          go_wp2_with fail
          go_roundg (s.size - (n + 1))
          case measure => have := HG.out; omega
          case rel => exact ⟨n + 1, by go_num, by omega, by rw [← HQ.out], rfl, by omega⟩
        · obtain rfl : n = s.size := by omega
          have HB : Hid ((decide (s.size ≤ t.size) && ((t.extract 0 s.size).toList == s.toList)) = matchF (s ++ ⟨#[42]⟩) (qm s.size) (bl t)) := match_qs
          obtain ⟨eb, heb⟩ : ∃ eb, ((t.extract 0 s.size).toList == s.toList) = eb := ⟨_, rfl⟩
          rw [heb] at HB
          go_upto_region 11 with fail
          go_cut [8] (fun v8 wx => v8 = .bool (decide (s.size ≤ t.size) && eb) ∧ w1 = wx)
          case first =>
            by_cases hst : s.size ≤ t.size
            · have hst' : (s.size : Int) ≤ (t.size : Int) := by omega
              go_wp2_with fail
              go_meet
              exact ⟨by simp [hst], rfl⟩
            · have hst' : ¬ (s.size : Int) ≤ (t.size : Int) := by omega
              go_wp2_with fail
              go_meet
              exact ⟨by simp [hst], rfl⟩
          case rest =>
            obtain ⟨rfl, rfl⟩ := hcut
            rw [HB.out]
            clear heb HG
            go_wp2_with fail
            go_loopg [9, 10] (t.size + 1) (fun g h k wr => ∃ n : Nat, k = .int .i64 n ∧ (n = 0 ∨ n + s.size ≤ t.size + 1) ∧ h = .bool (hasN s t n) ∧ w1 = wr ∧ n + g = t.size + 1)
            case atStart => exact ⟨0, rfl, .inl rfl, rfl, rfl, by omega⟩
            case round =>
              obtain ⟨n, rfl, hn2, rfl, rfl, hg⟩ := hrel
              have hnb : n ≤ 61 := by omega
              have HG := Lib.hid hg; have HN2 := Lib.hid hn2; clear hg hn2
              by_cases hl2 : n + s.size ≤ t.size
              · have hl2' : (n : Int) + (s.size : Int) ≤ (t.size : Int) := by omega
                have HS := Lib.hid (hasN_succ s t n)
                obtain ⟨hb0, hh0⟩ : ∃ hb0, hasN s t n = hb0 := ⟨_, rfl⟩
                rw [hh0]
                rw [hh0] at HS
                clear hh0
                obtain ⟨ec, hec⟩ : ∃ ec, ((t.extract n (n + s.size)).toList == s.toList) = ec := ⟨_, rfl⟩
                rw [hec] at HS
                cases hb0
                · go_wp2_with fail
                  go_roundg (t.size - n)
                  case measure => have := HG.out; omega
                  case rel => exact ⟨n + 1, by go_num, by omega, by rw [HS.out]; simp, rfl, by omega⟩
                · go_wp2_with fail
                  go_roundg (t.size - n)
                  case measure => have := HG.out; omega
                  case rel => exact ⟨n + 1, by go_num, by omega, by rw [HS.out]; simp, rfl, by omega⟩
              · have hl2' : ¬ (n : Int) + (s.size : Int) ≤ (t.size : Int) := by omega
                have HM3 : Hid (hasN s t n = matchF (⟨#[42]⟩ ++ s ++ ⟨#[42]⟩) (⟨#[108]⟩ ++ qm s.size) (bl t)) := match_sqs hl2 HN2.out
                rw [HM3.out]
                clear HM3 HG HN2 HB
                obtain ⟨mb1, hm1⟩ : ∃ b, matchF s (qm s.size) (bl t) = b := ⟨_, rfl⟩
                have he1 : (s.toList == t.toList) = mb1 := by rw [match_q, hm1]
                obtain ⟨mb2, hm2⟩ : ∃ b, matchF (s ++ ⟨#[42]⟩) (qm s.size) (bl t) = b := ⟨_, rfl⟩
                obtain ⟨mb3, hm3⟩ : ∃ b, matchF (⟨#[42]⟩ ++ s ++ ⟨#[42]⟩) (⟨#[108]⟩ ++ qm s.size) (bl t) = b := ⟨_, rfl⟩
                rw [hm2, hm3]
                have HM1 := Lib.hid hm1; have HM2 := Lib.hid hm2; have HM3 := Lib.hid hm3
                have HPL := Lib.hid (plain_q s)
                have hqs : (qm s.size).size ≤ 30 := by rw [qm_size]; omega
                have hss1 : (s ++ (⟨#[42]⟩ : ByteArray)).size ≤ 31 := by rw [size_append]; show s.size + 1 ≤ 31; omega
                have hss2 : ((⟨#[42]⟩ : ByteArray) ++ s).size ≤ 31 := by rw [size_append]; show 1 + s.size ≤ 31; omega
                have hss3 : ((⟨#[42]⟩ : ByteArray) ++ s ++ (⟨#[42]⟩ : ByteArray)).size ≤ 32 := by rw [size_append, size_append]; show 1 + s.size + 1 ≤ 32; omega
                clear hm1 hm2 hm3
                obtain ⟨q, hq⟩ : ∃ q, q = qm s.size := ⟨_, rfl⟩
                rw [← hq] at HM1 HM2 HM3 HPL hqs
                rw [← hq]
                clear hq
                have S0 := LawS.start w1 s q
                obtain ⟨c0, c1, l0⟩ := S0.facts
                go_wp2_with fail
                refine (plain_at s q (by omega) true HPL.out _).mono ?_; rintro e w2 ⟨rfl, hb2⟩
                have S1 := S0.next hb2; clear S0 hb2 c0 c1 l0
                obtain ⟨c0, c1, l0⟩ := S1.facts
                go_wp2_with fail
                refine (match_at s q t (by omega) (by omega) mb1 HM1.out _).mono ?_; rintro e w3 ⟨rfl, hb2⟩
                have S2 := S1.next hb2; clear S1 hb2 c0 c1 l0
                go_wp2_with fail
                refine (match_at _ q t (by omega) (by omega) mb2 HM2.out _).mono ?_; rintro e w4 ⟨rfl, hb2⟩
                have S3 := S2.next hb2; clear S2 hb2
                go_wp2_with fail
                refine (match_at _ _ t (by omega) (by omega) mb3 HM3.out _).mono ?_; rintro e w5 ⟨rfl, hb2⟩
                have S4 := S3.next hb2; clear S3 hb2
                go_wp2_with fail
                go_ret
                exact ⟨by first | rfl | simp, hb.trans (S4.2.mono hb.size)⟩
    · have hs1' : ¬ (30 : Int) < (s.size : Int) := by omega
      have ht1' : (60 : Int) < (t.size : Int) := by omega
      go_wp2_with fail
      go_ret
      exact ⟨rfl, hb⟩
  · have hs1' : (30 : Int) < (s.size : Int) := by omega
    go_wp2_with fail
    go_ret
    exact ⟨rfl, hb⟩
end Go.Proofs.Ytmcaphmgjhkgfaa
