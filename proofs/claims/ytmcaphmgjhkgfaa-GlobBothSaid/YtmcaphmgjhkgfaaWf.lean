/-
  DERIVED. The walk of the law GlobBoth: for every two patterns, two texts and byte it returns true and leaves what was there.
-/
import Derived.Test.YtmcaphmgjhkgfaaWb
import Derived.Test.YtmcaphmgjhkgfaaGt
namespace Go.Proofs.Ytmcaphmgjhkgfaa
open Go.RowKit Go.Sort Gl
/-- Two patterns that lie boxed at the call's first two blocks. -/
def LawT (w : World) (t m u n : ByteArray) (wx : World) : Prop :=
  RowIs wx w.heap.size 23 [.string t, .string m] ∧ RowIs wx (w.heap.size + 1) 23 [.string u, .string n] ∧ Below w.heap.size w wx
theorem LawT.start (w : World) (t m u n : ByteArray) : LawT w t m u n ((w.alloc (.cells #[.string t, .string m] 23)).alloc (.cells #[.string u, .string n] 23)) := by
  refine ⟨(RowIs.new w 23 [.string t, .string m]).alloc _, ?_, ((Below.refl _ _).alloc (Nat.le_refl _) _).alloc (by simp) _⟩
  have := RowIs.new (w.alloc (.cells #[.string t, .string m] 23)) 23 [.string u, .string n]
  simpa using this
theorem LawT.next {w wx wy : World} {t m u n : ByteArray} (h : LawT w t m u n wx) (hb : Below wx.heap.size wx wy) : LawT w t m u n wy := ⟨h.1.below hb, h.2.1.below hb, h.2.2.trans (hb.mono h.2.2.size)⟩
theorem LawT.facts {w wx : World} {t m u n : ByteArray} (h : LawT w t m u n wx) : wx.cell? ⟨w.heap.size, 0, none⟩ = some (.string t) ∧ wx.cell? ⟨w.heap.size, 1, none⟩ = some (.string m) ∧ wx.cell? ⟨w.heap.size + 1, 0, none⟩ = some (.string u) ∧ wx.cell? ⟨w.heap.size + 1, 1, none⟩ = some (.string n) ∧ w.heap.size + 1 < wx.heap.size :=
  ⟨(pat_facts h.1).1, (pat_facts h.1).2.1, (pat_facts h.2.1).1, (pat_facts h.2.1).2.1, h.2.1.lt⟩
theorem new_block (w : World) (o : Obj) : Below w.heap.size w (w.alloc o) := (Below.refl _ _).alloc (Nat.le_refl _) o
def BothRel (t m u n : ByteArray) (w : World) (g : Nat) (op k : Value) (wr : World) : Prop :=
  ∃ i : Nat, k = .int .i64 i ∧ i ≤ t.size ∧ op = .bool (openF t i) ∧ LawT w t m u n wr ∧ i + g = t.size
set_option maxRecDepth 100000 in
set_option maxHeartbeats 16000000 in
theorem law_both (t m : ByteArray) (_ht : t.size ≤ maxLen) (hm : m.size ≤ maxLen) (u n : ByteArray) (_hu : u.size ≤ maxLen) (_hn : n.size ≤ maxLen) (s : ByteArray) (hs : s.size ≤ maxLen) (x : ByteArray) (hx : x.size ≤ maxLen) (c : Int) (hc0 : 0 ≤ c) (hc1 : c ≤ 255) (w : World) (hr : n.size ≤ reachBytes) :
    Calls Try.prog 7 #[.agg #[.string t, .string m], .agg #[.string u, .string n], .string s, .string x, .int .u8 c] w fun e w' => e = .returned (.bool true) ∧ Below w.heap.size w w' := by
  have hn47 : n.size ≤ 140737488355327 := by have := reachBytes_lt; omega
  unfold maxLen at hm hs hx
  clear hr
  have S0 := LawT.start w t m u n
  go_enter Try.func7, Try.ntmps7
  go_wp2_with fail
  refine (awake_any _).mono ?_; rintro e w1 ⟨rfl, hb⟩
  have S1 := S0.next hb; clear S0 hb
  obtain ⟨c0, c1, d0, d1, l0⟩ := S1.facts
  by_cases h1 : t.size ≤ 20
  · have h1' : ¬ (20 : Int) < (t.size : Int) := by omega
    by_cases h2 : u.size ≤ 20
    · have h2' : ¬ (20 : Int) < (u.size : Int) := by omega
      by_cases h3 : s.size ≤ 30
      · have h3' : ¬ (30 : Int) < (s.size : Int) := by omega
        by_cases h4 : x.size ≤ 30
        · have h4' : ¬ (30 : Int) < (x.size : Int) := by omega
          by_cases h5 : m.size = t.size
          · have h5' : ((m.size : Int) != (t.size : Int)) = false := by simp [h5]
            have h5a : m.size ≤ 20 := by omega
            have HMT := Lib.hid h5; clear h5
            clear h3 h4
            have h3 : s.size ≤ 30 := by omega
            have h4 : x.size ≤ 30 := by omega
            go_wp2_with fail
            have hst : Hid (BothRel t m u n w t.size (.bool false) (.int .i64 ((0 : Nat) : Int)) w1) := ⟨0, rfl, Nat.zero_le _, rfl, S1, by omega⟩
            clear S1 c0 c1 d0 d1 l0
            go_loopg [12, 13] t.size (fun g op k wr => BothRel t m u n w g op k wr)
            case atStart => exact hst.out
            case round =>
              clear hst
              obtain ⟨i, rfl, hi, rfl, S2, hg⟩ := hrel
              have HG := Lib.hid hg; clear hg
              obtain ⟨c0, c1, d0, d1, l0⟩ := S2.facts
              have HO := Lib.hid (openF_succ t i)
              obtain ⟨ob, hob⟩ : ∃ ob, openF t i = ob := ⟨_, rfl⟩
              rw [hob] at HO
              rw [hob]
              by_cases hl : i < t.size
              · clear hob
                have hgt := get_bt t
                obtain ⟨b, hb⟩ : ∃ b, (bt t i == 91) = b := ⟨_, rfl⟩
                rw [hb] at HO
                cases ob
                · go_wp2_with fail
                  go_roundg (t.size - (i + 1))
                  case measure => have := HG.out; omega
                  case rel => exact ⟨i + 1, by go_num, by omega, by rw [HO.out]; rfl, S2, by omega⟩
                · go_wp2_with fail
                  go_roundg (t.size - (i + 1))
                  case measure => have := HG.out; omega
                  case rel => exact ⟨i + 1, by go_num, by omega, by rw [HO.out]; rfl, S2, by omega⟩
              · obtain rfl : i = t.size := by omega
                have hboth : Hid (ob = false → matchF t m (bl s) = true → matchF u n (bl x) = true → matchF (t ++ u) (m ++ n) (bl (s ++ x)) = true) := fun h a b => both_match HMT.out (by rw [hob, h]) a b
                clear hob HG HO hi hl
                have hz1 : (t ++ u).size ≤ 40 := by rw [size_append]; omega
                have hz2 : (s ++ x).size ≤ 60 := by rw [size_append]; omega
                have l1 : w.heap.size < wr.heap.size := by omega
                go_upto_region 12 with fail
                have S3 := S2.next (new_block wr (.cells #[.string (t ++ u), .string (m ++ n)] 23))
                have r3 := RowIs.new wr 23 [.string (t ++ u), .string (m ++ n)]
                go_cut [95] (fun v wx => v = .bool false ∧ Below w.heap.size w wx)
                case first =>
                  cases ob
                  · obtain ⟨b1, hb1⟩ : ∃ b1, matchF t m (bl s) = b1 := ⟨_, rfl⟩
                    have HB1 := Lib.hid hb1; clear hb1
                    obtain ⟨b2, hb2⟩ : ∃ b2, matchF u n (bl x) = b2 := ⟨_, rfl⟩
                    have HB2 := Lib.hid hb2; clear hb2
                    go_wp2_with fail
                    refine (match_at t m s (by omega) (by omega) b1 HB1.out _).mono ?_; rintro e w2 ⟨rfl, hb⟩
                    have S4 := S3.next hb; have r4 := r3.below hb
                    obtain ⟨c0, c1, d0, d1, l0⟩ := S4.facts
                    cases b1
                    · go_wp2_with fail
                      go_meet
                      exact ⟨rfl, S4.2.2⟩
                    · clear S3 r3 hb
                      go_wp2_with fail
                      refine (match_at u n x (by omega) (by omega) b2 HB2.out _).mono ?_; rintro e w3 ⟨rfl, hb⟩
                      have S5 := S4.next hb; have r5 := r4.below hb
                      clear S4 r4 hb
                      obtain ⟨e0, e1, el⟩ := pat_facts r5
                      cases b2
                      · go_wp2_with fail
                        go_meet
                        exact ⟨rfl, S5.2.2⟩
                      · have HBB := Lib.hid (hboth.out trivial HB1.out HB2.out)
                        go_wp2_with fail
                        refine (match_at (t ++ u) (m ++ n) (s ++ x) (by omega) (by omega) true HBB.out _).mono ?_; rintro e w4 ⟨rfl, hb⟩
                        have S6 := S5.next hb
                        go_wp2_with fail
                        go_meet
                        exact ⟨rfl, S6.2.2⟩
                  · go_wp2_with fail
                    go_meet
                    exact ⟨rfl, S3.2.2⟩
                case rest =>
                  obtain ⟨rfl, hbc⟩ := hcut
                  clear S2 S3 r3 c0 c1 d0 d1 l0 hboth HMT
                  obtain ⟨wA, rfl⟩ : ∃ wA : World, wA = wc := ⟨_, rfl⟩
                  have hcv := fun (wz : World) (b : Nat) (h : wz.cell? ⟨b, 0, none⟩ = some (.int .u8 c)) => (run_str1 (P := Try.prog) Try.underlying36 Try.underlying5 Try.underlying9 wz b 1 c h : Sem.run Try.prog (convert 36 9 (.slice (some ⟨b, 0, none⟩) 1 1)) wz = .ok (.string (oneB c)) wz)
                  obtain ⟨xb, hxb⟩ : ∃ xb, (decide (97 ≤ c) && decide (c ≤ 109)) = xb := ⟨_, rfl⟩
                  have HX := Lib.hid (match_yes hc0 hc1); have HY := Lib.hid (match_no hc0 hc1); have HZ := Lib.hid (match_one hc0 hc1)
                  rw [hxb] at HX; rw [hxb] at HY
                  have hone : (oneB c).size ≤ 1 := Nat.le_refl _
                  clear hc0 hc1
                  rcases (show (97 ≤ c ∧ c ≤ 109 ∧ xb = true) ∨ (¬ 97 ≤ c ∧ xb = false) ∨ (97 ≤ c ∧ ¬ c ≤ 109 ∧ xb = false) by
                    rw [← hxb]; simp; omega) with ⟨q1, q2, rfl⟩ | ⟨q1, rfl⟩ | ⟨q1, q2, rfl⟩
                  all_goals
                    clear hxb
                    go_wp2_with fail
                    refine (match_at ⟨#[91, 97, 45, 109, 93]⟩ ⟨#[]⟩ (oneB c) (by decide) (by omega) _ HX.out _).mono ?_; rintro e w2 ⟨rfl, hb⟩
                    have B1 := hbc.trans ((((Below.refl _ _).alloc (Nat.le_refl _) _).trans (hb.mono (by simp))).mono hbc.size); clear hb
                    go_wp2_with fail
                    refine (match_at ⟨#[91, 33, 97, 45, 109, 93]⟩ ⟨#[]⟩ (oneB c) (by decide) (by omega) _ HY.out _).mono ?_; rintro e w3 ⟨rfl, hb⟩
                    have B2 := B1.trans (hb.mono B1.size); clear hb
                    go_wp2_with fail
                    refine (match_at ⟨#[63]⟩ ⟨#[]⟩ (oneB c) (by decide) (by omega) _ HZ.out _).mono ?_; rintro e w4 ⟨rfl, hb⟩
                    have B3 := B2.trans (hb.mono B2.size); clear hb
                    go_wp2_with fail
                    go_ret
                    exact ⟨by first | rfl | (simp; done) | (simp; omega), B3⟩
          · have h5' : ((m.size : Int) != (t.size : Int)) = true := by simp; omega
            go_wp2_with fail
            go_ret
            exact ⟨rfl, S1.2.2⟩
        · have h4' : (30 : Int) < (x.size : Int) := by omega
          go_wp2_with fail
          go_ret
          exact ⟨rfl, S1.2.2⟩
      · have h3' : (30 : Int) < (s.size : Int) := by omega
        go_wp2_with fail
        go_ret
        exact ⟨rfl, S1.2.2⟩
    · have h2' : (20 : Int) < (u.size : Int) := by omega
      go_wp2_with fail
      go_ret
      exact ⟨rfl, S1.2.2⟩
  · have h1' : (20 : Int) < (t.size : Int) := by omega
    go_wp2_with fail
    go_ret
    exact ⟨rfl, S1.2.2⟩
end Go.Proofs.Ytmcaphmgjhkgfaa
