/-
  DERIVED. The walk of the law GlobParts: for every text and pattern it returns true and leaves what was there. (The text is printed by wip/gen_parts.py.)
-/
import Derived.Test.YtmcaphmgjhkgfaaWb
import Derived.Test.YtmcaphmgjhkgfaaRe
namespace Go.Proofs.Ytmcaphmgjhkgfaa
open Go.RowKit Go.Sort Gl
theorem mem_sizes {t m : ByteArray} {S : List Int} {fin : Bool} {k x : Nat} : x ∈ sizesF t m S fin k ↔ x < k ∧ matchF t m (partF S fin x) = true := by
  unfold sizesF; rw [List.mem_filter, List.mem_range]
theorem sizes_pair (t m : ByteArray) (S : List Int) (fin : Bool) (k : Nat) : (sizesF t m S fin k).Pairwise (· < ·) := by
  unfold sizesF; exact List.Pairwise.sublist List.filter_sublist List.pairwise_lt_range
theorem pair_last {l : List Nat} (h : l.Pairwise (· < ·)) {x : Nat} (hx : x ∈ l) : x ≤ l.getLastD 0 := by
  have hne : l ≠ [] := by intro e; subst e; simp at hx
  rw [List.getLastD_eq_getLast?, List.getLast?_eq_some_getLast hne, Option.getD_some]
  obtain ⟨i, hi, rfl⟩ := List.getElem_of_mem hx
  rw [List.getLast_eq_getElem]
  by_cases e : i = l.length - 1
  · subst e; exact Nat.le_refl _
  · exact Nat.le_of_lt (List.pairwise_iff_getElem.1 h i (l.length - 1) hi (by omega) (by omega))
theorem pair_head {l : List Nat} (h : l.Pairwise (· < ·)) {x : Nat} (hx : x ∈ l) : l.headD 0 ≤ x := by
  cases l with
  | nil => simp at hx
  | cons y r =>
    rcases List.mem_cons.1 hx with rfl | hx
    · exact Nat.le_refl _
    · exact Nat.le_of_lt ((List.pairwise_cons.1 h).1 x hx)
theorem cutN_in (t m : ByteArray) (S : List Int) (fin longest : Bool) : sizesF t m S fin (S.length + 1) = [] ∧ cutN t m S fin longest = 0 ∨ cutN t m S fin longest ∈ sizesF t m S fin (S.length + 1) := by
  unfold cutN
  obtain ⟨l, hl⟩ : ∃ l, l = sizesF t m S fin (S.length + 1) := ⟨_, rfl⟩
  rw [← hl]
  cases l with
  | nil => left; cases longest <;> exact ⟨rfl, rfl⟩
  | cons y r =>
    right
    cases longest
    · simp
    · simp only [if_true]; rw [List.getLastD_eq_getLast?, List.getLast?_eq_some_getLast (by simp)]; exact List.getLast_mem _
theorem cutN_le (t m s : ByteArray) (fin longest : Bool) : cutN t m (bl s) fin longest ≤ s.size := by
  rcases cutN_in t m (bl s) fin longest with ⟨_, h⟩ | h
  · omega
  · have := (mem_sizes.1 h).1; rw [bl_length] at this; omega
theorem cutF_size (t m s : ByteArray) (fin longest : Bool) : (cutF t m s fin longest).size + cutN t m (bl s) fin longest ≤ s.size ∧ s.size ≤ (cutF t m s fin longest).size + cutN t m (bl s) fin longest := by
  have := cutN_le t m s fin longest
  unfold cutF
  cases fin <;> simp only [Bool.false_eq_true, if_false, if_true, ByteArray.size_extract] <;> omega
theorem part_long {t m s : ByteArray} {fin : Bool} {i : Nat} (hi : i ≤ s.size) (h : matchF t m (partF (bl s) fin i) = true) : i ≤ cutN t m (bl s) fin true := by
  unfold cutN; exact pair_last (sizes_pair _ _ _ _ _) (mem_sizes.2 ⟨by rw [bl_length]; omega, h⟩)
theorem part_short {t m s : ByteArray} {fin : Bool} {i : Nat} (hi : i ≤ s.size) (h : matchF t m (partF (bl s) fin i) = true) : cutN t m (bl s) fin false ≤ i := by
  unfold cutN; exact pair_head (sizes_pair _ _ _ _ _) (mem_sizes.2 ⟨by rw [bl_length]; omega, h⟩)
theorem part_self {t m s : ByteArray} {fin longest : Bool} (h : matchF t m (partF (bl s) fin (cutN t m (bl s) fin longest)) = false) : cutN t m (bl s) fin longest = 0 := by
  rcases cutN_in t m (bl s) fin longest with ⟨_, h1⟩ | h1
  · exact h1
  · rw [(mem_sizes.1 h1).2] at h; cases h
/-- Has some part matched? -/
def someF (t m : ByteArray) (S : List Int) (fin : Bool) (k : Nat) : Bool := !(sizesF t m S fin k).isEmpty
theorem someF_succ (t m : ByteArray) (S : List Int) (fin : Bool) (k : Nat) : someF t m S fin (k + 1) = (someF t m S fin k || matchF t m (partF S fin k)) := by
  unfold someF; rw [sizesF_succ]
  cases hs : sizesF t m S fin k <;> cases matchF t m (partF S fin k) <;> rfl
theorem someF_end {t m s : ByteArray} {fin longest : Bool} (h : someF t m (bl s) fin (s.size + 1) = false) : cutN t m (bl s) fin longest = 0 := by
  rcases cutN_in t m (bl s) fin longest with ⟨_, h1⟩ | h1
  · exact h1
  · unfold someF at h
    rw [bl_length] at h1
    simp only [Bool.not_eq_false', List.isEmpty_iff] at h
    rw [h] at h1; simp at h1
def PartsRel (t m s : ByteArray) (fin : Bool) (w : World) (g : Nat) (some k : Value) (wr : World) : Prop :=
  ∃ n : Nat, k = .int .i64 n ∧ n ≤ s.size + 1 ∧ some = .bool (someF t m (bl s) fin n) ∧ LawS w t m wr ∧ n + g = s.size + 1
set_option maxRecDepth 100000 in
set_option maxHeartbeats 16000000 in
theorem parts_00 (s : ByteArray) (hs : s.size ≤ maxLen) (t m : ByteArray) (_ht : t.size ≤ maxLen) (_hm : m.size ≤ maxLen) (w : World) :
    Calls Try.prog 6 #[.string s, .agg #[.string t, .string m], .bool false, .bool false] w fun e w' => e = .returned (.bool true) ∧ Below w.heap.size w w' := by
  unfold maxLen at hs
  have S0 := LawS.start w t m
  obtain ⟨N, hN⟩ : ∃ N, N = cutN t m (bl s) false false := ⟨_, rfl⟩
  have hNs := cutN_le t m s false false
  obtain ⟨c, hc⟩ : ∃ c, cutF t m s false false = c := ⟨_, rfl⟩
  have hcs := cutF_size t m s false false
  rw [hc, ← hN] at hcs
  rw [← hN] at hNs
  have hrest : Hid (c = s.extract N s.size) := by unfold Hid; rw [← hc]; unfold cutF; rw [← hN]; rfl
  have HN := Lib.hid hN; have HC := Lib.hid hc; clear hN hc
  obtain ⟨hcs1, hcs2⟩ := hcs
  go_enter Try.func6, Try.ntmps6
  go_wp2_with fail
  refine (awake_any _).mono ?_; rintro e w1 ⟨rfl, hb⟩
  have S1 := S0.next hb; clear S0 hb
  obtain ⟨c0, c1, l0⟩ := S1.facts
  by_cases ht1 : t.size ≤ 30
  · by_cases hs1 : s.size ≤ 60
    · have ht1' : ¬ (30 : Int) < (t.size : Int) := by omega
      have hs1' : ¬ (60 : Int) < (s.size : Int) := by omega
      go_wp2_with fail
      refine (cut_at s t m false false (by omega) (by omega) c HC.out _).mono ?_; rintro e w2 ⟨rfl, hb⟩
      have S2 := S1.next hb; clear S1 hb c0 c1 l0
      go_wp2_with fail
      have hst : Hid (PartsRel t m s false w (s.size + 1) (.bool false) (.int .i64 ((0 : Nat) : Int)) w2) := ⟨0, rfl, Nat.zero_le _, rfl, S2, by omega⟩
      go_loopg [12, 13] (s.size + 1) (fun g sm k wr => PartsRel t m s false w g sm k wr)
      case atStart => exact hst.out
      case round =>
        clear hst S2
        obtain ⟨n, rfl, hn, rfl, S3, hg⟩ := hrel
        obtain ⟨c0, c1, l0⟩ := S3.facts
        have HG := Lib.hid hg; clear hg
        have HSM := Lib.hid (someF_succ t m (bl s) false n)
        obtain ⟨sm, hsm⟩ : ∃ sm, someF t m (bl s) false n = sm := ⟨_, rfl⟩
        rw [hsm] at HSM
        rw [hsm]
        by_cases hl : n ≤ s.size
        · clear hsm
          have hl' : (n : Int) ≤ (s.size : Int) := by omega
          obtain ⟨b, hb⟩ : ∃ b, matchF t m (partF (bl s) false n) = b := ⟨_, rfl⟩
          rw [hb] at HSM
          have HB := Lib.hid hb
          have hself : b = false → n = N → N = 0 := fun h e => by
            have h2 := HN.out
            subst e
            rw [h2] at hb
            rw [h2]; exact part_self (longest := false) (by rw [hb, h])
          have hside : b = true → N ≤ n := fun h => by
            have h1 := part_short (t := t) (m := m) (s := s) (fin := false) hl (by rw [hb, h])
            rw [HN.out]; exact h1
          clear hb
          cases b
          · by_cases hnN : n = N
            · have hN0 := hself rfl hnN
              have hi1 : ((n : Int) == (s.size : Int) - (c.size : Int)) = true := by simp; omega
              have hi2 : ¬ (0 : Int) < (s.size : Int) - (c.size : Int) := by omega
              have HNN := Lib.hid hnN; have HN0 := Lib.hid hN0; clear hnN hN0
              clear hself hside
              cases sm
              all_goals
                go_wp2_with fail
                refine (match_at t m _ (by omega) (by rw [ByteArray.size_extract]; omega) false (by rw [← HB.out, bl_extract]; simp [partF]) _).mono ?_; rintro e w3 ⟨rfl, hb⟩
                have S4 := S3.next hb
                go_wp2_with fail
                go_roundg (s.size - n)
                case measure => have := HG.out; omega
                case rel => exact ⟨n + 1, by go_num, by omega, by rw [HSM.out]; rfl, S4, by omega⟩
            · have hi1 : ((n : Int) == (s.size : Int) - (c.size : Int)) = false := by simp; omega
              clear hself hside
              cases sm
              all_goals
                go_wp2_with fail
                refine (match_at t m _ (by omega) (by rw [ByteArray.size_extract]; omega) false (by rw [← HB.out, bl_extract]; simp [partF]) _).mono ?_; rintro e w3 ⟨rfl, hb⟩
                have S4 := S3.next hb
                go_wp2_with fail
                go_roundg (s.size - n)
                case measure => have := HG.out; omega
                case rel => exact ⟨n + 1, by go_num, by omega, by rw [HSM.out]; rfl, S4, by omega⟩
          · have hsd := hside rfl
            have hi3 : ¬ (n : Int) < (s.size : Int) - (c.size : Int) := by omega
            clear hself hside
            by_cases hnN : n = N
            · have hi1 : ((n : Int) == (s.size : Int) - (c.size : Int)) = true := by simp; omega
              have HNN := Lib.hid hnN
              by_cases hN0 : 0 < N
              · have hi2 : (0 : Int) < (s.size : Int) - (c.size : Int) := by omega
                clear hnN
                cases sm
                all_goals
                  go_wp2_with fail
                  refine (match_at t m _ (by omega) (by rw [ByteArray.size_extract]; omega) true (by rw [← HB.out, bl_extract]; simp [partF]) _).mono ?_; rintro e w3 ⟨rfl, hb⟩
                  have S4 := S3.next hb
                  go_wp2_with fail
                  go_roundg (s.size - n)
                  case measure => have := HG.out; omega
                  case rel => exact ⟨n + 1, by go_num, by omega, by rw [HSM.out]; rfl, S4, by omega⟩
              · have hi2 : ¬ (0 : Int) < (s.size : Int) - (c.size : Int) := by omega
                clear hnN
                cases sm
                all_goals
                  go_wp2_with fail
                  refine (match_at t m _ (by omega) (by rw [ByteArray.size_extract]; omega) true (by rw [← HB.out, bl_extract]; simp [partF]) _).mono ?_; rintro e w3 ⟨rfl, hb⟩
                  have S4 := S3.next hb
                  go_wp2_with fail
                  go_roundg (s.size - n)
                  case measure => have := HG.out; omega
                  case rel => exact ⟨n + 1, by go_num, by omega, by rw [HSM.out]; rfl, S4, by omega⟩
            · have hi1 : ((n : Int) == (s.size : Int) - (c.size : Int)) = false := by simp; omega
              cases sm
              all_goals
                go_wp2_with fail
                refine (match_at t m _ (by omega) (by rw [ByteArray.size_extract]; omega) true (by rw [← HB.out, bl_extract]; simp [partF]) _).mono ?_; rintro e w3 ⟨rfl, hb⟩
                have S4 := S3.next hb
                go_wp2_with fail
                go_roundg (s.size - n)
                case measure => have := HG.out; omega
                case rel => exact ⟨n + 1, by go_num, by omega, by rw [HSM.out]; rfl, S4, by omega⟩
        · obtain rfl : n = s.size + 1 := by omega
          have hz : sm = false → N = 0 := fun h => by rw [HN.out]; exact someF_end (by rw [hsm, h])
          clear hsm
          have hl' : ¬ (s.size : Int) + 1 ≤ (s.size : Int) := by omega
          have hv0 : (0 : Int) ≤ (s.size : Int) - (c.size : Int) := by omega
          have hq : (c.toList == (s.extract (min (max ((s.size : Int) - (c.size : Int)) 0) (s.size : Int)).toNat s.size).toList) = true := by
            rw [show (min (max ((s.size : Int) - (c.size : Int)) 0) (s.size : Int)).toNat = N from by omega, ← hrest.out]; simp
          cases sm
          · have hN0 := hz rfl
            have hvz : ((s.size : Int) - (c.size : Int) == 0) = true := by simp; omega
            clear hz
            go_wp2_with fail
            go_ret
            exact ⟨rfl, S3.2⟩
          · clear hz
            go_wp2_with fail
            go_ret
            exact ⟨rfl, S3.2⟩
    · have ht1' : ¬ (30 : Int) < (t.size : Int) := by omega
      have hs1' : (60 : Int) < (s.size : Int) := by omega
      go_wp2_with fail
      go_ret
      exact ⟨rfl, S1.2⟩
  · have ht1' : (30 : Int) < (t.size : Int) := by omega
    go_wp2_with fail
    go_ret
    exact ⟨rfl, S1.2⟩
set_option maxRecDepth 100000 in
set_option maxHeartbeats 16000000 in
theorem parts_01 (s : ByteArray) (hs : s.size ≤ maxLen) (t m : ByteArray) (_ht : t.size ≤ maxLen) (_hm : m.size ≤ maxLen) (w : World) :
    Calls Try.prog 6 #[.string s, .agg #[.string t, .string m], .bool false, .bool true] w fun e w' => e = .returned (.bool true) ∧ Below w.heap.size w w' := by
  unfold maxLen at hs
  have S0 := LawS.start w t m
  obtain ⟨N, hN⟩ : ∃ N, N = cutN t m (bl s) false true := ⟨_, rfl⟩
  have hNs := cutN_le t m s false true
  obtain ⟨c, hc⟩ : ∃ c, cutF t m s false true = c := ⟨_, rfl⟩
  have hcs := cutF_size t m s false true
  rw [hc, ← hN] at hcs
  rw [← hN] at hNs
  have hrest : Hid (c = s.extract N s.size) := by unfold Hid; rw [← hc]; unfold cutF; rw [← hN]; rfl
  have HN := Lib.hid hN; have HC := Lib.hid hc; clear hN hc
  obtain ⟨hcs1, hcs2⟩ := hcs
  go_enter Try.func6, Try.ntmps6
  go_wp2_with fail
  refine (awake_any _).mono ?_; rintro e w1 ⟨rfl, hb⟩
  have S1 := S0.next hb; clear S0 hb
  obtain ⟨c0, c1, l0⟩ := S1.facts
  by_cases ht1 : t.size ≤ 30
  · by_cases hs1 : s.size ≤ 60
    · have ht1' : ¬ (30 : Int) < (t.size : Int) := by omega
      have hs1' : ¬ (60 : Int) < (s.size : Int) := by omega
      go_wp2_with fail
      refine (cut_at s t m false true (by omega) (by omega) c HC.out _).mono ?_; rintro e w2 ⟨rfl, hb⟩
      have S2 := S1.next hb; clear S1 hb c0 c1 l0
      go_wp2_with fail
      have hst : Hid (PartsRel t m s false w (s.size + 1) (.bool false) (.int .i64 ((0 : Nat) : Int)) w2) := ⟨0, rfl, Nat.zero_le _, rfl, S2, by omega⟩
      go_loopg [12, 13] (s.size + 1) (fun g sm k wr => PartsRel t m s false w g sm k wr)
      case atStart => exact hst.out
      case round =>
        clear hst S2
        obtain ⟨n, rfl, hn, rfl, S3, hg⟩ := hrel
        obtain ⟨c0, c1, l0⟩ := S3.facts
        have HG := Lib.hid hg; clear hg
        have HSM := Lib.hid (someF_succ t m (bl s) false n)
        obtain ⟨sm, hsm⟩ : ∃ sm, someF t m (bl s) false n = sm := ⟨_, rfl⟩
        rw [hsm] at HSM
        rw [hsm]
        by_cases hl : n ≤ s.size
        · clear hsm
          have hl' : (n : Int) ≤ (s.size : Int) := by omega
          obtain ⟨b, hb⟩ : ∃ b, matchF t m (partF (bl s) false n) = b := ⟨_, rfl⟩
          rw [hb] at HSM
          have HB := Lib.hid hb
          have hself : b = false → n = N → N = 0 := fun h e => by
            have h2 := HN.out
            subst e
            rw [h2] at hb
            rw [h2]; exact part_self (longest := true) (by rw [hb, h])
          have hside : b = true → n ≤ N := fun h => by
            have h1 := part_long (t := t) (m := m) (s := s) (fin := false) hl (by rw [hb, h])
            rw [HN.out]; exact h1
          clear hb
          cases b
          · by_cases hnN : n = N
            · have hN0 := hself rfl hnN
              have hi1 : ((n : Int) == (s.size : Int) - (c.size : Int)) = true := by simp; omega
              have hi2 : ¬ (0 : Int) < (s.size : Int) - (c.size : Int) := by omega
              have HNN := Lib.hid hnN; have HN0 := Lib.hid hN0; clear hnN hN0
              clear hself hside
              cases sm
              all_goals
                go_wp2_with fail
                refine (match_at t m _ (by omega) (by rw [ByteArray.size_extract]; omega) false (by rw [← HB.out, bl_extract]; simp [partF]) _).mono ?_; rintro e w3 ⟨rfl, hb⟩
                have S4 := S3.next hb
                go_wp2_with fail
                go_roundg (s.size - n)
                case measure => have := HG.out; omega
                case rel => exact ⟨n + 1, by go_num, by omega, by rw [HSM.out]; rfl, S4, by omega⟩
            · have hi1 : ((n : Int) == (s.size : Int) - (c.size : Int)) = false := by simp; omega
              clear hself hside
              cases sm
              all_goals
                go_wp2_with fail
                refine (match_at t m _ (by omega) (by rw [ByteArray.size_extract]; omega) false (by rw [← HB.out, bl_extract]; simp [partF]) _).mono ?_; rintro e w3 ⟨rfl, hb⟩
                have S4 := S3.next hb
                go_wp2_with fail
                go_roundg (s.size - n)
                case measure => have := HG.out; omega
                case rel => exact ⟨n + 1, by go_num, by omega, by rw [HSM.out]; rfl, S4, by omega⟩
          · have hsd := hside rfl
            have hi3 : ¬ (s.size : Int) - (c.size : Int) < (n : Int) := by omega
            clear hself hside
            by_cases hnN : n = N
            · have hi1 : ((n : Int) == (s.size : Int) - (c.size : Int)) = true := by simp; omega
              have HNN := Lib.hid hnN
              by_cases hN0 : 0 < N
              · have hi2 : (0 : Int) < (s.size : Int) - (c.size : Int) := by omega
                clear hnN
                cases sm
                all_goals
                  go_wp2_with fail
                  refine (match_at t m _ (by omega) (by rw [ByteArray.size_extract]; omega) true (by rw [← HB.out, bl_extract]; simp [partF]) _).mono ?_; rintro e w3 ⟨rfl, hb⟩
                  have S4 := S3.next hb
                  go_wp2_with fail
                  go_roundg (s.size - n)
                  case measure => have := HG.out; omega
                  case rel => exact ⟨n + 1, by go_num, by omega, by rw [HSM.out]; rfl, S4, by omega⟩
              · have hi2 : ¬ (0 : Int) < (s.size : Int) - (c.size : Int) := by omega
                clear hnN
                cases sm
                all_goals
                  go_wp2_with fail
                  refine (match_at t m _ (by omega) (by rw [ByteArray.size_extract]; omega) true (by rw [← HB.out, bl_extract]; simp [partF]) _).mono ?_; rintro e w3 ⟨rfl, hb⟩
                  have S4 := S3.next hb
                  go_wp2_with fail
                  go_roundg (s.size - n)
                  case measure => have := HG.out; omega
                  case rel => exact ⟨n + 1, by go_num, by omega, by rw [HSM.out]; rfl, S4, by omega⟩
            · have hi1 : ((n : Int) == (s.size : Int) - (c.size : Int)) = false := by simp; omega
              cases sm
              all_goals
                go_wp2_with fail
                refine (match_at t m _ (by omega) (by rw [ByteArray.size_extract]; omega) true (by rw [← HB.out, bl_extract]; simp [partF]) _).mono ?_; rintro e w3 ⟨rfl, hb⟩
                have S4 := S3.next hb
                go_wp2_with fail
                go_roundg (s.size - n)
                case measure => have := HG.out; omega
                case rel => exact ⟨n + 1, by go_num, by omega, by rw [HSM.out]; rfl, S4, by omega⟩
        · obtain rfl : n = s.size + 1 := by omega
          have hz : sm = false → N = 0 := fun h => by rw [HN.out]; exact someF_end (by rw [hsm, h])
          clear hsm
          have hl' : ¬ (s.size : Int) + 1 ≤ (s.size : Int) := by omega
          have hv0 : (0 : Int) ≤ (s.size : Int) - (c.size : Int) := by omega
          have hq : (c.toList == (s.extract (min (max ((s.size : Int) - (c.size : Int)) 0) (s.size : Int)).toNat s.size).toList) = true := by
            rw [show (min (max ((s.size : Int) - (c.size : Int)) 0) (s.size : Int)).toNat = N from by omega, ← hrest.out]; simp
          cases sm
          · have hN0 := hz rfl
            have hvz : ((s.size : Int) - (c.size : Int) == 0) = true := by simp; omega
            clear hz
            go_wp2_with fail
            go_ret
            exact ⟨rfl, S3.2⟩
          · clear hz
            go_wp2_with fail
            go_ret
            exact ⟨rfl, S3.2⟩
    · have ht1' : ¬ (30 : Int) < (t.size : Int) := by omega
      have hs1' : (60 : Int) < (s.size : Int) := by omega
      go_wp2_with fail
      go_ret
      exact ⟨rfl, S1.2⟩
  · have ht1' : (30 : Int) < (t.size : Int) := by omega
    go_wp2_with fail
    go_ret
    exact ⟨rfl, S1.2⟩
set_option maxRecDepth 100000 in
set_option maxHeartbeats 16000000 in
theorem parts_10 (s : ByteArray) (hs : s.size ≤ maxLen) (t m : ByteArray) (_ht : t.size ≤ maxLen) (_hm : m.size ≤ maxLen) (w : World) :
    Calls Try.prog 6 #[.string s, .agg #[.string t, .string m], .bool true, .bool false] w fun e w' => e = .returned (.bool true) ∧ Below w.heap.size w w' := by
  unfold maxLen at hs
  have S0 := LawS.start w t m
  obtain ⟨N, hN⟩ : ∃ N, N = cutN t m (bl s) true false := ⟨_, rfl⟩
  have hNs := cutN_le t m s true false
  obtain ⟨c, hc⟩ : ∃ c, cutF t m s true false = c := ⟨_, rfl⟩
  have hcs := cutF_size t m s true false
  rw [hc, ← hN] at hcs
  rw [← hN] at hNs
  have hrest : Hid (c = s.extract 0 (s.size - N)) := by unfold Hid; rw [← hc]; unfold cutF; rw [← hN]; rfl
  have HN := Lib.hid hN; have HC := Lib.hid hc; clear hN hc
  obtain ⟨hcs1, hcs2⟩ := hcs
  go_enter Try.func6, Try.ntmps6
  go_wp2_with fail
  refine (awake_any _).mono ?_; rintro e w1 ⟨rfl, hb⟩
  have S1 := S0.next hb; clear S0 hb
  obtain ⟨c0, c1, l0⟩ := S1.facts
  by_cases ht1 : t.size ≤ 30
  · by_cases hs1 : s.size ≤ 60
    · have ht1' : ¬ (30 : Int) < (t.size : Int) := by omega
      have hs1' : ¬ (60 : Int) < (s.size : Int) := by omega
      go_wp2_with fail
      refine (cut_at s t m true false (by omega) (by omega) c HC.out _).mono ?_; rintro e w2 ⟨rfl, hb⟩
      have S2 := S1.next hb; clear S1 hb c0 c1 l0
      go_wp2_with fail
      have hst : Hid (PartsRel t m s true w (s.size + 1) (.bool false) (.int .i64 ((0 : Nat) : Int)) w2) := ⟨0, rfl, Nat.zero_le _, rfl, S2, by omega⟩
      go_loopg [12, 13] (s.size + 1) (fun g sm k wr => PartsRel t m s true w g sm k wr)
      case atStart => exact hst.out
      case round =>
        clear hst S2
        obtain ⟨n, rfl, hn, rfl, S3, hg⟩ := hrel
        obtain ⟨c0, c1, l0⟩ := S3.facts
        have HG := Lib.hid hg; clear hg
        have HSM := Lib.hid (someF_succ t m (bl s) true n)
        obtain ⟨sm, hsm⟩ : ∃ sm, someF t m (bl s) true n = sm := ⟨_, rfl⟩
        rw [hsm] at HSM
        rw [hsm]
        by_cases hl : n ≤ s.size
        · clear hsm
          have hl' : (n : Int) ≤ (s.size : Int) := by omega
          obtain ⟨b, hb⟩ : ∃ b, matchF t m (partF (bl s) true n) = b := ⟨_, rfl⟩
          rw [hb] at HSM
          have HB := Lib.hid hb
          have hself : b = false → n = N → N = 0 := fun h e => by
            have h2 := HN.out
            subst e
            rw [h2] at hb
            rw [h2]; exact part_self (longest := false) (by rw [hb, h])
          have hside : b = true → N ≤ n := fun h => by
            have h1 := part_short (t := t) (m := m) (s := s) (fin := true) hl (by rw [hb, h])
            rw [HN.out]; exact h1
          clear hb
          cases b
          · by_cases hnN : n = N
            · have hN0 := hself rfl hnN
              have hi1 : ((n : Int) == (s.size : Int) - (c.size : Int)) = true := by simp; omega
              have hi2 : ¬ (0 : Int) < (s.size : Int) - (c.size : Int) := by omega
              have HNN := Lib.hid hnN; have HN0 := Lib.hid hN0; clear hnN hN0
              clear hself hside
              cases sm
              all_goals
                go_wp2_with fail
                refine (match_at t m _ (by omega) (by rw [ByteArray.size_extract]; omega) false (by rw [← HB.out, bl_extract]; simp only [partF, if_true, bl_length]; rw [List.take_of_length_le (by rw [List.length_drop, bl_length]; exact Nat.le_refl _)]) _).mono ?_; rintro e w3 ⟨rfl, hb⟩
                have S4 := S3.next hb
                go_wp2_with fail
                go_roundg (s.size - n)
                case measure => have := HG.out; omega
                case rel => exact ⟨n + 1, by go_num, by omega, by rw [HSM.out]; rfl, S4, by omega⟩
            · have hi1 : ((n : Int) == (s.size : Int) - (c.size : Int)) = false := by simp; omega
              clear hself hside
              cases sm
              all_goals
                go_wp2_with fail
                refine (match_at t m _ (by omega) (by rw [ByteArray.size_extract]; omega) false (by rw [← HB.out, bl_extract]; simp only [partF, if_true, bl_length]; rw [List.take_of_length_le (by rw [List.length_drop, bl_length]; exact Nat.le_refl _)]) _).mono ?_; rintro e w3 ⟨rfl, hb⟩
                have S4 := S3.next hb
                go_wp2_with fail
                go_roundg (s.size - n)
                case measure => have := HG.out; omega
                case rel => exact ⟨n + 1, by go_num, by omega, by rw [HSM.out]; rfl, S4, by omega⟩
          · have hsd := hside rfl
            have hi3 : ¬ (n : Int) < (s.size : Int) - (c.size : Int) := by omega
            clear hself hside
            by_cases hnN : n = N
            · have hi1 : ((n : Int) == (s.size : Int) - (c.size : Int)) = true := by simp; omega
              have HNN := Lib.hid hnN
              by_cases hN0 : 0 < N
              · have hi2 : (0 : Int) < (s.size : Int) - (c.size : Int) := by omega
                clear hnN
                cases sm
                all_goals
                  go_wp2_with fail
                  refine (match_at t m _ (by omega) (by rw [ByteArray.size_extract]; omega) true (by rw [← HB.out, bl_extract]; simp only [partF, if_true, bl_length]; rw [List.take_of_length_le (by rw [List.length_drop, bl_length]; exact Nat.le_refl _)]) _).mono ?_; rintro e w3 ⟨rfl, hb⟩
                  have S4 := S3.next hb
                  go_wp2_with fail
                  go_roundg (s.size - n)
                  case measure => have := HG.out; omega
                  case rel => exact ⟨n + 1, by go_num, by omega, by rw [HSM.out]; rfl, S4, by omega⟩
              · have hi2 : ¬ (0 : Int) < (s.size : Int) - (c.size : Int) := by omega
                clear hnN
                cases sm
                all_goals
                  go_wp2_with fail
                  refine (match_at t m _ (by omega) (by rw [ByteArray.size_extract]; omega) true (by rw [← HB.out, bl_extract]; simp only [partF, if_true, bl_length]; rw [List.take_of_length_le (by rw [List.length_drop, bl_length]; exact Nat.le_refl _)]) _).mono ?_; rintro e w3 ⟨rfl, hb⟩
                  have S4 := S3.next hb
                  go_wp2_with fail
                  go_roundg (s.size - n)
                  case measure => have := HG.out; omega
                  case rel => exact ⟨n + 1, by go_num, by omega, by rw [HSM.out]; rfl, S4, by omega⟩
            · have hi1 : ((n : Int) == (s.size : Int) - (c.size : Int)) = false := by simp; omega
              cases sm
              all_goals
                go_wp2_with fail
                refine (match_at t m _ (by omega) (by rw [ByteArray.size_extract]; omega) true (by rw [← HB.out, bl_extract]; simp only [partF, if_true, bl_length]; rw [List.take_of_length_le (by rw [List.length_drop, bl_length]; exact Nat.le_refl _)]) _).mono ?_; rintro e w3 ⟨rfl, hb⟩
                have S4 := S3.next hb
                go_wp2_with fail
                go_roundg (s.size - n)
                case measure => have := HG.out; omega
                case rel => exact ⟨n + 1, by go_num, by omega, by rw [HSM.out]; rfl, S4, by omega⟩
        · obtain rfl : n = s.size + 1 := by omega
          have hz : sm = false → N = 0 := fun h => by rw [HN.out]; exact someF_end (by rw [hsm, h])
          clear hsm
          have hl' : ¬ (s.size : Int) + 1 ≤ (s.size : Int) := by omega
          have hv0 : (0 : Int) ≤ (s.size : Int) - (c.size : Int) := by omega
          have hq : (c.toList == (s.extract 0 (max ((s.size : Int) - ((s.size : Int) - (c.size : Int))) 0).toNat).toList) = true := by
            rw [show (max ((s.size : Int) - ((s.size : Int) - (c.size : Int))) 0).toNat = s.size - N from by omega, ← hrest.out]; simp
          cases sm
          · have hN0 := hz rfl
            have hvz : ((s.size : Int) - (c.size : Int) == 0) = true := by simp; omega
            clear hz
            go_wp2_with fail
            go_ret
            exact ⟨rfl, S3.2⟩
          · clear hz
            go_wp2_with fail
            go_ret
            exact ⟨rfl, S3.2⟩
    · have ht1' : ¬ (30 : Int) < (t.size : Int) := by omega
      have hs1' : (60 : Int) < (s.size : Int) := by omega
      go_wp2_with fail
      go_ret
      exact ⟨rfl, S1.2⟩
  · have ht1' : (30 : Int) < (t.size : Int) := by omega
    go_wp2_with fail
    go_ret
    exact ⟨rfl, S1.2⟩
set_option maxRecDepth 100000 in
set_option maxHeartbeats 16000000 in
theorem parts_11 (s : ByteArray) (hs : s.size ≤ maxLen) (t m : ByteArray) (_ht : t.size ≤ maxLen) (_hm : m.size ≤ maxLen) (w : World) :
    Calls Try.prog 6 #[.string s, .agg #[.string t, .string m], .bool true, .bool true] w fun e w' => e = .returned (.bool true) ∧ Below w.heap.size w w' := by
  unfold maxLen at hs
  have S0 := LawS.start w t m
  obtain ⟨N, hN⟩ : ∃ N, N = cutN t m (bl s) true true := ⟨_, rfl⟩
  have hNs := cutN_le t m s true true
  obtain ⟨c, hc⟩ : ∃ c, cutF t m s true true = c := ⟨_, rfl⟩
  have hcs := cutF_size t m s true true
  rw [hc, ← hN] at hcs
  rw [← hN] at hNs
  have hrest : Hid (c = s.extract 0 (s.size - N)) := by unfold Hid; rw [← hc]; unfold cutF; rw [← hN]; rfl
  have HN := Lib.hid hN; have HC := Lib.hid hc; clear hN hc
  obtain ⟨hcs1, hcs2⟩ := hcs
  go_enter Try.func6, Try.ntmps6
  go_wp2_with fail
  refine (awake_any _).mono ?_; rintro e w1 ⟨rfl, hb⟩
  have S1 := S0.next hb; clear S0 hb
  obtain ⟨c0, c1, l0⟩ := S1.facts
  by_cases ht1 : t.size ≤ 30
  · by_cases hs1 : s.size ≤ 60
    · have ht1' : ¬ (30 : Int) < (t.size : Int) := by omega
      have hs1' : ¬ (60 : Int) < (s.size : Int) := by omega
      go_wp2_with fail
      refine (cut_at s t m true true (by omega) (by omega) c HC.out _).mono ?_; rintro e w2 ⟨rfl, hb⟩
      have S2 := S1.next hb; clear S1 hb c0 c1 l0
      go_wp2_with fail
      have hst : Hid (PartsRel t m s true w (s.size + 1) (.bool false) (.int .i64 ((0 : Nat) : Int)) w2) := ⟨0, rfl, Nat.zero_le _, rfl, S2, by omega⟩
      go_loopg [12, 13] (s.size + 1) (fun g sm k wr => PartsRel t m s true w g sm k wr)
      case atStart => exact hst.out
      case round =>
        clear hst S2
        obtain ⟨n, rfl, hn, rfl, S3, hg⟩ := hrel
        obtain ⟨c0, c1, l0⟩ := S3.facts
        have HG := Lib.hid hg; clear hg
        have HSM := Lib.hid (someF_succ t m (bl s) true n)
        obtain ⟨sm, hsm⟩ : ∃ sm, someF t m (bl s) true n = sm := ⟨_, rfl⟩
        rw [hsm] at HSM
        rw [hsm]
        by_cases hl : n ≤ s.size
        · clear hsm
          have hl' : (n : Int) ≤ (s.size : Int) := by omega
          obtain ⟨b, hb⟩ : ∃ b, matchF t m (partF (bl s) true n) = b := ⟨_, rfl⟩
          rw [hb] at HSM
          have HB := Lib.hid hb
          have hself : b = false → n = N → N = 0 := fun h e => by
            have h2 := HN.out
            subst e
            rw [h2] at hb
            rw [h2]; exact part_self (longest := true) (by rw [hb, h])
          have hside : b = true → n ≤ N := fun h => by
            have h1 := part_long (t := t) (m := m) (s := s) (fin := true) hl (by rw [hb, h])
            rw [HN.out]; exact h1
          clear hb
          cases b
          · by_cases hnN : n = N
            · have hN0 := hself rfl hnN
              have hi1 : ((n : Int) == (s.size : Int) - (c.size : Int)) = true := by simp; omega
              have hi2 : ¬ (0 : Int) < (s.size : Int) - (c.size : Int) := by omega
              have HNN := Lib.hid hnN; have HN0 := Lib.hid hN0; clear hnN hN0
              clear hself hside
              cases sm
              all_goals
                go_wp2_with fail
                refine (match_at t m _ (by omega) (by rw [ByteArray.size_extract]; omega) false (by rw [← HB.out, bl_extract]; simp only [partF, if_true, bl_length]; rw [List.take_of_length_le (by rw [List.length_drop, bl_length]; exact Nat.le_refl _)]) _).mono ?_; rintro e w3 ⟨rfl, hb⟩
                have S4 := S3.next hb
                go_wp2_with fail
                go_roundg (s.size - n)
                case measure => have := HG.out; omega
                case rel => exact ⟨n + 1, by go_num, by omega, by rw [HSM.out]; rfl, S4, by omega⟩
            · have hi1 : ((n : Int) == (s.size : Int) - (c.size : Int)) = false := by simp; omega
              clear hself hside
              cases sm
              all_goals
                go_wp2_with fail
                refine (match_at t m _ (by omega) (by rw [ByteArray.size_extract]; omega) false (by rw [← HB.out, bl_extract]; simp only [partF, if_true, bl_length]; rw [List.take_of_length_le (by rw [List.length_drop, bl_length]; exact Nat.le_refl _)]) _).mono ?_; rintro e w3 ⟨rfl, hb⟩
                have S4 := S3.next hb
                go_wp2_with fail
                go_roundg (s.size - n)
                case measure => have := HG.out; omega
                case rel => exact ⟨n + 1, by go_num, by omega, by rw [HSM.out]; rfl, S4, by omega⟩
          · have hsd := hside rfl
            have hi3 : ¬ (s.size : Int) - (c.size : Int) < (n : Int) := by omega
            clear hself hside
            by_cases hnN : n = N
            · have hi1 : ((n : Int) == (s.size : Int) - (c.size : Int)) = true := by simp; omega
              have HNN := Lib.hid hnN
              by_cases hN0 : 0 < N
              · have hi2 : (0 : Int) < (s.size : Int) - (c.size : Int) := by omega
                clear hnN
                cases sm
                all_goals
                  go_wp2_with fail
                  refine (match_at t m _ (by omega) (by rw [ByteArray.size_extract]; omega) true (by rw [← HB.out, bl_extract]; simp only [partF, if_true, bl_length]; rw [List.take_of_length_le (by rw [List.length_drop, bl_length]; exact Nat.le_refl _)]) _).mono ?_; rintro e w3 ⟨rfl, hb⟩
                  have S4 := S3.next hb
                  go_wp2_with fail
                  go_roundg (s.size - n)
                  case measure => have := HG.out; omega
                  case rel => exact ⟨n + 1, by go_num, by omega, by rw [HSM.out]; rfl, S4, by omega⟩
              · have hi2 : ¬ (0 : Int) < (s.size : Int) - (c.size : Int) := by omega
                clear hnN
                cases sm
                all_goals
                  go_wp2_with fail
                  refine (match_at t m _ (by omega) (by rw [ByteArray.size_extract]; omega) true (by rw [← HB.out, bl_extract]; simp only [partF, if_true, bl_length]; rw [List.take_of_length_le (by rw [List.length_drop, bl_length]; exact Nat.le_refl _)]) _).mono ?_; rintro e w3 ⟨rfl, hb⟩
                  have S4 := S3.next hb
                  go_wp2_with fail
                  go_roundg (s.size - n)
                  case measure => have := HG.out; omega
                  case rel => exact ⟨n + 1, by go_num, by omega, by rw [HSM.out]; rfl, S4, by omega⟩
            · have hi1 : ((n : Int) == (s.size : Int) - (c.size : Int)) = false := by simp; omega
              cases sm
              all_goals
                go_wp2_with fail
                refine (match_at t m _ (by omega) (by rw [ByteArray.size_extract]; omega) true (by rw [← HB.out, bl_extract]; simp only [partF, if_true, bl_length]; rw [List.take_of_length_le (by rw [List.length_drop, bl_length]; exact Nat.le_refl _)]) _).mono ?_; rintro e w3 ⟨rfl, hb⟩
                have S4 := S3.next hb
                go_wp2_with fail
                go_roundg (s.size - n)
                case measure => have := HG.out; omega
                case rel => exact ⟨n + 1, by go_num, by omega, by rw [HSM.out]; rfl, S4, by omega⟩
        · obtain rfl : n = s.size + 1 := by omega
          have hz : sm = false → N = 0 := fun h => by rw [HN.out]; exact someF_end (by rw [hsm, h])
          clear hsm
          have hl' : ¬ (s.size : Int) + 1 ≤ (s.size : Int) := by omega
          have hv0 : (0 : Int) ≤ (s.size : Int) - (c.size : Int) := by omega
          have hq : (c.toList == (s.extract 0 (max ((s.size : Int) - ((s.size : Int) - (c.size : Int))) 0).toNat).toList) = true := by
            rw [show (max ((s.size : Int) - ((s.size : Int) - (c.size : Int))) 0).toNat = s.size - N from by omega, ← hrest.out]; simp
          cases sm
          · have hN0 := hz rfl
            have hvz : ((s.size : Int) - (c.size : Int) == 0) = true := by simp; omega
            clear hz
            go_wp2_with fail
            go_ret
            exact ⟨rfl, S3.2⟩
          · clear hz
            go_wp2_with fail
            go_ret
            exact ⟨rfl, S3.2⟩
    · have ht1' : ¬ (30 : Int) < (t.size : Int) := by omega
      have hs1' : (60 : Int) < (s.size : Int) := by omega
      go_wp2_with fail
      go_ret
      exact ⟨rfl, S1.2⟩
  · have ht1' : (30 : Int) < (t.size : Int) := by omega
    go_wp2_with fail
    go_ret
    exact ⟨rfl, S1.2⟩
theorem law_parts (s : ByteArray) (hs : s.size ≤ maxLen) (t m : ByteArray) (ht : t.size ≤ maxLen) (hm : m.size ≤ maxLen) (fin longest : Bool) (w : World) :
    Calls Try.prog 6 #[.string s, .agg #[.string t, .string m], .bool fin, .bool longest] w fun e w' => e = .returned (.bool true) ∧ Below w.heap.size w w' := by
  cases fin <;> cases longest
  · exact parts_00 s hs t m ht hm w
  · exact parts_01 s hs t m ht hm w
  · exact parts_10 s hs t m ht hm w
  · exact parts_11 s hs t m ht hm w
end Go.Proofs.Ytmcaphmgjhkgfaa
