/-
  DERIVED. The walk of the document's Cut. (The text is printed by wip/gen_rcut.py.)
-/
import Derived.Test.YtmcaphmgjhkgfaaDoorGg
import Derived.Test.YtmcaphmgjhkgfaaDoorRd
namespace Go.Proofs.YtmcaphmgjhkgfaaDoor
open Go.RowKit Gl
def bestF (t m : ByteArray) (S : List Int) (fin longest : Bool) (k : Nat) : Int :=
  match sizesF t m S fin k with
  | [] => -1
  | x :: r => if longest then (((x :: r).getLastD 0 : Nat) : Int) else (x : Int)
theorem bestF_no {t m : ByteArray} {S : List Int} {fin longest : Bool} {k : Nat} (h : matchF t m (partF S fin k) = false) : bestF t m S fin longest (k + 1) = bestF t m S fin longest k := by
  unfold bestF; rw [sizesF_succ, h]; simp
theorem bestF_yes {t m : ByteArray} {S : List Int} {fin longest : Bool} {k : Nat} (h : matchF t m (partF S fin k) = true) :
    bestF t m S fin longest (k + 1) = if decide (bestF t m S fin longest k < 0) || longest then (k : Int) else bestF t m S fin longest k := by
  unfold bestF; rw [sizesF_succ, h]
  cases hs : sizesF t m S fin k with
  | nil => simp
  | cons x r =>
    cases longest
    · simp; omega
    · simp only [List.cons_append, Bool.or_true, if_true]
      rw [← List.cons_append, List.getLastD_concat]
theorem bestF_range (t m : ByteArray) (S : List Int) (fin longest : Bool) (k : Nat) : bestF t m S fin longest k = -1 ∨ (0 ≤ bestF t m S fin longest k ∧ bestF t m S fin longest k < k) := by
  unfold bestF
  cases hs : sizesF t m S fin k with
  | nil => left; rfl
  | cons x r =>
    right
    cases longest
    · have := sizes_mem (t := t) (m := m) (S := S) (fin := fin) (k := k) (x := x) (by rw [hs]; simp)
      simp; omega
    · have := sizes_mem (t := t) (m := m) (S := S) (fin := fin) (k := k) (x := (x :: r).getLastD 0) (by rw [hs, List.getLastD_eq_getLast?, List.getLast?_eq_some_getLast (by simp)]; exact List.getLast_mem _)
      simp only [if_true]; omega
theorem cut_none {t m s : ByteArray} {fin longest : Bool} (h : bestF t m (bl s) fin longest (s.size + 1) < 0) : cutF t m s fin longest = s := by
  have hn : cutN t m (bl s) fin longest = 0 := by
    unfold cutN bestF at *
    rw [bl_length]
    cases hs : sizesF t m (bl s) fin (s.size + 1) with
    | nil => cases longest <;> rfl
    | cons x r => rw [hs] at h; cases longest <;> simp at h <;> omega
  unfold cutF; rw [hn]; cases fin
  · exact extract_all s
  · exact extract_all s
theorem cut_some {t m s : ByteArray} {fin longest : Bool} {x : Nat} (h : bestF t m (bl s) fin longest (s.size + 1) = (x : Int)) : cutF t m s fin longest = if fin then s.extract 0 (s.size - x) else s.extract x s.size := by
  have hn : cutN t m (bl s) fin longest = x := by
    unfold cutN bestF at *
    rw [bl_length]
    cases hs : sizesF t m (bl s) fin (s.size + 1) with
    | nil => rw [hs] at h; simp at h
    | cons y r => rw [hs] at h; cases longest <;> simp at h ⊢ <;> omega
  unfold cutF; rw [hn]
theorem rmatch_at (t m s : ByteArray) (ht : t.size ≤ 1000000000) (hs : s.size ≤ 1000000000) (b : Bool) (h : matchF t m (bl s) = b) (w : World) :
    Calls Tryd.prog 24 #[.string t, .string m, .int .i64 0, .string s] w fun e w' => e = .returned (.bool b) ∧ Below w.heap.size w w' := by
  subst h; exact rmatch_any t m s ht hs w
def RCutRel (t m : ByteArray) (S : List Int) (N : Nat) (fin longest : Bool) (w : World) (g : Nat) (best k : Value) (wr : World) : Prop :=
  ∃ (n : Nat) (z : Int), k = .int .i64 n ∧ n ≤ N + 1 ∧ best = .int .i64 z ∧ Hid (z = bestF t m S fin longest n) ∧ -1 ≤ z ∧ z < n ∧ Below w.heap.size w wr ∧ n + g = N + 1
set_option maxRecDepth 100000 in
set_option maxHeartbeats 4000000 in
theorem rcut_00 (s t m : ByteArray) (ht : t.size ≤ 1000000000) (hs : s.size ≤ 1000000000) (w : World) :
    Calls Tryd.prog 19 #[.string s, .string t, .string m, .bool false, .bool false] w fun e w' => e = .returned (.string (cutF t m s false false)) ∧ Below w.heap.size w w' := by
  go_enter Tryd.func19, Tryd.ntmps19
  go_wp2_with fail
  go_loopg [11, 12] (s.size + 1) (fun g b k wr => RCutRel t m (bl s) s.size false false w g b k wr)
  case atStart => exact ⟨0, -1, rfl, Nat.zero_le _, rfl, rfl, by omega, by omega, Below.refl _ _, by omega⟩
  case round =>
    obtain ⟨n, z, rfl, hn, rfl, HZ, hz1, hz2, hbel, hg⟩ := hrel
    have HG := Lib.hid hg; clear hg
    by_cases hl : n < s.size + 1
    · have hci : (n : Int) ≤ (s.size : Int) := by omega
      obtain ⟨b, hb⟩ : ∃ b, matchF t m (partF (bl s) false n) = b := ⟨_, rfl⟩
      have HB := Lib.hid hb; clear hb
      cases b
      · go_wp2_with fail
        refine (rmatch_at t m _ ht (by rw [ByteArray.size_extract]; omega) false (by rw [← HB.out, bl_extract]; simp [partF]) _).mono ?_; rintro e w2 ⟨rfl, hk⟩
        go_wp2_with fail
        go_roundg (s.size - n)
        case measure => have := HG.out; omega
        case rel => exact ⟨n + 1, z, by go_num, by omega, rfl, by unfold Hid; rw [HZ.out, bestF_no HB.out], by omega, by omega, hbel.trans (hk.mono hbel.size), by omega⟩
      · by_cases hz0 : z < 0
        · go_wp2_with fail
          refine (rmatch_at t m _ ht (by rw [ByteArray.size_extract]; omega) true (by rw [← HB.out, bl_extract]; simp [partF]) _).mono ?_; rintro e w2 ⟨rfl, hk⟩
          go_wp2_with fail
          go_roundg (s.size - n)
          case measure => have := HG.out; omega
          case rel => exact ⟨n + 1, n, by go_num, by omega, rfl, by unfold Hid; rw [bestF_yes HB.out, ← HZ.out, if_pos (by simp [hz0])], by omega, by omega, hbel.trans (hk.mono hbel.size), by omega⟩
        · go_wp2_with fail
          refine (rmatch_at t m _ ht (by rw [ByteArray.size_extract]; omega) true (by rw [← HB.out, bl_extract]; simp [partF]) _).mono ?_; rintro e w2 ⟨rfl, hk⟩
          go_wp2_with fail
          go_roundg (s.size - n)
          case measure => have := HG.out; omega
          case rel => exact ⟨n + 1, z, by go_num, by omega, rfl, by unfold Hid; rw [bestF_yes HB.out, ← HZ.out, if_neg (by simp; omega)], by omega, by omega, hbel.trans (hk.mono hbel.size), by omega⟩
    · obtain rfl : n = s.size + 1 := by omega
      have hci : (s.size : Int) < (s.size : Int) + 1 := by omega
      by_cases hz0 : z < 0
      · go_wp2_with fail
        go_ret
        exact ⟨by rw [cut_none (by rw [← HZ.out]; exact hz0)]; rfl, hbel⟩
      · obtain ⟨x, rfl⟩ := Int.eq_ofNat_of_zero_le (show 0 ≤ z by omega)
        have HS := Lib.hid (cut_some HZ.out.symm)
        have hx : x ≤ s.size := by omega
        go_wp2_with fail
        go_ret
        exact ⟨by rw [HS.out]; rfl, hbel⟩
set_option maxRecDepth 100000 in
set_option maxHeartbeats 4000000 in
theorem rcut_01 (s t m : ByteArray) (ht : t.size ≤ 1000000000) (hs : s.size ≤ 1000000000) (w : World) :
    Calls Tryd.prog 19 #[.string s, .string t, .string m, .bool false, .bool true] w fun e w' => e = .returned (.string (cutF t m s false true)) ∧ Below w.heap.size w w' := by
  go_enter Tryd.func19, Tryd.ntmps19
  go_wp2_with fail
  go_loopg [11, 12] (s.size + 1) (fun g b k wr => RCutRel t m (bl s) s.size false true w g b k wr)
  case atStart => exact ⟨0, -1, rfl, Nat.zero_le _, rfl, rfl, by omega, by omega, Below.refl _ _, by omega⟩
  case round =>
    obtain ⟨n, z, rfl, hn, rfl, HZ, hz1, hz2, hbel, hg⟩ := hrel
    have HG := Lib.hid hg; clear hg
    by_cases hl : n < s.size + 1
    · have hci : (n : Int) ≤ (s.size : Int) := by omega
      obtain ⟨b, hb⟩ : ∃ b, matchF t m (partF (bl s) false n) = b := ⟨_, rfl⟩
      have HB := Lib.hid hb; clear hb
      cases b
      · go_wp2_with fail
        refine (rmatch_at t m _ ht (by rw [ByteArray.size_extract]; omega) false (by rw [← HB.out, bl_extract]; simp [partF]) _).mono ?_; rintro e w2 ⟨rfl, hk⟩
        go_wp2_with fail
        go_roundg (s.size - n)
        case measure => have := HG.out; omega
        case rel => exact ⟨n + 1, z, by go_num, by omega, rfl, by unfold Hid; rw [HZ.out, bestF_no HB.out], by omega, by omega, hbel.trans (hk.mono hbel.size), by omega⟩
      · by_cases hz0 : z < 0
        · go_wp2_with fail
          refine (rmatch_at t m _ ht (by rw [ByteArray.size_extract]; omega) true (by rw [← HB.out, bl_extract]; simp [partF]) _).mono ?_; rintro e w2 ⟨rfl, hk⟩
          go_wp2_with fail
          go_roundg (s.size - n)
          case measure => have := HG.out; omega
          case rel => exact ⟨n + 1, n, by go_num, by omega, rfl, by unfold Hid; rw [bestF_yes HB.out, ← HZ.out, if_pos (by simp [hz0])], by omega, by omega, hbel.trans (hk.mono hbel.size), by omega⟩
        · go_wp2_with fail
          refine (rmatch_at t m _ ht (by rw [ByteArray.size_extract]; omega) true (by rw [← HB.out, bl_extract]; simp [partF]) _).mono ?_; rintro e w2 ⟨rfl, hk⟩
          go_wp2_with fail
          go_roundg (s.size - n)
          case measure => have := HG.out; omega
          case rel => exact ⟨n + 1, n, by go_num, by omega, rfl, by unfold Hid; rw [bestF_yes HB.out, if_pos (by simp)], by omega, by omega, hbel.trans (hk.mono hbel.size), by omega⟩
    · obtain rfl : n = s.size + 1 := by omega
      have hci : (s.size : Int) < (s.size : Int) + 1 := by omega
      by_cases hz0 : z < 0
      · go_wp2_with fail
        go_ret
        exact ⟨by rw [cut_none (by rw [← HZ.out]; exact hz0)]; rfl, hbel⟩
      · obtain ⟨x, rfl⟩ := Int.eq_ofNat_of_zero_le (show 0 ≤ z by omega)
        have HS := Lib.hid (cut_some HZ.out.symm)
        have hx : x ≤ s.size := by omega
        go_wp2_with fail
        go_ret
        exact ⟨by rw [HS.out]; rfl, hbel⟩
set_option maxRecDepth 100000 in
set_option maxHeartbeats 4000000 in
theorem rcut_10 (s t m : ByteArray) (ht : t.size ≤ 1000000000) (hs : s.size ≤ 1000000000) (w : World) :
    Calls Tryd.prog 19 #[.string s, .string t, .string m, .bool true, .bool false] w fun e w' => e = .returned (.string (cutF t m s true false)) ∧ Below w.heap.size w w' := by
  go_enter Tryd.func19, Tryd.ntmps19
  go_wp2_with fail
  go_loopg [11, 12] (s.size + 1) (fun g b k wr => RCutRel t m (bl s) s.size true false w g b k wr)
  case atStart => exact ⟨0, -1, rfl, Nat.zero_le _, rfl, rfl, by omega, by omega, Below.refl _ _, by omega⟩
  case round =>
    obtain ⟨n, z, rfl, hn, rfl, HZ, hz1, hz2, hbel, hg⟩ := hrel
    have HG := Lib.hid hg; clear hg
    by_cases hl : n < s.size + 1
    · have hci : (n : Int) ≤ (s.size : Int) := by omega
      obtain ⟨b, hb⟩ : ∃ b, matchF t m (partF (bl s) true n) = b := ⟨_, rfl⟩
      have HB := Lib.hid hb; clear hb
      cases b
      · go_wp2_with fail
        refine (rmatch_at t m _ ht (by rw [ByteArray.size_extract]; omega) false (by rw [← HB.out, bl_extract]; simp only [partF, if_true, bl_length]; rw [List.take_of_length_le (by rw [List.length_drop, bl_length]; exact Nat.le_refl _)]) _).mono ?_; rintro e w2 ⟨rfl, hk⟩
        go_wp2_with fail
        go_roundg (s.size - n)
        case measure => have := HG.out; omega
        case rel => exact ⟨n + 1, z, by go_num, by omega, rfl, by unfold Hid; rw [HZ.out, bestF_no HB.out], by omega, by omega, hbel.trans (hk.mono hbel.size), by omega⟩
      · by_cases hz0 : z < 0
        · go_wp2_with fail
          refine (rmatch_at t m _ ht (by rw [ByteArray.size_extract]; omega) true (by rw [← HB.out, bl_extract]; simp only [partF, if_true, bl_length]; rw [List.take_of_length_le (by rw [List.length_drop, bl_length]; exact Nat.le_refl _)]) _).mono ?_; rintro e w2 ⟨rfl, hk⟩
          go_wp2_with fail
          go_roundg (s.size - n)
          case measure => have := HG.out; omega
          case rel => exact ⟨n + 1, n, by go_num, by omega, rfl, by unfold Hid; rw [bestF_yes HB.out, ← HZ.out, if_pos (by simp [hz0])], by omega, by omega, hbel.trans (hk.mono hbel.size), by omega⟩
        · go_wp2_with fail
          refine (rmatch_at t m _ ht (by rw [ByteArray.size_extract]; omega) true (by rw [← HB.out, bl_extract]; simp only [partF, if_true, bl_length]; rw [List.take_of_length_le (by rw [List.length_drop, bl_length]; exact Nat.le_refl _)]) _).mono ?_; rintro e w2 ⟨rfl, hk⟩
          go_wp2_with fail
          go_roundg (s.size - n)
          case measure => have := HG.out; omega
          case rel => exact ⟨n + 1, z, by go_num, by omega, rfl, by unfold Hid; rw [bestF_yes HB.out, ← HZ.out, if_neg (by simp; omega)], by omega, by omega, hbel.trans (hk.mono hbel.size), by omega⟩
    · obtain rfl : n = s.size + 1 := by omega
      have hci : (s.size : Int) < (s.size : Int) + 1 := by omega
      by_cases hz0 : z < 0
      · go_wp2_with fail
        go_ret
        exact ⟨by rw [cut_none (by rw [← HZ.out]; exact hz0)]; rfl, hbel⟩
      · obtain ⟨x, rfl⟩ := Int.eq_ofNat_of_zero_le (show 0 ≤ z by omega)
        have HS := Lib.hid (cut_some HZ.out.symm)
        have hx : x ≤ s.size := by omega
        go_wp2_with fail
        go_ret
        exact ⟨by rw [HS.out]; rfl, hbel⟩
set_option maxRecDepth 100000 in
set_option maxHeartbeats 4000000 in
theorem rcut_11 (s t m : ByteArray) (ht : t.size ≤ 1000000000) (hs : s.size ≤ 1000000000) (w : World) :
    Calls Tryd.prog 19 #[.string s, .string t, .string m, .bool true, .bool true] w fun e w' => e = .returned (.string (cutF t m s true true)) ∧ Below w.heap.size w w' := by
  go_enter Tryd.func19, Tryd.ntmps19
  go_wp2_with fail
  go_loopg [11, 12] (s.size + 1) (fun g b k wr => RCutRel t m (bl s) s.size true true w g b k wr)
  case atStart => exact ⟨0, -1, rfl, Nat.zero_le _, rfl, rfl, by omega, by omega, Below.refl _ _, by omega⟩
  case round =>
    obtain ⟨n, z, rfl, hn, rfl, HZ, hz1, hz2, hbel, hg⟩ := hrel
    have HG := Lib.hid hg; clear hg
    by_cases hl : n < s.size + 1
    · have hci : (n : Int) ≤ (s.size : Int) := by omega
      obtain ⟨b, hb⟩ : ∃ b, matchF t m (partF (bl s) true n) = b := ⟨_, rfl⟩
      have HB := Lib.hid hb; clear hb
      cases b
      · go_wp2_with fail
        refine (rmatch_at t m _ ht (by rw [ByteArray.size_extract]; omega) false (by rw [← HB.out, bl_extract]; simp only [partF, if_true, bl_length]; rw [List.take_of_length_le (by rw [List.length_drop, bl_length]; exact Nat.le_refl _)]) _).mono ?_; rintro e w2 ⟨rfl, hk⟩
        go_wp2_with fail
        go_roundg (s.size - n)
        case measure => have := HG.out; omega
        case rel => exact ⟨n + 1, z, by go_num, by omega, rfl, by unfold Hid; rw [HZ.out, bestF_no HB.out], by omega, by omega, hbel.trans (hk.mono hbel.size), by omega⟩
      · by_cases hz0 : z < 0
        · go_wp2_with fail
          refine (rmatch_at t m _ ht (by rw [ByteArray.size_extract]; omega) true (by rw [← HB.out, bl_extract]; simp only [partF, if_true, bl_length]; rw [List.take_of_length_le (by rw [List.length_drop, bl_length]; exact Nat.le_refl _)]) _).mono ?_; rintro e w2 ⟨rfl, hk⟩
          go_wp2_with fail
          go_roundg (s.size - n)
          case measure => have := HG.out; omega
          case rel => exact ⟨n + 1, n, by go_num, by omega, rfl, by unfold Hid; rw [bestF_yes HB.out, ← HZ.out, if_pos (by simp [hz0])], by omega, by omega, hbel.trans (hk.mono hbel.size), by omega⟩
        · go_wp2_with fail
          refine (rmatch_at t m _ ht (by rw [ByteArray.size_extract]; omega) true (by rw [← HB.out, bl_extract]; simp only [partF, if_true, bl_length]; rw [List.take_of_length_le (by rw [List.length_drop, bl_length]; exact Nat.le_refl _)]) _).mono ?_; rintro e w2 ⟨rfl, hk⟩
          go_wp2_with fail
          go_roundg (s.size - n)
          case measure => have := HG.out; omega
          case rel => exact ⟨n + 1, n, by go_num, by omega, rfl, by unfold Hid; rw [bestF_yes HB.out, if_pos (by simp)], by omega, by omega, hbel.trans (hk.mono hbel.size), by omega⟩
    · obtain rfl : n = s.size + 1 := by omega
      have hci : (s.size : Int) < (s.size : Int) + 1 := by omega
      by_cases hz0 : z < 0
      · go_wp2_with fail
        go_ret
        exact ⟨by rw [cut_none (by rw [← HZ.out]; exact hz0)]; rfl, hbel⟩
      · obtain ⟨x, rfl⟩ := Int.eq_ofNat_of_zero_le (show 0 ≤ z by omega)
        have HS := Lib.hid (cut_some HZ.out.symm)
        have hx : x ≤ s.size := by omega
        go_wp2_with fail
        go_ret
        exact ⟨by rw [HS.out]; rfl, hbel⟩
theorem rcut_any (s t m : ByteArray) (fin longest : Bool) (ht : t.size ≤ 1000000000) (hs : s.size ≤ 1000000000) (w : World) :
    Calls Tryd.prog 19 #[.string s, .string t, .string m, .bool fin, .bool longest] w fun e w' => e = .returned (.string (cutF t m s fin longest)) ∧ Below w.heap.size w w' := by
  cases fin <;> cases longest
  · exact rcut_00 s t m ht hs w
  · exact rcut_01 s t m ht hs w
  · exact rcut_10 s t m ht hs w
  · exact rcut_11 s t m ht hs w
end Go.Proofs.YtmcaphmgjhkgfaaDoor
