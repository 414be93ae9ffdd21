/-
  DERIVED. The law TesterFiles's walk.
-/
import Derived.Test.YtjpdhbalngpdpaaGreatDoorTk
namespace Go.Proofs.YtjpdhbalngpdpaaGreatDoor
open Go.RowKit
theorem told_lit (neg : Bool) (op path : ByteArray) (kind err n m : Int) (text : ByteArray) (sl : Option Addr) (sn sc : Nat) (sig : Int) (r : Bool) (hr : toldB op.data.toList neg err n = r) (x : Int) (hx : truthF r = x) (w : World) :
    Calls Tryz.prog 13 #[.agg #[.bool neg, .string op, .string path], ansV kind err n m text sl sn sc sig] w
      fun e w' => e = .returned (.int .i64 x) ∧ Below w.heap.size w w' := by
  subst hx; exact told_any neg op path kind err n m text sl sn sc sig r hr w
theorem told_not (op : List UInt8) (err n : Int) : toldB op true err n = !toldB op false err n := by
  unfold toldB
  generalize (if op = [45, 102] then (err == 0) && (n == 1) else if op = [45, 100] then (err == 0) && (n == 2) else err == 0) = x
  cases x <;> rfl
theorem new_strs2 (w : World) (e : TypeId) (s t : ByteArray) (B : Nat) (hB : B = w.heap.size) : StrsAt (w.alloc (.cells #[.string s, .string t] e)) (.slice (some ⟨B, 0, none⟩) 2 2) [s, t] := by
  subst hB
  have hr := RowIs.new w e [.string s, .string t]
  exact ⟨_, 2, rfl, Nat.le_refl _, .inr ⟨w.heap.size, 0, rfl, fun i hi => by
    rw [Nat.zero_add, hr.cell i]
    match i, hi with
    | 0, _ => rfl
    | 1, _ => rfl⟩⟩
theorem files_two_0 (path : ByteArray) : decF [⟨#[45, 101]⟩, path] = ⟨0, ⟨false, ⟨#[45, 101]⟩, path⟩, true⟩ := rfl
theorem files_three_0 (path : ByteArray) : decF [⟨#[33]⟩, ⟨#[45, 101]⟩, path] = ⟨0, ⟨true, ⟨#[45, 101]⟩, path⟩, true⟩ := by
  simp [decF, dec3F, compareF, cmpOp, twoF, turnedF]
theorem files_ok_0 (path : ByteArray) : DecOk [⟨#[33]⟩, ⟨#[45, 101]⟩, path] := fun h => by simp [numOp] at h
set_option maxRecDepth 100000 in
set_option maxHeartbeats 4000000 in
theorem law_files_0 (path : ByteArray) (hp : path.size ≤ maxLen) (z : Int) (hz : z.tmod 3 = 0) (z0 : 0 ≤ z) (z1 : z ≤ 255) (kind err n m : Int) (text : ByteArray) (sl : Option Addr) (sn sc : Nat) (sig : Int) (w : World) (hE : Env w) :
    Calls Tryz.prog 6 #[.string path, .int .u8 z, .agg #[.int .i64 kind, .int .i64 err, .int .i64 n, .int .i64 m, .string text, .slice sl sn sc, .int .i64 sig]] w
      fun e w' => e = .returned (.bool true) ∧ Below w.heap.size w w' := by
  obtain ⟨r, hr⟩ : ∃ r, toldB [45, 101] false err n = r := ⟨_, rfl⟩
  have hr2 : toldB [45, 101] true err n = !r := by rw [← hr]; exact told_not _ _ _
  obtain ⟨x, hx⟩ : ∃ x, truthF r = x := ⟨_, rfl⟩
  obtain ⟨y, hy⟩ : ∃ y, truthF (!r) = y := ⟨_, rfl⟩
  have HT := Lib.hid (told_lit false ⟨#[45, 101]⟩ path kind err n m text sl sn sc sig r hr x hx)
  have HU := Lib.hid (told_lit true ⟨#[45, 101]⟩ path kind err n m text sl sn sc sig (!r) hr2 y hy)
  have HA := Lib.hid (awake_any)
  have HE := Lib.hid hE
  have H2 := Lib.hid (fun v W hv hE => dec_any [⟨#[45, 101]⟩, path] trivial _ (files_two_0 path) v W hv hE)
  have H3 := Lib.hid (fun v W hv hE => dec_any _ (files_ok_0 path) _ (files_three_0 path) v W hv hE)
  clear hE hr2
  obtain ⟨e0, he0⟩ : ∃ b, (err == 0) = b := ⟨_, rfl⟩
  obtain ⟨nk, hnk⟩ : ∃ b, (n == 0) = b := ⟨_, rfl⟩
  obtain ⟨pe, hpe⟩ : ∃ b, (path.toList == [61]) = b := ⟨_, rfl⟩
  have hp' := hp
  unfold maxLen at hp'
  unfold toldB at hr
  rw [he0] at hr
  by_cases hl : path.size ≤ 60
  case neg =>
    have hl' : (60 : Int) < (path.size : Int) := by omega
    go_enter Tryz.func6, Tryz.ntmps6
    go_wp2_with fail
    have b0 := (Below.refl w.heap.size w).alloc (Nat.le_refl _) (.cells #[.int .i64 kind, .int .i64 err, .int .i64 n, .int .i64 m, .string text, .slice sl sn sc, .int .i64 sig] 33)
    refine (HA.out _ (HE.out.keep b0)).mono ?_; rintro e w1 ⟨rfl, hb1⟩
    have B1 := b0.trans (hb1.mono b0.size)
    go_wp2_with fail
    go_ret
    exact ⟨rfl, B1⟩
  have hl' : ¬ (60 : Int) < (path.size : Int) := by omega
  cases e0
  all_goals
    cases nk
    all_goals
      simp at hr
      subst hr
      simp [truthF] at hx hy
      subst hx hy
      go_enter Tryz.func6, Tryz.ntmps6
      go_wp2_with fail
      have b0 := (Below.refl w.heap.size w).alloc (Nat.le_refl _) (.cells #[.int .i64 kind, .int .i64 err, .int .i64 n, .int .i64 m, .string text, .slice sl sn sc, .int .i64 sig] 33)
      refine (HA.out _ (HE.out.keep b0)).mono ?_; rintro e w1 ⟨rfl, hb1⟩
      have r1 := (RowIs.new w 33 [.int .i64 kind, .int .i64 err, .int .i64 n, .int .i64 m, .string text, .slice sl sn sc, .int .i64 sig]).below hb1
      have B1 := b0.trans (hb1.mono b0.size)
      go_wp2_with fail
      have b1 := (B1.alloc B1.size (.cells #[.string ⟨#[45, 101]⟩, .string ⟨#[45, 102]⟩, .string ⟨#[45, 100]⟩] 9)).alloc (by have := B1.size; simp; omega) (.cells #[.string ⟨#[45, 101]⟩, .string path] 9)
      have q1 := (r1.alloc (.cells #[.string ⟨#[45, 101]⟩, .string ⟨#[45, 102]⟩, .string ⟨#[45, 100]⟩] 9)).alloc (.cells #[.string ⟨#[45, 101]⟩, .string path] 9)
      refine (H2.out _ _ (new_strs2 _ _ _ _ _ (by simp)) (HE.out.keep b1)).mono ?_; rintro e w2 ⟨rfl, hb2⟩
      have B2 := b1.trans (hb2.mono b1.size)
      have r2 := q1.below hb2
      clear b1 q1 B1 r1 b0 hb1 hb2
      go_wp2_with fail
      have b2 := (B2.alloc B2.size (.cells #[.bool false, .string ⟨#[45, 101]⟩, .string path] 25)).alloc (by have := B2.size; simp; omega) (.cells #[.string ⟨#[33]⟩, .string ⟨#[45, 101]⟩, .string path] 9)
      have q2 := (r2.alloc (.cells #[.bool false, .string ⟨#[45, 101]⟩, .string path] 25)).alloc (.cells #[.string ⟨#[33]⟩, .string ⟨#[45, 101]⟩, .string path] 9)
      have k2 := (RowIs.new w2 25 [.bool false, .string ⟨#[45, 101]⟩, .string path]).alloc (.cells #[.string ⟨#[33]⟩, .string ⟨#[45, 101]⟩, .string path] 9)
      refine (H3.out _ _ (new_strs3 _ _ _ _ _ _ (by simp)) (HE.out.keep b2)).mono ?_; rintro e w3 ⟨rfl, hb3⟩
      have B3 := b2.trans (hb3.mono b2.size)
      have r3 := q2.below hb3
      have k3 := k2.below hb3
      clear b2 q2 k2 B2 r2 hb3
      have B4 := B3.alloc B3.size (.cells #[.bool true, .string ⟨#[45, 101]⟩, .string path] 25)
      cases pe
      · have r4 := r3.alloc (.cells #[.bool true, .string ⟨#[45, 101]⟩, .string path] 25)
        have k4 := k3.alloc (.cells #[.bool true, .string ⟨#[45, 101]⟩, .string path] 25)
        have m4 := RowIs.new w3 25 [.bool true, .string ⟨#[45, 101]⟩, .string path]
        obtain ⟨c0, c1, c2, _, _, _, l1⟩ := ask_facts k3
        obtain ⟨a0, a1, a2, a3, a4, a5, a6⟩ := ans_facts r3
        have l0 := r3.lt
        clear r3 k3 B3
        go_wp2_with fail
        refine (HT.out _).mono ?_; rintro e w4 ⟨rfl, hb4⟩
        have B5 := B4.trans (hb4.mono B4.size)
        obtain ⟨d0, d1, d2, _⟩ := ask_facts (m4.below hb4)
        have r5 := r4.below hb4
        have k5 := k4.below hb4
        have m5 := m4.below hb4
        obtain ⟨e0, e1, e2, e3, e4, e5, e6⟩ := ans_facts r5
        clear m4 k4 B4 hb4 r4 c0 c1 c2 a0 a1 a2 a3 a4 a5 a6 l1
        go_wp2_with fail
        refine (HU.out _).mono ?_; rintro e w5 ⟨rfl, hb5⟩
        have B6 := B5.trans (hb5.mono B5.size)
        obtain ⟨a0, a1, a2, a3, a4, a5, a6⟩ := ans_facts (r5.below hb5)
        obtain ⟨f0, f1, f2, _⟩ := ask_facts (k5.below hb5)
        obtain ⟨g0, g1, g2, _⟩ := ask_facts (m5.below hb5)
        clear r5 B5 hb5 d0 d1 d2 e0 e1 e2 e3 e4 e5 e6 k5 m5
        go_wp2_with fail
        go_ret
        exact ⟨rfl, B6⟩
      · go_wp2_with fail
        go_ret
        exact ⟨rfl, B4⟩
theorem files_two_1 (path : ByteArray) : decF [⟨#[45, 102]⟩, path] = ⟨0, ⟨false, ⟨#[45, 102]⟩, path⟩, true⟩ := rfl
theorem files_three_1 (path : ByteArray) : decF [⟨#[33]⟩, ⟨#[45, 102]⟩, path] = ⟨0, ⟨true, ⟨#[45, 102]⟩, path⟩, true⟩ := by
  simp [decF, dec3F, compareF, cmpOp, twoF, turnedF]
theorem files_ok_1 (path : ByteArray) : DecOk [⟨#[33]⟩, ⟨#[45, 102]⟩, path] := fun h => by simp [numOp] at h
set_option maxRecDepth 100000 in
set_option maxHeartbeats 4000000 in
theorem law_files_1 (path : ByteArray) (hp : path.size ≤ maxLen) (z : Int) (hz : z.tmod 3 = 1) (z0 : 0 ≤ z) (z1 : z ≤ 255) (kind err n m : Int) (text : ByteArray) (sl : Option Addr) (sn sc : Nat) (sig : Int) (w : World) (hE : Env w) :
    Calls Tryz.prog 6 #[.string path, .int .u8 z, .agg #[.int .i64 kind, .int .i64 err, .int .i64 n, .int .i64 m, .string text, .slice sl sn sc, .int .i64 sig]] w
      fun e w' => e = .returned (.bool true) ∧ Below w.heap.size w w' := by
  obtain ⟨r, hr⟩ : ∃ r, toldB [45, 102] false err n = r := ⟨_, rfl⟩
  have hr2 : toldB [45, 102] true err n = !r := by rw [← hr]; exact told_not _ _ _
  obtain ⟨x, hx⟩ : ∃ x, truthF r = x := ⟨_, rfl⟩
  obtain ⟨y, hy⟩ : ∃ y, truthF (!r) = y := ⟨_, rfl⟩
  have HT := Lib.hid (told_lit false ⟨#[45, 102]⟩ path kind err n m text sl sn sc sig r hr x hx)
  have HU := Lib.hid (told_lit true ⟨#[45, 102]⟩ path kind err n m text sl sn sc sig (!r) hr2 y hy)
  have HA := Lib.hid (awake_any)
  have HE := Lib.hid hE
  have H2 := Lib.hid (fun v W hv hE => dec_any [⟨#[45, 102]⟩, path] trivial _ (files_two_1 path) v W hv hE)
  have H3 := Lib.hid (fun v W hv hE => dec_any _ (files_ok_1 path) _ (files_three_1 path) v W hv hE)
  clear hE hr2
  obtain ⟨e0, he0⟩ : ∃ b, (err == 0) = b := ⟨_, rfl⟩
  obtain ⟨nk, hnk⟩ : ∃ b, (n == 1) = b := ⟨_, rfl⟩
  obtain ⟨pe, hpe⟩ : ∃ b, (path.toList == [61]) = b := ⟨_, rfl⟩
  have hp' := hp
  unfold maxLen at hp'
  unfold toldB at hr
  rw [he0] at hr
  by_cases hl : path.size ≤ 60
  case neg =>
    have hl' : (60 : Int) < (path.size : Int) := by omega
    go_enter Tryz.func6, Tryz.ntmps6
    go_wp2_with fail
    have b0 := (Below.refl w.heap.size w).alloc (Nat.le_refl _) (.cells #[.int .i64 kind, .int .i64 err, .int .i64 n, .int .i64 m, .string text, .slice sl sn sc, .int .i64 sig] 33)
    refine (HA.out _ (HE.out.keep b0)).mono ?_; rintro e w1 ⟨rfl, hb1⟩
    have B1 := b0.trans (hb1.mono b0.size)
    go_wp2_with fail
    go_ret
    exact ⟨rfl, B1⟩
  have hl' : ¬ (60 : Int) < (path.size : Int) := by omega
  cases e0
  all_goals
    cases nk
    all_goals
      simp [hnk] at hr
      subst hr
      simp [truthF] at hx hy
      subst hx hy
      go_enter Tryz.func6, Tryz.ntmps6
      go_wp2_with fail
      have b0 := (Below.refl w.heap.size w).alloc (Nat.le_refl _) (.cells #[.int .i64 kind, .int .i64 err, .int .i64 n, .int .i64 m, .string text, .slice sl sn sc, .int .i64 sig] 33)
      refine (HA.out _ (HE.out.keep b0)).mono ?_; rintro e w1 ⟨rfl, hb1⟩
      have r1 := (RowIs.new w 33 [.int .i64 kind, .int .i64 err, .int .i64 n, .int .i64 m, .string text, .slice sl sn sc, .int .i64 sig]).below hb1
      have B1 := b0.trans (hb1.mono b0.size)
      go_wp2_with fail
      have b1 := (B1.alloc B1.size (.cells #[.string ⟨#[45, 101]⟩, .string ⟨#[45, 102]⟩, .string ⟨#[45, 100]⟩] 9)).alloc (by have := B1.size; simp; omega) (.cells #[.string ⟨#[45, 102]⟩, .string path] 9)
      have q1 := (r1.alloc (.cells #[.string ⟨#[45, 101]⟩, .string ⟨#[45, 102]⟩, .string ⟨#[45, 100]⟩] 9)).alloc (.cells #[.string ⟨#[45, 102]⟩, .string path] 9)
      refine (H2.out _ _ (new_strs2 _ _ _ _ _ (by simp)) (HE.out.keep b1)).mono ?_; rintro e w2 ⟨rfl, hb2⟩
      have B2 := b1.trans (hb2.mono b1.size)
      have r2 := q1.below hb2
      clear b1 q1 B1 r1 b0 hb1 hb2
      go_wp2_with fail
      have b2 := (B2.alloc B2.size (.cells #[.bool false, .string ⟨#[45, 102]⟩, .string path] 25)).alloc (by have := B2.size; simp; omega) (.cells #[.string ⟨#[33]⟩, .string ⟨#[45, 102]⟩, .string path] 9)
      have q2 := (r2.alloc (.cells #[.bool false, .string ⟨#[45, 102]⟩, .string path] 25)).alloc (.cells #[.string ⟨#[33]⟩, .string ⟨#[45, 102]⟩, .string path] 9)
      have k2 := (RowIs.new w2 25 [.bool false, .string ⟨#[45, 102]⟩, .string path]).alloc (.cells #[.string ⟨#[33]⟩, .string ⟨#[45, 102]⟩, .string path] 9)
      refine (H3.out _ _ (new_strs3 _ _ _ _ _ _ (by simp)) (HE.out.keep b2)).mono ?_; rintro e w3 ⟨rfl, hb3⟩
      have B3 := b2.trans (hb3.mono b2.size)
      have r3 := q2.below hb3
      have k3 := k2.below hb3
      clear b2 q2 k2 B2 r2 hb3
      have B4 := B3.alloc B3.size (.cells #[.bool true, .string ⟨#[45, 102]⟩, .string path] 25)
      cases pe
      · have r4 := r3.alloc (.cells #[.bool true, .string ⟨#[45, 102]⟩, .string path] 25)
        have k4 := k3.alloc (.cells #[.bool true, .string ⟨#[45, 102]⟩, .string path] 25)
        have m4 := RowIs.new w3 25 [.bool true, .string ⟨#[45, 102]⟩, .string path]
        obtain ⟨c0, c1, c2, _, _, _, l1⟩ := ask_facts k3
        obtain ⟨a0, a1, a2, a3, a4, a5, a6⟩ := ans_facts r3
        have l0 := r3.lt
        clear r3 k3 B3
        go_wp2_with fail
        refine (HT.out _).mono ?_; rintro e w4 ⟨rfl, hb4⟩
        have B5 := B4.trans (hb4.mono B4.size)
        obtain ⟨d0, d1, d2, _⟩ := ask_facts (m4.below hb4)
        have r5 := r4.below hb4
        have k5 := k4.below hb4
        have m5 := m4.below hb4
        obtain ⟨e0, e1, e2, e3, e4, e5, e6⟩ := ans_facts r5
        clear m4 k4 B4 hb4 r4 c0 c1 c2 a0 a1 a2 a3 a4 a5 a6 l1
        go_wp2_with fail
        refine (HU.out _).mono ?_; rintro e w5 ⟨rfl, hb5⟩
        have B6 := B5.trans (hb5.mono B5.size)
        obtain ⟨a0, a1, a2, a3, a4, a5, a6⟩ := ans_facts (r5.below hb5)
        obtain ⟨f0, f1, f2, _⟩ := ask_facts (k5.below hb5)
        obtain ⟨g0, g1, g2, _⟩ := ask_facts (m5.below hb5)
        clear r5 B5 hb5 d0 d1 d2 e0 e1 e2 e3 e4 e5 e6 k5 m5
        go_wp2_with fail
        go_ret
        exact ⟨rfl, B6⟩
      · go_wp2_with fail
        go_ret
        exact ⟨rfl, B4⟩
theorem files_two_2 (path : ByteArray) : decF [⟨#[45, 100]⟩, path] = ⟨0, ⟨false, ⟨#[45, 100]⟩, path⟩, true⟩ := rfl
theorem files_three_2 (path : ByteArray) : decF [⟨#[33]⟩, ⟨#[45, 100]⟩, path] = ⟨0, ⟨true, ⟨#[45, 100]⟩, path⟩, true⟩ := by
  simp [decF, dec3F, compareF, cmpOp, twoF, turnedF]
theorem files_ok_2 (path : ByteArray) : DecOk [⟨#[33]⟩, ⟨#[45, 100]⟩, path] := fun h => by simp [numOp] at h
set_option maxRecDepth 100000 in
set_option maxHeartbeats 4000000 in
theorem law_files_2 (path : ByteArray) (hp : path.size ≤ maxLen) (z : Int) (hz : z.tmod 3 = 2) (z0 : 0 ≤ z) (z1 : z ≤ 255) (kind err n m : Int) (text : ByteArray) (sl : Option Addr) (sn sc : Nat) (sig : Int) (w : World) (hE : Env w) :
    Calls Tryz.prog 6 #[.string path, .int .u8 z, .agg #[.int .i64 kind, .int .i64 err, .int .i64 n, .int .i64 m, .string text, .slice sl sn sc, .int .i64 sig]] w
      fun e w' => e = .returned (.bool true) ∧ Below w.heap.size w w' := by
  obtain ⟨r, hr⟩ : ∃ r, toldB [45, 100] false err n = r := ⟨_, rfl⟩
  have hr2 : toldB [45, 100] true err n = !r := by rw [← hr]; exact told_not _ _ _
  obtain ⟨x, hx⟩ : ∃ x, truthF r = x := ⟨_, rfl⟩
  obtain ⟨y, hy⟩ : ∃ y, truthF (!r) = y := ⟨_, rfl⟩
  have HT := Lib.hid (told_lit false ⟨#[45, 100]⟩ path kind err n m text sl sn sc sig r hr x hx)
  have HU := Lib.hid (told_lit true ⟨#[45, 100]⟩ path kind err n m text sl sn sc sig (!r) hr2 y hy)
  have HA := Lib.hid (awake_any)
  have HE := Lib.hid hE
  have H2 := Lib.hid (fun v W hv hE => dec_any [⟨#[45, 100]⟩, path] trivial _ (files_two_2 path) v W hv hE)
  have H3 := Lib.hid (fun v W hv hE => dec_any _ (files_ok_2 path) _ (files_three_2 path) v W hv hE)
  clear hE hr2
  obtain ⟨e0, he0⟩ : ∃ b, (err == 0) = b := ⟨_, rfl⟩
  obtain ⟨nk, hnk⟩ : ∃ b, (n == 2) = b := ⟨_, rfl⟩
  obtain ⟨pe, hpe⟩ : ∃ b, (path.toList == [61]) = b := ⟨_, rfl⟩
  have hp' := hp
  unfold maxLen at hp'
  unfold toldB at hr
  rw [he0] at hr
  by_cases hl : path.size ≤ 60
  case neg =>
    have hl' : (60 : Int) < (path.size : Int) := by omega
    go_enter Tryz.func6, Tryz.ntmps6
    go_wp2_with fail
    have b0 := (Below.refl w.heap.size w).alloc (Nat.le_refl _) (.cells #[.int .i64 kind, .int .i64 err, .int .i64 n, .int .i64 m, .string text, .slice sl sn sc, .int .i64 sig] 33)
    refine (HA.out _ (HE.out.keep b0)).mono ?_; rintro e w1 ⟨rfl, hb1⟩
    have B1 := b0.trans (hb1.mono b0.size)
    go_wp2_with fail
    go_ret
    exact ⟨rfl, B1⟩
  have hl' : ¬ (60 : Int) < (path.size : Int) := by omega
  cases e0
  all_goals
    cases nk
    all_goals
      simp [hnk] at hr
      subst hr
      simp [truthF] at hx hy
      subst hx hy
      go_enter Tryz.func6, Tryz.ntmps6
      go_wp2_with fail
      have b0 := (Below.refl w.heap.size w).alloc (Nat.le_refl _) (.cells #[.int .i64 kind, .int .i64 err, .int .i64 n, .int .i64 m, .string text, .slice sl sn sc, .int .i64 sig] 33)
      refine (HA.out _ (HE.out.keep b0)).mono ?_; rintro e w1 ⟨rfl, hb1⟩
      have r1 := (RowIs.new w 33 [.int .i64 kind, .int .i64 err, .int .i64 n, .int .i64 m, .string text, .slice sl sn sc, .int .i64 sig]).below hb1
      have B1 := b0.trans (hb1.mono b0.size)
      go_wp2_with fail
      have b1 := (B1.alloc B1.size (.cells #[.string ⟨#[45, 101]⟩, .string ⟨#[45, 102]⟩, .string ⟨#[45, 100]⟩] 9)).alloc (by have := B1.size; simp; omega) (.cells #[.string ⟨#[45, 100]⟩, .string path] 9)
      have q1 := (r1.alloc (.cells #[.string ⟨#[45, 101]⟩, .string ⟨#[45, 102]⟩, .string ⟨#[45, 100]⟩] 9)).alloc (.cells #[.string ⟨#[45, 100]⟩, .string path] 9)
      refine (H2.out _ _ (new_strs2 _ _ _ _ _ (by simp)) (HE.out.keep b1)).mono ?_; rintro e w2 ⟨rfl, hb2⟩
      have B2 := b1.trans (hb2.mono b1.size)
      have r2 := q1.below hb2
      clear b1 q1 B1 r1 b0 hb1 hb2
      go_wp2_with fail
      have b2 := (B2.alloc B2.size (.cells #[.bool false, .string ⟨#[45, 100]⟩, .string path] 25)).alloc (by have := B2.size; simp; omega) (.cells #[.string ⟨#[33]⟩, .string ⟨#[45, 100]⟩, .string path] 9)
      have q2 := (r2.alloc (.cells #[.bool false, .string ⟨#[45, 100]⟩, .string path] 25)).alloc (.cells #[.string ⟨#[33]⟩, .string ⟨#[45, 100]⟩, .string path] 9)
      have k2 := (RowIs.new w2 25 [.bool false, .string ⟨#[45, 100]⟩, .string path]).alloc (.cells #[.string ⟨#[33]⟩, .string ⟨#[45, 100]⟩, .string path] 9)
      refine (H3.out _ _ (new_strs3 _ _ _ _ _ _ (by simp)) (HE.out.keep b2)).mono ?_; rintro e w3 ⟨rfl, hb3⟩
      have B3 := b2.trans (hb3.mono b2.size)
      have r3 := q2.below hb3
      have k3 := k2.below hb3
      clear b2 q2 k2 B2 r2 hb3
      have B4 := B3.alloc B3.size (.cells #[.bool true, .string ⟨#[45, 100]⟩, .string path] 25)
      cases pe
      · have r4 := r3.alloc (.cells #[.bool true, .string ⟨#[45, 100]⟩, .string path] 25)
        have k4 := k3.alloc (.cells #[.bool true, .string ⟨#[45, 100]⟩, .string path] 25)
        have m4 := RowIs.new w3 25 [.bool true, .string ⟨#[45, 100]⟩, .string path]
        obtain ⟨c0, c1, c2, _, _, _, l1⟩ := ask_facts k3
        obtain ⟨a0, a1, a2, a3, a4, a5, a6⟩ := ans_facts r3
        have l0 := r3.lt
        clear r3 k3 B3
        go_wp2_with fail
        refine (HT.out _).mono ?_; rintro e w4 ⟨rfl, hb4⟩
        have B5 := B4.trans (hb4.mono B4.size)
        obtain ⟨d0, d1, d2, _⟩ := ask_facts (m4.below hb4)
        have r5 := r4.below hb4
        have k5 := k4.below hb4
        have m5 := m4.below hb4
        obtain ⟨e0, e1, e2, e3, e4, e5, e6⟩ := ans_facts r5
        clear m4 k4 B4 hb4 r4 c0 c1 c2 a0 a1 a2 a3 a4 a5 a6 l1
        go_wp2_with fail
        refine (HU.out _).mono ?_; rintro e w5 ⟨rfl, hb5⟩
        have B6 := B5.trans (hb5.mono B5.size)
        obtain ⟨a0, a1, a2, a3, a4, a5, a6⟩ := ans_facts (r5.below hb5)
        obtain ⟨f0, f1, f2, _⟩ := ask_facts (k5.below hb5)
        obtain ⟨g0, g1, g2, _⟩ := ask_facts (m5.below hb5)
        clear r5 B5 hb5 d0 d1 d2 e0 e1 e2 e3 e4 e5 e6 k5 m5
        go_wp2_with fail
        go_ret
        exact ⟨rfl, B6⟩
      · go_wp2_with fail
        go_ret
        exact ⟨rfl, B4⟩
end Go.Proofs.YtjpdhbalngpdpaaGreatDoor
