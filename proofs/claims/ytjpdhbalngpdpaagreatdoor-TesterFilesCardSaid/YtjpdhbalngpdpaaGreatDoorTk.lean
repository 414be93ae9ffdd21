/-
  DERIVED. The law TesterTold's walk.
-/
import Derived.Test.YtjpdhbalngpdpaaGreatDoorTj
namespace Go.Proofs.YtjpdhbalngpdpaaGreatDoor
open Go.RowKit
theorem ans_facts {W : World} {b e : Nat} {x0 x1 x2 x3 x4 x5 x6 : Value} (r : RowIs W b e [x0, x1, x2, x3, x4, x5, x6]) :
    W.cell? ⟨b, 0, none⟩ = some x0 ∧ W.cell? ⟨b, 1, none⟩ = some x1 ∧ W.cell? ⟨b, 2, none⟩ = some x2 ∧ W.cell? ⟨b, 3, none⟩ = some x3 ∧ W.cell? ⟨b, 4, none⟩ = some x4 ∧ W.cell? ⟨b, 5, none⟩ = some x5 ∧ W.cell? ⟨b, 6, none⟩ = some x6 :=
  ⟨by rw [r.cell]; rfl, by rw [r.cell]; rfl, by rw [r.cell]; rfl, by rw [r.cell]; rfl, by rw [r.cell]; rfl, by rw [r.cell]; rfl, by rw [r.cell]; rfl⟩
set_option maxRecDepth 100000 in
set_option maxHeartbeats 4000000 in
theorem law_told_f_true (path : ByteArray) (kind err n m : Int) (text : ByteArray) (sl : Option Addr) (sn sc : Nat) (sig : Int) (w : World) (hE : Env w) :
    Calls Tryz.prog 4 #[.agg #[.bool true, .string ⟨#[45, 102]⟩, .string path], .agg #[.int .i64 kind, .int .i64 err, .int .i64 n, .int .i64 m, .string text, .slice sl sn sc, .int .i64 sig]] w
      fun e w' => e = .returned (.bool true) ∧ Below w.heap.size w w' := by
  obtain ⟨r, hr⟩ : ∃ r, toldB [45, 102] true err n = r := ⟨_, rfl⟩
  have HT := Lib.hid (told_any true ⟨#[45, 102]⟩ path kind err n m text sl sn sc sig r (by simpa using hr))
  have HA := Lib.hid (awake_any)
  have HE := Lib.hid hE
  clear hE
  obtain ⟨e0, he0⟩ : ∃ b, (err == 0) = b := ⟨_, rfl⟩
  obtain ⟨nk, hnk⟩ : ∃ b, (n == 1) = b := ⟨_, rfl⟩
  unfold toldB at hr
  rw [he0] at hr
  cases e0
  all_goals
    cases nk
    all_goals
      skip
      all_goals
        simp [hnk] at hr
        subst hr
        go_enter Tryz.func4, Tryz.ntmps4
        go_wp2_with fail
        have b0 := ((Below.refl w.heap.size w).alloc (Nat.le_refl _) (.cells #[.bool true, .string ⟨#[45, 102]⟩, .string path] 25)).alloc (by simp) (.cells #[.int .i64 kind, .int .i64 err, .int .i64 n, .int .i64 m, .string text, .slice sl sn sc, .int .i64 sig] 33)
        refine (HA.out _ (HE.out.keep b0)).mono ?_; rintro e w1 ⟨rfl, hb1⟩
        have r1 := ((RowIs.new w 25 [.bool true, .string ⟨#[45, 102]⟩, .string path]).alloc (.cells #[.int .i64 kind, .int .i64 err, .int .i64 n, .int .i64 m, .string text, .slice sl sn sc, .int .i64 sig] 33)).below hb1
        have r2 := (RowIs.new (w.alloc (.cells #[.bool true, .string ⟨#[45, 102]⟩, .string path] 25)) 33 [.int .i64 kind, .int .i64 err, .int .i64 n, .int .i64 m, .string text, .slice sl sn sc, .int .i64 sig]).below hb1
        have B1 := b0.trans (hb1.mono b0.size)
        obtain ⟨k0, k1, k2, _⟩ := ask_facts r1
        obtain ⟨a0, a1, a2, a3, a4, a5, a6⟩ := ans_facts r2
        simp only [World.size_alloc] at a0 a1 a2 a3 a4 a5 a6
        clear r1 r2 hb1 b0
        go_wp2_with fail
        refine (HT.out _).mono ?_; rintro e w2 ⟨rfl, hb2⟩
        have B2 := B1.trans (hb2.mono B1.size)
        go_wp2_with fail
        go_ret
        exact ⟨rfl, B2⟩
set_option maxRecDepth 100000 in
set_option maxHeartbeats 4000000 in
theorem law_told_d_true (path : ByteArray) (kind err n m : Int) (text : ByteArray) (sl : Option Addr) (sn sc : Nat) (sig : Int) (w : World) (hE : Env w) :
    Calls Tryz.prog 4 #[.agg #[.bool true, .string ⟨#[45, 100]⟩, .string path], .agg #[.int .i64 kind, .int .i64 err, .int .i64 n, .int .i64 m, .string text, .slice sl sn sc, .int .i64 sig]] w
      fun e w' => e = .returned (.bool true) ∧ Below w.heap.size w w' := by
  obtain ⟨r, hr⟩ : ∃ r, toldB [45, 100] true err n = r := ⟨_, rfl⟩
  have HT := Lib.hid (told_any true ⟨#[45, 100]⟩ path kind err n m text sl sn sc sig r (by simpa using hr))
  have HA := Lib.hid (awake_any)
  have HE := Lib.hid hE
  clear hE
  obtain ⟨e0, he0⟩ : ∃ b, (err == 0) = b := ⟨_, rfl⟩
  obtain ⟨nk, hnk⟩ : ∃ b, (n == 2) = b := ⟨_, rfl⟩
  unfold toldB at hr
  rw [he0] at hr
  cases e0
  all_goals
    cases nk
    all_goals
      skip
      all_goals
        simp [hnk] at hr
        subst hr
        go_enter Tryz.func4, Tryz.ntmps4
        go_wp2_with fail
        have b0 := ((Below.refl w.heap.size w).alloc (Nat.le_refl _) (.cells #[.bool true, .string ⟨#[45, 100]⟩, .string path] 25)).alloc (by simp) (.cells #[.int .i64 kind, .int .i64 err, .int .i64 n, .int .i64 m, .string text, .slice sl sn sc, .int .i64 sig] 33)
        refine (HA.out _ (HE.out.keep b0)).mono ?_; rintro e w1 ⟨rfl, hb1⟩
        have r1 := ((RowIs.new w 25 [.bool true, .string ⟨#[45, 100]⟩, .string path]).alloc (.cells #[.int .i64 kind, .int .i64 err, .int .i64 n, .int .i64 m, .string text, .slice sl sn sc, .int .i64 sig] 33)).below hb1
        have r2 := (RowIs.new (w.alloc (.cells #[.bool true, .string ⟨#[45, 100]⟩, .string path] 25)) 33 [.int .i64 kind, .int .i64 err, .int .i64 n, .int .i64 m, .string text, .slice sl sn sc, .int .i64 sig]).below hb1
        have B1 := b0.trans (hb1.mono b0.size)
        obtain ⟨k0, k1, k2, _⟩ := ask_facts r1
        obtain ⟨a0, a1, a2, a3, a4, a5, a6⟩ := ans_facts r2
        simp only [World.size_alloc] at a0 a1 a2 a3 a4 a5 a6
        clear r1 r2 hb1 b0
        go_wp2_with fail
        refine (HT.out _).mono ?_; rintro e w2 ⟨rfl, hb2⟩
        have B2 := B1.trans (hb2.mono B1.size)
        go_wp2_with fail
        go_ret
        exact ⟨rfl, B2⟩
set_option maxRecDepth 100000 in
set_option maxHeartbeats 4000000 in
theorem law_told_else_true (l : List UInt8) (h1 : l ≠ [45, 102]) (h2 : l ≠ [45, 100]) (path : ByteArray) (kind err n m : Int) (text : ByteArray) (sl : Option Addr) (sn sc : Nat) (sig : Int) (w : World) (hE : Env w) :
    Calls Tryz.prog 4 #[.agg #[.bool true, .string ⟨l.toArray⟩, .string path], .agg #[.int .i64 kind, .int .i64 err, .int .i64 n, .int .i64 m, .string text, .slice sl sn sc, .int .i64 sig]] w
      fun e w' => e = .returned (.bool true) ∧ Below w.heap.size w w' := by
  obtain ⟨r, hr⟩ : ∃ r, toldB l true err n = r := ⟨_, rfl⟩
  have HT := Lib.hid (told_any true ⟨l.toArray⟩ path kind err n m text sl sn sc sig r (by simpa using hr))
  have HA := Lib.hid (awake_any)
  have HE := Lib.hid hE
  clear hE
  obtain ⟨e0, he0⟩ : ∃ b, (err == 0) = b := ⟨_, rfl⟩
  obtain ⟨nk, hnk⟩ : ∃ b, (n == 1) = b := ⟨_, rfl⟩
  unfold toldB at hr
  rw [he0] at hr
  have g1 : (l == [45, 102]) = false := by simpa using h1
  have g2 : (l == [45, 100]) = false := by simpa using h2
  rw [if_neg h1, if_neg h2] at hr
  clear h1 h2 hnk
  cases e0
  all_goals
    skip
    all_goals
      skip
      all_goals
        simp at hr
        subst hr
        go_enter Tryz.func4, Tryz.ntmps4
        go_wp2_with fail
        have b0 := ((Below.refl w.heap.size w).alloc (Nat.le_refl _) (.cells #[.bool true, .string ⟨l.toArray⟩, .string path] 25)).alloc (by simp) (.cells #[.int .i64 kind, .int .i64 err, .int .i64 n, .int .i64 m, .string text, .slice sl sn sc, .int .i64 sig] 33)
        refine (HA.out _ (HE.out.keep b0)).mono ?_; rintro e w1 ⟨rfl, hb1⟩
        have r1 := ((RowIs.new w 25 [.bool true, .string ⟨l.toArray⟩, .string path]).alloc (.cells #[.int .i64 kind, .int .i64 err, .int .i64 n, .int .i64 m, .string text, .slice sl sn sc, .int .i64 sig] 33)).below hb1
        have r2 := (RowIs.new (w.alloc (.cells #[.bool true, .string ⟨l.toArray⟩, .string path] 25)) 33 [.int .i64 kind, .int .i64 err, .int .i64 n, .int .i64 m, .string text, .slice sl sn sc, .int .i64 sig]).below hb1
        have B1 := b0.trans (hb1.mono b0.size)
        obtain ⟨k0, k1, k2, _⟩ := ask_facts r1
        obtain ⟨a0, a1, a2, a3, a4, a5, a6⟩ := ans_facts r2
        simp only [World.size_alloc] at a0 a1 a2 a3 a4 a5 a6
        clear r1 r2 hb1 b0
        go_wp2_with fail
        refine (HT.out _).mono ?_; rintro e w2 ⟨rfl, hb2⟩
        have B2 := B1.trans (hb2.mono B1.size)
        go_wp2_with fail
        go_ret
        exact ⟨rfl, B2⟩
set_option maxRecDepth 100000 in
set_option maxHeartbeats 4000000 in
theorem law_told_f_false (path : ByteArray) (kind err n m : Int) (text : ByteArray) (sl : Option Addr) (sn sc : Nat) (sig : Int) (w : World) (hE : Env w) :
    Calls Tryz.prog 4 #[.agg #[.bool false, .string ⟨#[45, 102]⟩, .string path], .agg #[.int .i64 kind, .int .i64 err, .int .i64 n, .int .i64 m, .string text, .slice sl sn sc, .int .i64 sig]] w
      fun e w' => e = .returned (.bool true) ∧ Below w.heap.size w w' := by
  obtain ⟨r, hr⟩ : ∃ r, toldB [45, 102] false err n = r := ⟨_, rfl⟩
  have HT := Lib.hid (told_any false ⟨#[45, 102]⟩ path kind err n m text sl sn sc sig r (by simpa using hr))
  have HA := Lib.hid (awake_any)
  have HE := Lib.hid hE
  clear hE
  obtain ⟨e0, he0⟩ : ∃ b, (err == 0) = b := ⟨_, rfl⟩
  obtain ⟨nk, hnk⟩ : ∃ b, (n == 1) = b := ⟨_, rfl⟩
  unfold toldB at hr
  rw [he0] at hr
  cases e0
  all_goals
    cases nk
    all_goals
      skip
      all_goals
        simp [hnk] at hr
        subst hr
        go_enter Tryz.func4, Tryz.ntmps4
        go_wp2_with fail
        have b0 := ((Below.refl w.heap.size w).alloc (Nat.le_refl _) (.cells #[.bool false, .string ⟨#[45, 102]⟩, .string path] 25)).alloc (by simp) (.cells #[.int .i64 kind, .int .i64 err, .int .i64 n, .int .i64 m, .string text, .slice sl sn sc, .int .i64 sig] 33)
        refine (HA.out _ (HE.out.keep b0)).mono ?_; rintro e w1 ⟨rfl, hb1⟩
        have r1 := ((RowIs.new w 25 [.bool false, .string ⟨#[45, 102]⟩, .string path]).alloc (.cells #[.int .i64 kind, .int .i64 err, .int .i64 n, .int .i64 m, .string text, .slice sl sn sc, .int .i64 sig] 33)).below hb1
        have r2 := (RowIs.new (w.alloc (.cells #[.bool false, .string ⟨#[45, 102]⟩, .string path] 25)) 33 [.int .i64 kind, .int .i64 err, .int .i64 n, .int .i64 m, .string text, .slice sl sn sc, .int .i64 sig]).below hb1
        have B1 := b0.trans (hb1.mono b0.size)
        obtain ⟨k0, k1, k2, _⟩ := ask_facts r1
        obtain ⟨a0, a1, a2, a3, a4, a5, a6⟩ := ans_facts r2
        simp only [World.size_alloc] at a0 a1 a2 a3 a4 a5 a6
        clear r1 r2 hb1 b0
        go_wp2_with fail
        refine (HT.out _).mono ?_; rintro e w2 ⟨rfl, hb2⟩
        have B2 := B1.trans (hb2.mono B1.size)
        go_wp2_with fail
        go_ret
        exact ⟨rfl, B2⟩
set_option maxRecDepth 100000 in
set_option maxHeartbeats 4000000 in
theorem law_told_d_false (path : ByteArray) (kind err n m : Int) (text : ByteArray) (sl : Option Addr) (sn sc : Nat) (sig : Int) (w : World) (hE : Env w) :
    Calls Tryz.prog 4 #[.agg #[.bool false, .string ⟨#[45, 100]⟩, .string path], .agg #[.int .i64 kind, .int .i64 err, .int .i64 n, .int .i64 m, .string text, .slice sl sn sc, .int .i64 sig]] w
      fun e w' => e = .returned (.bool true) ∧ Below w.heap.size w w' := by
  obtain ⟨r, hr⟩ : ∃ r, toldB [45, 100] false err n = r := ⟨_, rfl⟩
  have HT := Lib.hid (told_any false ⟨#[45, 100]⟩ path kind err n m text sl sn sc sig r (by simpa using hr))
  have HA := Lib.hid (awake_any)
  have HE := Lib.hid hE
  clear hE
  obtain ⟨e0, he0⟩ : ∃ b, (err == 0) = b := ⟨_, rfl⟩
  obtain ⟨nk, hnk⟩ : ∃ b, (n == 2) = b := ⟨_, rfl⟩
  unfold toldB at hr
  rw [he0] at hr
  cases e0
  all_goals
    cases nk
    all_goals
      skip
      all_goals
        simp [hnk] at hr
        subst hr
        go_enter Tryz.func4, Tryz.ntmps4
        go_wp2_with fail
        have b0 := ((Below.refl w.heap.size w).alloc (Nat.le_refl _) (.cells #[.bool false, .string ⟨#[45, 100]⟩, .string path] 25)).alloc (by simp) (.cells #[.int .i64 kind, .int .i64 err, .int .i64 n, .int .i64 m, .string text, .slice sl sn sc, .int .i64 sig] 33)
        refine (HA.out _ (HE.out.keep b0)).mono ?_; rintro e w1 ⟨rfl, hb1⟩
        have r1 := ((RowIs.new w 25 [.bool false, .string ⟨#[45, 100]⟩, .string path]).alloc (.cells #[.int .i64 kind, .int .i64 err, .int .i64 n, .int .i64 m, .string text, .slice sl sn sc, .int .i64 sig] 33)).below hb1
        have r2 := (RowIs.new (w.alloc (.cells #[.bool false, .string ⟨#[45, 100]⟩, .string path] 25)) 33 [.int .i64 kind, .int .i64 err, .int .i64 n, .int .i64 m, .string text, .slice sl sn sc, .int .i64 sig]).below hb1
        have B1 := b0.trans (hb1.mono b0.size)
        obtain ⟨k0, k1, k2, _⟩ := ask_facts r1
        obtain ⟨a0, a1, a2, a3, a4, a5, a6⟩ := ans_facts r2
        simp only [World.size_alloc] at a0 a1 a2 a3 a4 a5 a6
        clear r1 r2 hb1 b0
        go_wp2_with fail
        refine (HT.out _).mono ?_; rintro e w2 ⟨rfl, hb2⟩
        have B2 := B1.trans (hb2.mono B1.size)
        go_wp2_with fail
        go_ret
        exact ⟨rfl, B2⟩
set_option maxRecDepth 100000 in
set_option maxHeartbeats 4000000 in
theorem law_told_else_false (l : List UInt8) (h1 : l ≠ [45, 102]) (h2 : l ≠ [45, 100]) (path : ByteArray) (kind err n m : Int) (text : ByteArray) (sl : Option Addr) (sn sc : Nat) (sig : Int) (w : World) (hE : Env w) :
    Calls Tryz.prog 4 #[.agg #[.bool false, .string ⟨l.toArray⟩, .string path], .agg #[.int .i64 kind, .int .i64 err, .int .i64 n, .int .i64 m, .string text, .slice sl sn sc, .int .i64 sig]] w
      fun e w' => e = .returned (.bool true) ∧ Below w.heap.size w w' := by
  obtain ⟨r, hr⟩ : ∃ r, toldB l false err n = r := ⟨_, rfl⟩
  have HT := Lib.hid (told_any false ⟨l.toArray⟩ path kind err n m text sl sn sc sig r (by simpa using hr))
  have HA := Lib.hid (awake_any)
  have HE := Lib.hid hE
  clear hE
  obtain ⟨e0, he0⟩ : ∃ b, (err == 0) = b := ⟨_, rfl⟩
  obtain ⟨nk, hnk⟩ : ∃ b, (n == 1) = b := ⟨_, rfl⟩
  unfold toldB at hr
  rw [he0] at hr
  have g1 : (l == [45, 102]) = false := by simpa using h1
  have g2 : (l == [45, 100]) = false := by simpa using h2
  rw [if_neg h1, if_neg h2] at hr
  clear h1 h2 hnk
  cases e0
  all_goals
    skip
    all_goals
      skip
      all_goals
        simp at hr
        subst hr
        go_enter Tryz.func4, Tryz.ntmps4
        go_wp2_with fail
        have b0 := ((Below.refl w.heap.size w).alloc (Nat.le_refl _) (.cells #[.bool false, .string ⟨l.toArray⟩, .string path] 25)).alloc (by simp) (.cells #[.int .i64 kind, .int .i64 err, .int .i64 n, .int .i64 m, .string text, .slice sl sn sc, .int .i64 sig] 33)
        refine (HA.out _ (HE.out.keep b0)).mono ?_; rintro e w1 ⟨rfl, hb1⟩
        have r1 := ((RowIs.new w 25 [.bool false, .string ⟨l.toArray⟩, .string path]).alloc (.cells #[.int .i64 kind, .int .i64 err, .int .i64 n, .int .i64 m, .string text, .slice sl sn sc, .int .i64 sig] 33)).below hb1
        have r2 := (RowIs.new (w.alloc (.cells #[.bool false, .string ⟨l.toArray⟩, .string path] 25)) 33 [.int .i64 kind, .int .i64 err, .int .i64 n, .int .i64 m, .string text, .slice sl sn sc, .int .i64 sig]).below hb1
        have B1 := b0.trans (hb1.mono b0.size)
        obtain ⟨k0, k1, k2, _⟩ := ask_facts r1
        obtain ⟨a0, a1, a2, a3, a4, a5, a6⟩ := ans_facts r2
        simp only [World.size_alloc] at a0 a1 a2 a3 a4 a5 a6
        clear r1 r2 hb1 b0
        go_wp2_with fail
        refine (HT.out _).mono ?_; rintro e w2 ⟨rfl, hb2⟩
        have B2 := B1.trans (hb2.mono B1.size)
        go_wp2_with fail
        go_ret
        exact ⟨rfl, B2⟩
theorem law_told (neg : Bool) (op path : ByteArray) (kind err n m : Int) (text : ByteArray) (sl : Option Addr) (sn sc : Nat) (sig : Int) (w : World) (hE : Env w) :
    Calls Tryz.prog 4 #[.agg #[.bool neg, .string op, .string path], ansV kind err n m text sl sn sc sig] w
      fun e w' => e = .returned (.bool true) ∧ Below w.heap.size w w' := by
  obtain ⟨l, hl⟩ : ∃ l, op.data.toList = l := ⟨_, rfl⟩
  obtain rfl : op = ⟨l.toArray⟩ := by rw [← hl, Lib.mk_data]
  clear hl
  by_cases h1 : l = [45, 102]
  · subst h1; cases neg
    · exact law_told_f_false path kind err n m text sl sn sc sig w hE
    · exact law_told_f_true path kind err n m text sl sn sc sig w hE
  by_cases h2 : l = [45, 100]
  · subst h2; cases neg
    · exact law_told_d_false path kind err n m text sl sn sc sig w hE
    · exact law_told_d_true path kind err n m text sl sn sc sig w hE
  cases neg
  · exact law_told_else_false l h1 h2 path kind err n m text sl sn sc sig w hE
  · exact law_told_else_true l h1 h2 path kind err n m text sl sn sc sig w hE
end Go.Proofs.YtjpdhbalngpdpaaGreatDoor
