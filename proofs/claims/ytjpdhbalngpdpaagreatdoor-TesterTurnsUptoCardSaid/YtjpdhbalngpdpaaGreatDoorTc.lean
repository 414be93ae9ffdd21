/-
  DERIVED. The walk of the tester's compares at its six operations on numbers; all its ways joined. (The text is printed by wip/gen_cmp.py.)
-/
import Derived.Test.YtjpdhbalngpdpaaGreatDoorTb
namespace Go.Proofs.YtjpdhbalngpdpaaGreatDoor
open Go.RowKit
theorem new_block (w : World) (o : Obj) : Below w.heap.size w (w.alloc o) := (Below.refl _ _).alloc (Nat.le_refl _) o
set_option maxRecDepth 100000 in
set_option maxHeartbeats 8000000 in
theorem cmp_eq (a b : ByteArray) (ha : a.size ≤ 1000000000) (hb : b.size ≤ 1000000000) (aa : Ascii a) (ab : Ascii b) (x y : Int) (p q : Bool) (hx : tnumF a = (x, p)) (hy : tnumF b = (y, q)) (w : World) (hE : Env w) :
    Calls Tryz.prog 19 #[.string a, .string ⟨#[45, 101, 113]⟩, .string b] w fun e w' => e = .returned (.tuple #[.int .i64 (if p && q then truthF (x == y) else 2), .bool true]) ∧ Below w.heap.size w w' := by
  have hmk := fun w => MapLit.run_make (P := Tryz.prog) 72 w
  have hins := MapLit.run_insert Tryz.underlying72 Tryz.underlying9
  have hlk := MapLit.run_lookup Tryz.underlying72 Tryz.underlying9 zeroF
  have H1 := Lib.hid (tnumber_any a ha aa x p hx)
  have H2 := Lib.hid (tnumber_any b hb ab y q hy)
  have HE := Lib.hid hE
  clear hx hy hE
  obtain ⟨c, hc⟩ : ∃ c, (x == y) = c := ⟨_, rfl⟩
  have HCL : Hid (∀ w, Calls Tryz.prog 30 #[.int .i64 x, .int .i64 y] w fun e w' => e = .returned (.bool c) ∧ w = w') := fun w => by rw [← hc]; exact cl_eq x y w
  rw [hc]
  clear hc
  cases p <;> cases q
  all_goals
    go_enter Tryz.func19, Tryz.ntmps19
    go_wp2_with fail
    refine (H1.out _ (HE.out.keep (new_block _ _))).mono ?_; rintro e w1 ⟨rfl, hb1⟩
    have B1 := (new_block w _).trans (hb1.mono (by simp))
    go_wp2_with fail
    refine (H2.out _ (HE.out.keep B1)).mono ?_; rintro e w2 ⟨rfl, hb2⟩
    have B2 := B1.trans (hb2.mono B1.size)
    go_wp2_with fail
    first | (go_ret2; exact ⟨rfl, B2⟩) | (refine (HCL.out _).mono ?_; rintro e w3 ⟨rfl, rfl⟩; go_wp2_with fail; refine (truth_any _ _).mono ?_; rintro e w4 ⟨rfl, rfl⟩; go_wp2_with fail; go_ret2; exact ⟨rfl, B2⟩)
set_option maxRecDepth 100000 in
set_option maxHeartbeats 8000000 in
theorem cmp_ne (a b : ByteArray) (ha : a.size ≤ 1000000000) (hb : b.size ≤ 1000000000) (aa : Ascii a) (ab : Ascii b) (x y : Int) (p q : Bool) (hx : tnumF a = (x, p)) (hy : tnumF b = (y, q)) (w : World) (hE : Env w) :
    Calls Tryz.prog 19 #[.string a, .string ⟨#[45, 110, 101]⟩, .string b] w fun e w' => e = .returned (.tuple #[.int .i64 (if p && q then truthF (x != y) else 2), .bool true]) ∧ Below w.heap.size w w' := by
  have hmk := fun w => MapLit.run_make (P := Tryz.prog) 72 w
  have hins := MapLit.run_insert Tryz.underlying72 Tryz.underlying9
  have hlk := MapLit.run_lookup Tryz.underlying72 Tryz.underlying9 zeroF
  have H1 := Lib.hid (tnumber_any a ha aa x p hx)
  have H2 := Lib.hid (tnumber_any b hb ab y q hy)
  have HE := Lib.hid hE
  clear hx hy hE
  obtain ⟨c, hc⟩ : ∃ c, (x != y) = c := ⟨_, rfl⟩
  have HCL : Hid (∀ w, Calls Tryz.prog 31 #[.int .i64 x, .int .i64 y] w fun e w' => e = .returned (.bool c) ∧ w = w') := fun w => by rw [← hc]; exact cl_ne x y w
  rw [hc]
  clear hc
  cases p <;> cases q
  all_goals
    go_enter Tryz.func19, Tryz.ntmps19
    go_wp2_with fail
    refine (H1.out _ (HE.out.keep (new_block _ _))).mono ?_; rintro e w1 ⟨rfl, hb1⟩
    have B1 := (new_block w _).trans (hb1.mono (by simp))
    go_wp2_with fail
    refine (H2.out _ (HE.out.keep B1)).mono ?_; rintro e w2 ⟨rfl, hb2⟩
    have B2 := B1.trans (hb2.mono B1.size)
    go_wp2_with fail
    first | (go_ret2; exact ⟨rfl, B2⟩) | (refine (HCL.out _).mono ?_; rintro e w3 ⟨rfl, rfl⟩; go_wp2_with fail; refine (truth_any _ _).mono ?_; rintro e w4 ⟨rfl, rfl⟩; go_wp2_with fail; go_ret2; exact ⟨rfl, B2⟩)
set_option maxRecDepth 100000 in
set_option maxHeartbeats 8000000 in
theorem cmp_lt (a b : ByteArray) (ha : a.size ≤ 1000000000) (hb : b.size ≤ 1000000000) (aa : Ascii a) (ab : Ascii b) (x y : Int) (p q : Bool) (hx : tnumF a = (x, p)) (hy : tnumF b = (y, q)) (w : World) (hE : Env w) :
    Calls Tryz.prog 19 #[.string a, .string ⟨#[45, 108, 116]⟩, .string b] w fun e w' => e = .returned (.tuple #[.int .i64 (if p && q then truthF (decide (x < y)) else 2), .bool true]) ∧ Below w.heap.size w w' := by
  have hmk := fun w => MapLit.run_make (P := Tryz.prog) 72 w
  have hins := MapLit.run_insert Tryz.underlying72 Tryz.underlying9
  have hlk := MapLit.run_lookup Tryz.underlying72 Tryz.underlying9 zeroF
  have H1 := Lib.hid (tnumber_any a ha aa x p hx)
  have H2 := Lib.hid (tnumber_any b hb ab y q hy)
  have HE := Lib.hid hE
  clear hx hy hE
  obtain ⟨c, hc⟩ : ∃ c, (decide (x < y)) = c := ⟨_, rfl⟩
  have HCL : Hid (∀ w, Calls Tryz.prog 32 #[.int .i64 x, .int .i64 y] w fun e w' => e = .returned (.bool c) ∧ w = w') := fun w => by rw [← hc]; exact cl_lt x y w
  rw [hc]
  clear hc
  cases p <;> cases q
  all_goals
    go_enter Tryz.func19, Tryz.ntmps19
    go_wp2_with fail
    refine (H1.out _ (HE.out.keep (new_block _ _))).mono ?_; rintro e w1 ⟨rfl, hb1⟩
    have B1 := (new_block w _).trans (hb1.mono (by simp))
    go_wp2_with fail
    refine (H2.out _ (HE.out.keep B1)).mono ?_; rintro e w2 ⟨rfl, hb2⟩
    have B2 := B1.trans (hb2.mono B1.size)
    go_wp2_with fail
    first | (go_ret2; exact ⟨rfl, B2⟩) | (refine (HCL.out _).mono ?_; rintro e w3 ⟨rfl, rfl⟩; go_wp2_with fail; refine (truth_any _ _).mono ?_; rintro e w4 ⟨rfl, rfl⟩; go_wp2_with fail; go_ret2; exact ⟨rfl, B2⟩)
set_option maxRecDepth 100000 in
set_option maxHeartbeats 8000000 in
theorem cmp_le (a b : ByteArray) (ha : a.size ≤ 1000000000) (hb : b.size ≤ 1000000000) (aa : Ascii a) (ab : Ascii b) (x y : Int) (p q : Bool) (hx : tnumF a = (x, p)) (hy : tnumF b = (y, q)) (w : World) (hE : Env w) :
    Calls Tryz.prog 19 #[.string a, .string ⟨#[45, 108, 101]⟩, .string b] w fun e w' => e = .returned (.tuple #[.int .i64 (if p && q then truthF (decide (x ≤ y)) else 2), .bool true]) ∧ Below w.heap.size w w' := by
  have hmk := fun w => MapLit.run_make (P := Tryz.prog) 72 w
  have hins := MapLit.run_insert Tryz.underlying72 Tryz.underlying9
  have hlk := MapLit.run_lookup Tryz.underlying72 Tryz.underlying9 zeroF
  have H1 := Lib.hid (tnumber_any a ha aa x p hx)
  have H2 := Lib.hid (tnumber_any b hb ab y q hy)
  have HE := Lib.hid hE
  clear hx hy hE
  obtain ⟨c, hc⟩ : ∃ c, (decide (x ≤ y)) = c := ⟨_, rfl⟩
  have HCL : Hid (∀ w, Calls Tryz.prog 33 #[.int .i64 x, .int .i64 y] w fun e w' => e = .returned (.bool c) ∧ w = w') := fun w => by rw [← hc]; exact cl_le x y w
  rw [hc]
  clear hc
  cases p <;> cases q
  all_goals
    go_enter Tryz.func19, Tryz.ntmps19
    go_wp2_with fail
    refine (H1.out _ (HE.out.keep (new_block _ _))).mono ?_; rintro e w1 ⟨rfl, hb1⟩
    have B1 := (new_block w _).trans (hb1.mono (by simp))
    go_wp2_with fail
    refine (H2.out _ (HE.out.keep B1)).mono ?_; rintro e w2 ⟨rfl, hb2⟩
    have B2 := B1.trans (hb2.mono B1.size)
    go_wp2_with fail
    first | (go_ret2; exact ⟨rfl, B2⟩) | (refine (HCL.out _).mono ?_; rintro e w3 ⟨rfl, rfl⟩; go_wp2_with fail; refine (truth_any _ _).mono ?_; rintro e w4 ⟨rfl, rfl⟩; go_wp2_with fail; go_ret2; exact ⟨rfl, B2⟩)
set_option maxRecDepth 100000 in
set_option maxHeartbeats 8000000 in
theorem cmp_gt (a b : ByteArray) (ha : a.size ≤ 1000000000) (hb : b.size ≤ 1000000000) (aa : Ascii a) (ab : Ascii b) (x y : Int) (p q : Bool) (hx : tnumF a = (x, p)) (hy : tnumF b = (y, q)) (w : World) (hE : Env w) :
    Calls Tryz.prog 19 #[.string a, .string ⟨#[45, 103, 116]⟩, .string b] w fun e w' => e = .returned (.tuple #[.int .i64 (if p && q then truthF (decide (y < x)) else 2), .bool true]) ∧ Below w.heap.size w w' := by
  have hmk := fun w => MapLit.run_make (P := Tryz.prog) 72 w
  have hins := MapLit.run_insert Tryz.underlying72 Tryz.underlying9
  have hlk := MapLit.run_lookup Tryz.underlying72 Tryz.underlying9 zeroF
  have H1 := Lib.hid (tnumber_any a ha aa x p hx)
  have H2 := Lib.hid (tnumber_any b hb ab y q hy)
  have HE := Lib.hid hE
  clear hx hy hE
  obtain ⟨c, hc⟩ : ∃ c, (decide (y < x)) = c := ⟨_, rfl⟩
  have HCL : Hid (∀ w, Calls Tryz.prog 34 #[.int .i64 x, .int .i64 y] w fun e w' => e = .returned (.bool c) ∧ w = w') := fun w => by rw [← hc]; exact cl_gt x y w
  rw [hc]
  clear hc
  cases p <;> cases q
  all_goals
    go_enter Tryz.func19, Tryz.ntmps19
    go_wp2_with fail
    refine (H1.out _ (HE.out.keep (new_block _ _))).mono ?_; rintro e w1 ⟨rfl, hb1⟩
    have B1 := (new_block w _).trans (hb1.mono (by simp))
    go_wp2_with fail
    refine (H2.out _ (HE.out.keep B1)).mono ?_; rintro e w2 ⟨rfl, hb2⟩
    have B2 := B1.trans (hb2.mono B1.size)
    go_wp2_with fail
    first | (go_ret2; exact ⟨rfl, B2⟩) | (refine (HCL.out _).mono ?_; rintro e w3 ⟨rfl, rfl⟩; go_wp2_with fail; refine (truth_any _ _).mono ?_; rintro e w4 ⟨rfl, rfl⟩; go_wp2_with fail; go_ret2; exact ⟨rfl, B2⟩)
set_option maxRecDepth 100000 in
set_option maxHeartbeats 8000000 in
theorem cmp_ge (a b : ByteArray) (ha : a.size ≤ 1000000000) (hb : b.size ≤ 1000000000) (aa : Ascii a) (ab : Ascii b) (x y : Int) (p q : Bool) (hx : tnumF a = (x, p)) (hy : tnumF b = (y, q)) (w : World) (hE : Env w) :
    Calls Tryz.prog 19 #[.string a, .string ⟨#[45, 103, 101]⟩, .string b] w fun e w' => e = .returned (.tuple #[.int .i64 (if p && q then truthF (decide (y ≤ x)) else 2), .bool true]) ∧ Below w.heap.size w w' := by
  have hmk := fun w => MapLit.run_make (P := Tryz.prog) 72 w
  have hins := MapLit.run_insert Tryz.underlying72 Tryz.underlying9
  have hlk := MapLit.run_lookup Tryz.underlying72 Tryz.underlying9 zeroF
  have H1 := Lib.hid (tnumber_any a ha aa x p hx)
  have H2 := Lib.hid (tnumber_any b hb ab y q hy)
  have HE := Lib.hid hE
  clear hx hy hE
  obtain ⟨c, hc⟩ : ∃ c, (decide (y ≤ x)) = c := ⟨_, rfl⟩
  have HCL : Hid (∀ w, Calls Tryz.prog 35 #[.int .i64 x, .int .i64 y] w fun e w' => e = .returned (.bool c) ∧ w = w') := fun w => by rw [← hc]; exact cl_ge x y w
  rw [hc]
  clear hc
  cases p <;> cases q
  all_goals
    go_enter Tryz.func19, Tryz.ntmps19
    go_wp2_with fail
    refine (H1.out _ (HE.out.keep (new_block _ _))).mono ?_; rintro e w1 ⟨rfl, hb1⟩
    have B1 := (new_block w _).trans (hb1.mono (by simp))
    go_wp2_with fail
    refine (H2.out _ (HE.out.keep B1)).mono ?_; rintro e w2 ⟨rfl, hb2⟩
    have B2 := B1.trans (hb2.mono B1.size)
    go_wp2_with fail
    first | (go_ret2; exact ⟨rfl, B2⟩) | (refine (HCL.out _).mono ?_; rintro e w3 ⟨rfl, rfl⟩; go_wp2_with fail; refine (truth_any _ _).mono ?_; rintro e w4 ⟨rfl, rfl⟩; go_wp2_with fail; go_ret2; exact ⟨rfl, B2⟩)
/-- Is an operation one on numbers? -/
def numOp (l : List UInt8) : Prop := l = [45, 101, 113] ∨ l = [45, 110, 101] ∨ l = [45, 108, 116] ∨ l = [45, 108, 101] ∨ l = [45, 103, 116] ∨ l = [45, 103, 101]
theorem compares_any (a op b : ByteArray) (hn : numOp op.data.toList → (a.size ≤ 1000000000 ∧ b.size ≤ 1000000000) ∧ Ascii a ∧ Ascii b) (r : Int) (is : Bool) (hr : compareF a op.data.toList b = (r, is)) (w : World) (hE : Env w) :
    Calls Tryz.prog 19 #[.string a, .string op, .string b] w fun e w' => e = .returned (.tuple #[.int .i64 r, .bool is]) ∧ Below w.heap.size w w' := by
  obtain ⟨l, hl⟩ : ∃ l, op.data.toList = l := ⟨_, rfl⟩
  obtain rfl : op = ⟨l.toArray⟩ := by rw [← hl, Lib.mk_data]
  rw [hl] at hn hr
  clear hl
  have back : ∀ {K : Ending → World → Prop}, (Calls Tryz.prog 19 #[.string a, .string ⟨l.toArray⟩, .string b] w fun e w' => K e w' ∧ w = w') → Calls Tryz.prog 19 #[.string a, .string ⟨l.toArray⟩, .string b] w fun e w' => K e w' ∧ Below w.heap.size w w' := fun h => h.mono fun e w' ⟨h1, h2⟩ => ⟨h1, h2 ▸ Below.refl _ _⟩
  unfold compareF at hr
  by_cases h1 : l = [61]
  · subst h1
    rw [if_pos rfl] at hr
    cases hr
    exact back (K := fun e _ => e = _) (cmp_same a b w)
  by_cases h2 : l = [33, 61]
  · subst h2
    rw [if_neg (by decide), if_pos rfl] at hr
    cases hr
    exact back (K := fun e _ => e = _) (cmp_other a b w)
  rw [if_neg h1, if_neg h2] at hr
  obtain ⟨x, p, hx⟩ : ∃ x p, tnumF a = (x, p) := ⟨_, _, rfl⟩
  obtain ⟨y, q, hy⟩ : ∃ y q, tnumF b = (y, q) := ⟨_, _, rfl⟩
  simp only [hx, hy] at hr
  by_cases h3 : l = [45, 101, 113]
  · subst h3
    obtain ⟨⟨s1, s2⟩, a1, a2⟩ := hn (by simp [numOp])
    have e : cmpOp [45, 101, 113] x y = some (x == y) := by simp [cmpOp]
    rw [e] at hr
    have := cmp_eq a b s1 s2 a1 a2 x y p q hx hy w hE
    refine this.mono fun e w' ⟨he, hb⟩ => ⟨?_, hb⟩
    rw [he]
    cases p <;> cases q <;> simp at hr <;> obtain ⟨rfl, rfl⟩ := hr <;> rfl
  by_cases h4 : l = [45, 110, 101]
  · subst h4
    obtain ⟨⟨s1, s2⟩, a1, a2⟩ := hn (by simp [numOp])
    have e : cmpOp [45, 110, 101] x y = some (x != y) := by simp [cmpOp]
    rw [e] at hr
    have := cmp_ne a b s1 s2 a1 a2 x y p q hx hy w hE
    refine this.mono fun e w' ⟨he, hb⟩ => ⟨?_, hb⟩
    rw [he]
    cases p <;> cases q <;> simp at hr <;> obtain ⟨rfl, rfl⟩ := hr <;> rfl
  by_cases h5 : l = [45, 108, 116]
  · subst h5
    obtain ⟨⟨s1, s2⟩, a1, a2⟩ := hn (by simp [numOp])
    have e : cmpOp [45, 108, 116] x y = some (decide (x < y)) := by simp [cmpOp]
    rw [e] at hr
    have := cmp_lt a b s1 s2 a1 a2 x y p q hx hy w hE
    refine this.mono fun e w' ⟨he, hb⟩ => ⟨?_, hb⟩
    rw [he]
    cases p <;> cases q <;> simp at hr <;> obtain ⟨rfl, rfl⟩ := hr <;> rfl
  by_cases h6 : l = [45, 108, 101]
  · subst h6
    obtain ⟨⟨s1, s2⟩, a1, a2⟩ := hn (by simp [numOp])
    have e : cmpOp [45, 108, 101] x y = some (decide (x ≤ y)) := by simp [cmpOp]
    rw [e] at hr
    have := cmp_le a b s1 s2 a1 a2 x y p q hx hy w hE
    refine this.mono fun e w' ⟨he, hb⟩ => ⟨?_, hb⟩
    rw [he]
    cases p <;> cases q <;> simp at hr <;> obtain ⟨rfl, rfl⟩ := hr <;> rfl
  by_cases h7 : l = [45, 103, 116]
  · subst h7
    obtain ⟨⟨s1, s2⟩, a1, a2⟩ := hn (by simp [numOp])
    have e : cmpOp [45, 103, 116] x y = some (decide (y < x)) := by simp [cmpOp]
    rw [e] at hr
    have := cmp_gt a b s1 s2 a1 a2 x y p q hx hy w hE
    refine this.mono fun e w' ⟨he, hb⟩ => ⟨?_, hb⟩
    rw [he]
    cases p <;> cases q <;> simp at hr <;> obtain ⟨rfl, rfl⟩ := hr <;> rfl
  by_cases h8 : l = [45, 103, 101]
  · subst h8
    obtain ⟨⟨s1, s2⟩, a1, a2⟩ := hn (by simp [numOp])
    have e : cmpOp [45, 103, 101] x y = some (decide (y ≤ x)) := by simp [cmpOp]
    rw [e] at hr
    have := cmp_ge a b s1 s2 a1 a2 x y p q hx hy w hE
    refine this.mono fun e w' ⟨he, hb⟩ => ⟨?_, hb⟩
    rw [he]
    cases p <;> cases q <;> simp at hr <;> obtain ⟨rfl, rfl⟩ := hr <;> rfl
  have e : cmpOp l x y = none := by simp [cmpOp, h3, h4, h5, h6, h7, h8]
  rw [e] at hr
  cases hr
  exact cmp_none a l b h1 h2 h3 h4 h5 h6 h7 h8 w
end Go.Proofs.YtjpdhbalngpdpaaGreatDoor
