/-
  DERIVED. The walk of expand's word: a parameter's word, put behind. The walk of expand's assign.
-/
import Derived.Test.YtkmpbkhlcapbgaaGreatDoorZ18
import Derived.Lib.ReplaceLaws
namespace Go.Proofs.YtkmpbkhlcapbgaaGreatDoor
open Go Go.RowKit
theorem replaceK_one : ∀ l : List UInt8, Lib.replaceK [108] [115] (Lib.count l [108]) l = some2 l := by
  intro l
  induction l with
  | nil => rfl
  | cons a l ih =>
    by_cases h : a = 108
    · subst h
      rw [Lib.count_cons_eq, Nat.add_comm, Lib.replaceK_hit [108] [115] _ _ 0 rfl]
      show [] ++ [115] ++ Lib.replaceK [108] [115] (Lib.count l [108]) l = some2 (108 :: l)
      rw [ih]; rfl
    · rw [Lib.count_cons_ne _ _ _ h]
      have e0 : some2 (a :: l) = a :: some2 l := by unfold some2; rw [List.map_cons, if_neg h]
      have h2 : ¬ 108 = a := fun e => h e.symm
      cases hc : Lib.count l [108] with
      | zero => rw [hc] at ih; rw [e0, ← ih]; rfl
      | succ k =>
        obtain ⟨i, hi⟩ := Lib.index_of_count (s := l) (old := [108]) (by omega)
        have hi2 : Lib.index (a :: l) [108] = ((i + 1 : Nat) : Int) := by
          unfold Lib.index
          have : ([108] : List UInt8).isPrefixOf (a :: l) = false := by simp [List.isPrefixOf, h2]
          rw [this, hi]
          have : ((i : Int) == -1) = false := by simp
          rw [this]; rfl
        rw [hc, Lib.replaceK_hit [108] [115] k l i hi] at ih
        rw [Lib.replaceK_hit [108] [115] k (a :: l) (i + 1) hi2, e0, ← ih]
        show _ = a :: _
        simp
theorem replace_one (l : List UInt8) : Lib.replaceAll l [108] [115] = some2 l := by
  unfold Lib.replaceAll Lib.replace Lib.replaceNum
  exact replaceK_one l
theorem rall_at (m : ByteArray) (hs : m.size ≤ 1000000) (w : World) (hT : Tab w) :
    Calls Tryz.prog 126 #[.string m, .string ⟨#[108]⟩, .string ⟨#[115]⟩] w fun e w' => e = .returned (.string ⟨(some2 m.data.toList).toArray⟩) ∧ Below w.heap.size w w' := by
  have hc := Lib.countB_mul_le ⟨#[108]⟩ (by decide) m.size m (Nat.le_refl _)
  have e1 : (⟨#[108]⟩ : ByteArray).size = 1 := rfl
  have e2 : (⟨#[115]⟩ : ByteArray).size = 1 := rfl
  rw [e1] at hc
  obtain ⟨mm, hmm⟩ := hT.max
  have h := Tryz.strings_ReplaceAll m ⟨#[108]⟩ ⟨#[115]⟩ mm w (by omega) hmm (by decide) (by rw [e2]; omega)
  rw [show (⟨#[108]⟩ : ByteArray).data.toList = [108] from rfl, show (⟨#[115]⟩ : ByteArray).data.toList = [115] from rfl, replace_one] at h
  exact h
theorem keepR_is {e : EnvT} {r : RowT} {out : ExT} (h : keepR e r = some out) : out = .ok e r ∧ r.1.length ≤ 1000000 ∧ e.vars.length ≤ 1000000 := by
  unfold keepR at h
  split at h
  · rename_i hh; exact ⟨(Option.some.inj h).symm, hh⟩
  · cases h
theorem xflat_at (r : RowT) (hl : r.1.length = r.2.length) (hf : r.1.length ≤ 1000000) (w : World) :
    Calls Tryz.prog 28 #[.agg #[.string ⟨r.1.toArray⟩, .string ⟨r.2.toArray⟩]] w fun e w' => e = .returned (.string ⟨(flatR r).toArray⟩) ∧ Below w.heap.size w w' := by
  have e1 : (⟨r.1.toArray⟩ : ByteArray).size = r.1.length := by show r.1.toArray.size = _; simp
  have e2 : (⟨r.2.toArray⟩ : ByteArray).size = r.2.length := by show r.2.toArray.size = _; simp
  exact flat_at ⟨r.1.toArray⟩ ⟨r.2.toArray⟩ (by rw [e1, e2]; exact hl) (by rw [e1]; omega) w
abbrev partO (k : Nat) (t op : ByteArray) (q : Bool) (a : Option Addr) (m c : Nat) : Obj := .cells #[.int .i64 (k : Nat), .string t, .string op, .bool q, .slice a m c] 92
/-- What a parameter's word comes to, put behind. -/
def WordOut (q : Bool) (r : RowT) (out : ExT) : ExT → Prop
  | .ok e2 r2 => keepR e2 (if q then putR r (flatR r2) 113 else joinR r (r2.1, some2 r2.2)) = some out
  | .fault n x => out = .fault n x
set_option maxRecDepth 100000 in
set_option maxHeartbeats 8000000 in
theorem xword_ok (P : Par) (f : Nat) (hPs : ExPs P f) (g : Nat) (A : Nat → Prop) (e : EnvT) (r : RowT) (k : Nat) (t op : ByteArray) (q : Bool) (a : Option Addr) (m c : Nat) (wd : List PartT) (w : World) (out1 out : ExT)
    (h1 : partsE P f e ([], []) wd = some out1) (hSm : smallL wd) (h2 : WordOut q r out out1)
    (hW : WorkAt g A w e r) (hwd : WordIn w (· ≠ g) (.slice a m c) wd) :
    Calls Tryz.prog 95 #[.pointer (some ⟨g, 0, none⟩), .agg #[.int .i64 (k : Nat), .string t, .string op, .bool q, .slice a m c]] w (OutPost g A w out) := by
  have hlg := hW.lt
  have hAl := (Below.refl w.heap.size w).alloc (Nat.le_refl _) (partO k t op q a m c)
  have HOF := Lib.hid (xof_ok P f hPs g A e r wd a m c (w.alloc (partO k t op q a m c)) out1 h1 hSm (hW.below hAl) (hwd.keep hAl.size fun b q1 q2 => ⟨hAl.block b q2, q1⟩))
  have HB := Lib.hid (RowIs.new w 92 [.int .i64 (k : Nat), .string t, .string op, .bool q, .slice a m c])
  have HK := Lib.hid (Kept.of (g := g) hAl)
  have hne : ¬ w.heap.size = g := by omega
  clear hW hwd h1 hAl hPs
  cases q
  · have hst := fun (w : World) (b cap : Nat) (x : Int) => run_str1 (P := Tryz.prog) Tryz.underlying73 Tryz.underlying5 Tryz.underlying9 w b cap x
    go_enter Tryz.func95, Tryz.ntmps95
    go_wp2_with fail
    refine HOF.out.mono ?_
    cases out1 with
    | fault n x =>
      rintro y w2 ⟨rfl, hk2⟩
      obtain rfl : out = .fault n x := h2
      go_wp2_with fail
      exact ⟨rfl, rfl, HK.out.trans hk2⟩
    | ok e2 r2 =>
      rintro y w2 ⟨rfl, ⟨vv2, aa2, na2, ca2, hC2⟩, hk2, hl2, hf2⟩
      obtain ⟨rfl, hb1, hb2⟩ := keepR_is h2
      obtain ⟨d0, d1, d2, d3, d4, d5, g0, g1, g2, g3, g4, g5, lth⟩ := six_facts hC2.row
      have hbx := hk2.row HB.out hne
      obtain ⟨m0, m1, m2, m3, m4, n0, n1, n2, n3, n4, ltb⟩ := five_facts hbx
      have hsz1 : (⟨r2.1.toArray⟩ : ByteArray).size = (⟨(some2 r2.2).toArray⟩ : ByteArray).size := by
        show r2.1.toArray.size = (some2 r2.2).toArray.size
        unfold some2; simpa using hl2
      have hsz2 : (⟨r.1.toArray⟩ : ByteArray).size = (⟨r.2.toArray⟩ : ByteArray).size := by
        show r.1.toArray.size = r.2.toArray.size
        simpa using hC2.len
      have hsz3 : (⟨r.1.toArray⟩ : ByteArray).size + (⟨r2.1.toArray⟩ : ByteArray).size ≤ 1000000000 := by
        have h1 := hC2.few
        show r.1.toArray.size + r2.1.toArray.size ≤ _
        simp only [List.size_toArray]; omega
      have hRA : ∀ W, Tab W → Calls Tryz.prog 126 #[.string ⟨r2.2.toArray⟩, .string ⟨#[108]⟩, .string ⟨#[115]⟩] W fun e w' => e = .returned (.string ⟨(some2 r2.2).toArray⟩) ∧ Below W.heap.size W w' := fun W hT => rall_at ⟨r2.2.toArray⟩ (by show r2.2.toArray.size ≤ _; simp; omega) W hT
      have hcat1 : (⟨(joinR r (r2.1, some2 r2.2)).1.toArray⟩ : ByteArray) = ⟨r.1.toArray⟩ ++ ⟨r2.1.toArray⟩ := by apply ByteArray.ext; simp [joinR]
      have hcat2 : (⟨(joinR r (r2.1, some2 r2.2)).2.toArray⟩ : ByteArray) = ⟨r.2.toArray⟩ ++ ⟨(some2 r2.2).toArray⟩ := by apply ByteArray.ext; simp [joinR]
      have hlenJ : (joinR r (r2.1, some2 r2.2)).1.length = (joinR r (r2.1, some2 r2.2)).2.length := by
        have h1 := hC2.len
        unfold joinR some2; simp; omega
      have hb1 : (joinR r (r2.1, some2 r2.2)).1.length ≤ 1000000 := hb1
      obtain ⟨rJ, hrJ⟩ : ∃ rJ, (if false = true then putR r (flatR r2) 113 else joinR r (r2.1, some2 r2.2)) = rJ := ⟨_, rfl⟩
      have hrJ' : joinR r (r2.1, some2 r2.2) = rJ := hrJ
      have HC2 := Lib.hid hC2
      have HK2 := Lib.hid (HK.out.trans hk2)
      have hxr := hC2.row
      rw [hrJ'] at hcat1 hcat2 hlenJ hb1
      rw [hrJ]
      obtain ⟨RT, hRT⟩ : ∃ RT : ByteArray, (⟨r2.1.toArray⟩ : ByteArray) = RT := ⟨_, rfl⟩
      obtain ⟨RM, hRM⟩ : ∃ RM : ByteArray, (⟨r2.2.toArray⟩ : ByteArray) = RM := ⟨_, rfl⟩
      obtain ⟨T, hT⟩ : ∃ T : ByteArray, (⟨r.1.toArray⟩ : ByteArray) = T := ⟨_, rfl⟩
      obtain ⟨TM, hTM⟩ : ∃ TM : ByteArray, (⟨r.2.toArray⟩ : ByteArray) = TM := ⟨_, rfl⟩
      obtain ⟨M, hM⟩ : ∃ M : ByteArray, (⟨(some2 r2.2).toArray⟩ : ByteArray) = M := ⟨_, rfl⟩
      rw [hRT, hRM]
      rw [hT, hTM] at hxr
      rw [hRT, hM] at hsz1
      rw [hT, hTM] at hsz2
      rw [hT, hRT] at hsz3
      rw [hT, hRT] at hcat1
      rw [hTM, hM] at hcat2
      rw [hRM, hM] at hRA
      have HJ : Hid (∀ W sb, RowIs W sb 38 [.string T, .string TM, .string RT, .string M] → Calls Tryz.prog 120 #[.slice (some ⟨sb, 0, none⟩) 2 2] W fun e w' => e = .returned (.agg #[.string (T ++ RT), .string (TM ++ M)]) ∧ Below W.heap.size W w') := fun W sb h => join_at sb T TM RT M hsz2 hsz1 hsz3 W h
      have HRA := Lib.hid hRA
      have HJJ := Lib.hid hrJ'
      have HXR := Lib.hid hxr
      clear hC2 hk2 h2 hbx HB HK HOF d0 d1 d2 d3 d4 d5 g0 g1 g2 g3 g4 g5 hsz1 hsz2 hsz3 hRA hrJ hrJ' hRT hRM hT hTM hM hxr
      go_wp2_with fail
      have b0 := ((((Below.refl w2.heap.size w2).alloc (Nat.le_refl _) (.cells #[.string RT, .string RM] 38)).alloc (by simp) (.cells #[.int .u8 108] 5)).alloc (by simp; omega) (.cells #[.int .u8 115] 5))
      have r0 := ((RowIs.new w2 38 [.string RT, .string RM]).alloc (.cells #[.int .u8 108] 5)).alloc (.cells #[.int .u8 115] 5)
      refine (HRA.out _ (HC2.out.tab.below (by have := HC2.out.far; exact ⟨by have := this.1; omega, by have := this.2; omega⟩) b0)).mono ?_
      rintro y w3 ⟨rfl, hb3⟩
      have r1 := r0.below hb3
      have b1 := b0.trans (hb3.mono b0.size)
      have hne2 : ¬ w2.heap.size = g := by omega
      obtain ⟨q0, q1, q2, q3, q4⟩ := two_facts r1
      have HR1 := Lib.hid r1
      have HB1 := Lib.hid b1
      clear b0 r0 r1 b1 hb3
      go_wp2_with fail
      have rn := HR1.out.set 1 (.string M)
      have rg := (HXR.out.below HB1.out).other (a := ⟨w2.heap.size, 1, none⟩) (by simp; omega) (.string M)
      have bn := HB1.out.setCell (p := ⟨w2.heap.size, 1, none⟩) (Nat.le_refl _) (.string M)
      simp only [List.set] at rn
      obtain ⟨w4, hw4⟩ : ∃ w4, w3.setCell ⟨w2.heap.size, 1, none⟩ (.string M) = w4 := ⟨_, rfl⟩
      rw [hw4] at rn rg bn ⊢
      clear hw4 HR1 HB1 q0 q1 q2 q3 q4
      obtain ⟨q0, q1, q2, q3, q4⟩ := two_facts rn
      obtain ⟨d0, d1, d2, d3, d4, d5, g0, g1, g2, g3, g4, g5, lth⟩ := six_facts rg
      have HBN := Lib.hid bn
      have hsl : Hid (RowIs ((w4.alloc (.cells #[.string T, .string TM, .string RT, .string M] 38)).drew) w4.heap.size 38 [.string T, .string TM, .string RT, .string M]) := row_drew (RowIs.new w4 _ _)
      have hgl : Hid (RowIs ((w4.alloc (.cells #[.string T, .string TM, .string RT, .string M] 38)).drew) g 82 [vv2, .slice aa2 na2 ca2, .int .i64 e2.status, .string ⟨e2.flags.toArray⟩, .string T, .string TM]) := row_drew (rg.alloc _)
      have hbl : Hid (Below w2.heap.size w2 ((w4.alloc (.cells #[.string T, .string TM, .string RT, .string M] 38)).drew)) := (bn.alloc bn.size _).trans (Below.refl _ _).drew
      clear rn rg bn
      go_region_with (go_at_call 120; refine (HJ.out _ _ hsl.out).mono ?_; rintro e wn ⟨rfl, hbn⟩; have HRN := Lib.hid (hgl.out.below hbn); obtain ⟨z0, z1, z2, z3, z4, z5, y0, y1, y2, y3, y4, y5, ltn⟩ := six_facts HRN.out)
      all_goals
        go_wp2_with fail
        go_end0
        have kn : Kept g w2 ((wn.setCell ⟨g, 4, none⟩ (.string (T ++ RT))).setCell ⟨g, 5, none⟩ (.string (TM ++ M))) := ((Kept.of (g := g) (hbl.out.trans (hbn.mono hbl.out.size))).set 4 _).set 5 _
        have rn := (HRN.out.set 4 (.string (T ++ RT))).set 5 (.string (TM ++ M))
        simp only [List.set] at rn
        rw [HJJ.out]
        have rn : RowIs ((wn.setCell ⟨g, 4, none⟩ (.string (T ++ RT))).setCell ⟨g, 5, none⟩ (.string (TM ++ M))) g 82 [vv2, .slice aa2 na2 ca2, .int .i64 e2.status, .string ⟨e2.flags.toArray⟩, .string ⟨rJ.1.toArray⟩, .string ⟨rJ.2.toArray⟩] := by rw [hcat1, hcat2]; exact rn
        exact ⟨rfl, ⟨vv2, aa2, na2, ca2, rn, HC2.out.env.keep kn.size fun b q1 q2 => ⟨kn.block b q2 q1.1, q1⟩, fun b q => Nat.lt_of_lt_of_le (HC2.out.lo b q) kn.size, hlenJ, hb1, HC2.out.far, HC2.out.tab.kept HC2.out.far kn, fun w2 k => HC2.out.more w2 (kn.trans k)⟩, HK2.out.trans kn⟩
  · go_enter Tryz.func95, Tryz.ntmps95
    go_wp2_with fail
    refine HOF.out.mono ?_
    cases out1 with
    | fault n x =>
      rintro y w2 ⟨rfl, hk2⟩
      obtain rfl : out = .fault n x := h2
      go_wp2_with fail
      exact ⟨rfl, rfl, HK.out.trans hk2⟩
    | ok e2 r2 =>
      rintro y w2 ⟨rfl, hC2, hk2, hl2, hf2⟩
      obtain ⟨rfl, hb1, hb2⟩ := keepR_is h2
      have hbx := hk2.row HB.out hne
      obtain ⟨m0, m1, m2, m3, m4, n0, n1, n2, n3, n4, ltb⟩ := five_facts hbx
      have HC2 := Lib.hid hC2
      have HK2 := Lib.hid (HK.out.trans hk2)
      have HF := fun W => Lib.hid (xflat_at r2 hl2 hf2 W)
      clear hC2 hk2 h2 hbx HB HK HOF
      go_wp2_with fail
      refine (HF _).out.mono ?_; rintro y w3 ⟨rfl, hb3⟩
      have hA2 := ((Below.refl w2.heap.size w2).alloc (Nat.le_refl _) (.cells #[.string ⟨r2.1.toArray⟩, .string ⟨r2.2.toArray⟩] 38))
      have hA3 := hA2.trans (hb3.mono hA2.size)
      have HP := Lib.hid (wput_at g A e2 r ⟨(flatR r2).toArray⟩ 113 w3 (HC2.out.below hA3) hb1)
      have HK3 := Lib.hid (HK2.out.trans (Kept.of hA3))
      clear hA2 hA3 hb3
      go_wp2_with fail
      refine HP.out.mono ?_; rintro y w4 ⟨rfl, hx, hk⟩
      go_wp2_with fail
      go_end0
      exact ⟨rfl, hx, HK3.out.trans hk⟩
end Go.Proofs.YtkmpbkhlcapbgaaGreatDoor
namespace Go.Proofs.YtkmpbkhlcapbgaaGreatDoor
open Go Go.RowKit
/-- What a parameter's word comes to, set and put behind. -/
def SetOut (t : List UInt8) (q : Bool) (r : RowT) (out : ExT) : ExT → Prop
  | .ok e2 r2 => keepR (e2.set t (flatR r2)) (putR r (flatR r2) (sortC q)) = some out
  | .fault n x => out = .fault n x
theorem set_same (e : EnvT) (t x : List UInt8) : (e.set t x).status = e.status ∧ (e.set t x).flags = e.flags ∧ (e.set t x).args = e.args := by
  unfold EnvT.set; split <;> exact ⟨rfl, rfl, rfl⟩
set_option maxRecDepth 100000 in
set_option maxHeartbeats 8000000 in
theorem xassign_ok (P : Par) (f : Nat) (hPs : ExPs P f) (g : Nat) (A : Nat → Prop) (e : EnvT) (r : RowT) (k : Nat) (t op : ByteArray) (q : Bool) (a : Option Addr) (m c : Nat) (wd : List PartT) (w : World) (out1 out : ExT)
    (h1 : partsE P f e ([], []) wd = some out1) (hSm : smallL wd) (h2 : SetOut t.data.toList q r out out1) (ht : t.size ≤ 1000000) (hn : isName t.data.toList = true)
    (hW : WorkAt g A w e r) (hwd : WordIn w (· ≠ g) (.slice a m c) wd) :
    Calls Tryz.prog 96 #[.pointer (some ⟨g, 0, none⟩), .agg #[.int .i64 (k : Nat), .string t, .string op, .bool q, .slice a m c]] w (OutPost g A w out) := by
  have hlg := hW.lt
  have hAl := (Below.refl w.heap.size w).alloc (Nat.le_refl _) (partO k t op q a m c)
  have HOF := Lib.hid (xof_ok P f hPs g A e r wd a m c (w.alloc (partO k t op q a m c)) out1 h1 hSm (hW.below hAl) (hwd.keep hAl.size fun b q1 q2 => ⟨hAl.block b q2, q1⟩))
  have HB := Lib.hid (RowIs.new w 92 [.int .i64 (k : Nat), .string t, .string op, .bool q, .slice a m c])
  have HK := Lib.hid (Kept.of (g := g) hAl)
  have HN : Hid (∀ W, Calls Tryz.prog 25 #[.string t] W fun e w' => e = .returned (.bool true) ∧ W = w') := fun W => name_at t true (by omega) hn W
  have hne : ¬ w.heap.size = g := by omega
  clear hW hwd h1 hAl hPs
  go_enter Tryz.func96, Tryz.ntmps96
  go_wp2_with fail
  refine (HN.out _).mono ?_; rintro y w1 ⟨rfl, rfl⟩
  go_wp2_with fail
  refine HOF.out.mono ?_
  cases out1 with
  | fault n x =>
    rintro y w2 ⟨rfl, hk2⟩
    obtain rfl : out = .fault n x := h2
    go_wp2_with fail
    exact ⟨rfl, rfl, HK.out.trans hk2⟩
  | ok e2 r2 =>
    rintro y w2 ⟨rfl, ⟨vv2, aa2, na2, ca2, hC2⟩, hk2, hl2, hf2⟩
    obtain ⟨rfl, hb1, hb2⟩ := keepR_is h2
    obtain ⟨va2, nv2, cv2, rfl⟩ := hC2.shape
    have HBX := Lib.hid (hk2.row HB.out hne)
    have HC2 := Lib.hid hC2
    have HK2 := Lib.hid (HK.out.trans hk2)
    have HF := fun W => Lib.hid (xflat_at r2 hl2 hf2 W)
    clear hC2 hk2 h2 HB HK HOF
    go_wp2_with fail
    refine (HF _).out.mono ?_; rintro y w3 ⟨rfl, hb3⟩
    have hrg := HC2.out.row.below hb3
    obtain ⟨d0, d1, d2, d3, d4, d5, g0, g1, g2, g3, g4, g5, lth⟩ := six_facts hrg
    obtain ⟨m0, m1, m2, m3, m4, n0, n1, n2, n3, n4, ltb⟩ := five_facts (HBX.out.below hb3)
    have HST : Hid (Calls Tryz.prog 13 #[.agg #[.slice va2 nv2 cv2, .slice aa2 na2 ca2, .int .i64 e2.status, .string ⟨e2.flags.toArray⟩], .string t, .string ⟨(flatR r2).toArray⟩] w3.drew fun r w' => ∃ v', r = .returned (.agg #[v', .slice aa2 na2 ca2, .int .i64 e2.status, .string ⟨e2.flags.toArray⟩]) ∧ EnvC w' (fun b => (b ≠ g ∧ ¬ A b) ∨ w3.drew.heap.size ≤ b) v' (.slice aa2 na2 ca2) (e2.set t.data.toList (flatR r2)) ∧ v'.oneCell' = true ∧ Below w3.drew.heap.size w3.drew w') :=
      set_at t ⟨(flatR r2).toArray⟩ (by omega) hn e2 (fun b => b ≠ g ∧ ¬ A b) (.slice va2 nv2 cv2) aa2 na2 ca2 e2.status ⟨e2.flags.toArray⟩ w3.drew (HC2.out.env.keep (w' := w3.drew) hb3.size fun b q1 q2 => ⟨hb3.block b q2, q1⟩) hb2
    have HB3 : Hid (Below w2.heap.size w2 w3.drew) := hb3.trans (Below.refl _ w3).drew
    have HRG : Hid (RowIs w3.drew g _ _) := row_drew hrg
    have HBY : Hid (RowIs w3.drew w.heap.size _ _) := row_drew (HBX.out.below hb3)
    clear hb3 hrg
    go_wp2_with fail
    go_region_with (go_at_call 13; refine HST.out.mono ?_; rintro y wn ⟨v', rfl, hEn, -, hbn⟩; obtain ⟨va3, nv3, cv3, rfl⟩ : ∃ va nv cv, v' = .slice va nv cv := (hEn.vars.1.elim fun a h => h.elim fun cap h => ⟨a, _, cap, h.1⟩); have HRN := Lib.hid (HRG.out.below hbn); have HEN := Lib.hid hEn; have HBN := Lib.hid (HBY.out.below hbn); obtain ⟨z0, z1, z2, z3, z4, z5, y0, y1, y2, y3, y4, y5, ltn⟩ := six_facts HRN.out)
    all_goals
      have hne3 : w.heap.size ≠ g := hne
      have rn : RowIs ((((wn.setCell ⟨g, 0, none⟩ (.slice va3 nv3 cv3)).setCell ⟨g, 1, none⟩ (.slice aa2 na2 ca2)).setCell ⟨g, 2, none⟩ (.int .i64 e2.status)).setCell ⟨g, 3, none⟩ (.string ⟨e2.flags.toArray⟩)) g 82 [.slice va3 nv3 cv3, .slice aa2 na2 ca2, .int .i64 (e2.set t.data.toList (flatR r2)).status, .string ⟨(e2.set t.data.toList (flatR r2)).flags.toArray⟩, .string ⟨r.1.toArray⟩, .string ⟨r.2.toArray⟩] := by
        rw [(set_same e2 t.data.toList (flatR r2)).1, (set_same e2 t.data.toList (flatR r2)).2.1]
        exact (((HRN.out.set 0 (.slice va3 nv3 cv3)).set 1 (.slice aa2 na2 ca2)).set 2 (.int .i64 e2.status)).set 3 (.string ⟨e2.flags.toArray⟩)
      have kn : Kept g w2 ((((wn.setCell ⟨g, 0, none⟩ (.slice va3 nv3 cv3)).setCell ⟨g, 1, none⟩ (.slice aa2 na2 ca2)).setCell ⟨g, 2, none⟩ (.int .i64 e2.status)).setCell ⟨g, 3, none⟩ (.string ⟨e2.flags.toArray⟩)) := ((((Kept.of (g := g) (HB3.out.trans (hbn.mono HB3.out.size))).set 0 _).set 1 _).set 2 _).set 3 _
      have kw : Kept g wn ((((wn.setCell ⟨g, 0, none⟩ (.slice va3 nv3 cv3)).setCell ⟨g, 1, none⟩ (.slice aa2 na2 ca2)).setCell ⟨g, 2, none⟩ (.int .i64 e2.status)).setCell ⟨g, 3, none⟩ (.string ⟨e2.flags.toArray⟩)) := ((((Kept.refl g wn).set 0 _).set 1 _).set 2 _).set 3 _
      have bn := kw.row HBN.out hne3
      obtain ⟨WN, hWN⟩ : ∃ WN, ((((wn.setCell ⟨g, 0, none⟩ (.slice va3 nv3 cv3)).setCell ⟨g, 1, none⟩ (.slice aa2 na2 ca2)).setCell ⟨g, 2, none⟩ (.int .i64 e2.status)).setCell ⟨g, 3, none⟩ (.string ⟨e2.flags.toArray⟩)) = WN := ⟨_, rfl⟩
      rw [hWN] at rn kn kw bn ⊢
      have hs3 : w2.heap.size ≤ w3.drew.heap.size := HB3.out.size
      have hw : WorkAt g A WN (e2.set t.data.toList (flatR r2)) r := ⟨_, aa2, na2, ca2, rn, HEN.out.keep kw.size fun b q1 q2 => by
        have h1 : b ≠ g ∧ ¬ A b := by
          rcases q1 with q1 | q1
          · exact q1
          · refine ⟨by have := HC2.out.lt; omega, fun h => ?_⟩
            have := HC2.out.lo b h; omega
        exact ⟨kw.block b q2 h1.1, h1⟩, fun b q => Nat.lt_of_lt_of_le (HC2.out.lo b q) kn.size, HC2.out.len, HC2.out.few, HC2.out.far, HC2.out.tab.kept HC2.out.far kn, fun w2 k => HC2.out.more w2 (kn.trans k)⟩
      obtain ⟨x0, x1, x2, x3, x4, u0, u1, u2, u3, u4, ltx⟩ := five_facts bn
      have HPT := Lib.hid (wput_at g A _ r ⟨(flatR r2).toArray⟩ (sortC q) WN hw hb1)
      have HKN := Lib.hid kn
      clear hWN rn kn kw bn hw hEn
      go_wp2_with fail
      refine (sort_at q WN).mono ?_; rintro y wx ⟨rfl, rfl⟩
      go_wp2_with fail
      refine HPT.out.mono ?_; rintro y wy ⟨rfl, hx, hk⟩
      go_wp2_with fail
      go_end0
      exact ⟨rfl, hx, (HK2.out.trans HKN.out).trans hk⟩
end Go.Proofs.YtkmpbkhlcapbgaaGreatDoor
