/-
  DERIVED. The walk of expand's assign.
-/
import Derived.Test.YtkmpbkhlcapbgaaGreatDoorZ34
namespace Go.Proofs.YtkmpbkhlcapbgaaGreatDoor
open Go Go.RowKit
/-- What a parameter's word comes to, set and put behind. -/
def SetOut (t : List UInt8) (q : Bool) (r : RowT) (out : ExT) : ExT → Prop
  | .ok e2 r2 => keepR (e2.set t (flatR r2)) (putR r (flatR r2) (sortC q)) = some out
  | .fault n x => out = .fault n x
theorem set_same (e : EnvT) (t x : List UInt8) : (e.set t x).status = e.status ∧ (e.set t x).flags = e.flags ∧ (e.set t x).args = e.args := by
  unfold EnvT.set; split <;> exact ⟨rfl, rfl, rfl⟩
set_option maxRecDepth 100000 in
set_option maxHeartbeats 8000000 in
theorem xassign_ok (P : Par) (f : Nat) (hPs : ExPs P f) (g : Nat) (A : Nat → Prop) (e : EnvT) (r : RowT) (k : Nat) (t op : ByteArray) (q : Bool) (a : Option Addr) (m c : Nat) (wd : List PartT) (w : World) (out1 out : ExT)
    (h1 : partsE P f e ([], []) wd = some out1) (hSm : smallL wd) (h2 : SetOut t.data.toList q r out out1) (ht : t.size ≤ 1000000) (hn : isName t.data.toList = true)
    (hW : WorkAt g A w e r) (hwd : WordIn w (· ≠ g) (.slice a m c) wd) :
    Calls Tryz.prog 96 #[.pointer (some ⟨g, 0, none⟩), .agg #[.int .i64 (k : Nat), .string t, .string op, .bool q, .slice a m c]] w (OutPost g A w out) := by
  have hlg := hW.lt
  have hAl := (Below.refl w.heap.size w).alloc (Nat.le_refl _) (partO k t op q a m c)
  have HOF := Lib.hid (xof_ok P f hPs g A e r wd a m c (w.alloc (partO k t op q a m c)) out1 h1 hSm (hW.below hAl) (hwd.keep hAl.size fun b q1 q2 => ⟨hAl.block b q2, q1⟩))
  have HB := Lib.hid (RowIs.new w 92 [.int .i64 (k : Nat), .string t, .string op, .bool q, .slice a m c])
  have HK := Lib.hid (Kept.of (g := g) hAl)
  have HN : Hid (∀ W, Calls Tryz.prog 25 #[.string t] W fun e w' => e = .returned (.bool true) ∧ W = w') := fun W => name_at t true (by omega) hn W
  have hne : ¬ w.heap.size = g := by omega
  clear hW hwd h1 hAl hPs
  go_enter Tryz.func96, Tryz.ntmps96
  go_wp2_with fail
  refine (HN.out _).mono ?_; rintro y w1 ⟨rfl, rfl⟩
  go_wp2_with fail
  refine HOF.out.mono ?_
  cases out1 with
  | fault n x =>
    rintro y w2 ⟨rfl, hk2⟩
    obtain rfl : out = .fault n x := h2
    go_wp2_with fail
    exact ⟨rfl, rfl, HK.out.trans hk2⟩
  | ok e2 r2 =>
    rintro y w2 ⟨rfl, ⟨vv2, aa2, na2, ca2, hC2⟩, hk2, hl2, hf2⟩
    obtain ⟨rfl, hb1, hb2⟩ := keepR_is h2
    obtain ⟨va2, nv2, cv2, rfl⟩ := hC2.shape
    have HBX := Lib.hid (hk2.row HB.out hne)
    have HC2 := Lib.hid hC2
    have HK2 := Lib.hid (HK.out.trans hk2)
    have HF := fun W => Lib.hid (xflat_at r2 hl2 hf2 W)
    clear hC2 hk2 h2 HB HK HOF
    go_wp2_with fail
    refine (HF _).out.mono ?_; rintro y w3 ⟨rfl, hb3⟩
    have hrg := HC2.out.row.below hb3
    obtain ⟨d0, d1, d2, d3, d4, d5, g0, g1, g2, g3, g4, g5, lth⟩ := six_facts hrg
    obtain ⟨m0, m1, m2, m3, m4, n0, n1, n2, n3, n4, ltb⟩ := five_facts (HBX.out.below hb3)
    have HST : Hid (Calls Tryz.prog 13 #[.agg #[.slice va2 nv2 cv2, .slice aa2 na2 ca2, .int .i64 e2.status, .string ⟨e2.flags.toArray⟩], .string t, .string ⟨(flatR r2).toArray⟩] w3.drew fun r w' => ∃ v', r = .returned (.agg #[v', .slice aa2 na2 ca2, .int .i64 e2.status, .string ⟨e2.flags.toArray⟩]) ∧ EnvC w' (fun b => (b ≠ g ∧ ¬ A b) ∨ w3.drew.heap.size ≤ b) v' (.slice aa2 na2 ca2) (e2.set t.data.toList (flatR r2)) ∧ v'.oneCell' = true ∧ Below w3.drew.heap.size w3.drew w') :=
      set_at t ⟨(flatR r2).toArray⟩ (by omega) hn e2 (fun b => b ≠ g ∧ ¬ A b) (.slice va2 nv2 cv2) aa2 na2 ca2 e2.status ⟨e2.flags.toArray⟩ w3.drew (HC2.out.env.keep (w' := w3.drew) hb3.size fun b q1 q2 => ⟨hb3.block b q2, q1⟩) hb2
    have HB3 : Hid (Below w2.heap.size w2 w3.drew) := hb3.trans (Below.refl _ w3).drew
    have HRG : Hid (RowIs w3.drew g _ _) := row_drew hrg
    have HBY : Hid (RowIs w3.drew w.heap.size _ _) := row_drew (HBX.out.below hb3)
    clear hb3 hrg
    go_wp2_with fail
    go_region_with (go_at_call 13; refine HST.out.mono ?_; rintro y wn ⟨v', rfl, hEn, -, hbn⟩; obtain ⟨va3, nv3, cv3, rfl⟩ : ∃ va nv cv, v' = .slice va nv cv := (hEn.vars.1.elim fun a h => h.elim fun cap h => ⟨a, _, cap, h.1⟩); have HRN := Lib.hid (HRG.out.below hbn); have HEN := Lib.hid hEn; have HBN := Lib.hid (HBY.out.below hbn); obtain ⟨z0, z1, z2, z3, z4, z5, y0, y1, y2, y3, y4, y5, ltn⟩ := six_facts HRN.out)
    all_goals
      have hne3 : w.heap.size ≠ g := hne
      have rn : RowIs ((((wn.setCell ⟨g, 0, none⟩ (.slice va3 nv3 cv3)).setCell ⟨g, 1, none⟩ (.slice aa2 na2 ca2)).setCell ⟨g, 2, none⟩ (.int .i64 e2.status)).setCell ⟨g, 3, none⟩ (.string ⟨e2.flags.toArray⟩)) g 82 [.slice va3 nv3 cv3, .slice aa2 na2 ca2, .int .i64 (e2.set t.data.toList (flatR r2)).status, .string ⟨(e2.set t.data.toList (flatR r2)).flags.toArray⟩, .string ⟨r.1.toArray⟩, .string ⟨r.2.toArray⟩] := by
        rw [(set_same e2 t.data.toList (flatR r2)).1, (set_same e2 t.data.toList (flatR r2)).2.1]
        exact (((HRN.out.set 0 (.slice va3 nv3 cv3)).set 1 (.slice aa2 na2 ca2)).set 2 (.int .i64 e2.status)).set 3 (.string ⟨e2.flags.toArray⟩)
      have kn : Kept g w2 ((((wn.setCell ⟨g, 0, none⟩ (.slice va3 nv3 cv3)).setCell ⟨g, 1, none⟩ (.slice aa2 na2 ca2)).setCell ⟨g, 2, none⟩ (.int .i64 e2.status)).setCell ⟨g, 3, none⟩ (.string ⟨e2.flags.toArray⟩)) := ((((Kept.of (g := g) (HB3.out.trans (hbn.mono HB3.out.size))).set 0 _).set 1 _).set 2 _).set 3 _
      have kw : Kept g wn ((((wn.setCell ⟨g, 0, none⟩ (.slice va3 nv3 cv3)).setCell ⟨g, 1, none⟩ (.slice aa2 na2 ca2)).setCell ⟨g, 2, none⟩ (.int .i64 e2.status)).setCell ⟨g, 3, none⟩ (.string ⟨e2.flags.toArray⟩)) := ((((Kept.refl g wn).set 0 _).set 1 _).set 2 _).set 3 _
      have bn := kw.row HBN.out hne3
      obtain ⟨WN, hWN⟩ : ∃ WN, ((((wn.setCell ⟨g, 0, none⟩ (.slice va3 nv3 cv3)).setCell ⟨g, 1, none⟩ (.slice aa2 na2 ca2)).setCell ⟨g, 2, none⟩ (.int .i64 e2.status)).setCell ⟨g, 3, none⟩ (.string ⟨e2.flags.toArray⟩)) = WN := ⟨_, rfl⟩
      rw [hWN] at rn kn kw bn ⊢
      have hs3 : w2.heap.size ≤ w3.drew.heap.size := HB3.out.size
      have hw : WorkAt g A WN (e2.set t.data.toList (flatR r2)) r := ⟨_, aa2, na2, ca2, rn, HEN.out.keep kw.size fun b q1 q2 => by
        have h1 : b ≠ g ∧ ¬ A b := by
          rcases q1 with q1 | q1
          · exact q1
          · refine ⟨by have := HC2.out.lt; omega, fun h => ?_⟩
            have := HC2.out.lo b h; omega
        exact ⟨kw.block b q2 h1.1, h1⟩, fun b q => Nat.lt_of_lt_of_le (HC2.out.lo b q) kn.size, HC2.out.len, HC2.out.few, HC2.out.far, HC2.out.tab.kept HC2.out.far kn⟩
      obtain ⟨x0, x1, x2, x3, x4, u0, u1, u2, u3, u4, ltx⟩ := five_facts bn
      have HPT := Lib.hid (wput_at g A _ r ⟨(flatR r2).toArray⟩ (sortC q) WN hw hb1)
      have HKN := Lib.hid kn
      clear hWN rn kn kw bn hw hEn
      go_wp2_with fail
      refine (sort_at q WN).mono ?_; rintro y wx ⟨rfl, rfl⟩
      go_wp2_with fail
      refine HPT.out.mono ?_; rintro y wy ⟨rfl, hx, hk⟩
      go_wp2_with fail
      go_end0
      exact ⟨rfl, hx, (HK2.out.trans HKN.out).trans hk⟩
end Go.Proofs.YtkmpbkhlcapbgaaGreatDoor
