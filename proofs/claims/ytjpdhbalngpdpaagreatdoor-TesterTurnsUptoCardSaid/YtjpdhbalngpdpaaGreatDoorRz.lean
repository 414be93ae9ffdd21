/-
  DERIVED. The walks of the reference's Decide (kinetoscoperef17) at three texts.
-/
import Derived.Test.YtjpdhbalngpdpaaGreatDoorRy
import Derived.Deep.RegionWith
import Derived.Deep.RegionHeld3
import Derived.Deep.DeepCutAuto
namespace Go.Proofs.YtjpdhbalngpdpaaGreatDoor
open Go.RowKit
theorem r3_at (a op b : ByteArray) (ha : a.size ≤ 281474976710656) (hb : b.size ≤ 281474976710656) (n m : Int) (is : Bool) (hr : compareF a op.data.toList b = (n, is)) (hm : (if is then n else 0) = m) (w : World) :
    Calls Tryz.prog 22 #[.string a, .string op, .string b] w fun e w' => e = .returned (.tuple #[.agg #[.int .i64 m, .bool false, .bool false, .string ⟨#[]⟩, .string ⟨#[]⟩], .bool is]) ∧ Below w.heap.size w w' := by
  subst hm; exact r3_any a op b ha hb n is hr w
/-- The cells of an answer's place, as it begins. -/
abbrev refL : List Value := [.int .i64 0, .bool false, .bool false, .string ⟨#[]⟩, .string ⟨#[]⟩]
/-- The two worlds in which three is called: the answer's place not made yet; made. -/
def refA (w : World) : World := (w.alloc (.cells #[.int .i64 0, .bool false, .bool false, .string ⟨#[]⟩, .string ⟨#[]⟩] 29)).drew
def refB (w : World) : World := ((w.alloc (.cells #[.int .i64 0, .bool false, .bool false, .string ⟨#[]⟩, .string ⟨#[]⟩] 29)).alloc (.cells #[.int .i64 0, .bool false, .bool false, .string ⟨#[]⟩, .string ⟨#[]⟩] 29)).drew
theorem refA_eq (w : World) : (w.alloc (.cells #[.int .i64 0, .bool false, .bool false, .string ⟨#[]⟩, .string ⟨#[]⟩] 29)).drew = refA w := rfl
theorem refB_eq (w : World) : ((w.alloc (.cells #[.int .i64 0, .bool false, .bool false, .string ⟨#[]⟩, .string ⟨#[]⟩] 29)).alloc (.cells #[.int .i64 0, .bool false, .bool false, .string ⟨#[]⟩, .string ⟨#[]⟩] 29)).drew = refB w := rfl
def RLaw (w w1 : World) : Prop := Below w.heap.size w w1 ∧ RowIs w1 w.heap.size 29 refL
theorem RLaw.after {w w1 : World} (h : Below (refA w).heap.size (refA w) w1) : RLaw w w1 :=
  ⟨(refW_below w).drew.trans (h.mono (by unfold refA; simp)), ((refW_row w).below ((Below.refl _ _).drew)).below h⟩
theorem RLaw.ahead {w w1 : World} (h : Below (refB w).heap.size (refB w) w1) : RLaw w w1 ∧ RowIs w1 (w.heap.size + 1) 29 refL := by
  have r := RowIs.below (RowIs.below (RowIs.new (refW w) 29 refL) (Below.refl _ _).drew) h
  have e : (refW w).heap.size = w.heap.size + 1 := by simp
  rw [e] at r
  exact ⟨⟨(((refW_below w).alloc (by simp) _).drew).trans (h.mono (by unfold refB; simp; omega)), (((refW_row w).alloc _).below (Below.refl _ _).drew).below h⟩, r⟩
/-- An answer's place, written. -/
abbrev put5 (w : World) (g : Nat) (m : Int) : World :=
  ((((w.setCell ⟨g, 0, none⟩ (.int .i64 m)).setCell ⟨g, 1, none⟩ (.bool false)).setCell ⟨g, 2, none⟩ (.bool false)).setCell ⟨g, 3, none⟩ (.string ⟨#[]⟩)).setCell ⟨g, 4, none⟩ (.string ⟨#[]⟩)
/-- What holds behind the region that calls three. -/
def L3 (w : World) (g : Nat) (m : Int) (wx : World) : Prop :=
  Below w.heap.size w wx ∧ RowIs wx w.heap.size 29 refL ∧ RowIs wx g 29 [.int .i64 m, .bool false, .bool false, .string ⟨#[]⟩, .string ⟨#[]⟩] ∧ w.heap.size < g
theorem L3.put {w w1 : World} {g : Nat} (h : RLaw w w1) (hr : RowIs w1 g 29 refL) (hg : w.heap.size < g) (m : Int) : L3 w g m (put5 w1 g m) := by
  have hne : w.heap.size ≠ g := by omega
  exact ⟨((((h.1.setCell (Nat.le_of_lt hg) _).setCell (Nat.le_of_lt hg) _).setCell (Nat.le_of_lt hg) _).setCell (Nat.le_of_lt hg) _).setCell (Nat.le_of_lt hg) _,
    ((((h.2.other hne _).other hne _).other hne _).other hne _).other hne _, ((((hr.set 0 _).set 1 _).set 2 _).set 3 _).set 4 _, hg⟩
theorem L3.ahead {w w1 : World} (h : RLaw w w1 ∧ RowIs w1 (w.heap.size + 1) 29 refL) (m : Int) : L3 w (w.heap.size + 1) m (put5 w1 (w.heap.size + 1) m) := .put h.1 h.2 (by omega) m
theorem L3.after {w w1 : World} (h : RLaw w w1) (m : Int) : L3 w w1.heap.size m (w1.alloc (.cells #[.int .i64 m, .bool false, .bool false, .string ⟨#[]⟩, .string ⟨#[]⟩] 29)) :=
  ⟨h.1.alloc h.1.size _, h.2.alloc _, RowIs.new _ _ _, h.2.lt⟩
/-- What holds while the region that calls three draws: the three texts, and that nothing of the world was turned. -/
def LawC (w : World) (bk off : Nat) (a op b : ByteArray) (wx : World) : Prop :=
  (w.cell? ⟨bk, off, none⟩ = some (.string a) ∧ w.cell? ⟨bk, off + 1, none⟩ = some (.string op) ∧ w.cell? ⟨bk, off + 2, none⟩ = some (.string b)) ∧ Below w.heap.size w wx
theorem LawC.all {w wx : World} {bk off : Nat} {a op b : ByteArray} (h : LawC w bk off a op b wx) :
    wx.cell? ⟨bk, off, none⟩ = some (.string a) ∧ wx.cell? ⟨bk, off + 1, none⟩ = some (.string op) ∧ wx.cell? ⟨bk, off + 2, none⟩ = some (.string b) ∧ LawC w bk off a op b wx :=
  ⟨(h.2.cell (p := ⟨bk, off, none⟩) (block_lt_of_cell h.1.1)).trans h.1.1, (h.2.cell (p := ⟨bk, off + 1, none⟩) (block_lt_of_cell h.1.2.1)).trans h.1.2.1, (h.2.cell (p := ⟨bk, off + 2, none⟩) (block_lt_of_cell h.1.2.2)).trans h.1.2.2, h⟩
theorem LawC.alloc {w wx : World} {bk off : Nat} {a op b : ByteArray} (h : LawC w bk off a op b wx) (o : Obj) : LawC w bk off a op b (wx.alloc o) := ⟨h.1, h.2.alloc h.2.size o⟩
theorem LawC.put {w wx : World} {bk off g : Nat} {a op b : ByteArray} (h : LawC w bk off a op b wx) (hg : w.heap.size < g) (v0 v1 v2 v3 v4 : Value) :
    LawC w bk off a op b (((((wx.setCell ⟨g, 0, none⟩ v0).setCell ⟨g, 1, none⟩ v1).setCell ⟨g, 2, none⟩ v2).setCell ⟨g, 3, none⟩ v3).setCell ⟨g, 4, none⟩ v4) :=
  ⟨h.1, ((((h.2.setCell (Nat.le_of_lt hg) _).setCell (Nat.le_of_lt hg) _).setCell (Nat.le_of_lt hg) _).setCell (Nat.le_of_lt hg) _).setCell (Nat.le_of_lt hg) _⟩
set_option maxRecDepth 100000 in
set_option maxHeartbeats 8000000 in
theorem rd3_any (a op b : ByteArray) (ha : a.size ≤ 281474976710656) (hb : b.size ≤ 281474976710656) (v : Value) (w : World) (hv : StrsAt w v [a, op, b]) :
    Calls Tryz.prog 12 #[v] w (RefPost (dec3F a op b) w) := by
  have hv0 := hv
  obtain ⟨p, cap, rfl, hcap, hc⟩ := hv
  rcases hc with hc | ⟨bk, off, rfl, hc⟩
  · cases hc
  have HY := Lib.hid (strs_tail hv0); clear hv0
  have c0 : w.cell? ⟨bk, off, none⟩ = some (.string a) := hc 0 (by simp)
  have c1 : w.cell? ⟨bk, off + 1, none⟩ = some (.string op) := hc 1 (by simp)
  have c2 : w.cell? ⟨bk, off + 2, none⟩ = some (.string b) := hc 2 (by simp)
  have l0 := block_lt_of_cell c0
  have hcap' : (3 : Int) ≤ (cap : Int) := by simp at hcap; omega
  have hcap'' : ¬ cap = 1 := by simp at hcap; omega
  obtain ⟨⟨n, is⟩, hr⟩ : ∃ q, compareF a op.data.toList b = q := ⟨_, rfl⟩
  obtain ⟨m, hm⟩ : ∃ m, (if is then n else 0) = m := ⟨_, rfl⟩
  have HC := Lib.hid (r3_at a op b ha hb n m is hr hm)
  obtain ⟨t, ht⟩ : ∃ t, (a.toList == [33]) = t := ⟨_, rfl⟩
  obtain ⟨d, hd⟩ : ∃ d, twoF op.data.toList b = d := ⟨_, rfl⟩
  obtain ⟨r, hr2⟩ : ∃ r, turnedF d = r := ⟨_, rfl⟩
  have H1 := Lib.hid (fun W hW => hd ▸ rd2_any op b (.slice (some ⟨bk, off + 1, none⟩) 2 (cap - 1)) W hW)
  have H2 := Lib.hid (rturn_at d r (hd ▸ in02_two _ _) hr2)
  obtain ⟨R, hR⟩ : ∃ R, dec3F a op b = R := ⟨_, rfl⟩
  have HF : Hid (R = if is then ⟨m, AskT.none, false⟩ else if t then r else ⟨2, AskT.none, false⟩) := by
    unfold Hid
    rw [← hR, ← ht, Lib.toList_data]
    unfold dec3F
    rw [hr, hd, hr2, ← hm]
    cases is
    · by_cases e : a.data.toList = [33]
      · simp [e]
      · have e' : (a.data.toList == [33]) = false := by simpa using e
        simp [e, e']
    · simp
  rw [hR]
  clear hc hcap hr hm hd hr2 hR
  go_enter Tryz.func12, Tryz.ntmps12
  go_upto_region 6 with fail
  go_cut [3, 4] (fun s3 s4 wx => ∃ g, s3 = .pointer (some ⟨g, 0, none⟩) ∧ s4 = .bool is ∧ L3 w g m wx)
  case first =>
    have LA : LawC w bk off a op b (refA w) := ⟨⟨c0, c1, c2⟩, (refW_below w).drew⟩
    have LB : LawC w bk off a op b (refB w) := ⟨⟨c0, c1, c2⟩, ((refW_below w).alloc (by simp) _).drew⟩
    have H0 := Lib.hid (And.intro c0 (And.intro c1 c2))
    clear c0 c1 c2
    go_region_held3 (fun wx => wx.cell? ⟨bk, off, none⟩ = some (.string a) ∧ wx.cell? ⟨bk, off + 1, none⟩ = some (.string op) ∧ wx.cell? ⟨bk, off + 2, none⟩ = some (.string b) ∧ LawC w bk off a op b wx) (first | with_reducible exact LawC.all (LawC.put hn (Nat.lt_succ_self _) _ _ _ _ _) | with_reducible exact LawC.all (LawC.put (LawC.alloc hn _) hsz2 _ _ _ _ _) | with_reducible exact LawC.all (LawC.alloc hn _) | with_reducible exact LawC.all hn | (rw [refB_eq]; with_reducible exact LawC.all LB) | (rw [refA_eq]; with_reducible exact LawC.all LA))
      ((go_at_call 22; refine (HC.out _).mono ?_; rintro e wn ⟨rfl, hb1⟩; first | (rw [refB_eq] at hb1; have rr := RLaw.ahead hb1; have hn : LawC w bk off a op b wn := ⟨H0.out, rr.1.1⟩; obtain ⟨j0, j1, j2, j3, j4, g0, g1, g2, g3, g4, l2⟩ := ref_facts rr.2; have HR := Lib.hid rr; clear rr hb1) | (rw [refA_eq] at hb1; have rr := RLaw.after hb1; have hn : LawC w bk off a op b wn := ⟨H0.out, rr.1⟩; have hsz := rr.1.size; have hsz2 := rr.2.lt; have HR := Lib.hid rr; clear rr hb1)))
    all_goals
      go_wp2_with fail
      go_meet
      exact ⟨_, rfl, rfl, by first | exact L3.ahead HR.out m | exact L3.after HR.out m⟩
  case rest =>
    obtain ⟨g, rfl, rfl, hL⟩ := hcut
    obtain ⟨B1, ra, rb, hlt⟩ := hL
    obtain ⟨k0, k1, k2, k3, k4, f0, f1, f2, f3, f4, l1⟩ := ref_facts ra
    obtain ⟨j0, j1, j2, j3, j4, g0, g1, g2, g3, g4, l2⟩ := ref_facts rb
    have e0 := (B1.cell (p := ⟨bk, off, none⟩) (block_lt_of_cell c0)).trans c0
    clear c0 c1 c2
    cases is
    · cases t
      · go_wp2_with fail
        exact bodyPost_ret (v := refV ⟨2, AskT.none, false⟩) (by simp [results, Tryz.results12, go_sem, refV, AskT.none, k0, k1, k2, k3, k4]) rfl (.of HF.out (set5 B1 _ _ _ _ _))
      · go_wp2_with fail
        refine (H1.out _ (HY.out.below B1)).mono ?_; rintro e w1 ⟨rfl, hb1⟩
        have B2 := B1.trans (hb1.mono B1.size)
        have r2 := ra.below hb1
        go_wp2_with fail
        refine (H2.out _).mono ?_; rintro e w2 ⟨rfl, hb2⟩
        obtain ⟨k0, k1, k2, k3, k4, f0, f1, f2, f3, f4, l1⟩ := ref_facts (r2.below hb2)
        have B3 := B2.trans (hb2.mono B2.size)
        go_wp2_with fail
        exact bodyPost_ret (v := refV r) (by simp [results, Tryz.results12, go_sem, refV, k0, k1, k2, k3, k4]) rfl (.of HF.out (set5 B3 _ _ _ _ _))
    · go_wp2_with fail
      exact bodyPost_ret (v := refV ⟨m, AskT.none, false⟩) (by simp [results, Tryz.results12, go_sem, refV, AskT.none, k0, k1, k2, k3, k4]) rfl (.of HF.out (set5 B1 _ _ _ _ _))
end Go.Proofs.YtjpdhbalngpdpaaGreatDoor
