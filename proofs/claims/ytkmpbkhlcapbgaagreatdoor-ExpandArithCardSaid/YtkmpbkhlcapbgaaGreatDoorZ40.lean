/-
  DERIVED. The walks of arith's any and its closure, given what row and any do. The walk of arith's any.
-/
import Derived.Test.YtkmpbkhlcapbgaaGreatDoorZ37
import Derived.Deep.RegionHeld3
import Derived.Outline
namespace Go.Proofs.YtkmpbkhlcapbgaaGreatDoor
open Go.RowKit
def AnyOK (f : Nat) : Prop := ∀ (d : Nat) (s u : ByteArray) (t : Tree), anyF f d s.data.toList = some (t, u.data.toList) → ∀ (g : Nat) (w : World), Rd g s d w →
  Calls Tryz.prog 128 #[.pointer (some ⟨g, 0, none⟩)] w (TreePost g d t u (w.heap.size ≤ ·) w)
def RowOK (f : Nat) : Prop := ∀ (d i : Nat) (s u : ByteArray) (t : Tree), rowF f d i s.data.toList = some (t, u.data.toList) → ∀ (g : Nat) (w : World), Rd g s d w →
  Calls Tryz.prog 151 #[.pointer (some ⟨g, 0, none⟩), .int .i64 (i : Int)] w (TreePost g d t u (w.heap.size ≤ ·) w)
def AheadOK (f : Nat) : Prop := ∀ (d : Nat) (s u : ByteArray) (t : Tree), aheadF f d s.data.toList = some (t, u.data.toList) → ∀ (g : Nat) (w : World), Rd g s d w →
  Calls Tryz.prog 177 #[.pointer (some ⟨g, 0, none⟩)] w (TreePost g d t u (w.heap.size ≤ ·) w)
theorem Rd.drew {g : Nat} {s : ByteArray} {d : Nat} {w : World} (h : Rd g s d w) : Rd g s d w.drew :=
  have k : Kept g w w.drew := .of (Below.refl _ _).drew
  h.kept k (h.row.below (Below.refl _ _).drew)
/-- A tree's cells. -/
abbrev treeC (o : ByteArray) (n : Int) (m : ByteArray) (p : Option Addr) (k : Nat) : List Value := [.string o, .int .i64 n, .string m, .slice p k k]
/-- What holds while a region of the closure of 'a ? b : c' draws. -/
structure LawQ (g br ba bb : Nat) (o1 : ByteArray) (n1 : Int) (m1 : ByteArray) (p1 : Option Addr) (k1 : Nat) (o2 : ByteArray) (n2 : Int) (m2 : ByteArray) (p2 : Option Addr) (k2 : Nat) (ta tb : Tree) (Sa : Nat → Prop) (w wx : World) : Prop where
  rr : RowIs wx br 172 [.pointer (some ⟨g, 0, none⟩)]
  ra : RowIs wx ba 177 (treeC o1 n1 m1 p1 k1)
  rb : RowIs wx bb 177 (treeC o2 n2 m2 p2 k2)
  rz : ∃ z0 z1 z2 z3, RowIs wx w.heap.size 177 [z0, z1, z2, z3]
  ka : TreeAt wx Sa o1 n1 m1 p1 k1 ta
  kb : TreeAt wx (w.heap.size < ·) o2 n2 m2 p2 k2 tb
  kept : Kept g w wx
  gw : g < w.heap.size
  lr : br < w.heap.size
  la : ba < w.heap.size
  rg : br ≠ g
  ag : ba ≠ g
  lb : w.heap.size < bb
  sa : ∀ b, Sa b → b < w.heap.size ∧ b ≠ g
section
variable {g br ba bb : Nat} {o1 : ByteArray} {n1 : Int} {m1 : ByteArray} {p1 : Option Addr} {k1 : Nat} {o2 : ByteArray} {n2 : Int} {m2 : ByteArray} {p2 : Option Addr} {k2 : Nat} {ta tb : Tree} {Sa : Nat → Prop} {w wx : World}
theorem LawQ.next (h : LawQ g br ba bb o1 n1 m1 p1 k1 o2 n2 m2 p2 k2 ta tb Sa w wx) {wy : World} (k : Kept g wx wy) : LawQ g br ba bb o1 n1 m1 p1 k1 o2 n2 m2 p2 k2 ta tb Sa w wy := by
  obtain ⟨rr, ra, rb, ⟨z0, z1, z2, z3, rz⟩, ka, kb, kept, gw, br, ba, brg, bag, bb, sa⟩ := h
  have := kept.size
  exact ⟨k.row rr brg, k.row ra bag, k.row rb (by omega), ⟨z0, z1, z2, z3, k.row rz (by omega)⟩, ka.kept k (fun b hb => (sa b hb).2), kb.kept k (fun b hb => by have hb2 : w.heap.size < b := hb; exact fun e => by subst e; exact Nat.lt_asymm hb2 gw), kept.trans k, gw, br, ba, brg, bag, bb, sa⟩
theorem set_four (z0 z1 z2 z3 v : Value) (j : Nat) : ∃ y0 y1 y2 y3, [z0, z1, z2, z3].set j v = [y0, y1, y2, y3] := by
  match j with
  | 0 => exact ⟨_, _, _, _, rfl⟩
  | 1 => exact ⟨_, _, _, _, rfl⟩
  | 2 => exact ⟨_, _, _, _, rfl⟩
  | 3 => exact ⟨_, _, _, _, rfl⟩
  | _ + 4 => exact ⟨_, _, _, _, rfl⟩
theorem LawQ.put1 (h : LawQ g br ba bb o1 n1 m1 p1 k1 o2 n2 m2 p2 k2 ta tb Sa w wx) (j : Nat) (v : Value) : LawQ g br ba bb o1 n1 m1 p1 k1 o2 n2 m2 p2 k2 ta tb Sa w (wx.setCell ⟨w.heap.size, j, none⟩ v) := by
  obtain ⟨rr, ra, rb, ⟨z0, z1, z2, z3, rz⟩, ka, kb, kept, gw, br, ba, brg, bag, bb, sa⟩ := h
  obtain ⟨y0, y1, y2, y3, hy⟩ := set_four z0 z1 z2 z3 v j
  have rz2 := rz.set j v
  rw [hy] at rz2
  exact ⟨rr.other (Nat.ne_of_lt br) _, ra.other (Nat.ne_of_lt ba) _, rb.other (Nat.ne_of_gt bb) _, ⟨y0, y1, y2, y3, rz2⟩, ka.set (fun b hb => Nat.ne_of_lt (sa b hb).1) _, kb.set (fun b hb => Nat.ne_of_gt hb) _,
    kept.new (Nat.le_refl _) j v, gw, br, ba, brg, bag, bb, sa⟩
theorem LawQ.put (h : LawQ g br ba bb o1 n1 m1 p1 k1 o2 n2 m2 p2 k2 ta tb Sa w wx) (v0 v1 v2 v3 : Value) : LawQ g br ba bb o1 n1 m1 p1 k1 o2 n2 m2 p2 k2 ta tb Sa w ((((wx.setCell ⟨w.heap.size, 0, none⟩ v0).setCell ⟨w.heap.size, 1, none⟩ v1).setCell ⟨w.heap.size, 2, none⟩ v2).setCell ⟨w.heap.size, 3, none⟩ v3) :=
  (((h.put1 0 v0).put1 1 v1).put1 2 v2).put1 3 v3
theorem LawQ.alloc (h : LawQ g br ba bb o1 n1 m1 p1 k1 o2 n2 m2 p2 k2 ta tb Sa w wx) (o : Obj) : LawQ g br ba bb o1 n1 m1 p1 k1 o2 n2 m2 p2 k2 ta tb Sa w (wx.alloc o) := h.next ((Kept.refl g wx).alloc o)
theorem LawQ.fin (h : LawQ g br ba bb o1 n1 m1 p1 k1 o2 n2 m2 p2 k2 ta tb Sa w wx) {o3 : ByteArray} {n3 : Int} {m3 : ByteArray} {p3 : Option Addr} {k3 : Nat} {tc : Tree} (kc : TreeAt wx (w.heap.size < ·) o3 n3 m3 p3 k3 tc) {u : ByteArray} {d : Nat} (hr : RowIs wx g 174 [.string u, .int .i64 (d : Int)])
    {W : World} (hW : W = (((((wx.alloc (.cells #[.string o1, .int .i64 n1, .string m1, .slice p1 k1 k1, .string o2, .int .i64 n2, .string m2, .slice p2 k2 k2, .string o3, .int .i64 n3, .string m3, .slice p3 k3 k3] 177)).setCell ⟨w.heap.size, 0, none⟩ (.string ⟨#[63]⟩)).setCell ⟨w.heap.size, 1, none⟩ (.int .i64 0)).setCell ⟨w.heap.size, 2, none⟩ (.string ⟨#[]⟩)).setCell ⟨w.heap.size, 3, none⟩ (.slice (some ⟨wx.heap.size, 0, none⟩) 3 3))) :
    RowIs W w.heap.size 177 [.string ⟨#[63]⟩, .int .i64 0, .string ⟨#[]⟩, .slice (some ⟨wx.heap.size, 0, none⟩) 3 3] ∧ TreeAt W (fun b => Sa b ∨ w.heap.size ≤ b) ⟨#[63]⟩ 0 ⟨#[]⟩ (some ⟨wx.heap.size, 0, none⟩) 3 (.node [63] [ta, tb, tc]) ∧
      RowIs W g 174 [.string u, .int .i64 (d : Int)] ∧ Kept g w W := by
  have hp := (h.alloc (.cells #[.string o1, .int .i64 n1, .string m1, .slice p1 k1 k1, .string o2, .int .i64 n2, .string m2, .slice p2 k2 k2, .string o3, .int .i64 n3, .string m3, .slice p3 k3 k3] 177)).put (.string ⟨#[63]⟩) (.int .i64 0) (.string ⟨#[]⟩) (.slice (some ⟨wx.heap.size, 0, none⟩) 3 3)
  rw [← hW] at hp
  obtain ⟨z0, z1, z2, z3, rz⟩ := h.rz
  have hlt := rz.lt
  have rn := RowIs.new wx 177 [.string o1, .int .i64 n1, .string m1, .slice p1 k1 k1, .string o2, .int .i64 n2, .string m2, .slice p2 k2 k2, .string o3, .int .i64 n3, .string m3, .slice p3 k3 k3]
  have hne : wx.heap.size ≠ w.heap.size := by omega
  have rn2 := (((rn.other hne (.string ⟨#[63]⟩) (a := ⟨w.heap.size, 0, none⟩)).other hne (.int .i64 0) (a := ⟨w.heap.size, 1, none⟩)).other hne (.string ⟨#[]⟩) (a := ⟨w.heap.size, 2, none⟩)).other hne (.slice (some ⟨wx.heap.size, 0, none⟩) 3 3) (a := ⟨w.heap.size, 3, none⟩)
  have rz2 := ((((rz.alloc (.cells #[.string o1, .int .i64 n1, .string m1, .slice p1 k1 k1, .string o2, .int .i64 n2, .string m2, .slice p2 k2 k2, .string o3, .int .i64 n3, .string m3, .slice p3 k3 k3] 177)).set 0 (.string ⟨#[63]⟩)).set 1 (.int .i64 0)).set 2 (.string ⟨#[]⟩)).set 3 (.slice (some ⟨wx.heap.size, 0, none⟩) 3 3)
  have hng : g ≠ w.heap.size := Nat.ne_of_lt h.gw
  have rg := ((((hr.alloc (.cells #[.string o1, .int .i64 n1, .string m1, .slice p1 k1 k1, .string o2, .int .i64 n2, .string m2, .slice p2 k2 k2, .string o3, .int .i64 n3, .string m3, .slice p3 k3 k3] 177)).other hng (.string ⟨#[63]⟩) (a := ⟨w.heap.size, 0, none⟩)).other hng (.int .i64 0) (a := ⟨w.heap.size, 1, none⟩)).other hng (.string ⟨#[]⟩) (a := ⟨w.heap.size, 2, none⟩)).other hng (.slice (some ⟨wx.heap.size, 0, none⟩) 3 3) (a := ⟨w.heap.size, 3, none⟩)
  have kc2 := ((((kc.alloc (.cells #[.string o1, .int .i64 n1, .string m1, .slice p1 k1 k1, .string o2, .int .i64 n2, .string m2, .slice p2 k2 k2, .string o3, .int .i64 n3, .string m3, .slice p3 k3 k3] 177)).set (a := ⟨w.heap.size, 0, none⟩) (fun b hb => Nat.ne_of_gt hb) (.string ⟨#[63]⟩)).set (a := ⟨w.heap.size, 1, none⟩) (fun b hb => Nat.ne_of_gt hb) (.int .i64 0)).set (a := ⟨w.heap.size, 2, none⟩) (fun b hb => Nat.ne_of_gt hb) (.string ⟨#[]⟩)).set (a := ⟨w.heap.size, 3, none⟩) (fun b hb => Nat.ne_of_gt hb) (.slice (some ⟨wx.heap.size, 0, none⟩) 3 3)
  rw [← hW] at rn2 rz2 rg kc2
  exact ⟨rz2, .three ⟨#[63]⟩ wx.heap.size (.inr (Nat.le_of_lt hlt)) rn2 (hp.ka.base fun b _ hb => .inl hb) (hp.kb.base fun b _ hb => .inr (Nat.le_of_lt hb)) (kc2.base fun b _ hb => .inr (Nat.le_of_lt hb)), rg, hp.kept⟩
/-- What a cell holds. -/
def acellOf (w : World) (p : Addr) : Value := (w.cell? p).getD (.bool false)
theorem acellOf_is {w : World} {p : Addr} {v : Value} (h : w.cell? p = some v) : w.cell? p = some (acellOf w p) := by unfold acellOf; rw [h]; rfl
theorem LawQ.facts (h : LawQ g br ba bb o1 n1 m1 p1 k1 o2 n2 m2 p2 k2 ta tb Sa w wx) :
    (wx.cell? ⟨br, 0, none⟩ = some (.pointer (some ⟨g, 0, none⟩)) ∧ wx.cell? ⟨ba, 0, none⟩ = some (.string o1) ∧ wx.cell? ⟨ba, 1, none⟩ = some (.int .i64 n1) ∧ wx.cell? ⟨ba, 2, none⟩ = some (.string m1) ∧ wx.cell? ⟨ba, 3, none⟩ = some (.slice p1 k1 k1) ∧
      wx.cell? ⟨bb, 0, none⟩ = some (.string o2) ∧ wx.cell? ⟨bb, 1, none⟩ = some (.int .i64 n2) ∧ wx.cell? ⟨bb, 2, none⟩ = some (.string m2) ∧ wx.cell? ⟨bb, 3, none⟩ = some (.slice p2 k2 k2) ∧
      wx.cell? ⟨w.heap.size, 0, none⟩ = some (acellOf wx ⟨w.heap.size, 0, none⟩) ∧ wx.cell? ⟨w.heap.size, 1, none⟩ = some (acellOf wx ⟨w.heap.size, 1, none⟩) ∧ wx.cell? ⟨w.heap.size, 2, none⟩ = some (acellOf wx ⟨w.heap.size, 2, none⟩) ∧ wx.cell? ⟨w.heap.size, 3, none⟩ = some (acellOf wx ⟨w.heap.size, 3, none⟩) ∧
      wx.frozen? ⟨w.heap.size, 0, none⟩ = false ∧ wx.frozen? ⟨w.heap.size, 1, none⟩ = false ∧ wx.frozen? ⟨w.heap.size, 2, none⟩ = false ∧ wx.frozen? ⟨w.heap.size, 3, none⟩ = false ∧ w.heap.size < wx.heap.size) ∧ LawQ g br ba bb o1 n1 m1 p1 k1 o2 n2 m2 p2 k2 ta tb Sa w wx := by
  have h0 := h
  obtain ⟨rr, ra, rb, ⟨z0, z1, z2, z3, rz⟩, _⟩ := h
  obtain ⟨a0, a1, a2, a3, _⟩ := tree_facts ra
  obtain ⟨b0, b1, b2, b3, _⟩ := tree_facts rb
  obtain ⟨x0, x1, x2, x3, f0, f1, f2, f3, l⟩ := tree_facts rz
  exact ⟨⟨by rw [rr.cell]; rfl, a0, a1, a2, a3, b0, b1, b2, b3, acellOf_is x0, acellOf_is x1, acellOf_is x2, acellOf_is x3, f0, f1, f2, f3, l⟩, h0⟩
end
/-- How the need of a sign, passed by, is told by the parser. -/
theorem pass_of {s : ByteArray} {x : List UInt8} {r : List UInt8} (h : passF x s.data.toList = (true, r)) : signF s.data.toList = x ∧ r = (dropB s.data.toList).drop x.length := by
  unfold passF at h
  split at h
  · rename_i e; simp only [Prod.mk.injEq, true_and] at h; exact ⟨e, h.symm⟩
  · simp at h
theorem pass_not {s : ByteArray} {x : List UInt8} {r : List UInt8} (h : passF x s.data.toList = (false, r)) : signF s.data.toList ≠ x ∧ r = dropB s.data.toList := by
  unfold passF at h
  split at h
  · simp at h
  · rename_i e; simp only [Prod.mk.injEq, true_and] at h; exact ⟨e, h.symm⟩
theorem need_at (x : ByteArray) {s u : ByteArray} {d : Nat} {g : Nat} {w : World} (h : passF x.data.toList s.data.toList = (true, u.data.toList)) (hr : Rd g s d w) :
    Calls Tryz.prog 155 #[.pointer (some ⟨g, 0, none⟩), .string x] w fun e w' => e = .returned (.tuple #[]) ∧ Rd g u d w' ∧ Kept g w w' := by
  obtain ⟨h1, h2⟩ := pass_of h
  have hl : u.data.toList.length ≤ s.data.toList.length := by have := dropB_le s.data.toList; rw [h2, List.length_drop]; omega
  refine (need_yes g s ⟨(dropB s.data.toList).toArray⟩ x d rfl h1 w hr.gs hr.row hr.signs).mono ?_
  rintro e w' ⟨rfl, r, k⟩
  have e2 : (⟨(dropB s.data.toList).toArray⟩ : ByteArray).extract x.size (⟨(dropB s.data.toList).toArray⟩ : ByteArray).size = u := by
    rw [← Lib.mk_data (ByteArray.extract _ _ _), ← Lib.mk_data u, h2, Lib.extract_to_end, Lib.size_eq]
  rw [e2] at r
  exact ⟨rfl, hr.next k r (by have := hr.size; rw [Lib.size_eq] at this ⊢; exact Nat.le_trans hl this) hr.deep, k⟩
theorem passT_at (x : ByteArray) {s u : ByteArray} {d : Nat} {g : Nat} {w : World} (h : passF x.data.toList s.data.toList = (true, u.data.toList)) (hr : Rd g s d w) :
    Calls Tryz.prog 152 #[.pointer (some ⟨g, 0, none⟩), .string x] w fun e w' => e = .returned (.bool true) ∧ Rd g u d w' ∧ Kept g w w' := by
  obtain ⟨h1, h2⟩ := pass_of h
  have hl : u.data.toList.length ≤ s.data.toList.length := by have := dropB_le s.data.toList; rw [h2, List.length_drop]; omega
  refine (pass_yes g s ⟨(dropB s.data.toList).toArray⟩ x d rfl h1 w hr.gs hr.row hr.signs).mono ?_
  rintro e w' ⟨rfl, r, k⟩
  have e2 : (⟨(dropB s.data.toList).toArray⟩ : ByteArray).extract x.size (⟨(dropB s.data.toList).toArray⟩ : ByteArray).size = u := by
    rw [← Lib.mk_data (ByteArray.extract _ _ _), ← Lib.mk_data u, h2, Lib.extract_to_end, Lib.size_eq]
  rw [e2] at r
  exact ⟨rfl, hr.next k r (by have := hr.size; rw [Lib.size_eq] at this ⊢; exact Nat.le_trans hl this) hr.deep, k⟩
theorem passN_at (x : ByteArray) {s u : ByteArray} {d : Nat} {g : Nat} {w : World} (h : passF x.data.toList s.data.toList = (false, u.data.toList)) (hr : Rd g s d w) :
    Calls Tryz.prog 152 #[.pointer (some ⟨g, 0, none⟩), .string x] w fun e w' => e = .returned (.bool false) ∧ Rd g u d w' ∧ Kept g w w' := by
  obtain ⟨h1, h2⟩ := pass_not h
  have hl : u.data.toList.length ≤ s.data.toList.length := by rw [h2]; exact dropB_le _
  refine (pass_no g s u x d h2 h1 w hr.gs hr.row hr.signs).mono ?_
  rintro e w' ⟨rfl, r, k⟩
  exact ⟨rfl, hr.next k r (by have := hr.size; rw [Lib.size_eq] at this ⊢; exact Nat.le_trans hl this) hr.deep, k⟩
set_option maxRecDepth 100000 in
set_option maxHeartbeats 8000000 in
theorem any1_at (f : Nat) (hA : AnyOK f) (d : Nat) (s u1 u2 u3 : ByteArray) (ta tb tc : Tree) (h1 : anyF f d s.data.toList = some (tb, u1.data.toList)) (h2 : passF [58] u1.data.toList = (true, u2.data.toList)) (h3 : anyF f d u2.data.toList = some (tc, u3.data.toList))
    (g br ba : Nat) (o1 : ByteArray) (n1 : Int) (m1 : ByteArray) (p1 : Option Addr) (k1 : Nat) (Sa : Nat → Prop) (w : World) (hr : Rd g s d w)
    (rr : RowIs w br 172 [.pointer (some ⟨g, 0, none⟩)]) (ra : RowIs w ba 177 (treeC o1 n1 m1 p1 k1)) (ka : TreeAt w Sa o1 n1 m1 p1 k1 ta) (hSa : ∀ b, Sa b → b < w.heap.size ∧ b ≠ g) (brg : br ≠ g) (bag : ba ≠ g) :
    Calls Tryz.prog 154 #[.pointer (some ⟨br, 0, none⟩), .pointer (some ⟨ba, 0, none⟩)] w (TreePost g d (.node [63] [ta, tb, tc]) u3 (fun b => Sa b ∨ w.heap.size ≤ b) w) := by
  have H1 := Lib.hid (hA d s u1 tb h1 g)
  have H2 := Lib.hid (fun (W : World) => need_at ⟨#[58]⟩ (s := u1) (u := u2) (d := d) (g := g) (w := W) h2)
  have H3 := Lib.hid (hA d u2 u3 tc h3 g)
  have lg := hr.row.lt
  have lr := rr.lt
  have la := ra.lt
  have c0 : w.cell? ⟨br, 0, none⟩ = some (.pointer (some ⟨g, 0, none⟩)) := by rw [rr.cell]; rfl
  have HR := Lib.hid hr
  have HRR := Lib.hid rr
  have HRA := Lib.hid ra
  have HKA := Lib.hid ka
  have HSA := Lib.hid hSa
  have nrg := Lib.hid brg
  have nag := Lib.hid bag
  have HSZ := Lib.hid (show u1.size ≤ 1000000000 by have h5 := (parse_le f).1 _ _ _ _ h1; have h6 := hr.size; rw [Lib.size_eq] at h6 ⊢; exact Nat.le_trans h5 h6)
  clear h1 h2 h3 hr rr ra ka hSa brg bag
  go_enter Tryz.func154, Tryz.ntmps154
  go_wp2_with fail
  have k0 := (Kept.refl g w).alloc (.cells #[.string ⟨#[]⟩, .int .i64 0, .string ⟨#[]⟩, .slice none 0 0] 177)
  refine (H1.out _ (HR.out.kept k0 (HR.out.row.alloc _))).mono ?_
  rintro e w1 ⟨o2, n2, m2, p2, k2, rfl, t1, r1, kk1⟩
  have hz := RowIs.new w 177 treeL
  have hne : w.heap.size ≠ g := by omega
  have K1 := k0.trans kk1
  have hs1 := kk1.size
  simp at hs1
  have L1 : LawQ g br ba w1.heap.size o1 n1 m1 p1 k1 o2 n2 m2 p2 k2 ta tb Sa w (w1.alloc (.cells #[.string o2, .int .i64 n2, .string m2, .slice p2 k2 k2] 177)) :=
    ⟨(K1.row HRR.out nrg.out).alloc _, (K1.row HRA.out nag.out).alloc _, RowIs.new _ _ _, ⟨_, _, _, _, (kk1.row hz hne).alloc _⟩, (HKA.out.kept K1 (fun b hb => (HSA.out b hb).2)).alloc _, (t1.base (fun b _ hb => by simp at hb; omega)).alloc _, K1.alloc _, lg, lr, la, nrg.out, nag.out, by omega, HSA.out⟩
  have R1 : Rd g u1 d (w1.alloc (.cells #[.string o2, .int .i64 n2, .string m2, .slice p2 k2 k2] 177)) := HR.out.next (K1.alloc _) (r1.alloc _) HSZ.out HR.out.deep
  clear k0 r1 t1 kk1 hz K1 c0 hne hs1
  obtain ⟨⟨c0, a0, a1, a2, a3, b0, b1, b2, b3, z0, z1, z2, z3, f0, f1, f2, f3, lz⟩, -⟩ := L1.facts
  go_wp2_with fail
  refine (H2.out _ R1).mono ?_
  rintro e w2 ⟨rfl, R2, kk2⟩
  have L2 := L1.next kk2
  have L3 := L2.next (.of (Below.refl _ _).drew)
  have HR2 := Lib.hid R2.drew
  clear R2 kk2 L2 L1 R1 c0 a0 a1 a2 a3 b0 b1 b2 b3 z0 z1 z2 z3 f0 f1 f2 f3 lz
  have HLT := Lib.hid (show w.heap.size < w2.drew.heap.size by obtain ⟨z0, z1, z2, z3, rz⟩ := L3.rz; exact rz.lt)
  obtain ⟨bb, hbb⟩ : ∃ bb, bb = w1.heap.size := ⟨_, rfl⟩
  rw [← hbb] at L3
  rw [← hbb]
  clear hbb
  go_wp2_with fail
  go_region_held3 (fun wx => (wx.cell? ⟨br, 0, none⟩ = some (.pointer (some ⟨g, 0, none⟩)) ∧ wx.cell? ⟨ba, 0, none⟩ = some (.string o1) ∧ wx.cell? ⟨ba, 1, none⟩ = some (.int .i64 n1) ∧ wx.cell? ⟨ba, 2, none⟩ = some (.string m1) ∧ wx.cell? ⟨ba, 3, none⟩ = some (.slice p1 k1 k1) ∧ wx.cell? ⟨bb, 0, none⟩ = some (.string o2) ∧ wx.cell? ⟨bb, 1, none⟩ = some (.int .i64 n2) ∧ wx.cell? ⟨bb, 2, none⟩ = some (.string m2) ∧ wx.cell? ⟨bb, 3, none⟩ = some (.slice p2 k2 k2) ∧ wx.cell? ⟨w.heap.size, 0, none⟩ = some (acellOf wx ⟨w.heap.size, 0, none⟩) ∧ wx.cell? ⟨w.heap.size, 1, none⟩ = some (acellOf wx ⟨w.heap.size, 1, none⟩) ∧ wx.cell? ⟨w.heap.size, 2, none⟩ = some (acellOf wx ⟨w.heap.size, 2, none⟩) ∧ wx.cell? ⟨w.heap.size, 3, none⟩ = some (acellOf wx ⟨w.heap.size, 3, none⟩) ∧ wx.frozen? ⟨w.heap.size, 0, none⟩ = false ∧ wx.frozen? ⟨w.heap.size, 1, none⟩ = false ∧ wx.frozen? ⟨w.heap.size, 2, none⟩ = false ∧ wx.frozen? ⟨w.heap.size, 3, none⟩ = false ∧ w.heap.size < wx.heap.size) ∧ LawQ g br ba bb o1 n1 m1 p1 k1 o2 n2 m2 p2 k2 ta tb Sa w wx) (first | exact LawQ.facts (by assumption) | exact LawQ.facts (LawQ.alloc (by assumption) _) | exact LawQ.facts (LawQ.put (LawQ.alloc (by assumption) _) _ _ _ _))
    ((go_at_call 128; refine (H3.out _ HR2.out).mono ?_; rintro e wn ⟨o3, n3, m3, p3, k3, rfl, t3, r3, kk3⟩; have hn := LawQ.next (by assumption) kk3; have HT3 := Lib.hid (t3.base (S' := fun b => w.heap.size < b) (fun b _ hb => Nat.lt_of_lt_of_le HLT.out hb)); have HR3 := Lib.hid r3; clear t3 r3 kk3))
  all_goals
    go_wp2_with fail
    obtain ⟨q1, q2, q3, q4⟩ := LawQ.fin hn HT3.out HR3.out rfl
    obtain ⟨j0, j1, j2, j3, _⟩ := tree_facts q1
    exact bodyPost_ret (v := .agg #[.string ⟨#[63]⟩, .int .i64 0, .string ⟨#[]⟩, .slice (some ⟨wn.heap.size, 0, none⟩) 3 3]) (by simp [results, Tryz.results154, go_sem, j0, j1, j2, j3]) rfl ⟨_, _, _, _, _, rfl, q2, q3, q4⟩
end Go.Proofs.YtkmpbkhlcapbgaaGreatDoor
namespace Go.Proofs.YtkmpbkhlcapbgaaGreatDoor
open Go.RowKit
theorem TreePost.mono {g d : Nat} {t : Tree} {u : ByteArray} {S S' : Nat → Prop} {w : World} {e : Ending} {w' : World} (h : TreePost g d t u S w e w') (hs : ∀ b, S b → S' b) : TreePost g d t u S' w e w' := by
  obtain ⟨o, n, m, p, k, he, ht, hr, hk⟩ := h
  exact ⟨o, n, m, p, k, he, ht.base fun b _ hb => hs b hb, hr, hk⟩
theorem TreeAt.bound {w : World} {S : Nat → Prop} {o : ByteArray} {n : Int} {m : ByteArray} {p : Option Addr} {k : Nat} {t : Tree} (h : TreeAt w S o n m p k t) : TreeAt w (fun b => S b ∧ b < w.heap.size) o n m p k t :=
  h.base fun _ hl hb => ⟨hb, hl⟩
theorem row_at (f : Nat) (hR : RowOK f) (d : Nat) (s u : ByteArray) (t : Tree) (h : rowF f d 0 s.data.toList = some (t, u.data.toList)) (g : Nat) (w : World) (hr : Rd g s d w) :
    Calls Tryz.prog 151 #[.pointer (some ⟨g, 0, none⟩), .int .i64 0] w (TreePost g d t u (w.heap.size ≤ ·) w) := hR d 0 s u t h g w hr
theorem two_new (w : World) (x y0 y1 y2 y3 : Value) (e e2 : TypeId) : RowIs ((w.alloc (.cells #[x] e)).alloc (.cells #[y0, y1, y2, y3] e2)) w.heap.size e [x] ∧ RowIs ((w.alloc (.cells #[x] e)).alloc (.cells #[y0, y1, y2, y3] e2)) (w.heap.size + 1) e2 [y0, y1, y2, y3] := by
  have h1 := (RowIs.new w e [x]).alloc (.cells #[y0, y1, y2, y3] e2)
  have h2 := RowIs.new (w.alloc (.cells #[x] e)) e2 [y0, y1, y2, y3]
  have e : (w.alloc (.cells #[x] e)).heap.size = w.heap.size + 1 := by simp
  rw [e] at h2
  exact ⟨h1, h2⟩
set_option maxRecDepth 100000 in
set_option maxHeartbeats 8000000 in
theorem any_plain (f : Nat) (hR : RowOK f) (d : Nat) (s u1 u2 : ByteArray) (ta : Tree) (h1 : rowF f d 0 s.data.toList = some (ta, u1.data.toList)) (h2 : passF [63] u1.data.toList = (false, u2.data.toList)) (g : Nat) (w : World) (hr : Rd g s d w) :
    Calls Tryz.prog 128 #[.pointer (some ⟨g, 0, none⟩)] w (TreePost g d ta u2 (w.heap.size ≤ ·) w) := by
  have H1 := Lib.hid (row_at f hR d s u1 ta h1 g)
  have H2 := Lib.hid (fun (W : World) => passN_at ⟨#[63]⟩ (s := u1) (u := u2) (d := d) (g := g) (w := W) h2)
  have HSZ := Lib.hid (show u1.size ≤ 1000000000 by have h5 := (parse_le f).2.1 _ _ _ _ _ h1; have h6 := hr.size; rw [Lib.size_eq] at h6 ⊢; exact Nat.le_trans h5 h6)
  have lg := hr.row.lt
  have HR := Lib.hid hr
  clear h1 h2 hr
  go_enter Tryz.func128, Tryz.ntmps128
  go_wp2_with fail
  have k0 := ((Kept.refl g w).alloc (.cells #[.pointer (some ⟨g, 0, none⟩)] 172)).alloc (.cells #[.string ⟨#[]⟩, .int .i64 0, .string ⟨#[]⟩, .slice none 0 0] 177)
  obtain ⟨ra, rb⟩ := two_new w (.pointer (some ⟨g, 0, none⟩)) (.string ⟨#[]⟩) (.int .i64 0) (.string ⟨#[]⟩) (.slice none 0 0) 172 177
  refine (H1.out _ (HR.out.kept k0 ((HR.out.row.alloc _).alloc _))).mono ?_
  rintro e w1 ⟨o, n, m, p, k, rfl, t1, r1, kk1⟩
  have hne : w.heap.size ≠ g := by omega
  have hne1 : w.heap.size + 1 ≠ g := by omega
  have K1 := k0.trans kk1
  have hs1 := kk1.size
  simp at hs1
  have ra1 := (kk1.row ra hne).alloc (.cells #[.string o, .int .i64 n, .string m, .slice p k k] 177)
  have rb1 := (kk1.row rb hne1).alloc (.cells #[.string o, .int .i64 n, .string m, .slice p k k] 177)
  have rn1 := RowIs.new w1 177 [.string o, .int .i64 n, .string m, .slice p k k]
  have R1 := HR.out.next (s' := u1) (d' := d) (K1.alloc (.cells #[.string o, .int .i64 n, .string m, .slice p k k] 177)) (r1.alloc _) HSZ.out HR.out.deep
  have c0 : (w1.alloc (.cells #[.string o, .int .i64 n, .string m, .slice p k k] 177)).cell? ⟨w.heap.size, 0, none⟩ = some (.pointer (some ⟨g, 0, none⟩)) := by rw [ra1.cell]; rfl
  have HRB := Lib.hid rb1
  have HRN := Lib.hid rn1
  have HK1 := Lib.hid K1
  have HT1 := Lib.hid (t1.alloc (.cells #[.string o, .int .i64 n, .string m, .slice p k k] 177))
  clear k0 ra rb t1 r1 kk1 ra1 rb1 rn1 K1
  go_wp2_with fail
  refine (H2.out _ R1).mono ?_
  rintro e w2 ⟨rfl, R2, kk2⟩
  have rb2 := kk2.row HRB.out hne1
  have rn2 := kk2.row HRN.out (show w1.heap.size ≠ g by omega)
  obtain ⟨z0, z1, z2, z3, f0, f1, f2, f3, lz⟩ := tree_facts rb2
  obtain ⟨n0, n1, n2, n3, g0, g1, g2, g3, ln⟩ := tree_facts rn2
  have HT2 := Lib.hid ((HT1.out.base (S' := fun b => w.heap.size + 2 ≤ b) (fun b _ hb => by simp at hb; omega)).kept kk2 (fun b hb => by have h2 : w.heap.size + 2 ≤ b := hb; omega))
  have HK2 := Lib.hid ((HK1.out.alloc _).trans kk2)
  have HR2 := Lib.hid R2
  have HRB2 := Lib.hid rb2
  clear R1 R2 kk2 rb2 rn2 c0 f0 f1 f2 f3 g0 g1 g2 g3
  have f0 := HRB2.out.free 0
  have f1 := HRB2.out.free 1
  have f2 := HRB2.out.free 2
  have f3 := HRB2.out.free 3
  go_wp2_with fail
  have hfin := (((HRB2.out.set 0 (.string o)).set 1 (.int .i64 n)).set 2 (.string m)).set 3 (.slice p k k)
  obtain ⟨j0, j1, j2, j3, _⟩ := tree_facts hfin
  have hgb : g ≠ w.heap.size + 1 := Ne.symm hne1
  have nb : ∀ b, (w.heap.size + 2 ≤ b) → b ≠ w.heap.size + 1 := fun b hb => by omega
  exact bodyPost_ret (v := .agg #[.string o, .int .i64 n, .string m, .slice p k k]) (by simp [results, Tryz.results128, go_sem, j0, j1, j2, j3]) rfl ⟨o, n, m, p, k, rfl,
    ((((HT2.out.set nb _).set nb _).set nb _).set nb _).base fun b _ hb => by have h : w.heap.size + 2 ≤ b := hb; show w.heap.size ≤ b; omega,
    (((HR2.out.row.other hgb _).other hgb _).other hgb _).other hgb _, (((HK2.out.new (Nat.le_succ _) 0 _).new (Nat.le_succ _) 1 _).new (Nat.le_succ _) 2 _).new (Nat.le_succ _) 3 _⟩
set_option maxRecDepth 100000 in
set_option maxHeartbeats 8000000 in
theorem any_cond (f : Nat) (hR : RowOK f) (hA : AnyOK f) (d : Nat) (hd : d < 40) (s u1 u2 u3 u4 u5 : ByteArray) (ta tb tc : Tree) (h1 : rowF f d 0 s.data.toList = some (ta, u1.data.toList)) (h2 : passF [63] u1.data.toList = (true, u2.data.toList))
    (h3 : anyF f (d + 1) u2.data.toList = some (tb, u3.data.toList)) (h4 : passF [58] u3.data.toList = (true, u4.data.toList)) (h5 : anyF f (d + 1) u4.data.toList = some (tc, u5.data.toList)) (g : Nat) (w : World) (hr : Rd g s d w) :
    Calls Tryz.prog 128 #[.pointer (some ⟨g, 0, none⟩)] w (TreePost g d (.node [63] [ta, tb, tc]) u5 (w.heap.size ≤ ·) w) := by
  have H1 := Lib.hid (row_at f hR d s u1 ta h1 g)
  have H2 := Lib.hid (fun (W : World) => passT_at ⟨#[63]⟩ (s := u1) (u := u2) (d := d) (g := g) (w := W) h2)
  have H3 := Lib.hid (any1_at f hA (d + 1) u2 u3 u4 u5 ta tb tc h3 h4 h5 g)
  have HD := Lib.hid hd
  have HSZ := Lib.hid (show u1.size ≤ 1000000000 by have h5 := (parse_le f).2.1 _ _ _ _ _ h1; have h6 := hr.size; rw [Lib.size_eq] at h6 ⊢; exact Nat.le_trans h5 h6)
  have lg := hr.row.lt
  have HR := Lib.hid hr
  clear h1 h2 h3 h4 h5 hr hd
  go_enter Tryz.func128, Tryz.ntmps128
  go_wp2_with fail
  have k0 := ((Kept.refl g w).alloc (.cells #[.pointer (some ⟨g, 0, none⟩)] 172)).alloc (.cells #[.string ⟨#[]⟩, .int .i64 0, .string ⟨#[]⟩, .slice none 0 0] 177)
  obtain ⟨ra, rb⟩ := two_new w (.pointer (some ⟨g, 0, none⟩)) (.string ⟨#[]⟩) (.int .i64 0) (.string ⟨#[]⟩) (.slice none 0 0) 172 177
  refine (H1.out _ (HR.out.kept k0 ((HR.out.row.alloc _).alloc _))).mono ?_
  rintro e w1 ⟨o, n, m, p, k, rfl, t1, r1, kk1⟩
  have hne : w.heap.size ≠ g := by omega
  have hne1 : w.heap.size + 1 ≠ g := by omega
  have K1 := k0.trans kk1
  have hs1 := kk1.size
  simp at hs1
  have ra1 := (kk1.row ra hne).alloc (.cells #[.string o, .int .i64 n, .string m, .slice p k k] 177)
  have rb1 := (kk1.row rb hne1).alloc (.cells #[.string o, .int .i64 n, .string m, .slice p k k] 177)
  have rn1 := RowIs.new w1 177 [.string o, .int .i64 n, .string m, .slice p k k]
  have R1 := HR.out.next (s' := u1) (d' := d) (K1.alloc (.cells #[.string o, .int .i64 n, .string m, .slice p k k] 177)) (r1.alloc _) HSZ.out HR.out.deep
  have c0 : (w1.alloc (.cells #[.string o, .int .i64 n, .string m, .slice p k k] 177)).cell? ⟨w.heap.size, 0, none⟩ = some (.pointer (some ⟨g, 0, none⟩)) := by rw [ra1.cell]; rfl
  have HRA := Lib.hid ra1
  have HRB := Lib.hid rb1
  have HRN := Lib.hid rn1
  have HK1 := Lib.hid K1
  have HT1 := Lib.hid (t1.alloc (.cells #[.string o, .int .i64 n, .string m, .slice p k k] 177))
  clear k0 ra rb t1 r1 kk1 ra1 rb1 rn1 K1
  go_wp2_with fail
  refine (H2.out _ R1).mono ?_
  rintro e w2 ⟨rfl, R2, kk2⟩
  have ra2 := kk2.row HRA.out hne
  have rb2 := kk2.row HRB.out hne1
  have rn2 := kk2.row HRN.out (show w1.heap.size ≠ g by omega)
  have hs2 := kk2.size
  simp at hs2
  have c2 : w2.cell? ⟨w.heap.size, 0, none⟩ = some (.pointer (some ⟨g, 0, none⟩)) := by rw [ra2.cell]; rfl
  have l2 := ra2.lt
  have HT2 := Lib.hid ((HT1.out.base (S' := fun b => w.heap.size + 2 ≤ b) (fun b _ hb => by simp at hb; omega)).kept kk2 (fun b hb => by have h2 : w.heap.size + 2 ≤ b := hb; omega)).bound
  have HK2 := Lib.hid ((HK1.out.alloc _).trans kk2)
  have HR2 := Lib.hid R2
  have HRA2 := Lib.hid ra2
  have HRB2 := Lib.hid rb2
  have HRN2 := Lib.hid rn2
  have HW : Hid (Calls Tryz.prog 153 #[.pointer (some ⟨g, 0, none⟩), .func (.func 154) #[] #[.pointer (some ⟨w.heap.size, 0, none⟩), .pointer (some ⟨w1.heap.size, 0, none⟩)]] w2 (TreePost g d (.node [63] [ta, tb, tc]) u5 (fun b => w.heap.size + 2 ≤ b ∧ b ≠ w2.heap.size) w2)) :=
    within_q g ⟨w.heap.size, 0, none⟩ ⟨w1.heap.size, 0, none⟩ u2 u5 d HD.out _ w2 R2 _ (fun b hb => ⟨by have := hb.1; omega, hb.2⟩) fun w3 k3 r3 hlt =>
      (H3.out w.heap.size w1.heap.size o n m p k (fun b => w.heap.size + 2 ≤ b ∧ b < w2.heap.size) w3 r3 (k3.row ra2 hne) (k3.row rn2 (show w1.heap.size ≠ g by omega)) (HT2.out.kept k3 (fun b hb => by have := hb.1; omega)) (fun b hb => ⟨by have := hb.2; omega, by have := hb.1; omega⟩) hne (by omega)).mono
        fun e w' h => h.mono fun b hb => by
          rcases hb with hb | hb
          · exact ⟨hb.1, by have := hb.2; omega⟩
          · exact ⟨by omega, by omega⟩
  clear R1 R2 kk2 ra2 rb2 rn2 c0
  go_wp2_with fail
  refine HW.out.mono ?_
  rintro e w3 ⟨o5, n5, m5, p5, k5, rfl, t5, r5, kk5⟩
  have rb5 := kk5.row HRB2.out hne1
  obtain ⟨z0, z1, z2, z3, f0, f1, f2, f3, lz⟩ := tree_facts rb5
  have HRB5 := Lib.hid rb5
  have HT5 := Lib.hid t5
  have HR5 := Lib.hid r5
  have HK5 := Lib.hid (HK2.out.trans kk5)
  clear HW rb5 t5 r5 kk5
  go_wp2_with fail
  have hfin := (((HRB5.out.set 0 (.string o5)).set 1 (.int .i64 n5)).set 2 (.string m5)).set 3 (.slice p5 k5 k5)
  obtain ⟨j0, j1, j2, j3, _⟩ := tree_facts hfin
  have hgb : g ≠ w.heap.size + 1 := Ne.symm hne1
  have nb : ∀ b, (w.heap.size + 2 ≤ b ∧ b ≠ w2.heap.size) → b ≠ w.heap.size + 1 := fun b hb => by have := hb.1; omega
  exact bodyPost_ret (v := .agg #[.string o5, .int .i64 n5, .string m5, .slice p5 k5 k5]) (by simp [results, Tryz.results128, go_sem, j0, j1, j2, j3]) rfl ⟨o5, n5, m5, p5, k5, rfl,
    ((((HT5.out.set nb _).set nb _).set nb _).set nb _).base fun b _ hb => by have h := hb.1; show w.heap.size ≤ b; omega,
    (((HR5.out.other hgb _).other hgb _).other hgb _).other hgb _, (((HK5.out.new (Nat.le_succ _) 0 _).new (Nat.le_succ _) 1 _).new (Nat.le_succ _) 2 _).new (Nat.le_succ _) 3 _⟩
end Go.Proofs.YtkmpbkhlcapbgaaGreatDoor
