/-
  DERIVED. The walks of the closures of arith's ahead.
-/
import Derived.Test.YtkmpbkhlcapbgaaGreatDoorZ40
namespace Go.Proofs.YtkmpbkhlcapbgaaGreatDoor
open Go.RowKit
/-- What holds while the region of the closure of a sign ahead draws. -/
structure LawH (g br bs : Nat) (x : ByteArray) (w wx : World) : Prop where
  rr : RowIs wx br 172 [.pointer (some ⟨g, 0, none⟩)]
  rs : RowIs wx bs 9 [.string x]
  rz : ∃ z0 z1 z2 z3, RowIs wx w.heap.size 177 [z0, z1, z2, z3]
  kept : Kept g w wx
  gw : g < w.heap.size
  lr : br < w.heap.size
  ls : bs < w.heap.size
  rg : br ≠ g
  sg : bs ≠ g
section
variable {g br bs : Nat} {x : ByteArray} {w wx : World}
theorem LawH.next (h : LawH g br bs x w wx) {wy : World} (k : Kept g wx wy) : LawH g br bs x w wy := by
  obtain ⟨rr, rs, ⟨z0, z1, z2, z3, rz⟩, kept, gw, lr, ls, rg, sg⟩ := h
  exact ⟨k.row rr rg, k.row rs sg, ⟨z0, z1, z2, z3, k.row rz (by omega)⟩, kept.trans k, gw, lr, ls, rg, sg⟩
theorem LawH.put1 (h : LawH g br bs x w wx) (j : Nat) (v : Value) : LawH g br bs x w (wx.setCell ⟨w.heap.size, j, none⟩ v) := by
  obtain ⟨rr, rs, ⟨z0, z1, z2, z3, rz⟩, kept, gw, lr, ls, rg, sg⟩ := h
  obtain ⟨y0, y1, y2, y3, hy⟩ := set_four z0 z1 z2 z3 v j
  have rz2 := rz.set j v
  rw [hy] at rz2
  exact ⟨rr.other (Nat.ne_of_lt lr) _, rs.other (Nat.ne_of_lt ls) _, ⟨y0, y1, y2, y3, rz2⟩, kept.new (Nat.le_refl _) j v, gw, lr, ls, rg, sg⟩
theorem LawH.put (h : LawH g br bs x w wx) (v0 v1 v2 v3 : Value) : LawH g br bs x w ((((wx.setCell ⟨w.heap.size, 0, none⟩ v0).setCell ⟨w.heap.size, 1, none⟩ v1).setCell ⟨w.heap.size, 2, none⟩ v2).setCell ⟨w.heap.size, 3, none⟩ v3) :=
  (((h.put1 0 v0).put1 1 v1).put1 2 v2).put1 3 v3
theorem LawH.alloc (h : LawH g br bs x w wx) (o : Obj) : LawH g br bs x w (wx.alloc o) := h.next ((Kept.refl g wx).alloc o)
theorem LawH.facts (h : LawH g br bs x w wx) :
    (wx.cell? ⟨br, 0, none⟩ = some (.pointer (some ⟨g, 0, none⟩)) ∧ wx.cell? ⟨bs, 0, none⟩ = some (.string x) ∧
      wx.cell? ⟨w.heap.size, 0, none⟩ = some (acellOf wx ⟨w.heap.size, 0, none⟩) ∧ wx.cell? ⟨w.heap.size, 1, none⟩ = some (acellOf wx ⟨w.heap.size, 1, none⟩) ∧ wx.cell? ⟨w.heap.size, 2, none⟩ = some (acellOf wx ⟨w.heap.size, 2, none⟩) ∧ wx.cell? ⟨w.heap.size, 3, none⟩ = some (acellOf wx ⟨w.heap.size, 3, none⟩) ∧
      wx.frozen? ⟨w.heap.size, 0, none⟩ = false ∧ wx.frozen? ⟨w.heap.size, 1, none⟩ = false ∧ wx.frozen? ⟨w.heap.size, 2, none⟩ = false ∧ wx.frozen? ⟨w.heap.size, 3, none⟩ = false ∧ w.heap.size < wx.heap.size) ∧ LawH g br bs x w wx := by
  have h0 := h
  obtain ⟨rr, rs, ⟨z0, z1, z2, z3, rz⟩, _⟩ := h
  obtain ⟨x0, x1, x2, x3, f0, f1, f2, f3, l⟩ := tree_facts rz
  exact ⟨⟨by rw [rr.cell]; rfl, by rw [rs.cell]; rfl, acellOf_is x0, acellOf_is x1, acellOf_is x2, acellOf_is x3, f0, f1, f2, f3, l⟩, h0⟩
theorem LawH.fin (h : LawH g br bs x w wx) {o3 : ByteArray} {n3 : Int} {m3 : ByteArray} {p3 : Option Addr} {k3 : Nat} {tc : Tree} (kc : TreeAt wx (w.heap.size < ·) o3 n3 m3 p3 k3 tc) {u : ByteArray} {d : Nat} (hr : RowIs wx g 174 [.string u, .int .i64 (d : Int)])
    {W : World} (hW : W = (((((wx.alloc (.cells #[.string o3, .int .i64 n3, .string m3, .slice p3 k3 k3] 177)).setCell ⟨w.heap.size, 0, none⟩ (.string x)).setCell ⟨w.heap.size, 1, none⟩ (.int .i64 0)).setCell ⟨w.heap.size, 2, none⟩ (.string ⟨#[]⟩)).setCell ⟨w.heap.size, 3, none⟩ (.slice (some ⟨wx.heap.size, 0, none⟩) 1 1))) :
    RowIs W w.heap.size 177 [.string x, .int .i64 0, .string ⟨#[]⟩, .slice (some ⟨wx.heap.size, 0, none⟩) 1 1] ∧ TreeAt W (w.heap.size ≤ ·) x 0 ⟨#[]⟩ (some ⟨wx.heap.size, 0, none⟩) 1 (.node x.data.toList [tc]) ∧
      RowIs W g 174 [.string u, .int .i64 (d : Int)] ∧ Kept g w W := by
  have hp := (h.alloc (.cells #[.string o3, .int .i64 n3, .string m3, .slice p3 k3 k3] 177)).put (.string x) (.int .i64 0) (.string ⟨#[]⟩) (.slice (some ⟨wx.heap.size, 0, none⟩) 1 1)
  rw [← hW] at hp
  obtain ⟨z0, z1, z2, z3, rz⟩ := h.rz
  have hlt := rz.lt
  have rn := RowIs.new wx 177 [.string o3, .int .i64 n3, .string m3, .slice p3 k3 k3]
  have hne : wx.heap.size ≠ w.heap.size := by omega
  have rn2 := (((rn.other hne (.string x) (a := ⟨w.heap.size, 0, none⟩)).other hne (.int .i64 0) (a := ⟨w.heap.size, 1, none⟩)).other hne (.string ⟨#[]⟩) (a := ⟨w.heap.size, 2, none⟩)).other hne (.slice (some ⟨wx.heap.size, 0, none⟩) 1 1) (a := ⟨w.heap.size, 3, none⟩)
  have rz2 := ((((rz.alloc (.cells #[.string o3, .int .i64 n3, .string m3, .slice p3 k3 k3] 177)).set 0 (.string x)).set 1 (.int .i64 0)).set 2 (.string ⟨#[]⟩)).set 3 (.slice (some ⟨wx.heap.size, 0, none⟩) 1 1)
  have hng : g ≠ w.heap.size := Nat.ne_of_lt h.gw
  have rg := ((((hr.alloc (.cells #[.string o3, .int .i64 n3, .string m3, .slice p3 k3 k3] 177)).other hng (.string x) (a := ⟨w.heap.size, 0, none⟩)).other hng (.int .i64 0) (a := ⟨w.heap.size, 1, none⟩)).other hng (.string ⟨#[]⟩) (a := ⟨w.heap.size, 2, none⟩)).other hng (.slice (some ⟨wx.heap.size, 0, none⟩) 1 1) (a := ⟨w.heap.size, 3, none⟩)
  have kc2 := ((((kc.alloc (.cells #[.string o3, .int .i64 n3, .string m3, .slice p3 k3 k3] 177)).set (a := ⟨w.heap.size, 0, none⟩) (fun b hb => Nat.ne_of_gt hb) (.string x)).set (a := ⟨w.heap.size, 1, none⟩) (fun b hb => Nat.ne_of_gt hb) (.int .i64 0)).set (a := ⟨w.heap.size, 2, none⟩) (fun b hb => Nat.ne_of_gt hb) (.string ⟨#[]⟩)).set (a := ⟨w.heap.size, 3, none⟩) (fun b hb => Nat.ne_of_gt hb) (.slice (some ⟨wx.heap.size, 0, none⟩) 1 1)
  rw [← hW] at rn2 rz2 rg kc2
  exact ⟨rz2, .one x wx.heap.size (Nat.le_of_lt hlt) rn2 (kc2.base fun b _ hb => Nat.le_of_lt hb), rg, hp.kept⟩
end
set_option maxRecDepth 100000 in
set_option maxHeartbeats 8000000 in
theorem ahead1_at (f : Nat) (hH : AheadOK f) (d : Nat) (s u : ByteArray) (tc : Tree) (h1 : aheadF f d s.data.toList = some (tc, u.data.toList)) (g br bs : Nat) (x : ByteArray) (w : World) (hr : Rd g s d w)
    (rr : RowIs w br 172 [.pointer (some ⟨g, 0, none⟩)]) (rs : RowIs w bs 9 [.string x]) (brg : br ≠ g) (bsg : bs ≠ g) :
    Calls Tryz.prog 204 #[.pointer (some ⟨bs, 0, none⟩), .pointer (some ⟨br, 0, none⟩)] w (TreePost g d (.node x.data.toList [tc]) u (w.heap.size ≤ ·) w) := by
  have H1 := Lib.hid (hH d s u tc h1 g)
  have lg := hr.row.lt
  have lr := rr.lt
  have ls := rs.lt
  have k0 := (Kept.refl g w).alloc (.cells #[.string ⟨#[]⟩, .int .i64 0, .string ⟨#[]⟩, .slice none 0 0] 177)
  have L1 : LawH g br bs x w (w.alloc (.cells #[.string ⟨#[]⟩, .int .i64 0, .string ⟨#[]⟩, .slice none 0 0] 177)) :=
    ⟨rr.alloc _, rs.alloc _, ⟨_, _, _, _, RowIs.new w 177 treeL⟩, k0, lg, lr, ls, brg, bsg⟩
  have L3 := L1.next (.of (Below.refl _ _).drew)
  have HR := Lib.hid ((hr.kept k0 (hr.row.alloc _)).drew)
  have HLT := Lib.hid (show w.heap.size < (w.alloc (.cells #[.string ⟨#[]⟩, .int .i64 0, .string ⟨#[]⟩, .slice none 0 0] 177)).drew.heap.size by simp)
  clear h1 hr rr rs brg bsg k0 L1
  go_enter Tryz.func204, Tryz.ntmps204
  go_wp2_with fail
  go_region_held3 (fun wx => (wx.cell? ⟨br, 0, none⟩ = some (.pointer (some ⟨g, 0, none⟩)) ∧ wx.cell? ⟨bs, 0, none⟩ = some (.string x) ∧
      wx.cell? ⟨w.heap.size, 0, none⟩ = some (acellOf wx ⟨w.heap.size, 0, none⟩) ∧ wx.cell? ⟨w.heap.size, 1, none⟩ = some (acellOf wx ⟨w.heap.size, 1, none⟩) ∧ wx.cell? ⟨w.heap.size, 2, none⟩ = some (acellOf wx ⟨w.heap.size, 2, none⟩) ∧ wx.cell? ⟨w.heap.size, 3, none⟩ = some (acellOf wx ⟨w.heap.size, 3, none⟩) ∧
      wx.frozen? ⟨w.heap.size, 0, none⟩ = false ∧ wx.frozen? ⟨w.heap.size, 1, none⟩ = false ∧ wx.frozen? ⟨w.heap.size, 2, none⟩ = false ∧ wx.frozen? ⟨w.heap.size, 3, none⟩ = false ∧ w.heap.size < wx.heap.size) ∧ LawH g br bs x w wx) (first | exact LawH.facts (by assumption) | exact LawH.facts (LawH.alloc (by assumption) _) | exact LawH.facts (LawH.put (LawH.alloc (by assumption) _) _ _ _ _))
    ((go_at_call 177; refine (H1.out _ HR.out).mono ?_; rintro e wn ⟨o3, n3, m3, p3, k3, rfl, t3, r3, kk3⟩; have hn := LawH.next (by assumption) kk3; have HT3 := Lib.hid (t3.base (S' := fun b => w.heap.size < b) (fun b _ hb => Nat.lt_of_lt_of_le HLT.out hb)); have HR3 := Lib.hid r3; clear t3 r3 kk3))
  all_goals
    go_wp2_with fail
    obtain ⟨q1, q2, q3, q4⟩ := LawH.fin hn HT3.out HR3.out rfl
    obtain ⟨j0, j1, j2, j3, _⟩ := tree_facts q1
    exact bodyPost_ret (v := .agg #[.string x, .int .i64 0, .string ⟨#[]⟩, .slice (some ⟨wn.heap.size, 0, none⟩) 1 1]) (by simp [results, Tryz.results204, go_sem, j0, j1, j2, j3]) rfl ⟨_, _, _, _, _, rfl, q2, q3, q4⟩
set_option maxRecDepth 100000 in
set_option maxHeartbeats 8000000 in
theorem ahead2_at (f : Nat) (hA : AnyOK f) (d : Nat) (s u1 u2 : ByteArray) (tc : Tree) (h1 : anyF f d s.data.toList = some (tc, u1.data.toList)) (h2 : passF [41] u1.data.toList = (true, u2.data.toList)) (g br : Nat) (w : World) (hr : Rd g s d w)
    (rr : RowIs w br 172 [.pointer (some ⟨g, 0, none⟩)]) (brg : br ≠ g) :
    Calls Tryz.prog 205 #[.pointer (some ⟨br, 0, none⟩)] w (TreePost g d tc u2 (w.heap.size ≤ ·) w) := by
  have H1 := Lib.hid (hA d s u1 tc h1 g)
  have H2 := Lib.hid (fun (W : World) => need_at ⟨#[41]⟩ (s := u1) (u := u2) (d := d) (g := g) (w := W) h2)
  have HSZ := Lib.hid (show u1.size ≤ 1000000000 by have h5 := (parse_le f).1 _ _ _ _ h1; have h6 := hr.size; rw [Lib.size_eq] at h6 ⊢; exact Nat.le_trans h5 h6)
  have lg := hr.row.lt
  have lr := rr.lt
  have c0 : w.cell? ⟨br, 0, none⟩ = some (.pointer (some ⟨g, 0, none⟩)) := by rw [rr.cell]; rfl
  have HR := Lib.hid hr
  have HRR := Lib.hid rr
  have nrg := Lib.hid brg
  clear h1 h2 hr rr brg
  go_enter Tryz.func205, Tryz.ntmps205
  go_wp2_with fail
  have k0 := (Kept.refl g w).alloc (.cells #[.string ⟨#[]⟩, .int .i64 0, .string ⟨#[]⟩, .slice none 0 0] 177)
  refine (H1.out _ (HR.out.kept k0 (HR.out.row.alloc _))).mono ?_
  rintro e w1 ⟨o, n, m, p, k, rfl, t1, r1, kk1⟩
  have hne : w.heap.size ≠ g := by omega
  have K1 := k0.trans kk1
  have hs1 := kk1.size
  simp at hs1
  have rr1 := (K1.row HRR.out nrg.out).alloc (.cells #[.string o, .int .i64 n, .string m, .slice p k k] 177)
  have rb1 := (kk1.row (RowIs.new w 177 treeL) hne).alloc (.cells #[.string o, .int .i64 n, .string m, .slice p k k] 177)
  have rn1 := RowIs.new w1 177 [.string o, .int .i64 n, .string m, .slice p k k]
  have R1 := HR.out.next (s' := u1) (d' := d) (K1.alloc (.cells #[.string o, .int .i64 n, .string m, .slice p k k] 177)) (r1.alloc _) HSZ.out HR.out.deep
  have c1 : (w1.alloc (.cells #[.string o, .int .i64 n, .string m, .slice p k k] 177)).cell? ⟨br, 0, none⟩ = some (.pointer (some ⟨g, 0, none⟩)) := by rw [rr1.cell]; rfl
  have HRB := Lib.hid rb1
  have HRN := Lib.hid rn1
  have HK1 := Lib.hid K1
  have HT1 := Lib.hid (t1.alloc (.cells #[.string o, .int .i64 n, .string m, .slice p k k] 177))
  clear k0 t1 r1 kk1 rr1 rb1 rn1 K1 c0
  go_wp2_with fail
  refine (H2.out _ R1).mono ?_
  rintro e w2 ⟨rfl, R2, kk2⟩
  have rb2 := kk2.row HRB.out hne
  have rn2 := kk2.row HRN.out (show w1.heap.size ≠ g by omega)
  obtain ⟨z0, z1, z2, z3, f0, f1, f2, f3, lz⟩ := tree_facts rb2
  obtain ⟨n0, n1, n2, n3, g0, g1, g2, g3, ln⟩ := tree_facts rn2
  have HT2 := Lib.hid ((HT1.out.base (S' := fun b => w.heap.size + 1 ≤ b) (fun b _ hb => by simp at hb; omega)).kept kk2 (fun b hb => by have h2 : w.heap.size + 1 ≤ b := hb; omega))
  have HK2 := Lib.hid ((HK1.out.alloc _).trans kk2)
  have HR2 := Lib.hid R2
  have HRB2 := Lib.hid rb2
  clear R1 R2 kk2 rb2 rn2 g0 g1 g2 g3 c1
  go_wp2_with fail
  have hfin := (((HRB2.out.set 0 (.string o)).set 1 (.int .i64 n)).set 2 (.string m)).set 3 (.slice p k k)
  obtain ⟨j0, j1, j2, j3, _⟩ := tree_facts hfin
  have hgb : g ≠ w.heap.size := Ne.symm hne
  have nb : ∀ b, (w.heap.size + 1 ≤ b) → b ≠ w.heap.size := fun b hb => by omega
  exact bodyPost_ret (v := .agg #[.string o, .int .i64 n, .string m, .slice p k k]) (by simp [results, Tryz.results205, go_sem, j0, j1, j2, j3]) rfl ⟨o, n, m, p, k, rfl,
    ((((HT2.out.set nb _).set nb _).set nb _).set nb _).base fun b _ hb => by have h : w.heap.size + 1 ≤ b := hb; show w.heap.size ≤ b; omega,
    (((HR2.out.row.other hgb _).other hgb _).other hgb _).other hgb _, (((HK2.out.new (Nat.le_refl _) 0 _).new (Nat.le_refl _) 1 _).new (Nat.le_refl _) 2 _).new (Nat.le_refl _) 3 _⟩
end Go.Proofs.YtkmpbkhlcapbgaaGreatDoor
