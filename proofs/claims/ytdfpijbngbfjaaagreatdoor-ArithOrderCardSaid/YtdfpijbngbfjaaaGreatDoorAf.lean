/-
  DERIVED. The walk of arith's any.
-/
import Derived.Test.YtdfpijbngbfjaaaGreatDoorAe
namespace Go.Proofs.YtdfpijbngbfjaaaGreatDoor
open Go.RowKit
theorem TreePost.mono {g d : Nat} {t : Tree} {u : ByteArray} {S S' : Nat → Prop} {w : World} {e : Ending} {w' : World} (h : TreePost g d t u S w e w') (hs : ∀ b, S b → S' b) : TreePost g d t u S' w e w' := by
  obtain ⟨o, n, m, p, k, he, ht, hr, hk⟩ := h
  exact ⟨o, n, m, p, k, he, ht.base fun b _ hb => hs b hb, hr, hk⟩
theorem TreeAt.bound {w : World} {S : Nat → Prop} {o : ByteArray} {n : Int} {m : ByteArray} {p : Option Addr} {k : Nat} {t : Tree} (h : TreeAt w S o n m p k t) : TreeAt w (fun b => S b ∧ b < w.heap.size) o n m p k t :=
  h.base fun _ hl hb => ⟨hb, hl⟩
theorem row_at (f : Nat) (hR : RowOK f) (d : Nat) (s u : ByteArray) (t : Tree) (h : rowF f d 0 s.data.toList = some (t, u.data.toList)) (g : Nat) (w : World) (hr : Rd g s d w) :
    Calls Tryz.prog 18 #[.pointer (some ⟨g, 0, none⟩), .int .i64 0] w (TreePost g d t u (w.heap.size ≤ ·) w) := hR d 0 s u t h g w hr
theorem two_new (w : World) (x y0 y1 y2 y3 : Value) (e e2 : TypeId) : RowIs ((w.alloc (.cells #[x] e)).alloc (.cells #[y0, y1, y2, y3] e2)) w.heap.size e [x] ∧ RowIs ((w.alloc (.cells #[x] e)).alloc (.cells #[y0, y1, y2, y3] e2)) (w.heap.size + 1) e2 [y0, y1, y2, y3] := by
  have h1 := (RowIs.new w e [x]).alloc (.cells #[y0, y1, y2, y3] e2)
  have h2 := RowIs.new (w.alloc (.cells #[x] e)) e2 [y0, y1, y2, y3]
  have e : (w.alloc (.cells #[x] e)).heap.size = w.heap.size + 1 := by simp
  rw [e] at h2
  exact ⟨h1, h2⟩
set_option maxRecDepth 100000 in
set_option maxHeartbeats 8000000 in
theorem any_plain (f : Nat) (hR : RowOK f) (d : Nat) (s u1 u2 : ByteArray) (ta : Tree) (h1 : rowF f d 0 s.data.toList = some (ta, u1.data.toList)) (h2 : passF [63] u1.data.toList = (false, u2.data.toList)) (g : Nat) (w : World) (hr : Rd g s d w) :
    Calls Tryz.prog 11 #[.pointer (some ⟨g, 0, none⟩)] w (TreePost g d ta u2 (w.heap.size ≤ ·) w) := by
  have H1 := Lib.hid (row_at f hR d s u1 ta h1 g)
  have H2 := Lib.hid (fun (W : World) => passN_at ⟨#[63]⟩ (s := u1) (u := u2) (d := d) (g := g) (w := W) h2)
  have HSZ := Lib.hid (show u1.size ≤ 1000000000 by have h5 := (parse_le f).2.1 _ _ _ _ _ h1; have h6 := hr.size; rw [Lib.size_eq] at h6 ⊢; exact Nat.le_trans h5 h6)
  have lg := hr.row.lt
  have HR := Lib.hid hr
  clear h1 h2 hr
  go_enter Tryz.func11, Tryz.ntmps11
  go_wp2_with fail
  have k0 := ((Kept.refl g w).alloc (.cells #[.pointer (some ⟨g, 0, none⟩)] 38)).alloc (.cells #[.string ⟨#[]⟩, .int .i64 0, .string ⟨#[]⟩, .slice none 0 0] 43)
  obtain ⟨ra, rb⟩ := two_new w (.pointer (some ⟨g, 0, none⟩)) (.string ⟨#[]⟩) (.int .i64 0) (.string ⟨#[]⟩) (.slice none 0 0) 38 43
  refine (H1.out _ (HR.out.kept k0 ((HR.out.row.alloc _).alloc _))).mono ?_
  rintro e w1 ⟨o, n, m, p, k, rfl, t1, r1, kk1⟩
  have hne : w.heap.size ≠ g := by omega
  have hne1 : w.heap.size + 1 ≠ g := by omega
  have K1 := k0.trans kk1
  have hs1 := kk1.size
  simp at hs1
  have ra1 := (kk1.row ra hne).alloc (.cells #[.string o, .int .i64 n, .string m, .slice p k k] 43)
  have rb1 := (kk1.row rb hne1).alloc (.cells #[.string o, .int .i64 n, .string m, .slice p k k] 43)
  have rn1 := RowIs.new w1 43 [.string o, .int .i64 n, .string m, .slice p k k]
  have R1 := HR.out.next (s' := u1) (d' := d) (K1.alloc (.cells #[.string o, .int .i64 n, .string m, .slice p k k] 43)) (r1.alloc _) HSZ.out HR.out.deep
  have c0 : (w1.alloc (.cells #[.string o, .int .i64 n, .string m, .slice p k k] 43)).cell? ⟨w.heap.size, 0, none⟩ = some (.pointer (some ⟨g, 0, none⟩)) := by rw [ra1.cell]; rfl
  have HRB := Lib.hid rb1
  have HRN := Lib.hid rn1
  have HK1 := Lib.hid K1
  have HT1 := Lib.hid (t1.alloc (.cells #[.string o, .int .i64 n, .string m, .slice p k k] 43))
  clear k0 ra rb t1 r1 kk1 ra1 rb1 rn1 K1
  go_wp2_with fail
  refine (H2.out _ R1).mono ?_
  rintro e w2 ⟨rfl, R2, kk2⟩
  have rb2 := kk2.row HRB.out hne1
  have rn2 := kk2.row HRN.out (show w1.heap.size ≠ g by omega)
  obtain ⟨z0, z1, z2, z3, f0, f1, f2, f3, lz⟩ := tree_facts rb2
  obtain ⟨n0, n1, n2, n3, g0, g1, g2, g3, ln⟩ := tree_facts rn2
  have HT2 := Lib.hid ((HT1.out.base (S' := fun b => w.heap.size + 2 ≤ b) (fun b _ hb => by simp at hb; omega)).kept kk2 (fun b hb => by have h2 : w.heap.size + 2 ≤ b := hb; omega))
  have HK2 := Lib.hid ((HK1.out.alloc _).trans kk2)
  have HR2 := Lib.hid R2
  have HRB2 := Lib.hid rb2
  clear R1 R2 kk2 rb2 rn2 c0 f0 f1 f2 f3 g0 g1 g2 g3
  have f0 := HRB2.out.free 0
  have f1 := HRB2.out.free 1
  have f2 := HRB2.out.free 2
  have f3 := HRB2.out.free 3
  go_wp2_with fail
  have hfin := (((HRB2.out.set 0 (.string o)).set 1 (.int .i64 n)).set 2 (.string m)).set 3 (.slice p k k)
  obtain ⟨j0, j1, j2, j3, _⟩ := tree_facts hfin
  have hgb : g ≠ w.heap.size + 1 := Ne.symm hne1
  have nb : ∀ b, (w.heap.size + 2 ≤ b) → b ≠ w.heap.size + 1 := fun b hb => by omega
  exact bodyPost_ret (v := .agg #[.string o, .int .i64 n, .string m, .slice p k k]) (by simp [results, Tryz.results11, go_sem, j0, j1, j2, j3]) rfl ⟨o, n, m, p, k, rfl,
    ((((HT2.out.set nb _).set nb _).set nb _).set nb _).base fun b _ hb => by have h : w.heap.size + 2 ≤ b := hb; show w.heap.size ≤ b; omega,
    (((HR2.out.row.other hgb _).other hgb _).other hgb _).other hgb _, (((HK2.out.new (Nat.le_succ _) 0 _).new (Nat.le_succ _) 1 _).new (Nat.le_succ _) 2 _).new (Nat.le_succ _) 3 _⟩
set_option maxRecDepth 100000 in
set_option maxHeartbeats 8000000 in
theorem any_cond (f : Nat) (hR : RowOK f) (hA : AnyOK f) (d : Nat) (hd : d < 40) (s u1 u2 u3 u4 u5 : ByteArray) (ta tb tc : Tree) (h1 : rowF f d 0 s.data.toList = some (ta, u1.data.toList)) (h2 : passF [63] u1.data.toList = (true, u2.data.toList))
    (h3 : anyF f (d + 1) u2.data.toList = some (tb, u3.data.toList)) (h4 : passF [58] u3.data.toList = (true, u4.data.toList)) (h5 : anyF f (d + 1) u4.data.toList = some (tc, u5.data.toList)) (g : Nat) (w : World) (hr : Rd g s d w) :
    Calls Tryz.prog 11 #[.pointer (some ⟨g, 0, none⟩)] w (TreePost g d (.node [63] [ta, tb, tc]) u5 (w.heap.size ≤ ·) w) := by
  have H1 := Lib.hid (row_at f hR d s u1 ta h1 g)
  have H2 := Lib.hid (fun (W : World) => passT_at ⟨#[63]⟩ (s := u1) (u := u2) (d := d) (g := g) (w := W) h2)
  have H3 := Lib.hid (any1_at f hA (d + 1) u2 u3 u4 u5 ta tb tc h3 h4 h5 g)
  have HD := Lib.hid hd
  have HSZ := Lib.hid (show u1.size ≤ 1000000000 by have h5 := (parse_le f).2.1 _ _ _ _ _ h1; have h6 := hr.size; rw [Lib.size_eq] at h6 ⊢; exact Nat.le_trans h5 h6)
  have lg := hr.row.lt
  have HR := Lib.hid hr
  clear h1 h2 h3 h4 h5 hr hd
  go_enter Tryz.func11, Tryz.ntmps11
  go_wp2_with fail
  have k0 := ((Kept.refl g w).alloc (.cells #[.pointer (some ⟨g, 0, none⟩)] 38)).alloc (.cells #[.string ⟨#[]⟩, .int .i64 0, .string ⟨#[]⟩, .slice none 0 0] 43)
  obtain ⟨ra, rb⟩ := two_new w (.pointer (some ⟨g, 0, none⟩)) (.string ⟨#[]⟩) (.int .i64 0) (.string ⟨#[]⟩) (.slice none 0 0) 38 43
  refine (H1.out _ (HR.out.kept k0 ((HR.out.row.alloc _).alloc _))).mono ?_
  rintro e w1 ⟨o, n, m, p, k, rfl, t1, r1, kk1⟩
  have hne : w.heap.size ≠ g := by omega
  have hne1 : w.heap.size + 1 ≠ g := by omega
  have K1 := k0.trans kk1
  have hs1 := kk1.size
  simp at hs1
  have ra1 := (kk1.row ra hne).alloc (.cells #[.string o, .int .i64 n, .string m, .slice p k k] 43)
  have rb1 := (kk1.row rb hne1).alloc (.cells #[.string o, .int .i64 n, .string m, .slice p k k] 43)
  have rn1 := RowIs.new w1 43 [.string o, .int .i64 n, .string m, .slice p k k]
  have R1 := HR.out.next (s' := u1) (d' := d) (K1.alloc (.cells #[.string o, .int .i64 n, .string m, .slice p k k] 43)) (r1.alloc _) HSZ.out HR.out.deep
  have c0 : (w1.alloc (.cells #[.string o, .int .i64 n, .string m, .slice p k k] 43)).cell? ⟨w.heap.size, 0, none⟩ = some (.pointer (some ⟨g, 0, none⟩)) := by rw [ra1.cell]; rfl
  have HRA := Lib.hid ra1
  have HRB := Lib.hid rb1
  have HRN := Lib.hid rn1
  have HK1 := Lib.hid K1
  have HT1 := Lib.hid (t1.alloc (.cells #[.string o, .int .i64 n, .string m, .slice p k k] 43))
  clear k0 ra rb t1 r1 kk1 ra1 rb1 rn1 K1
  go_wp2_with fail
  refine (H2.out _ R1).mono ?_
  rintro e w2 ⟨rfl, R2, kk2⟩
  have ra2 := kk2.row HRA.out hne
  have rb2 := kk2.row HRB.out hne1
  have rn2 := kk2.row HRN.out (show w1.heap.size ≠ g by omega)
  have hs2 := kk2.size
  simp at hs2
  have c2 : w2.cell? ⟨w.heap.size, 0, none⟩ = some (.pointer (some ⟨g, 0, none⟩)) := by rw [ra2.cell]; rfl
  have l2 := ra2.lt
  have HT2 := Lib.hid ((HT1.out.base (S' := fun b => w.heap.size + 2 ≤ b) (fun b _ hb => by simp at hb; omega)).kept kk2 (fun b hb => by have h2 : w.heap.size + 2 ≤ b := hb; omega)).bound
  have HK2 := Lib.hid ((HK1.out.alloc _).trans kk2)
  have HR2 := Lib.hid R2
  have HRA2 := Lib.hid ra2
  have HRB2 := Lib.hid rb2
  have HRN2 := Lib.hid rn2
  have HW : Hid (Calls Tryz.prog 20 #[.pointer (some ⟨g, 0, none⟩), .func (.func 21) #[] #[.pointer (some ⟨w.heap.size, 0, none⟩), .pointer (some ⟨w1.heap.size, 0, none⟩)]] w2 (TreePost g d (.node [63] [ta, tb, tc]) u5 (fun b => w.heap.size + 2 ≤ b ∧ b ≠ w2.heap.size) w2)) :=
    within_q g ⟨w.heap.size, 0, none⟩ ⟨w1.heap.size, 0, none⟩ u2 u5 d HD.out _ w2 R2 _ (fun b hb => ⟨by have := hb.1; omega, hb.2⟩) fun w3 k3 r3 hlt =>
      (H3.out w.heap.size w1.heap.size o n m p k (fun b => w.heap.size + 2 ≤ b ∧ b < w2.heap.size) w3 r3 (k3.row ra2 hne) (k3.row rn2 (show w1.heap.size ≠ g by omega)) (HT2.out.kept k3 (fun b hb => by have := hb.1; omega)) (fun b hb => ⟨by have := hb.2; omega, by have := hb.1; omega⟩) hne (by omega)).mono
        fun e w' h => h.mono fun b hb => by
          rcases hb with hb | hb
          · exact ⟨hb.1, by have := hb.2; omega⟩
          · exact ⟨by omega, by omega⟩
  clear R1 R2 kk2 ra2 rb2 rn2 c0
  go_wp2_with fail
  refine HW.out.mono ?_
  rintro e w3 ⟨o5, n5, m5, p5, k5, rfl, t5, r5, kk5⟩
  have rb5 := kk5.row HRB2.out hne1
  obtain ⟨z0, z1, z2, z3, f0, f1, f2, f3, lz⟩ := tree_facts rb5
  have HRB5 := Lib.hid rb5
  have HT5 := Lib.hid t5
  have HR5 := Lib.hid r5
  have HK5 := Lib.hid (HK2.out.trans kk5)
  clear HW rb5 t5 r5 kk5
  go_wp2_with fail
  have hfin := (((HRB5.out.set 0 (.string o5)).set 1 (.int .i64 n5)).set 2 (.string m5)).set 3 (.slice p5 k5 k5)
  obtain ⟨j0, j1, j2, j3, _⟩ := tree_facts hfin
  have hgb : g ≠ w.heap.size + 1 := Ne.symm hne1
  have nb : ∀ b, (w.heap.size + 2 ≤ b ∧ b ≠ w2.heap.size) → b ≠ w.heap.size + 1 := fun b hb => by have := hb.1; omega
  exact bodyPost_ret (v := .agg #[.string o5, .int .i64 n5, .string m5, .slice p5 k5 k5]) (by simp [results, Tryz.results11, go_sem, j0, j1, j2, j3]) rfl ⟨o5, n5, m5, p5, k5, rfl,
    ((((HT5.out.set nb _).set nb _).set nb _).set nb _).base fun b _ hb => by have h := hb.1; show w.heap.size ≤ b; omega,
    (((HR5.out.other hgb _).other hgb _).other hgb _).other hgb _, (((HK5.out.new (Nat.le_succ _) 0 _).new (Nat.le_succ _) 1 _).new (Nat.le_succ _) 2 _).new (Nat.le_succ _) 3 _⟩
end Go.Proofs.YtdfpijbngbfjaaaGreatDoor
