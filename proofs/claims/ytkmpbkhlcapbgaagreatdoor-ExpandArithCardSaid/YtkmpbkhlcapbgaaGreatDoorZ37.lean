/-
  DERIVED. Trees in memory; what a reader's call is given and leaves; the walk of arith's within.
-/
import Derived.Test.YtkmpbkhlcapbgaaGreatDoorZ36
namespace Go.Proofs.YtkmpbkhlcapbgaaGreatDoor
open Go.RowKit
/-- A tree, by the four cells of its struct; its kids lie in blocks that are of S. -/
inductive TreeAt (w : World) (S : Nat → Prop) : ByteArray → Int → ByteArray → Option Addr → Nat → Tree → Prop
  | num (x : Int) : TreeAt w S ⟨#[]⟩ x ⟨#[]⟩ none 0 (.num x)
  | var (s : ByteArray) : TreeAt w S ⟨#[36]⟩ 0 s none 0 (.var s.data.toList)
  | one (op : ByteArray) (b : Nat) (hb : S b) {o : ByteArray} {n : Int} {m : ByteArray} {p : Option Addr} {k : Nat} {t : Tree}
      (hr : RowIs w b 177 [.string o, .int .i64 n, .string m, .slice p k k]) (h : TreeAt w S o n m p k t) :
      TreeAt w S op 0 ⟨#[]⟩ (some ⟨b, 0, none⟩) 1 (.node op.data.toList [t])
  | two (op : ByteArray) (b : Nat) (hb : S b) {o : ByteArray} {n : Int} {m : ByteArray} {p : Option Addr} {k : Nat} {t : Tree} {o2 : ByteArray} {n2 : Int} {m2 : ByteArray} {p2 : Option Addr} {k2 : Nat} {t2 : Tree}
      (hr : RowIs w b 177 [.string o, .int .i64 n, .string m, .slice p k k, .string o2, .int .i64 n2, .string m2, .slice p2 k2 k2]) (h : TreeAt w S o n m p k t) (h2 : TreeAt w S o2 n2 m2 p2 k2 t2) :
      TreeAt w S op 0 ⟨#[]⟩ (some ⟨b, 0, none⟩) 2 (.node op.data.toList [t, t2])
  | three (op : ByteArray) (b : Nat) (hb : S b) {o : ByteArray} {n : Int} {m : ByteArray} {p : Option Addr} {k : Nat} {t : Tree} {o2 : ByteArray} {n2 : Int} {m2 : ByteArray} {p2 : Option Addr} {k2 : Nat} {t2 : Tree} {o3 : ByteArray} {n3 : Int} {m3 : ByteArray} {p3 : Option Addr} {k3 : Nat} {t3 : Tree}
      (hr : RowIs w b 177 [.string o, .int .i64 n, .string m, .slice p k k, .string o2, .int .i64 n2, .string m2, .slice p2 k2 k2, .string o3, .int .i64 n3, .string m3, .slice p3 k3 k3]) (h : TreeAt w S o n m p k t) (h2 : TreeAt w S o2 n2 m2 p2 k2 t2) (h3 : TreeAt w S o3 n3 m3 p3 k3 t3) :
      TreeAt w S op 0 ⟨#[]⟩ (some ⟨b, 0, none⟩) 3 (.node op.data.toList [t, t2, t3])
theorem TreeAt.keep {w w' : World} {S S' : Nat → Prop} (hk : ∀ b, S b → b < w.heap.size → w'.heap[b]? = w.heap[b]? ∧ S' b) {o : ByteArray} {n : Int} {m : ByteArray} {p : Option Addr} {k : Nat} {t : Tree} (h : TreeAt w S o n m p k t) : TreeAt w' S' o n m p k t := by
  have row : ∀ {b e : Nat} {l : List Value}, RowIs w b e l → S b → RowIs w' b e l := fun hr hb => by unfold RowIs; rw [(hk _ hb hr.lt).1]; exact hr
  induction h with
  | num x => exact .num x
  | var s => exact .var s
  | one op b hb hr _ ih => exact .one op b (hk b hb hr.lt).2 (row hr hb) ih
  | two op b hb hr _ _ ih ih2 => exact .two op b (hk b hb hr.lt).2 (row hr hb) ih ih2
  | three op b hb hr _ _ _ ih ih2 ih3 => exact .three op b (hk b hb hr.lt).2 (row hr hb) ih ih2 ih3
theorem TreeAt.base {w : World} {S S' : Nat → Prop} {o : ByteArray} {n : Int} {m : ByteArray} {p : Option Addr} {k : Nat} {t : Tree} (h : TreeAt w S o n m p k t) (hs : ∀ b, b < w.heap.size → S b → S' b) : TreeAt w S' o n m p k t :=
  h.keep fun b hb hl => ⟨rfl, hs b hl hb⟩
theorem TreeAt.kept {w w' : World} {S : Nat → Prop} {g : Nat} (hk : Kept g w w') (hg : ∀ b, S b → b ≠ g) {o : ByteArray} {n : Int} {m : ByteArray} {p : Option Addr} {k : Nat} {t : Tree} (h : TreeAt w S o n m p k t) : TreeAt w' S o n m p k t :=
  h.keep fun b hb hl => ⟨hk.block b hl (hg b hb), hb⟩
theorem TreeAt.under {w w' : World} {S : Nat → Prop} (hk : Below w.heap.size w w') {o : ByteArray} {n : Int} {m : ByteArray} {p : Option Addr} {k : Nat} {t : Tree} (h : TreeAt w S o n m p k t) : TreeAt w' S o n m p k t :=
  h.keep fun b hb hl => ⟨hk.block b hl, hb⟩
theorem TreeAt.set {w : World} {S : Nat → Prop} {a : Addr} (ha : ∀ b, S b → b ≠ a.block) (v : Value) {o : ByteArray} {n : Int} {m : ByteArray} {p : Option Addr} {k : Nat} {t : Tree} (h : TreeAt w S o n m p k t) : TreeAt (w.setCell a v) S o n m p k t :=
  h.keep fun b hb _ => ⟨Below.heap_setCell _ _ _ _ (ha b hb), hb⟩
theorem TreeAt.alloc {w : World} {S : Nat → Prop} (ob : Obj) {o : ByteArray} {n : Int} {m : ByteArray} {p : Option Addr} {k : Nat} {t : Tree} (h : TreeAt w S o n m p k t) : TreeAt (w.alloc ob) S o n m p k t :=
  h.under ((Below.refl _ _).alloc (Nat.le_refl _) ob)
/-- What a reader's call is given: the text that is left, how deep it is, the tables. -/
structure Rd (g : Nat) (s : ByteArray) (d : Nat) (w : World) : Prop where
  row : RowIs w g 174 [.string s, .int .i64 (d : Int)]
  size : s.size ≤ 1000000000
  deep : d ≤ 40
  gs : g ≠ 8
  gr : g ≠ 5 ∧ g ≠ 1
  signs : SignsAt w
  rows : RowsAt w
  env : ∀ w', Kept g w w' → Env w'
theorem Rd.next {g : Nat} {s s' : ByteArray} {d d' : Nat} {w w' : World} (h : Rd g s d w) (k : Kept g w w') (r : RowIs w' g 174 [.string s', .int .i64 (d' : Int)]) (hs : s'.size ≤ 1000000000) (hd : d' ≤ 40) : Rd g s' d' w' :=
  ⟨r, hs, hd, h.gs, h.gr, h.signs.kept h.gs k, ⟨fun i hi => k.cell (Ne.symm h.gr.1) (h.rows.1 i hi), h.rows.2.elim fun m hm => ⟨m, k.cell (Ne.symm h.gr.2) hm⟩⟩, fun w2 k2 => h.env w2 (k.trans k2)⟩
theorem Rd.kept {g : Nat} {s : ByteArray} {d : Nat} {w w' : World} (h : Rd g s d w) (k : Kept g w w') (r : RowIs w' g 174 [.string s, .int .i64 (d : Int)]) : Rd g s d w' := h.next k r h.size h.deep
/-- How a reader's call ends: a tree, and the text that is left. -/
def TreePost (g d : Nat) (t : Tree) (u : ByteArray) (S : Nat → Prop) (w : World) (e : Ending) (w' : World) : Prop :=
  ∃ (o : ByteArray) (n : Int) (m : ByteArray) (p : Option Addr) (k : Nat), e = .returned (.agg #[.string o, .int .i64 n, .string m, .slice p k k]) ∧ TreeAt w' S o n m p k t ∧ RowIs w' g 174 [.string u, .int .i64 (d : Int)] ∧ Kept g w w'
theorem reader_facts {W : World} {b e : Nat} {x0 x1 : Value} (r : RowIs W b e [x0, x1]) :
    W.cell? ⟨b, 0, none⟩ = some x0 ∧ W.cell? ⟨b, 1, none⟩ = some x1 ∧ W.frozen? ⟨b, 0, none⟩ = false ∧ W.frozen? ⟨b, 1, none⟩ = false ∧ b < W.heap.size :=
  ⟨by rw [r.cell]; rfl, by rw [r.cell]; rfl, r.free _, r.free _, r.lt⟩
-- WITHIN (printed by gen_within.py)
set_option maxRecDepth 100000 in
set_option maxHeartbeats 4000000 in
theorem within_q (g : Nat) (br ba : Addr) (s u : ByteArray) (d : Nat) (hd : d < 40) (t : Tree) (w : World) (hr : Rd g s d w) (S : Nat → Prop) (hS : ∀ b, S b → b ≠ g ∧ b ≠ w.heap.size)
    (HF0 : ∀ w1, Kept g w w1 → Rd g s (d + 1) w1 → w.heap.size < w1.heap.size → Calls Tryz.prog 154 #[.pointer (some br), .pointer (some ba)] w1 (TreePost g (d + 1) t u S w1)) :
    Calls Tryz.prog 153 #[.pointer (some ⟨g, 0, none⟩), .func (.func 154) #[] #[.pointer (some br), .pointer (some ba)]] w (TreePost g d t u S w) := by
  have HF := Lib.hid HF0
  have hd40 : ((d : Int) == 40) = false := by simp; omega
  have hdb : (d : Int) ≤ 40 := by omega
  have hda : (0 : Int) ≤ (d : Int) := by omega
  obtain ⟨c0, c1, f0, f1, lg⟩ := reader_facts hr.row
  have HR := Lib.hid hr
  have HD := Lib.hid hd
  have HSS := Lib.hid hS
  clear HF0 hr hd hS
  go_enter Tryz.func153, Tryz.ntmps153
  go_wp2_with fail
  have k0 := ((Kept.refl g w).set 1 (.int .i64 ((d : Int) + 1))).alloc (.cells #[.string ⟨#[]⟩, .int .i64 0, .string ⟨#[]⟩, .slice none 0 0] 177)
  refine (HF.out _ k0 (HR.out.next k0 ((HR.out.row.set 1 (.int .i64 ((d : Int) + 1))).alloc _) HR.out.size (by have := HD.out; omega)) (by simp)).mono ?_
  rintro e w1 ⟨o, n, m, p, k, rfl, t1, r1, k1⟩
  have K1 := k0.trans k1
  have hne : w.heap.size ≠ g := by omega
  have hne2 : ¬ g = w.heap.size := by omega
  have rz : RowIs w1 w.heap.size 177 treeL := k1.row (by have h := RowIs.new (w.setCell ⟨g, 1, none⟩ (.int .i64 ((d : Int) + 1))) 177 treeL; simpa using h) hne
  obtain ⟨z0, z1, z2, z3, y0, y1, y2, y3, lz⟩ := tree_facts rz
  obtain ⟨x0, x1, v0, v1, lg1⟩ := reader_facts r1
  have c1' : w1.cell? ⟨g, 1, none⟩ = some (.int .i64 ((d : Int) + 1)) := x1
  have HR1 := Lib.hid r1
  have HK1 := Lib.hid K1
  have HT1 := Lib.hid t1
  have HRZ := Lib.hid rz
  clear r1 k1 K1 k0 rz t1 c0 c1 f0 f1 x1
  go_wp2_with fail
  have hfin := (((((HRZ.out.other hne (.int .i64 (d : Int)) (a := ⟨g, 1, none⟩)).set 0 (.string o)).set 1 (.int .i64 n)).set 2 (.string m)).set 3 (.slice p k k)).alloc (.cells #[.string o, .int .i64 n, .string m, .slice p k k] 177)
  obtain ⟨q0, q1, q2, q3, _⟩ := tree_facts hfin
  exact bodyPost_ret (v := .agg #[.string o, .int .i64 n, .string m, .slice p k k]) (by simp [results, Tryz.results153, go_sem, q0, q1, q2, q3]) rfl ⟨o, n, m, p, k, rfl,
    (((((HT1.out.set (fun b hb => (HSS.out b hb).1) _).set (fun b hb => (HSS.out b hb).2) _).set (fun b hb => (HSS.out b hb).2) _).set (fun b hb => (HSS.out b hb).2) _).set (fun b hb => (HSS.out b hb).2) _).alloc _,
    (((((HR1.out.set 1 _).other (Ne.symm hne) _).other (Ne.symm hne) _).other (Ne.symm hne) _).other (Ne.symm hne) _).alloc _,
    (((((HK1.out.set 1 _).new (Nat.le_refl _) 0 _).new (Nat.le_refl _) 1 _).new (Nat.le_refl _) 2 _).new (Nat.le_refl _) 3 _).alloc _⟩
set_option maxRecDepth 100000 in
set_option maxHeartbeats 4000000 in
theorem within_s (g : Nat) (bs br : Addr) (s u : ByteArray) (d : Nat) (hd : d < 40) (t : Tree) (w : World) (hr : Rd g s d w) (S : Nat → Prop) (hS : ∀ b, S b → b ≠ g ∧ b ≠ w.heap.size)
    (HF0 : ∀ w1, Kept g w w1 → Rd g s (d + 1) w1 → w.heap.size < w1.heap.size → Calls Tryz.prog 204 #[.pointer (some bs), .pointer (some br)] w1 (TreePost g (d + 1) t u S w1)) :
    Calls Tryz.prog 153 #[.pointer (some ⟨g, 0, none⟩), .func (.func 204) #[] #[.pointer (some bs), .pointer (some br)]] w (TreePost g d t u S w) := by
  have HF := Lib.hid HF0
  have hd40 : ((d : Int) == 40) = false := by simp; omega
  have hdb : (d : Int) ≤ 40 := by omega
  have hda : (0 : Int) ≤ (d : Int) := by omega
  obtain ⟨c0, c1, f0, f1, lg⟩ := reader_facts hr.row
  have HR := Lib.hid hr
  have HD := Lib.hid hd
  have HSS := Lib.hid hS
  clear HF0 hr hd hS
  go_enter Tryz.func153, Tryz.ntmps153
  go_wp2_with fail
  have k0 := ((Kept.refl g w).set 1 (.int .i64 ((d : Int) + 1))).alloc (.cells #[.string ⟨#[]⟩, .int .i64 0, .string ⟨#[]⟩, .slice none 0 0] 177)
  refine (HF.out _ k0 (HR.out.next k0 ((HR.out.row.set 1 (.int .i64 ((d : Int) + 1))).alloc _) HR.out.size (by have := HD.out; omega)) (by simp)).mono ?_
  rintro e w1 ⟨o, n, m, p, k, rfl, t1, r1, k1⟩
  have K1 := k0.trans k1
  have hne : w.heap.size ≠ g := by omega
  have hne2 : ¬ g = w.heap.size := by omega
  have rz : RowIs w1 w.heap.size 177 treeL := k1.row (by have h := RowIs.new (w.setCell ⟨g, 1, none⟩ (.int .i64 ((d : Int) + 1))) 177 treeL; simpa using h) hne
  obtain ⟨z0, z1, z2, z3, y0, y1, y2, y3, lz⟩ := tree_facts rz
  obtain ⟨x0, x1, v0, v1, lg1⟩ := reader_facts r1
  have c1' : w1.cell? ⟨g, 1, none⟩ = some (.int .i64 ((d : Int) + 1)) := x1
  have HR1 := Lib.hid r1
  have HK1 := Lib.hid K1
  have HT1 := Lib.hid t1
  have HRZ := Lib.hid rz
  clear r1 k1 K1 k0 rz t1 c0 c1 f0 f1 x1
  go_wp2_with fail
  have hfin := (((((HRZ.out.other hne (.int .i64 (d : Int)) (a := ⟨g, 1, none⟩)).set 0 (.string o)).set 1 (.int .i64 n)).set 2 (.string m)).set 3 (.slice p k k)).alloc (.cells #[.string o, .int .i64 n, .string m, .slice p k k] 177)
  obtain ⟨q0, q1, q2, q3, _⟩ := tree_facts hfin
  exact bodyPost_ret (v := .agg #[.string o, .int .i64 n, .string m, .slice p k k]) (by simp [results, Tryz.results153, go_sem, q0, q1, q2, q3]) rfl ⟨o, n, m, p, k, rfl,
    (((((HT1.out.set (fun b hb => (HSS.out b hb).1) _).set (fun b hb => (HSS.out b hb).2) _).set (fun b hb => (HSS.out b hb).2) _).set (fun b hb => (HSS.out b hb).2) _).set (fun b hb => (HSS.out b hb).2) _).alloc _,
    (((((HR1.out.set 1 _).other (Ne.symm hne) _).other (Ne.symm hne) _).other (Ne.symm hne) _).other (Ne.symm hne) _).alloc _,
    (((((HK1.out.set 1 _).new (Nat.le_refl _) 0 _).new (Nat.le_refl _) 1 _).new (Nat.le_refl _) 2 _).new (Nat.le_refl _) 3 _).alloc _⟩
set_option maxRecDepth 100000 in
set_option maxHeartbeats 4000000 in
theorem within_p (g : Nat) (br : Addr) (s u : ByteArray) (d : Nat) (hd : d < 40) (t : Tree) (w : World) (hr : Rd g s d w) (S : Nat → Prop) (hS : ∀ b, S b → b ≠ g ∧ b ≠ w.heap.size)
    (HF0 : ∀ w1, Kept g w w1 → Rd g s (d + 1) w1 → w.heap.size < w1.heap.size → Calls Tryz.prog 205 #[.pointer (some br)] w1 (TreePost g (d + 1) t u S w1)) :
    Calls Tryz.prog 153 #[.pointer (some ⟨g, 0, none⟩), .func (.func 205) #[] #[.pointer (some br)]] w (TreePost g d t u S w) := by
  have HF := Lib.hid HF0
  have hd40 : ((d : Int) == 40) = false := by simp; omega
  have hdb : (d : Int) ≤ 40 := by omega
  have hda : (0 : Int) ≤ (d : Int) := by omega
  obtain ⟨c0, c1, f0, f1, lg⟩ := reader_facts hr.row
  have HR := Lib.hid hr
  have HD := Lib.hid hd
  have HSS := Lib.hid hS
  clear HF0 hr hd hS
  go_enter Tryz.func153, Tryz.ntmps153
  go_wp2_with fail
  have k0 := ((Kept.refl g w).set 1 (.int .i64 ((d : Int) + 1))).alloc (.cells #[.string ⟨#[]⟩, .int .i64 0, .string ⟨#[]⟩, .slice none 0 0] 177)
  refine (HF.out _ k0 (HR.out.next k0 ((HR.out.row.set 1 (.int .i64 ((d : Int) + 1))).alloc _) HR.out.size (by have := HD.out; omega)) (by simp)).mono ?_
  rintro e w1 ⟨o, n, m, p, k, rfl, t1, r1, k1⟩
  have K1 := k0.trans k1
  have hne : w.heap.size ≠ g := by omega
  have hne2 : ¬ g = w.heap.size := by omega
  have rz : RowIs w1 w.heap.size 177 treeL := k1.row (by have h := RowIs.new (w.setCell ⟨g, 1, none⟩ (.int .i64 ((d : Int) + 1))) 177 treeL; simpa using h) hne
  obtain ⟨z0, z1, z2, z3, y0, y1, y2, y3, lz⟩ := tree_facts rz
  obtain ⟨x0, x1, v0, v1, lg1⟩ := reader_facts r1
  have c1' : w1.cell? ⟨g, 1, none⟩ = some (.int .i64 ((d : Int) + 1)) := x1
  have HR1 := Lib.hid r1
  have HK1 := Lib.hid K1
  have HT1 := Lib.hid t1
  have HRZ := Lib.hid rz
  clear r1 k1 K1 k0 rz t1 c0 c1 f0 f1 x1
  go_wp2_with fail
  have hfin := (((((HRZ.out.other hne (.int .i64 (d : Int)) (a := ⟨g, 1, none⟩)).set 0 (.string o)).set 1 (.int .i64 n)).set 2 (.string m)).set 3 (.slice p k k)).alloc (.cells #[.string o, .int .i64 n, .string m, .slice p k k] 177)
  obtain ⟨q0, q1, q2, q3, _⟩ := tree_facts hfin
  exact bodyPost_ret (v := .agg #[.string o, .int .i64 n, .string m, .slice p k k]) (by simp [results, Tryz.results153, go_sem, q0, q1, q2, q3]) rfl ⟨o, n, m, p, k, rfl,
    (((((HT1.out.set (fun b hb => (HSS.out b hb).1) _).set (fun b hb => (HSS.out b hb).2) _).set (fun b hb => (HSS.out b hb).2) _).set (fun b hb => (HSS.out b hb).2) _).set (fun b hb => (HSS.out b hb).2) _).alloc _,
    (((((HR1.out.set 1 _).other (Ne.symm hne) _).other (Ne.symm hne) _).other (Ne.symm hne) _).other (Ne.symm hne) _).alloc _,
    (((((HK1.out.set 1 _).new (Nat.le_refl _) 0 _).new (Nat.le_refl _) 1 _).new (Nat.le_refl _) 2 _).new (Nat.le_refl _) 3 _).alloc _⟩
end Go.Proofs.YtkmpbkhlcapbgaaGreatDoor
