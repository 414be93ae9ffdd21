/-
  DERIVED. The walk of expand's One. The walks of split's end and separator. The walk of split's separator; how a row is split, step by step, plain.
-/
import Derived.Test.YtkmpbkhlcapbgaaGreatDoorZ26
import Derived.Deep.RegionHeld3
import Derived.Test.YtkmpbkhlcapbgaaGreatDoorZ09
import Derived.Test.YtkmpbkhlcapbgaaGreatDoorZ04
import Derived.Test.YtkmpbkhlcapbgaaGreatDoorZ01
import Derived.Test.YtkmpbkhlcapbgaaGreatDoorZ02
import Derived.Handy
import Derived.BigQuiet
import Derived.Deep.QuietTactic
namespace Go.Proofs.YtkmpbkhlcapbgaaGreatDoor
open Go Go.RowKit
/-- What is handed back of what parts come to. -/
def resOf (e : EnvT) : ExT → RowT × EnvT × Int × List UInt8
  | .ok e2 r2 => (r2, e2, 0, [])
  | .fault n t => (([], []), e, n, t)
def AllRes (S : Nat → Prop) (o : RowT × EnvT × Int × List UInt8) (w : World) (x : Ending) (w' : World) : Prop :=
  ∃ va nv cv aa na ca, x = .returned (.tuple #[rowVal o.1, envVal va nv cv aa na ca o.2.1, faultVal o.2.2.1 o.2.2.2]) ∧ EnvC w' (fun b => S b ∨ w.heap.size ≤ b) (.slice va nv cv) (.slice aa na ca) o.2.1 ∧ o.1.1.length = o.1.2.length ∧ o.1.1.length ≤ 1000000 ∧ Below w.heap.size w w'
theorem all_res (P : Par) (f : Nat) (hPs : ExPs P f) (fw : Nat) (s : ByteArray) (hs : s.size ≤ 1000000000) (l : List PartT) (hl : wordF fw s.data.toList = some l) (hsm : smallL l) (e : EnvT) (out : ExT) (ho : partsE P f e ([], []) l = some out)
    (S : Nat → Prop) (va : Option Addr) (nv cv : Nat) (aa : Option Addr) (na ca : Nat) (w : World) (hE : EnvC w S (.slice va nv cv) (.slice aa na ca) e) (hSl : ∀ b, S b → b < w.heap.size) (hT : Full w) :
    Calls Tryz.prog 21 #[envVal va nv cv aa na ca e, .string s, .func (.func 22) #[] #[]] w (AllRes S (resOf e out) w) := by
  refine (all_ok P f hPs fw s hs l hl hsm e out ho S va nv cv aa na ca w hE hSl hT).mono ?_
  intro x w' h
  cases out with
  | ok e2 r2 => exact h
  | fault n t => exact ⟨va, nv, cv, aa, na, ca, h.1, hE.keep h.2.size (fun b q1 q2 => ⟨h.2.block b q2, .inl q1⟩), rfl, by simp [resOf], h.2⟩
def OneRes (o : RowT × EnvT × Int × List UInt8) (w : World) (x : Ending) (w' : World) : Prop :=
  ∃ va nv cv aa na ca, x = .returned (.tuple #[.string ⟨(flatR o.1).toArray⟩, envVal va nv cv aa na ca o.2.1, faultVal o.2.2.1 o.2.2.2]) ∧ EnvA w' (.slice va nv cv) (.slice aa na ca) o.2.1 ∧ Below w.heap.size w w'
/-- What holds at each world of the last region: the boxes, the Env. -/
structure LawF (w : World) (b7 : Nat) (r : RowT) (va : Option Addr) (nv cv : Nat) (aa : Option Addr) (na ca : Nat) (e : EnvT) (n : Int) (t : List UInt8) (wx : World) : Prop where
  r7 : RowIs wx b7 38 [.string ⟨r.1.toArray⟩, .string ⟨r.2.toArray⟩]
  r8 : RowIs wx (b7 + 1) 28 [.slice va nv cv, .slice aa na ca, .int .i64 e.status, .string ⟨e.flags.toArray⟩]
  r9 : RowIs wx (b7 + 1 + 1) 33 [.int .i64 n, .string ⟨t.toArray⟩]
  r5 : ∃ a b c d, RowIs wx (w.heap.size + 1) 28 [a, b, c, d]
  r6 : ∃ a b, RowIs wx (w.heap.size + 1 + 1) 33 [a, b]
  be : Below w.heap.size w wx
  ev : EnvC wx (fun b => b ≠ w.heap.size + 1 ∧ b ≠ w.heap.size + 1 + 1) (.slice va nv cv) (.slice aa na ca) e
  lt : w.heap.size + 1 + 1 < b7
section
variable {w : World} {b7 : Nat} {r : RowT} {va : Option Addr} {nv cv : Nat} {aa : Option Addr} {na ca : Nat} {e : EnvT} {n : Int} {t : List UInt8} {wx wy : World}
theorem LawF.next (h : LawF w b7 r va nv cv aa na ca e n t wx) (hb : Below wx.heap.size wx wy) : LawF w b7 r va nv cv aa na ca e n t wy := by
  obtain ⟨a, b, c, d, h5⟩ := h.r5
  obtain ⟨a', b', h6⟩ := h.r6
  exact ⟨h.r7.below hb, h.r8.below hb, h.r9.below hb, ⟨a, b, c, d, h5.below hb⟩, ⟨a', b', h6.below hb⟩, h.be.trans (hb.mono h.be.size), h.ev.keep hb.size fun b q1 q2 => ⟨hb.block b q2, q1⟩, h.lt⟩
theorem LawF.setO (h : LawF w b7 r va nv cv aa na ca e n t wx) (p0 p1 p2 p3 : Value) : LawF w b7 r va nv cv aa na ca e n t ((((wx.setCell ⟨w.heap.size + 1, 0, none⟩ p0).setCell ⟨w.heap.size + 1, 1, none⟩ p1).setCell ⟨w.heap.size + 1, 2, none⟩ p2).setCell ⟨w.heap.size + 1, 3, none⟩ p3) := by
  obtain ⟨a, b, c, d, h5⟩ := h.r5
  obtain ⟨a', b', h6⟩ := h.r6
  have hl := h.lt
  have n7 : b7 ≠ w.heap.size + 1 := by omega
  have n8 : b7 + 1 ≠ w.heap.size + 1 := by omega
  have n9 : b7 + 1 + 1 ≠ w.heap.size + 1 := by omega
  have n6 : w.heap.size + 1 + 1 ≠ w.heap.size + 1 := by omega
  have o := fun {b e : Nat} {l : List Value} (hr : RowIs wx b e l) (hne : b ≠ w.heap.size + 1) => (((hr.other (a := ⟨w.heap.size + 1, 0, none⟩) hne p0).other (a := ⟨w.heap.size + 1, 1, none⟩) hne p1).other (a := ⟨w.heap.size + 1, 2, none⟩) hne p2).other (a := ⟨w.heap.size + 1, 3, none⟩) hne p3
  exact ⟨o h.r7 n7, o h.r8 n8, o h.r9 n9, ⟨_, _, _, _, (((h5.set 0 p0).set 1 p1).set 2 p2).set 3 p3⟩, ⟨_, _, o h6 n6⟩,
    (((h.be.setCell (p := ⟨w.heap.size + 1, 0, none⟩) (Nat.le_succ _) p0).setCell (p := ⟨w.heap.size + 1, 1, none⟩) (Nat.le_succ _) p1).setCell (p := ⟨w.heap.size + 1, 2, none⟩) (Nat.le_succ _) p2).setCell (p := ⟨w.heap.size + 1, 3, none⟩) (Nat.le_succ _) p3,
    h.ev.keep (by simp) (fun b q _ => ⟨(Below.heap_setCell _ _ _ _ q.1).trans ((Below.heap_setCell _ _ _ _ q.1).trans ((Below.heap_setCell _ _ _ _ q.1).trans (Below.heap_setCell _ _ _ _ q.1))), q⟩), hl⟩
theorem LawF.setR (h : LawF w b7 r va nv cv aa na ca e n t wx) (p0 p1 : Value) : LawF w b7 r va nv cv aa na ca e n t ((wx.setCell ⟨w.heap.size + 1 + 1, 0, none⟩ p0).setCell ⟨w.heap.size + 1 + 1, 1, none⟩ p1) := by
  obtain ⟨a, b, c, d, h5⟩ := h.r5
  obtain ⟨a', b', h6⟩ := h.r6
  have hl := h.lt
  have n7 : b7 ≠ w.heap.size + 1 + 1 := by omega
  have n8 : b7 + 1 ≠ w.heap.size + 1 + 1 := by omega
  have n9 : b7 + 1 + 1 ≠ w.heap.size + 1 + 1 := by omega
  have n5 : w.heap.size + 1 ≠ w.heap.size + 1 + 1 := by omega
  have o := fun {b e : Nat} {l : List Value} (hr : RowIs wx b e l) (hne : b ≠ w.heap.size + 1 + 1) => (hr.other (a := ⟨w.heap.size + 1 + 1, 0, none⟩) hne p0).other (a := ⟨w.heap.size + 1 + 1, 1, none⟩) hne p1
  exact ⟨o h.r7 n7, o h.r8 n8, o h.r9 n9, ⟨_, _, _, _, o h5 n5⟩, ⟨_, _, (h6.set 0 p0).set 1 p1⟩,
    (h.be.setCell (p := ⟨w.heap.size + 1 + 1, 0, none⟩) (by simp; omega) p0).setCell (p := ⟨w.heap.size + 1 + 1, 1, none⟩) (by simp; omega) p1,
    h.ev.keep (by simp) (fun b q _ => ⟨(Below.heap_setCell _ _ _ _ q.2).trans (Below.heap_setCell _ _ _ _ q.2), q⟩), hl⟩
def cellOf (w : World) (p : Addr) : Value := (w.cell? p).getD (.bool false)
theorem cellOf_is {w : World} {p : Addr} {v : Value} (h : w.cell? p = some v) : w.cell? p = some (cellOf w p) := by unfold cellOf; rw [h]; rfl
/-- The cells, as they are read and written there. -/
abbrev CellsF (w : World) (b7 : Nat) (r : RowT) (va : Option Addr) (nv cv : Nat) (aa : Option Addr) (na ca : Nat) (e : EnvT) (n : Int) (t : List UInt8) (wx : World) : Prop :=
  wx.cell? ⟨b7, 0, none⟩ = some (.string ⟨r.1.toArray⟩) ∧ wx.cell? ⟨b7, 1, none⟩ = some (.string ⟨r.2.toArray⟩) ∧
  wx.cell? ⟨b7 + 1, 0, none⟩ = some (.slice va nv cv) ∧ wx.cell? ⟨b7 + 1, 1, none⟩ = some (.slice aa na ca) ∧ wx.cell? ⟨b7 + 1, 2, none⟩ = some (.int .i64 e.status) ∧ wx.cell? ⟨b7 + 1, 3, none⟩ = some (.string ⟨e.flags.toArray⟩) ∧
  wx.cell? ⟨b7 + 1 + 1, 0, none⟩ = some (.int .i64 n) ∧ wx.cell? ⟨b7 + 1 + 1, 1, none⟩ = some (.string ⟨t.toArray⟩) ∧
  wx.cell? ⟨w.heap.size + 1, 0, none⟩ = some (cellOf wx ⟨w.heap.size + 1, 0, none⟩) ∧ wx.cell? ⟨w.heap.size + 1, 1, none⟩ = some (cellOf wx ⟨w.heap.size + 1, 1, none⟩) ∧ wx.cell? ⟨w.heap.size + 1, 2, none⟩ = some (cellOf wx ⟨w.heap.size + 1, 2, none⟩) ∧ wx.cell? ⟨w.heap.size + 1, 3, none⟩ = some (cellOf wx ⟨w.heap.size + 1, 3, none⟩) ∧
  wx.cell? ⟨w.heap.size + 1 + 1, 0, none⟩ = some (cellOf wx ⟨w.heap.size + 1 + 1, 0, none⟩) ∧ wx.cell? ⟨w.heap.size + 1 + 1, 1, none⟩ = some (cellOf wx ⟨w.heap.size + 1 + 1, 1, none⟩) ∧
  wx.frozen? ⟨w.heap.size + 1, 0, none⟩ = false ∧ wx.frozen? ⟨w.heap.size + 1, 1, none⟩ = false ∧ wx.frozen? ⟨w.heap.size + 1, 2, none⟩ = false ∧ wx.frozen? ⟨w.heap.size + 1, 3, none⟩ = false ∧ wx.frozen? ⟨w.heap.size + 1 + 1, 0, none⟩ = false ∧ wx.frozen? ⟨w.heap.size + 1 + 1, 1, none⟩ = false ∧ w.heap.size + 1 < wx.heap.size ∧ w.heap.size + 1 + 1 < wx.heap.size
theorem LawF.facts (h : LawF w b7 r va nv cv aa na ca e n t wx) : CellsF w b7 r va nv cv aa na ca e n t wx := by
  obtain ⟨a, b, c, d, h5⟩ := h.r5
  obtain ⟨a', b', h6⟩ := h.r6
  obtain ⟨x0, x1, _⟩ := two_facts h.r7
  obtain ⟨y0, y1, y2, y3, _⟩ := four_facts h.r8
  obtain ⟨z0, z1, _⟩ := two_facts h.r9
  obtain ⟨p0, p1, p2, p3, p4, p5, p6, p7, p8⟩ := four_facts h5
  obtain ⟨q0, q1, q2, q3, q4⟩ := two_facts h6
  exact ⟨x0, x1, y0, y1, y2, y3, z0, z1, cellOf_is p0, cellOf_is p1, cellOf_is p2, cellOf_is p3, cellOf_is q0, cellOf_is q1, p4, p5, p6, p7, q2, q3, p8, q4⟩
theorem LawF.all (h : LawF w b7 r va nv cv aa na ca e n t wx) : CellsF w b7 r va nv cv aa na ca e n t wx ∧ LawF w b7 r va nv cv aa na ca e n t wx := ⟨h.facts, h⟩
end
set_option maxRecDepth 100000 in
set_option maxHeartbeats 8000000 in
theorem one_of (s : ByteArray) (e : EnvT) (o : RowT × EnvT × Int × List UInt8) (va : Option Addr) (nv cv : Nat) (aa : Option Addr) (na ca : Nat) (w : World) 
    (hA : ∀ W, Below w.heap.size w W → Calls Tryz.prog 21 #[envVal va nv cv aa na ca e, .string s, .func (.func 22) #[] #[]] W (AllRes (fun b => b < w.heap.size) o W)) :
    Calls Tryz.prog 14 #[envVal va nv cv aa na ca e, .string s] w (OneRes o w) := by
  obtain ⟨r, e2, n, t⟩ := o
  have HA := Lib.hid hA
  clear hA
  go_enter Tryz.func14, Tryz.ntmps14
  go_wp2_with fail
  have B0 := (((Below.refl w.heap.size w).alloc (Nat.le_refl _) (.cells #[.slice va nv cv, .slice aa na ca, .int .i64 e.status, .string ⟨e.flags.toArray⟩] 28)).alloc (by simp) (.cells #[.slice none 0 0, .slice none 0 0, .int .i64 0, .string ⟨#[]⟩] 28)).alloc (by simp; omega) (.cells #[.int .i64 0, .string ⟨#[]⟩] 33)
  have r5 := ((RowIs.new (w.alloc (.cells #[.slice va nv cv, .slice aa na ca, .int .i64 e.status, .string ⟨e.flags.toArray⟩] 28)) 28 [.slice none 0 0, .slice none 0 0, .int .i64 0, .string ⟨#[]⟩])).alloc (.cells #[.int .i64 0, .string ⟨#[]⟩] 33)
  have r6 := RowIs.new ((w.alloc (.cells #[.slice va nv cv, .slice aa na ca, .int .i64 e.status, .string ⟨e.flags.toArray⟩] 28)).alloc (.cells #[.slice none 0 0, .slice none 0 0, .int .i64 0, .string ⟨#[]⟩] 28)) 33 [.int .i64 0, .string ⟨#[]⟩]
  simp only [World.size_alloc] at r5 r6
  refine (HA.out _ B0).mono ?_
  rintro y w1 ⟨va2, nv2, cv2, aa2, na2, ca2, rfl, hev, hlen, hfew, hb⟩
  have hb1 := B0.trans (hb.mono B0.size)
  have s5 := r5.below hb
  have s6 := r6.below hb
  have HF := fun W => Lib.hid (xflat_at r hlen hfew W)
  have HE : Hid (EnvC w1 (fun b => b ≠ w.heap.size + 1 ∧ b ≠ w.heap.size + 1 + 1) (.slice va2 nv2 cv2) (.slice aa2 na2 ca2) e2) := hev.keep (Nat.le_refl _) fun b q1 q2 => ⟨rfl, by simp at q1; omega⟩
  have HB1 := Lib.hid hb1
  have HS5 := Lib.hid s5
  have HS6 := Lib.hid s6
  clear B0 r5 r6 hb hb1 s5 s6 hev hlen hfew
  go_wp2_with fail
  have hne : w.heap.size + 1 + 1 < w1.heap.size := HS6.out.lt
  obtain ⟨W2, hW2⟩ : ∃ W2, (((w1.alloc (.cells #[.string ⟨r.1.toArray⟩, .string ⟨r.2.toArray⟩] 38)).alloc (.cells #[.slice va2 nv2 cv2, .slice aa2 na2 ca2, .int .i64 e2.status, .string ⟨e2.flags.toArray⟩] 28)).alloc (.cells #[.int .i64 n, .string ⟨t.toArray⟩] 33)) = W2 := ⟨_, rfl⟩
  have B2 := (((Below.refl w1.heap.size w1).alloc (Nat.le_refl _) (.cells #[.string ⟨r.1.toArray⟩, .string ⟨r.2.toArray⟩] 38)).alloc (by simp) (.cells #[.slice va2 nv2 cv2, .slice aa2 na2 ca2, .int .i64 e2.status, .string ⟨e2.flags.toArray⟩] 28)).alloc (by simp; omega) (.cells #[.int .i64 n, .string ⟨t.toArray⟩] 33)
  have q7 := ((RowIs.new w1 38 [.string ⟨r.1.toArray⟩, .string ⟨r.2.toArray⟩]).alloc (.cells #[.slice va2 nv2 cv2, .slice aa2 na2 ca2, .int .i64 e2.status, .string ⟨e2.flags.toArray⟩] 28)).alloc (.cells #[.int .i64 n, .string ⟨t.toArray⟩] 33)
  have q8 := (RowIs.new (w1.alloc (.cells #[.string ⟨r.1.toArray⟩, .string ⟨r.2.toArray⟩] 38)) 28 [.slice va2 nv2 cv2, .slice aa2 na2 ca2, .int .i64 e2.status, .string ⟨e2.flags.toArray⟩]).alloc (.cells #[.int .i64 n, .string ⟨t.toArray⟩] 33)
  have q9 := RowIs.new ((w1.alloc (.cells #[.string ⟨r.1.toArray⟩, .string ⟨r.2.toArray⟩] 38)).alloc (.cells #[.slice va2 nv2 cv2, .slice aa2 na2 ca2, .int .i64 e2.status, .string ⟨e2.flags.toArray⟩] 28)) 33 [.int .i64 n, .string ⟨t.toArray⟩]
  simp only [World.size_alloc] at q8 q9
  rw [hW2] at B2 q7 q8 q9 ⊢
  have HL0 : LawF w w1.heap.size r va2 nv2 cv2 aa2 na2 ca2 e2 n t W2.drew := ⟨q7, q8, q9, ⟨_, _, _, _, row_drew (HS5.out.below B2)⟩, ⟨_, _, row_drew (HS6.out.below B2)⟩, (HB1.out.trans (B2.mono HB1.out.size)).drew, HE.out.keep (w' := W2.drew) B2.size (fun b q1 q2 => ⟨B2.block b q2, q1⟩), hne⟩
  have hl0 := HL0
  clear hW2
  have HL := Lib.hid HL0
  obtain ⟨x0, x1, y0, y1, y2, y3, z0, z1, u0, u1, u2, u3, v0, v1, k0, k1, k2, k3, k4, k5, k6, k7⟩ := hl0.facts
  have hsz : w.heap.size + 1 + 1 < w1.heap.size := hne
  clear q7 q8 q9 hl0 HL
  go_region_held3 (fun wx => (wx.cell? ⟨w1.heap.size, 0, none⟩ = some (.string ⟨r.1.toArray⟩) ∧ wx.cell? ⟨w1.heap.size, 1, none⟩ = some (.string ⟨r.2.toArray⟩) ∧   wx.cell? ⟨w1.heap.size + 1, 0, none⟩ = some (.slice va2 nv2 cv2) ∧ wx.cell? ⟨w1.heap.size + 1, 1, none⟩ = some (.slice aa2 na2 ca2) ∧ wx.cell? ⟨w1.heap.size + 1, 2, none⟩ = some (.int .i64 e2.status) ∧ wx.cell? ⟨w1.heap.size + 1, 3, none⟩ = some (.string ⟨e2.flags.toArray⟩) ∧   wx.cell? ⟨w1.heap.size + 1 + 1, 0, none⟩ = some (.int .i64 n) ∧ wx.cell? ⟨w1.heap.size + 1 + 1, 1, none⟩ = some (.string ⟨t.toArray⟩) ∧   wx.cell? ⟨w.heap.size + 1, 0, none⟩ = some (cellOf wx ⟨w.heap.size + 1, 0, none⟩) ∧ wx.cell? ⟨w.heap.size + 1, 1, none⟩ = some (cellOf wx ⟨w.heap.size + 1, 1, none⟩) ∧ wx.cell? ⟨w.heap.size + 1, 2, none⟩ = some (cellOf wx ⟨w.heap.size + 1, 2, none⟩) ∧ wx.cell? ⟨w.heap.size + 1, 3, none⟩ = some (cellOf wx ⟨w.heap.size + 1, 3, none⟩) ∧   wx.cell? ⟨w.heap.size + 1 + 1, 0, none⟩ = some (cellOf wx ⟨w.heap.size + 1 + 1, 0, none⟩) ∧ wx.cell? ⟨w.heap.size + 1 + 1, 1, none⟩ = some (cellOf wx ⟨w.heap.size + 1 + 1, 1, none⟩) ∧   wx.frozen? ⟨w.heap.size + 1, 0, none⟩ = false ∧ wx.frozen? ⟨w.heap.size + 1, 1, none⟩ = false ∧ wx.frozen? ⟨w.heap.size + 1, 2, none⟩ = false ∧ wx.frozen? ⟨w.heap.size + 1, 3, none⟩ = false ∧ wx.frozen? ⟨w.heap.size + 1 + 1, 0, none⟩ = false ∧ wx.frozen? ⟨w.heap.size + 1 + 1, 1, none⟩ = false ∧ w.heap.size + 1 < wx.heap.size ∧ w.heap.size + 1 + 1 < wx.heap.size) ∧ LawF w w1.heap.size r va2 nv2 cv2 aa2 na2 ca2 e2 n t wx) (first | with_reducible exact LawF.all hn | with_reducible exact LawF.all HL0 | with_reducible exact LawF.all (LawF.setO hn _ _ _ _) | with_reducible exact LawF.all (LawF.setR (LawF.setO hn _ _ _ _) _ _))
    ((go_at_call 28; refine (HF _).out.mono ?_; rintro e wn ⟨rfl, hbn⟩; have hn := LawF.next HL0 hbn))
  all_goals
    go_wp2_with fail
    have hfin := LawF.setR (LawF.setO hn (.slice va2 nv2 cv2) (.slice aa2 na2 ca2) (.int .i64 e2.status) (.string ⟨e2.flags.toArray⟩)) (.int .i64 n) (.string ⟨t.toArray⟩)
    obtain ⟨pa, pb, pc, pd, g5⟩ := hn.r5
    obtain ⟨qa, qb, g6⟩ := hn.r6
    have n7 : ¬ w.heap.size + 1 = w.heap.size + 1 + 1 := by omega
    have n8 : ¬ w.heap.size + 1 + 1 = w.heap.size + 1 := by omega
    have hf5 := ((((g5.set 0 (.slice va2 nv2 cv2)).set 1 (.slice aa2 na2 ca2)).set 2 (.int .i64 e2.status)).set 3 (.string ⟨e2.flags.toArray⟩)).other (a := ⟨w.heap.size + 1 + 1, 0, none⟩) n7 (.int .i64 n) |>.other (a := ⟨w.heap.size + 1 + 1, 1, none⟩) n7 (.string ⟨t.toArray⟩)
    have hf6 := ((((g6.other (a := ⟨w.heap.size + 1, 0, none⟩) n8 (.slice va2 nv2 cv2)).other (a := ⟨w.heap.size + 1, 1, none⟩) n8 (.slice aa2 na2 ca2)).other (a := ⟨w.heap.size + 1, 2, none⟩) n8 (.int .i64 e2.status)).other (a := ⟨w.heap.size + 1, 3, none⟩) n8 (.string ⟨e2.flags.toArray⟩)).set 0 (.int .i64 n) |>.set 1 (.string ⟨t.toArray⟩)
    simp only [List.set] at hf5 hf6
    generalize ((((((wn.setCell ⟨w.heap.size + 1, 0, none⟩ (.slice va2 nv2 cv2)).setCell ⟨w.heap.size + 1, 1, none⟩ (.slice aa2 na2 ca2)).setCell ⟨w.heap.size + 1, 2, none⟩ (.int .i64 e2.status)).setCell ⟨w.heap.size + 1, 3, none⟩ (.string ⟨e2.flags.toArray⟩)).setCell ⟨w.heap.size + 1 + 1, 0, none⟩ (.int .i64 n)).setCell ⟨w.heap.size + 1 + 1, 1, none⟩ (.string ⟨t.toArray⟩)) = WN at hf5 hf6 hfin ⊢
    obtain ⟨a0, a1, a2, a3, a4, a5, a6, a7, al⟩ := four_facts hf5
    obtain ⟨b0, b1, b2, b3, bl⟩ := two_facts hf6
    exact bodyPost_ret (v := .tuple #[.string ⟨(flatR r).toArray⟩, envVal va2 nv2 cv2 aa2 na2 ca2 e2, faultVal n t]) (by simp [results, Tryz.results14, go_sem, a0, a1, a2, a3, b0, b1]) rfl ⟨va2, nv2, cv2, aa2, na2, ca2, rfl, hfin.ev.keep (Nat.le_refl _) (fun b _ _ => ⟨rfl, trivial⟩), hfin.be⟩
end Go.Proofs.YtkmpbkhlcapbgaaGreatDoor
namespace Go.Proofs.YtkmpbkhlcapbgaaGreatDoor
open Go Go.RowKit Go.Shelf
def rb (p : RowT) : ByteArray × ByteArray := (⟨p.1.toArray⟩, ⟨p.2.toArray⟩)
def bvR (l : List RowT) : List (ByteArray × ByteArray) := l.map rb
/-- Fields, while a row is split: their struct in block g; the ended ones in a row of the call's own, in a block from base on. -/
structure FieldsAt (base g : Nat) (w : World) (v : Value) (F : FieldsT) : Prop where
  row : RowIs w g 96 [v, .string ⟨F.now.1.toArray⟩, .string ⟨F.now.2.toArray⟩, .bool F.begun, .bool F.blank]
  own : w.ownsRow base 38 2 v F.l.length (cellsL (bvR F.l))
  gb : g < base
  few : F.l.length ≤ 1000000000
/-- What a call on them leaves: below base all but their struct; all that is no cells. -/
structure Upto (base g : Nat) (w w' : World) : Prop where
  os : w'.os = w.os
  tape : w'.tape = w.tape
  output : w'.output = w.output
  size : w.heap.size ≤ w'.heap.size
  block : ∀ k, k < base → k ≠ g → w'.heap[k]? = w.heap[k]?
  others : KeepsOthers w w'
theorem Upto.refl (base g : Nat) (w : World) : Upto base g w w := ⟨rfl, rfl, rfl, Nat.le_refl _, fun _ _ _ => rfl, KeepsOthers.refl _⟩
theorem Upto.trans {base g : Nat} {a b c : World} (h : Upto base g a b) (k : Upto base g b c) : Upto base g a c :=
  ⟨k.os.trans h.os, k.tape.trans h.tape, k.output.trans h.output, Nat.le_trans h.size k.size, fun i hi hg => (k.block i hi hg).trans (h.block i hi hg), h.others.trans k.others⟩
theorem Upto.set {base g : Nat} {w w' : World} (h : Upto base g w w') (j : Nat) (v : Value) : Upto base g w (w'.setCell ⟨g, j, none⟩ v) :=
  h.trans ⟨(Below.refl g w').setCell (p := ⟨g, j, none⟩) (Nat.le_refl _) v |>.os, (Below.refl g w').setCell (p := ⟨g, j, none⟩) (Nat.le_refl _) v |>.tape, (Below.refl g w').setCell (p := ⟨g, j, none⟩) (Nat.le_refl _) v |>.output, (Below.refl g w').setCell (p := ⟨g, j, none⟩) (Nat.le_refl _) v |>.size, fun _ _ hk => Below.heap_setCell _ _ _ _ hk, KeepsOthers.setCell _ _ _⟩
theorem Upto.below {base g : Nat} {w w' : World} (h : Below w.heap.size w w') (hb : base ≤ w.heap.size) : Upto base g w w' :=
  ⟨h.os, h.tape, h.output, h.size, fun k hk _ => h.block k (by omega), keeps_below h⟩
theorem Upto.drew {base g : Nat} (w : World) : Upto base g w w.drew := ⟨rfl, rfl, rfl, Nat.le_refl _, fun _ _ _ => rfl, KeepsOthers.drew w⟩
theorem Upto.grown {base g : Nat} {w w' : World} {v : Value} {e s n : Nat} {xs : List Value} (hg : w.grownBy w' v.ownBlock) (ho : w.ownsRow base e s v n xs) (hb : base ≤ w.heap.size) : Upto base g w w' := by
  refine ⟨hg.os, hg.tape, hg.output, hg.size, fun k hk _ => hg.block k (by omega) (fun e => by have := (ho.lt k e.symm).1; omega), ⟨hg.size, fun i o hi hnc => ?_⟩⟩
  refine (hg.block i (lt_of_block hi) (fun e => ?_)).trans hi
  rcases ho.2 with ⟨rfl, _⟩ | ⟨b, cap, cur, rfl, _, hh, _⟩
  · cases e
  · have : i = b := by simpa [Value.ownBlock] using e
    subst this
    rw [hh] at hi
    cases hi
    cases hnc
def EndPost (base g : Nat) (F : FieldsT) (w : World) (e : Ending) (w' : World) : Prop := e = .returned (.tuple #[]) ∧ ∃ v, FieldsAt base g w' v F ∧ Upto base g w w'
theorem rowInfo : (Tryz.prog.info? 38).map (fun i => (i.zero, i.size, i.bytes)) = some (some (.agg #[.string ⟨#[]⟩, .string ⟨#[]⟩]), 2, 32) := by kernel_rfl
theorem bvR_length (l : List RowT) : (bvR l).length = l.length := by simp [bvR]
theorem bvR_snoc (l : List RowT) (r : RowT) : cellsL (bvR (l ++ [r])) = cellsL (bvR l) ++ [.string ⟨r.1.toArray⟩, .string ⟨r.2.toArray⟩] := by
  unfold bvR; rw [List.map_append, cellsL_append]; rfl
theorem cells5 {W : World} {b e : Nat} {x0 x1 x2 x3 x4 : Value} (r : RowIs W b e [x0, x1, x2, x3, x4]) :
    W.cell? ⟨b, 0, none⟩ = some x0 ∧ W.cell? ⟨b, 1, none⟩ = some x1 ∧ W.cell? ⟨b, 2, none⟩ = some x2 ∧ W.cell? ⟨b, 3, none⟩ = some x3 ∧ W.cell? ⟨b, 4, none⟩ = some x4 ∧
    W.frozen? ⟨b, 0, none⟩ = false ∧ W.frozen? ⟨b, 1, none⟩ = false ∧ W.frozen? ⟨b, 2, none⟩ = false ∧ W.frozen? ⟨b, 3, none⟩ = false ∧ W.frozen? ⟨b, 4, none⟩ = false ∧ b < W.heap.size :=
  ⟨by rw [r.cell]; rfl, by rw [r.cell]; rfl, by rw [r.cell]; rfl, by rw [r.cell]; rfl, by rw [r.cell]; rfl, r.free _, r.free _, r.free _, r.free _, r.free _, r.lt⟩
theorem two_new2 (w : World) (x y : Value) (e : TypeId) : ∀ j u, ([x, y] : List Value)[j]? = some u → (w.alloc (.cells #[x, y] e)).cell? ((⟨w.heap.size, 0, none⟩ : Addr).add j) = some u := by
  intro j u hj
  rw [Addr.add_lit, (RowIs.new w e [x, y]).cell]
  simpa using hj
set_option maxRecDepth 100000 in
set_option maxHeartbeats 8000000 in
theorem end_no (base g : Nat) (v : Value) (F : FieldsT) (b : Bool) (hF : F.begun = false) (w : World) (h : FieldsAt base g w v F) :
    Calls Tryz.prog 50 #[.pointer (some ⟨g, 0, none⟩), .bool b] w (EndPost base g (F.stop b) w) := by
  obtain ⟨c0, c1, c2, c3, c4, f0, f1, f2, f3, f4, lt⟩ := cells5 h.row
  rw [hF] at c3
  have HH := Lib.hid h
  have HFF := Lib.hid hF
  clear h hF
  go_enter Tryz.func50, Tryz.ntmps50
  go_wp2_with fail
  go_end0
  have rf := (((HH.out.row.set 1 (.string ⟨#[]⟩)).set 2 (.string ⟨#[]⟩)).set 3 (.bool false)).set 4 (.bool b)
  have up := ((((Upto.refl base g w).set 1 (.string ⟨#[]⟩)).set 2 (.string ⟨#[]⟩)).set 3 (.bool false)).set 4 (.bool b)
  refine ⟨rfl, v, ⟨rf, ?_, HH.out.gb, ?_⟩, up⟩
  · have hl : (F.stop b).l = F.l := by unfold FieldsT.stop; rw [HFF.out]; rfl
    rw [hl]
    have ho := HH.out.own
    refine ⟨ho.1, ?_⟩
    rcases ho.2 with h2 | ⟨q, c, cur, hv, hg, hh, r⟩
    · exact .inl h2
    · have hgb := HH.out.gb
      have hne : q ≠ g := by omega
      exact .inr ⟨q, c, cur, hv, hg, ((Below.heap_setCell _ _ _ _ hne).trans ((Below.heap_setCell _ _ _ _ hne).trans ((Below.heap_setCell _ _ _ _ hne).trans (Below.heap_setCell _ _ _ _ hne)))).trans hh, r⟩
  · have hl : (F.stop b).l = F.l := by unfold FieldsT.stop; rw [HFF.out]; rfl
    rw [hl]; exact HH.out.few
set_option maxRecDepth 100000 in
set_option maxHeartbeats 8000000 in
theorem end_yes (base g : Nat) (v : Value) (F : FieldsT) (b : Bool) (hF : F.begun = true) (hfew : F.l.length < 1000000000) (w : World) (hbw : base ≤ w.heap.size) (h : FieldsAt base g w v F) :
    Calls Tryz.prog 50 #[.pointer (some ⟨g, 0, none⟩), .bool b] w (EndPost base g (F.stop b) w) := by
  obtain ⟨a, c, rfl⟩ := own_slice h.own
  obtain ⟨c0, c1, c2, c3, c4, f0, f1, f2, f3, f4, lt⟩ := cells5 h.row
  rw [hF] at c3
  obtain ⟨T, hT⟩ : ∃ T : ByteArray, (⟨F.now.1.toArray⟩ : ByteArray) = T := ⟨_, rfl⟩
  obtain ⟨M, hM⟩ : ∃ M : ByteArray, (⟨F.now.2.toArray⟩ : ByteArray) = M := ⟨_, rfl⟩
  rw [hT] at c1
  rw [hM] at c2
  have hB1 : Hid (Below w.heap.size w (w.drew.alloc (.cells #[.string T, .string M] 38))) := ((Below.refl _ _).drew).alloc (Nat.le_refl _) _
  have hO1 : Hid ((w.drew.alloc (.cells #[.string T, .string M] 38)).ownsRow base 38 2 (.slice a F.l.length c) F.l.length (cellsL (bvR F.l))) := own_below h.own hB1.out
  have hR1 : Hid (RowIs (w.drew.alloc (.cells #[.string T, .string M] 38)) g 96 [.slice a F.l.length c, .string T, .string M, .bool true, .bool F.blank]) := by
    have := h.row
    rw [hT, hM, hF] at this
    exact this.below hB1.out
  have HSZ : Hid (base ≤ (w.drew.alloc (.cells #[.string T, .string M] 38)).heap.size) := by unfold Hid; have := hB1.out.size; omega
  have hln : F.l.length + 1 ≤ maxLen ∧ (F.l.length + 1) * 32 ≤ 140737488355328 := by unfold maxLen; omega
  have HLN := Lib.hid hln
  have HH := Lib.hid h
  have HFF := Lib.hid hF
  have HT := Lib.hid hT
  have HM := Lib.hid hM
  have HFEW := Lib.hid hfew
  have HBW := Lib.hid hbw
  clear h hF hln hT hM hfew hbw
  go_enter Tryz.func50, Tryz.ntmps50
  go_wp2_with fail
  go_region_law (refine step_push rfl (.tmp 12) (.tmp 17) 30 rfl base 38 (.agg #[.string ⟨#[]⟩, .string ⟨#[]⟩]) 2 32 Tryz.underlying30 rowInfo rfl _ _ _ (by simp [Act.eval]) hO1.out ⟨w.heap.size, 0, none⟩ 1 (by simp [Act.eval]) [.string T, .string M] rfl (two_new2 w.drew _ _ _) (by intro u hu; simp at hu; rcases hu with rfl | rfl <;> rfl) HLN.out HSZ.out ?_; intro g2 cap w2 HPd0; have HPd := Lib.hid HPd0; have rr0 := hR1.out; have hbg := HPd0.base; have hgb := HH.out.gb; have rr1 : RowIs w2 g 96 [.slice a F.l.length c, .string T, .string M, .bool true, .bool F.blank] := by { unfold RowIs; rw [HPd0.grown.block g rr0.lt (fun e => by have := (hO1.out.lt g e.symm).1; omega)]; exact rr0 }; have HRR := Lib.hid rr1; obtain ⟨s0, s1, s2, s3, s4, q0, q1, q2, q3, q4, s6⟩ := cells5 rr1; clear HPd0 rr0 rr1 hbg hgb)
  all_goals
    go_wp2_with fail
    go_end0
    have rf := ((((HRR.out.set 0 (.slice (some ⟨g2, 0, none⟩) (F.l.length + 1) cap)).set 1 (.string ⟨#[]⟩)).set 2 (.string ⟨#[]⟩)).set 3 (.bool false)).set 4 (.bool b)
    have up0 : Upto base g w w2 := (Upto.below (g := g) hB1.out HBW.out).trans (Upto.grown HPd.out.grown hO1.out HSZ.out)
    have up := ((((up0.set 0 (.slice (some ⟨g2, 0, none⟩) (F.l.length + 1) cap)).set 1 (.string ⟨#[]⟩)).set 2 (.string ⟨#[]⟩)).set 3 (.bool false)).set 4 (.bool b)
    obtain ⟨cur, hk⟩ := HPd.out.known
    have hl : (F.stop b).l = F.l ++ [F.now] := by unfold FieldsT.stop; rw [HFF.out]; rfl
    have hgb := HH.out.gb
    have hbg := HPd.out.base
    have hne : g2 ≠ g := by omega
    refine ⟨rfl, _, ⟨rf, ?_, HH.out.gb, ?_⟩, up⟩
    · rw [hl, bvR_snoc, HT.out, HM.out, List.length_append]
      exact (((((hk.other (a := ⟨g, 0, none⟩) hne _).other (a := ⟨g, 1, none⟩) hne _).other (a := ⟨g, 2, none⟩) hne _).other (a := ⟨g, 3, none⟩) hne _).other (a := ⟨g, 4, none⟩) hne _).own hbg
    · rw [hl, List.length_append]; exact HFEW.out
theorem end_at (base g : Nat) (v : Value) (F : FieldsT) (b : Bool) (hfew : F.l.length < 1000000000) (w : World) (hbw : base ≤ w.heap.size) (h : FieldsAt base g w v F) :
    Calls Tryz.prog 50 #[.pointer (some ⟨g, 0, none⟩), .bool b] w (EndPost base g (F.stop b) w) := by
  cases hF : F.begun
  · exact end_no base g v F b hF w h
  · exact end_yes base g v F b hF hfew w hbw h
end Go.Proofs.YtkmpbkhlcapbgaaGreatDoor
namespace Go.Proofs.YtkmpbkhlcapbgaaGreatDoor
open Go Go.RowKit Go.Shelf
theorem own_set {w : World} {base e s : Nat} {v : Value} {n : Nat} {xs : List Value} (ho : w.ownsRow base e s v n xs) (g j : Nat) (hg : g < base) (u : Value) : (w.setCell ⟨g, j, none⟩ u).ownsRow base e s v n xs := by
  refine ⟨ho.1, ?_⟩
  rcases ho.2 with h2 | ⟨q, c, cur, hv, hb, hh, r⟩
  · exact .inl h2
  · exact .inr ⟨q, c, cur, hv, hb, (Below.heap_setCell _ _ _ _ (by show q ≠ g; omega)).trans hh, r⟩
theorem FieldsAt.begin {base g : Nat} {w : World} {v : Value} {F : FieldsT} (h : FieldsAt base g w v F) : FieldsAt base g (w.setCell ⟨g, 3, none⟩ (.bool true)) v { F with begun := true } :=
  ⟨h.row.set 3 (.bool true), own_set h.own g 3 h.gb _, h.gb, h.few⟩
theorem Upto.from_ {base g : Nat} {w w1 w' : World} {F : FieldsT} {e : Ending} (hu : Upto base g w w1) (h : EndPost base g F w1 e w') : EndPost base g F w e w' := by
  obtain ⟨he, v, hf, hk⟩ := h
  exact ⟨he, v, hf, hu.trans hk⟩
theorem sep_same (F : FieldsT) (hB : F.begun = false) : F.sep true = F := by unfold FieldsT.sep; rw [hB]; rfl
theorem sep_new (F : FieldsT) (hB : F.begun = false) (hK : F.blank = false) : F.sep false = ({ F with begun := true } : FieldsT).stop false := by unfold FieldsT.sep; rw [hB, hK]; rfl
theorem sep_end (F : FieldsT) (b : Bool) (h : F.begun = true ∨ (b = false ∧ F.blank = true)) : F.sep b = F.stop b := by
  unfold FieldsT.sep
  rcases h with h | ⟨rfl, h⟩
  · rw [h]; cases b <;> rfl
  · rw [h]; cases F.begun <;> rfl
set_option maxRecDepth 100000 in
set_option maxHeartbeats 8000000 in
theorem sep_at (base g : Nat) (v : Value) (F : FieldsT) (b : Bool) (hfew : F.l.length < 1000000000) (w : World) (hbw : base ≤ w.heap.size) (h : FieldsAt base g w v F) :
    Calls Tryz.prog 49 #[.pointer (some ⟨g, 0, none⟩), .bool b] w (EndPost base g (F.sep b) w) := by
  obtain ⟨c0, c1, c2, c3, c4, f0, f1, f2, f3, f4, lt⟩ := cells5 h.row
  have HE := Lib.hid (end_at base g v F b hfew w hbw h)
  have hup := (Upto.refl base g w).set 3 (.bool true)
  have HE2 := Lib.hid (end_at base g v { F with begun := true } false hfew _ (Nat.le_trans hbw hup.size) h.begin)
  have HUP := Lib.hid hup
  have HH := Lib.hid h
  clear h hup hfew hbw
  cases hB : F.begun
  · cases b
    · cases hK : F.blank
      · rw [sep_new F hB hK]
        rw [hB] at c3
        rw [hK] at c4
        clear hB hK HE
        go_enter Tryz.func49, Tryz.ntmps49
        go_wp2_with fail
        refine (HE2.out).mono ?_; intro e w1 hp
        have hq := hp
        obtain ⟨rfl, _⟩ := hq
        have HP := Lib.hid hp
        clear hp HE2
        go_wp2_with fail
        go_end0
        exact Upto.from_ HUP.out HP.out
      · rw [sep_end F false (.inr ⟨rfl, hK⟩)]
        rw [hB] at c3
        rw [hK] at c4
        clear hB hK HE2
        go_enter Tryz.func49, Tryz.ntmps49
        go_wp2_with fail
        refine (HE.out).mono ?_; intro e w1 hp
        have hq := hp
        obtain ⟨rfl, _⟩ := hq
        have HP := Lib.hid hp
        clear hp HE
        go_wp2_with fail
        go_end0
        exact HP.out
    · rw [sep_same F hB]
      rw [hB] at c3
      clear hB HE HE2
      go_enter Tryz.func49, Tryz.ntmps49
      go_wp2_with fail
      go_end0
      exact ⟨rfl, v, HH.out, Upto.refl _ _ _⟩
  · rw [sep_end F b (.inl hB)]
    rw [hB] at c3
    clear hB HE2
    cases b
    all_goals
      go_enter Tryz.func49, Tryz.ntmps49
      go_wp2_with fail
      refine (HE.out).mono ?_; intro e w1 hp
      have hq := hp
      obtain ⟨rfl, _⟩ := hq
      have HP := Lib.hid hp
      clear hp HE
      go_wp2_with fail
      go_end0
      exact HP.out
/-- How far a row is split. -/
def accF (ifs : List UInt8) (pre : List (UInt8 × UInt8)) : FieldsT := pre.foldl (FieldsT.take ifs) ⟨[], ([], []), false, false⟩
theorem accF_nil (ifs : List UInt8) : accF ifs [] = ⟨[], ([], []), false, false⟩ := rfl
theorem accF_snoc (ifs : List UInt8) (pre : List (UInt8 × UInt8)) (x : UInt8 × UInt8) : accF ifs (pre ++ [x]) = (accF ifs pre).take ifs x := by
  unfold accF; rw [List.foldl_append]; rfl
theorem stop_few (F : FieldsT) (b : Bool) : (F.stop b).l.length ≤ F.l.length + 1 ∧ (F.stop b).now.1.length ≤ F.now.1.length + 1 ∧ (F.stop b).now.2.length ≤ F.now.2.length + 1 := by
  unfold FieldsT.stop
  cases F.begun <;> simp
theorem sep_few (F : FieldsT) (b : Bool) : (F.sep b).l.length ≤ F.l.length + 1 ∧ (F.sep b).now.1.length ≤ F.now.1.length + 1 ∧ (F.sep b).now.2.length ≤ F.now.2.length + 1 := by
  unfold FieldsT.sep
  split
  · omega
  · split
    · exact stop_few { F with begun := true } false
    · exact stop_few F b
theorem take_few (ifs : List UInt8) (F : FieldsT) (x : UInt8 × UInt8) : (F.take ifs x).l.length ≤ F.l.length + 1 ∧ (F.take ifs x).now.1.length ≤ F.now.1.length + 1 ∧ (F.take ifs x).now.2.length ≤ F.now.2.length + 1 := by
  unfold FieldsT.take
  split
  · exact sep_few F _
  · split
    · exact stop_few F _
    · dsimp only
      split <;> simp
theorem accF_few (ifs : List UInt8) : ∀ (pre : List (UInt8 × UInt8)) (F : FieldsT), (pre.foldl (FieldsT.take ifs) F).l.length ≤ F.l.length + pre.length ∧ (pre.foldl (FieldsT.take ifs) F).now.1.length ≤ F.now.1.length + pre.length ∧ (pre.foldl (FieldsT.take ifs) F).now.2.length ≤ F.now.2.length + pre.length
  | [], F => by simp
  | x :: pre, F => by
    have h1 := take_few ifs F x
    have h2 := accF_few ifs pre (F.take ifs x)
    simp only [List.foldl_cons, List.length_cons]
    omega
end Go.Proofs.YtkmpbkhlcapbgaaGreatDoor
