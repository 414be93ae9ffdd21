/-
  DERIVED. The walk of expand's One.
-/
import Derived.Test.YtkmpbkhlcapbgaaGreatDoorZ41
import Derived.Deep.RegionHeld3
namespace Go.Proofs.YtkmpbkhlcapbgaaGreatDoor
open Go Go.RowKit
/-- What is handed back of what parts come to. -/
def resOf (e : EnvT) : ExT → RowT × EnvT × Int × List UInt8
  | .ok e2 r2 => (r2, e2, 0, [])
  | .fault n t => (([], []), e, n, t)
def AllRes (S : Nat → Prop) (o : RowT × EnvT × Int × List UInt8) (w : World) (x : Ending) (w' : World) : Prop :=
  ∃ va nv cv aa na ca, x = .returned (.tuple #[rowVal o.1, envVal va nv cv aa na ca o.2.1, faultVal o.2.2.1 o.2.2.2]) ∧ EnvC w' (fun b => S b ∨ w.heap.size ≤ b) (.slice va nv cv) (.slice aa na ca) o.2.1 ∧ o.1.1.length = o.1.2.length ∧ o.1.1.length ≤ 1000000 ∧ Below w.heap.size w w'
theorem all_res (P : Par) (f : Nat) (hPs : ExPs P f) (fw : Nat) (s : ByteArray) (hs : s.size ≤ 1000000000) (l : List PartT) (hl : wordF fw s.data.toList = some l) (hsm : smallL l) (e : EnvT) (out : ExT) (ho : partsE P f e ([], []) l = some out)
    (S : Nat → Prop) (va : Option Addr) (nv cv : Nat) (aa : Option Addr) (na ca : Nat) (w : World) (hE : EnvC w S (.slice va nv cv) (.slice aa na ca) e) (hSl : ∀ b, S b → b < w.heap.size) (hT : Tab w) :
    Calls Tryz.prog 21 #[envVal va nv cv aa na ca e, .string s, .func (.func 22) #[] #[]] w (AllRes S (resOf e out) w) := by
  refine (all_ok P f hPs fw s hs l hl hsm e out ho S va nv cv aa na ca w hE hSl hT).mono ?_
  intro x w' h
  cases out with
  | ok e2 r2 => exact h
  | fault n t => exact ⟨va, nv, cv, aa, na, ca, h.1, hE.keep h.2.size (fun b q1 q2 => ⟨h.2.block b q2, .inl q1⟩), rfl, by simp [resOf], h.2⟩
def OneRes (o : RowT × EnvT × Int × List UInt8) (w : World) (x : Ending) (w' : World) : Prop :=
  ∃ va nv cv aa na ca, x = .returned (.tuple #[.string ⟨(flatR o.1).toArray⟩, envVal va nv cv aa na ca o.2.1, faultVal o.2.2.1 o.2.2.2]) ∧ EnvA w' (.slice va nv cv) (.slice aa na ca) o.2.1 ∧ Below w.heap.size w w'
/-- What holds at each world of the last region: the boxes, the Env. -/
structure LawF (w : World) (b7 : Nat) (r : RowT) (va : Option Addr) (nv cv : Nat) (aa : Option Addr) (na ca : Nat) (e : EnvT) (n : Int) (t : List UInt8) (wx : World) : Prop where
  r7 : RowIs wx b7 38 [.string ⟨r.1.toArray⟩, .string ⟨r.2.toArray⟩]
  r8 : RowIs wx (b7 + 1) 28 [.slice va nv cv, .slice aa na ca, .int .i64 e.status, .string ⟨e.flags.toArray⟩]
  r9 : RowIs wx (b7 + 1 + 1) 33 [.int .i64 n, .string ⟨t.toArray⟩]
  r5 : ∃ a b c d, RowIs wx (w.heap.size + 1) 28 [a, b, c, d]
  r6 : ∃ a b, RowIs wx (w.heap.size + 1 + 1) 33 [a, b]
  be : Below w.heap.size w wx
  ev : EnvC wx (fun b => b ≠ w.heap.size + 1 ∧ b ≠ w.heap.size + 1 + 1) (.slice va nv cv) (.slice aa na ca) e
  lt : w.heap.size + 1 + 1 < b7
section
variable {w : World} {b7 : Nat} {r : RowT} {va : Option Addr} {nv cv : Nat} {aa : Option Addr} {na ca : Nat} {e : EnvT} {n : Int} {t : List UInt8} {wx wy : World}
theorem LawF.next (h : LawF w b7 r va nv cv aa na ca e n t wx) (hb : Below wx.heap.size wx wy) : LawF w b7 r va nv cv aa na ca e n t wy := by
  obtain ⟨a, b, c, d, h5⟩ := h.r5
  obtain ⟨a', b', h6⟩ := h.r6
  exact ⟨h.r7.below hb, h.r8.below hb, h.r9.below hb, ⟨a, b, c, d, h5.below hb⟩, ⟨a', b', h6.below hb⟩, h.be.trans (hb.mono h.be.size), h.ev.keep hb.size fun b q1 q2 => ⟨hb.block b q2, q1⟩, h.lt⟩
theorem LawF.setO (h : LawF w b7 r va nv cv aa na ca e n t wx) (p0 p1 p2 p3 : Value) : LawF w b7 r va nv cv aa na ca e n t ((((wx.setCell ⟨w.heap.size + 1, 0, none⟩ p0).setCell ⟨w.heap.size + 1, 1, none⟩ p1).setCell ⟨w.heap.size + 1, 2, none⟩ p2).setCell ⟨w.heap.size + 1, 3, none⟩ p3) := by
  obtain ⟨a, b, c, d, h5⟩ := h.r5
  obtain ⟨a', b', h6⟩ := h.r6
  have hl := h.lt
  have n7 : b7 ≠ w.heap.size + 1 := by omega
  have n8 : b7 + 1 ≠ w.heap.size + 1 := by omega
  have n9 : b7 + 1 + 1 ≠ w.heap.size + 1 := by omega
  have n6 : w.heap.size + 1 + 1 ≠ w.heap.size + 1 := by omega
  have o := fun {b e : Nat} {l : List Value} (hr : RowIs wx b e l) (hne : b ≠ w.heap.size + 1) => (((hr.other (a := ⟨w.heap.size + 1, 0, none⟩) hne p0).other (a := ⟨w.heap.size + 1, 1, none⟩) hne p1).other (a := ⟨w.heap.size + 1, 2, none⟩) hne p2).other (a := ⟨w.heap.size + 1, 3, none⟩) hne p3
  exact ⟨o h.r7 n7, o h.r8 n8, o h.r9 n9, ⟨_, _, _, _, (((h5.set 0 p0).set 1 p1).set 2 p2).set 3 p3⟩, ⟨_, _, o h6 n6⟩,
    (((h.be.setCell (p := ⟨w.heap.size + 1, 0, none⟩) (Nat.le_succ _) p0).setCell (p := ⟨w.heap.size + 1, 1, none⟩) (Nat.le_succ _) p1).setCell (p := ⟨w.heap.size + 1, 2, none⟩) (Nat.le_succ _) p2).setCell (p := ⟨w.heap.size + 1, 3, none⟩) (Nat.le_succ _) p3,
    h.ev.keep (by simp) (fun b q _ => ⟨(Below.heap_setCell _ _ _ _ q.1).trans ((Below.heap_setCell _ _ _ _ q.1).trans ((Below.heap_setCell _ _ _ _ q.1).trans (Below.heap_setCell _ _ _ _ q.1))), q⟩), hl⟩
theorem LawF.setR (h : LawF w b7 r va nv cv aa na ca e n t wx) (p0 p1 : Value) : LawF w b7 r va nv cv aa na ca e n t ((wx.setCell ⟨w.heap.size + 1 + 1, 0, none⟩ p0).setCell ⟨w.heap.size + 1 + 1, 1, none⟩ p1) := by
  obtain ⟨a, b, c, d, h5⟩ := h.r5
  obtain ⟨a', b', h6⟩ := h.r6
  have hl := h.lt
  have n7 : b7 ≠ w.heap.size + 1 + 1 := by omega
  have n8 : b7 + 1 ≠ w.heap.size + 1 + 1 := by omega
  have n9 : b7 + 1 + 1 ≠ w.heap.size + 1 + 1 := by omega
  have n5 : w.heap.size + 1 ≠ w.heap.size + 1 + 1 := by omega
  have o := fun {b e : Nat} {l : List Value} (hr : RowIs wx b e l) (hne : b ≠ w.heap.size + 1 + 1) => (hr.other (a := ⟨w.heap.size + 1 + 1, 0, none⟩) hne p0).other (a := ⟨w.heap.size + 1 + 1, 1, none⟩) hne p1
  exact ⟨o h.r7 n7, o h.r8 n8, o h.r9 n9, ⟨_, _, _, _, o h5 n5⟩, ⟨_, _, (h6.set 0 p0).set 1 p1⟩,
    (h.be.setCell (p := ⟨w.heap.size + 1 + 1, 0, none⟩) (by simp; omega) p0).setCell (p := ⟨w.heap.size + 1 + 1, 1, none⟩) (by simp; omega) p1,
    h.ev.keep (by simp) (fun b q _ => ⟨(Below.heap_setCell _ _ _ _ q.2).trans (Below.heap_setCell _ _ _ _ q.2), q⟩), hl⟩
def cellOf (w : World) (p : Addr) : Value := (w.cell? p).getD (.bool false)
theorem cellOf_is {w : World} {p : Addr} {v : Value} (h : w.cell? p = some v) : w.cell? p = some (cellOf w p) := by unfold cellOf; rw [h]; rfl
/-- The cells, as they are read and written there. -/
abbrev CellsF (w : World) (b7 : Nat) (r : RowT) (va : Option Addr) (nv cv : Nat) (aa : Option Addr) (na ca : Nat) (e : EnvT) (n : Int) (t : List UInt8) (wx : World) : Prop :=
  wx.cell? ⟨b7, 0, none⟩ = some (.string ⟨r.1.toArray⟩) ∧ wx.cell? ⟨b7, 1, none⟩ = some (.string ⟨r.2.toArray⟩) ∧
  wx.cell? ⟨b7 + 1, 0, none⟩ = some (.slice va nv cv) ∧ wx.cell? ⟨b7 + 1, 1, none⟩ = some (.slice aa na ca) ∧ wx.cell? ⟨b7 + 1, 2, none⟩ = some (.int .i64 e.status) ∧ wx.cell? ⟨b7 + 1, 3, none⟩ = some (.string ⟨e.flags.toArray⟩) ∧
  wx.cell? ⟨b7 + 1 + 1, 0, none⟩ = some (.int .i64 n) ∧ wx.cell? ⟨b7 + 1 + 1, 1, none⟩ = some (.string ⟨t.toArray⟩) ∧
  wx.cell? ⟨w.heap.size + 1, 0, none⟩ = some (cellOf wx ⟨w.heap.size + 1, 0, none⟩) ∧ wx.cell? ⟨w.heap.size + 1, 1, none⟩ = some (cellOf wx ⟨w.heap.size + 1, 1, none⟩) ∧ wx.cell? ⟨w.heap.size + 1, 2, none⟩ = some (cellOf wx ⟨w.heap.size + 1, 2, none⟩) ∧ wx.cell? ⟨w.heap.size + 1, 3, none⟩ = some (cellOf wx ⟨w.heap.size + 1, 3, none⟩) ∧
  wx.cell? ⟨w.heap.size + 1 + 1, 0, none⟩ = some (cellOf wx ⟨w.heap.size + 1 + 1, 0, none⟩) ∧ wx.cell? ⟨w.heap.size + 1 + 1, 1, none⟩ = some (cellOf wx ⟨w.heap.size + 1 + 1, 1, none⟩) ∧
  wx.frozen? ⟨w.heap.size + 1, 0, none⟩ = false ∧ wx.frozen? ⟨w.heap.size + 1, 1, none⟩ = false ∧ wx.frozen? ⟨w.heap.size + 1, 2, none⟩ = false ∧ wx.frozen? ⟨w.heap.size + 1, 3, none⟩ = false ∧ wx.frozen? ⟨w.heap.size + 1 + 1, 0, none⟩ = false ∧ wx.frozen? ⟨w.heap.size + 1 + 1, 1, none⟩ = false ∧ w.heap.size + 1 < wx.heap.size ∧ w.heap.size + 1 + 1 < wx.heap.size
theorem LawF.facts (h : LawF w b7 r va nv cv aa na ca e n t wx) : CellsF w b7 r va nv cv aa na ca e n t wx := by
  obtain ⟨a, b, c, d, h5⟩ := h.r5
  obtain ⟨a', b', h6⟩ := h.r6
  obtain ⟨x0, x1, _⟩ := two_facts h.r7
  obtain ⟨y0, y1, y2, y3, _⟩ := four_facts h.r8
  obtain ⟨z0, z1, _⟩ := two_facts h.r9
  obtain ⟨p0, p1, p2, p3, p4, p5, p6, p7, p8⟩ := four_facts h5
  obtain ⟨q0, q1, q2, q3, q4⟩ := two_facts h6
  exact ⟨x0, x1, y0, y1, y2, y3, z0, z1, cellOf_is p0, cellOf_is p1, cellOf_is p2, cellOf_is p3, cellOf_is q0, cellOf_is q1, p4, p5, p6, p7, q2, q3, p8, q4⟩
theorem LawF.all (h : LawF w b7 r va nv cv aa na ca e n t wx) : CellsF w b7 r va nv cv aa na ca e n t wx ∧ LawF w b7 r va nv cv aa na ca e n t wx := ⟨h.facts, h⟩
end
set_option maxRecDepth 100000 in
set_option maxHeartbeats 8000000 in
theorem one_of (s : ByteArray) (e : EnvT) (o : RowT × EnvT × Int × List UInt8) (va : Option Addr) (nv cv : Nat) (aa : Option Addr) (na ca : Nat) (w : World) 
    (hA : ∀ W, Below w.heap.size w W → Calls Tryz.prog 21 #[envVal va nv cv aa na ca e, .string s, .func (.func 22) #[] #[]] W (AllRes (fun b => b < w.heap.size) o W)) :
    Calls Tryz.prog 14 #[envVal va nv cv aa na ca e, .string s] w (OneRes o w) := by
  obtain ⟨r, e2, n, t⟩ := o
  have HA := Lib.hid hA
  clear hA
  go_enter Tryz.func14, Tryz.ntmps14
  go_wp2_with fail
  have B0 := (((Below.refl w.heap.size w).alloc (Nat.le_refl _) (.cells #[.slice va nv cv, .slice aa na ca, .int .i64 e.status, .string ⟨e.flags.toArray⟩] 28)).alloc (by simp) (.cells #[.slice none 0 0, .slice none 0 0, .int .i64 0, .string ⟨#[]⟩] 28)).alloc (by simp; omega) (.cells #[.int .i64 0, .string ⟨#[]⟩] 33)
  have r5 := ((RowIs.new (w.alloc (.cells #[.slice va nv cv, .slice aa na ca, .int .i64 e.status, .string ⟨e.flags.toArray⟩] 28)) 28 [.slice none 0 0, .slice none 0 0, .int .i64 0, .string ⟨#[]⟩])).alloc (.cells #[.int .i64 0, .string ⟨#[]⟩] 33)
  have r6 := RowIs.new ((w.alloc (.cells #[.slice va nv cv, .slice aa na ca, .int .i64 e.status, .string ⟨e.flags.toArray⟩] 28)).alloc (.cells #[.slice none 0 0, .slice none 0 0, .int .i64 0, .string ⟨#[]⟩] 28)) 33 [.int .i64 0, .string ⟨#[]⟩]
  simp only [World.size_alloc] at r5 r6
  refine (HA.out _ B0).mono ?_
  rintro y w1 ⟨va2, nv2, cv2, aa2, na2, ca2, rfl, hev, hlen, hfew, hb⟩
  have hb1 := B0.trans (hb.mono B0.size)
  have s5 := r5.below hb
  have s6 := r6.below hb
  have HF := fun W => Lib.hid (xflat_at r hlen hfew W)
  have HE : Hid (EnvC w1 (fun b => b ≠ w.heap.size + 1 ∧ b ≠ w.heap.size + 1 + 1) (.slice va2 nv2 cv2) (.slice aa2 na2 ca2) e2) := hev.keep (Nat.le_refl _) fun b q1 q2 => ⟨rfl, by simp at q1; omega⟩
  have HB1 := Lib.hid hb1
  have HS5 := Lib.hid s5
  have HS6 := Lib.hid s6
  clear B0 r5 r6 hb hb1 s5 s6 hev hlen hfew
  go_wp2_with fail
  have hne : w.heap.size + 1 + 1 < w1.heap.size := HS6.out.lt
  obtain ⟨W2, hW2⟩ : ∃ W2, (((w1.alloc (.cells #[.string ⟨r.1.toArray⟩, .string ⟨r.2.toArray⟩] 38)).alloc (.cells #[.slice va2 nv2 cv2, .slice aa2 na2 ca2, .int .i64 e2.status, .string ⟨e2.flags.toArray⟩] 28)).alloc (.cells #[.int .i64 n, .string ⟨t.toArray⟩] 33)) = W2 := ⟨_, rfl⟩
  have B2 := (((Below.refl w1.heap.size w1).alloc (Nat.le_refl _) (.cells #[.string ⟨r.1.toArray⟩, .string ⟨r.2.toArray⟩] 38)).alloc (by simp) (.cells #[.slice va2 nv2 cv2, .slice aa2 na2 ca2, .int .i64 e2.status, .string ⟨e2.flags.toArray⟩] 28)).alloc (by simp; omega) (.cells #[.int .i64 n, .string ⟨t.toArray⟩] 33)
  have q7 := ((RowIs.new w1 38 [.string ⟨r.1.toArray⟩, .string ⟨r.2.toArray⟩]).alloc (.cells #[.slice va2 nv2 cv2, .slice aa2 na2 ca2, .int .i64 e2.status, .string ⟨e2.flags.toArray⟩] 28)).alloc (.cells #[.int .i64 n, .string ⟨t.toArray⟩] 33)
  have q8 := (RowIs.new (w1.alloc (.cells #[.string ⟨r.1.toArray⟩, .string ⟨r.2.toArray⟩] 38)) 28 [.slice va2 nv2 cv2, .slice aa2 na2 ca2, .int .i64 e2.status, .string ⟨e2.flags.toArray⟩]).alloc (.cells #[.int .i64 n, .string ⟨t.toArray⟩] 33)
  have q9 := RowIs.new ((w1.alloc (.cells #[.string ⟨r.1.toArray⟩, .string ⟨r.2.toArray⟩] 38)).alloc (.cells #[.slice va2 nv2 cv2, .slice aa2 na2 ca2, .int .i64 e2.status, .string ⟨e2.flags.toArray⟩] 28)) 33 [.int .i64 n, .string ⟨t.toArray⟩]
  simp only [World.size_alloc] at q8 q9
  rw [hW2] at B2 q7 q8 q9 ⊢
  have HL0 : LawF w w1.heap.size r va2 nv2 cv2 aa2 na2 ca2 e2 n t W2.drew := ⟨q7, q8, q9, ⟨_, _, _, _, row_drew (HS5.out.below B2)⟩, ⟨_, _, row_drew (HS6.out.below B2)⟩, (HB1.out.trans (B2.mono HB1.out.size)).drew, HE.out.keep (w' := W2.drew) B2.size (fun b q1 q2 => ⟨B2.block b q2, q1⟩), hne⟩
  have hl0 := HL0
  clear hW2
  have HL := Lib.hid HL0
  obtain ⟨x0, x1, y0, y1, y2, y3, z0, z1, u0, u1, u2, u3, v0, v1, k0, k1, k2, k3, k4, k5, k6, k7⟩ := hl0.facts
  have hsz : w.heap.size + 1 + 1 < w1.heap.size := hne
  clear q7 q8 q9 hl0 HL
  go_region_held3 (fun wx => (wx.cell? ⟨w1.heap.size, 0, none⟩ = some (.string ⟨r.1.toArray⟩) ∧ wx.cell? ⟨w1.heap.size, 1, none⟩ = some (.string ⟨r.2.toArray⟩) ∧   wx.cell? ⟨w1.heap.size + 1, 0, none⟩ = some (.slice va2 nv2 cv2) ∧ wx.cell? ⟨w1.heap.size + 1, 1, none⟩ = some (.slice aa2 na2 ca2) ∧ wx.cell? ⟨w1.heap.size + 1, 2, none⟩ = some (.int .i64 e2.status) ∧ wx.cell? ⟨w1.heap.size + 1, 3, none⟩ = some (.string ⟨e2.flags.toArray⟩) ∧   wx.cell? ⟨w1.heap.size + 1 + 1, 0, none⟩ = some (.int .i64 n) ∧ wx.cell? ⟨w1.heap.size + 1 + 1, 1, none⟩ = some (.string ⟨t.toArray⟩) ∧   wx.cell? ⟨w.heap.size + 1, 0, none⟩ = some (cellOf wx ⟨w.heap.size + 1, 0, none⟩) ∧ wx.cell? ⟨w.heap.size + 1, 1, none⟩ = some (cellOf wx ⟨w.heap.size + 1, 1, none⟩) ∧ wx.cell? ⟨w.heap.size + 1, 2, none⟩ = some (cellOf wx ⟨w.heap.size + 1, 2, none⟩) ∧ wx.cell? ⟨w.heap.size + 1, 3, none⟩ = some (cellOf wx ⟨w.heap.size + 1, 3, none⟩) ∧   wx.cell? ⟨w.heap.size + 1 + 1, 0, none⟩ = some (cellOf wx ⟨w.heap.size + 1 + 1, 0, none⟩) ∧ wx.cell? ⟨w.heap.size + 1 + 1, 1, none⟩ = some (cellOf wx ⟨w.heap.size + 1 + 1, 1, none⟩) ∧   wx.frozen? ⟨w.heap.size + 1, 0, none⟩ = false ∧ wx.frozen? ⟨w.heap.size + 1, 1, none⟩ = false ∧ wx.frozen? ⟨w.heap.size + 1, 2, none⟩ = false ∧ wx.frozen? ⟨w.heap.size + 1, 3, none⟩ = false ∧ wx.frozen? ⟨w.heap.size + 1 + 1, 0, none⟩ = false ∧ wx.frozen? ⟨w.heap.size + 1 + 1, 1, none⟩ = false ∧ w.heap.size + 1 < wx.heap.size ∧ w.heap.size + 1 + 1 < wx.heap.size) ∧ LawF w w1.heap.size r va2 nv2 cv2 aa2 na2 ca2 e2 n t wx) (first | with_reducible exact LawF.all hn | with_reducible exact LawF.all HL0 | with_reducible exact LawF.all (LawF.setO hn _ _ _ _) | with_reducible exact LawF.all (LawF.setR (LawF.setO hn _ _ _ _) _ _))
    ((go_at_call 28; refine (HF _).out.mono ?_; rintro e wn ⟨rfl, hbn⟩; have hn := LawF.next HL0 hbn))
  all_goals
    go_wp2_with fail
    have hfin := LawF.setR (LawF.setO hn (.slice va2 nv2 cv2) (.slice aa2 na2 ca2) (.int .i64 e2.status) (.string ⟨e2.flags.toArray⟩)) (.int .i64 n) (.string ⟨t.toArray⟩)
    obtain ⟨pa, pb, pc, pd, g5⟩ := hn.r5
    obtain ⟨qa, qb, g6⟩ := hn.r6
    have n7 : ¬ w.heap.size + 1 = w.heap.size + 1 + 1 := by omega
    have n8 : ¬ w.heap.size + 1 + 1 = w.heap.size + 1 := by omega
    have hf5 := ((((g5.set 0 (.slice va2 nv2 cv2)).set 1 (.slice aa2 na2 ca2)).set 2 (.int .i64 e2.status)).set 3 (.string ⟨e2.flags.toArray⟩)).other (a := ⟨w.heap.size + 1 + 1, 0, none⟩) n7 (.int .i64 n) |>.other (a := ⟨w.heap.size + 1 + 1, 1, none⟩) n7 (.string ⟨t.toArray⟩)
    have hf6 := ((((g6.other (a := ⟨w.heap.size + 1, 0, none⟩) n8 (.slice va2 nv2 cv2)).other (a := ⟨w.heap.size + 1, 1, none⟩) n8 (.slice aa2 na2 ca2)).other (a := ⟨w.heap.size + 1, 2, none⟩) n8 (.int .i64 e2.status)).other (a := ⟨w.heap.size + 1, 3, none⟩) n8 (.string ⟨e2.flags.toArray⟩)).set 0 (.int .i64 n) |>.set 1 (.string ⟨t.toArray⟩)
    simp only [List.set] at hf5 hf6
    generalize ((((((wn.setCell ⟨w.heap.size + 1, 0, none⟩ (.slice va2 nv2 cv2)).setCell ⟨w.heap.size + 1, 1, none⟩ (.slice aa2 na2 ca2)).setCell ⟨w.heap.size + 1, 2, none⟩ (.int .i64 e2.status)).setCell ⟨w.heap.size + 1, 3, none⟩ (.string ⟨e2.flags.toArray⟩)).setCell ⟨w.heap.size + 1 + 1, 0, none⟩ (.int .i64 n)).setCell ⟨w.heap.size + 1 + 1, 1, none⟩ (.string ⟨t.toArray⟩)) = WN at hf5 hf6 hfin ⊢
    obtain ⟨a0, a1, a2, a3, a4, a5, a6, a7, al⟩ := four_facts hf5
    obtain ⟨b0, b1, b2, b3, bl⟩ := two_facts hf6
    exact bodyPost_ret (v := .tuple #[.string ⟨(flatR r).toArray⟩, envVal va2 nv2 cv2 aa2 na2 ca2 e2, faultVal n t]) (by simp [results, Tryz.results14, go_sem, a0, a1, a2, a3, b0, b1]) rfl ⟨va2, nv2, cv2, aa2, na2, ca2, rfl, hfin.ev.keep (Nat.le_refl _) (fun b _ _ => ⟨rfl, trivial⟩), hfin.be⟩
end Go.Proofs.YtkmpbkhlcapbgaaGreatDoor
