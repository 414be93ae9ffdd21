/-
  DERIVED. The walks of the tester's Decide at none, at two.
-/
import Derived.Test.YtjpdhbalngpdpaaGreatDoorTd
import Derived.Deep.RegionHeld3
namespace Go.Proofs.YtjpdhbalngpdpaaGreatDoor
open Go.RowKit
/-- What holds while Decide's region of two draws: two texts, and the answer's place. -/
def LawD (w : World) (b off : Nat) (s t : ByteArray) (wx : World) : Prop :=
  w.cell? ⟨b, off, none⟩ = some (.string s) ∧ w.cell? ⟨b, off + 1, none⟩ = some (.string t) ∧ Below w.heap.size w wx ∧ ∃ x y z, RowIs wx w.heap.size 25 [x, y, z]
theorem LawD.start {w : World} {b off : Nat} {s t : ByteArray} (h0 : w.cell? ⟨b, off, none⟩ = some (.string s)) (h1 : w.cell? ⟨b, off + 1, none⟩ = some (.string t)) : LawD w b off s t (w.alloc (.cells #[.bool false, .string ⟨#[]⟩, .string ⟨#[]⟩] 25)) :=
  ⟨h0, h1, (Below.refl _ _).alloc (Nat.le_refl _) _, _, _, _, RowIs.new _ _ _⟩
theorem LawD.next {w wx wy : World} {b off : Nat} {s t : ByteArray} (h : LawD w b off s t wx) (hb : Below wx.heap.size wx wy) : LawD w b off s t wy := by
  obtain ⟨h0, h1, hB, x, y, z, hr⟩ := h
  exact ⟨h0, h1, hB.trans (hb.mono hB.size), x, y, z, hr.below hb⟩
theorem LawD.drew {w wx : World} {b off : Nat} {s t : ByteArray} (h : LawD w b off s t wx) : LawD w b off s t wx.drew := h.next (Below.refl _ _).drew
theorem LawD.set {w wx : World} {b off : Nat} {s t : ByteArray} (h : LawD w b off s t wx) (p q r : Value) : LawD w b off s t (((wx.setCell ⟨w.heap.size, 0, none⟩ p).setCell ⟨w.heap.size, 1, none⟩ q).setCell ⟨w.heap.size, 2, none⟩ r) := by
  obtain ⟨h0, h1, hB, x, y, z, hr⟩ := h
  exact ⟨h0, h1, ((hB.setCell (Nat.le_refl _) _).setCell (Nat.le_refl _) _).setCell (Nat.le_refl _) _, _, _, _, ((hr.set 0 p).set 1 q).set 2 r⟩
/-- What a cell holds. -/
def cellOf (w : World) (p : Addr) : Value := (w.cell? p).getD (.bool false)
theorem cellOf_is {w : World} {p : Addr} {v : Value} (h : w.cell? p = some v) : w.cell? p = some (cellOf w p) := by unfold cellOf; rw [h]; rfl
theorem LawD.facts {w wx : World} {b off : Nat} {s t : ByteArray} (h : LawD w b off s t wx) : wx.cell? ⟨b, off, none⟩ = some (.string s) ∧ wx.cell? ⟨b, off + 1, none⟩ = some (.string t) ∧ wx.cell? ⟨w.heap.size, 0, none⟩ = some (cellOf wx ⟨w.heap.size, 0, none⟩) ∧ wx.cell? ⟨w.heap.size, 1, none⟩ = some (cellOf wx ⟨w.heap.size, 1, none⟩) ∧ wx.cell? ⟨w.heap.size, 2, none⟩ = some (cellOf wx ⟨w.heap.size, 2, none⟩) ∧ wx.frozen? ⟨w.heap.size, 0, none⟩ = false ∧ wx.frozen? ⟨w.heap.size, 1, none⟩ = false ∧ wx.frozen? ⟨w.heap.size, 2, none⟩ = false ∧ w.heap.size < wx.heap.size := by
  obtain ⟨h0, h1, hB, x, y, z, hr⟩ := h
  obtain ⟨k0, k1, k2, _⟩ := ask_facts hr
  exact ⟨(hB.cell (p := ⟨b, off, none⟩) (block_lt_of_cell h0)).trans h0, (hB.cell (p := ⟨b, off + 1, none⟩) (block_lt_of_cell h1)).trans h1, cellOf_is k0, cellOf_is k1, cellOf_is k2, hr.free _, hr.free _, hr.free _, hr.lt⟩
theorem LawD.all {w wx : World} {b off : Nat} {s t : ByteArray} (h : LawD w b off s t wx) : (wx.cell? ⟨b, off, none⟩ = some (.string s) ∧ wx.cell? ⟨b, off + 1, none⟩ = some (.string t) ∧ wx.cell? ⟨w.heap.size, 0, none⟩ = some (cellOf wx ⟨w.heap.size, 0, none⟩) ∧ wx.cell? ⟨w.heap.size, 1, none⟩ = some (cellOf wx ⟨w.heap.size, 1, none⟩) ∧ wx.cell? ⟨w.heap.size, 2, none⟩ = some (cellOf wx ⟨w.heap.size, 2, none⟩) ∧ wx.frozen? ⟨w.heap.size, 0, none⟩ = false ∧ wx.frozen? ⟨w.heap.size, 1, none⟩ = false ∧ wx.frozen? ⟨w.heap.size, 2, none⟩ = false ∧ w.heap.size < wx.heap.size) ∧ LawD w b off s t wx := ⟨h.facts, h⟩
theorem LawD.row {w wx : World} {b off : Nat} {s t : ByteArray} (h : LawD w b off s t wx) : Below w.heap.size w wx ∧ ∃ x y z, wx.cell? ⟨w.heap.size, 0, none⟩ = some x ∧ wx.cell? ⟨w.heap.size, 1, none⟩ = some y ∧ wx.cell? ⟨w.heap.size, 2, none⟩ = some z ∧ w.heap.size < wx.heap.size := by
  obtain ⟨h0, h1, hB, x, y, z, hr⟩ := h
  obtain ⟨a, b, c, _, _, _, l⟩ := ask_facts hr
  exact ⟨hB, x, y, z, a, b, c, l⟩
set_option maxRecDepth 100000 in
set_option maxHeartbeats 4000000 in
theorem dec0_any (v : Value) (w : World) (hv : StrsAt w v []) :
    Calls Tryz.prog 11 #[v] w fun e w' => e = .returned (DecT.val ⟨1, AskT.none, false⟩) ∧ Below w.heap.size w w' := by
  obtain ⟨a, cap, rfl, hcap, hc⟩ := hv
  clear hc hcap
  go_enter Tryz.func11, Tryz.ntmps11
  go_wp2_with fail
  exact bodyPost_ret (v := DecT.val ⟨1, AskT.none, false⟩) (by simp [results, Tryz.results11, go_sem, DecT.val, AskT.none]) rfl ⟨rfl, by go_grown⟩
set_option maxRecDepth 100000 in
set_option maxHeartbeats 8000000 in
theorem dec2_any (s t : ByteArray) (r : DecT) (hr : twoF s.data.toList t = r) (v : Value) (w : World) (hv : StrsAt w v [s, t]) :
    Calls Tryz.prog 11 #[v] w fun e w' => e = .returned (.tuple #[.int .i64 r.n, .agg #[.bool r.ask.neg, .string r.ask.op, .string r.ask.path], .bool r.asks]) ∧ Below w.heap.size w w' := by
  obtain ⟨a, cap, rfl, hcap, hc⟩ := hv
  rcases hc with hc | ⟨b, off, rfl, hc⟩
  · cases hc
  have c0 : w.cell? ⟨b, off, none⟩ = some (.string s) := hc 0 (by simp)
  have c1 : w.cell? ⟨b, off + 1, none⟩ = some (.string t) := hc 1 (by simp)
  have L0 := (LawD.start c0 c1).drew
  have HT := Lib.hid (two_any s t r hr)
  have hcap' : (2 : Int) ≤ (cap : Int) := by simp at hcap; omega
  clear hc hcap hr c0 c1
  go_enter Tryz.func11, Tryz.ntmps11
  go_wp2_with fail
  go_region_held3 (fun wx => (wx.cell? ⟨b, off, none⟩ = some (.string s) ∧ wx.cell? ⟨b, off + 1, none⟩ = some (.string t) ∧ wx.cell? ⟨w.heap.size, 0, none⟩ = some (cellOf wx ⟨w.heap.size, 0, none⟩) ∧ wx.cell? ⟨w.heap.size, 1, none⟩ = some (cellOf wx ⟨w.heap.size, 1, none⟩) ∧ wx.cell? ⟨w.heap.size, 2, none⟩ = some (cellOf wx ⟨w.heap.size, 2, none⟩) ∧ wx.frozen? ⟨w.heap.size, 0, none⟩ = false ∧ wx.frozen? ⟨w.heap.size, 1, none⟩ = false ∧ wx.frozen? ⟨w.heap.size, 2, none⟩ = false ∧ w.heap.size < wx.heap.size) ∧ LawD w b off s t wx) (first | exact LawD.all (by assumption) | exact LawD.all (LawD.set (by assumption) _ _ _))
    ((go_at_call 18; refine (HT.out _).mono ?_; rintro e wn ⟨rfl, hb⟩; have hn := LawD.next (by assumption) hb))
  all_goals
    go_wp2_with fail
    obtain ⟨B, x, y, z, k0, k1, k2, l2⟩ := LawD.row hn
    exact bodyPost_ret (v := r.val) (by simp [results, Tryz.results11, go_sem, DecT.val, k0, k1, k2]) rfl ⟨rfl, ((B.setCell (Nat.le_refl _) _).setCell (Nat.le_refl _) _).setCell (Nat.le_refl _) _⟩
end Go.Proofs.YtjpdhbalngpdpaaGreatDoor
