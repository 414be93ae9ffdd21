/-
  DERIVED. The walks of the reference's Decide (kinetoscoperef17), at any number of texts.
-/
import Derived.Test.YtjpdhbalngpdpaaGreatDoorRw
import Derived.Deep.RegionHeld3
namespace Go.Proofs.YtjpdhbalngpdpaaGreatDoor
open Go.RowKit
theorem rturn_at (d r : DecT) (h : In02 d) (hr : turnedF d = r) (w : World) :
    Calls Tryz.prog 23 #[.agg #[.int .i64 d.n, .bool d.asks, .bool d.ask.neg, .string d.ask.op, .string d.ask.path]] w fun e w' => e = .returned (.agg #[.int .i64 r.n, .bool r.asks, .bool r.ask.neg, .string r.ask.op, .string r.ask.path]) ∧ Below w.heap.size w w' :=
  rturn_any d.n h.1 h.2 d.ask.neg d.ask.op d.ask.path d.asks r hr w
/-- What Decide of the reference hands back. -/
def RefPost (r : DecT) (w : World) (e : Ending) (w' : World) : Prop := e = .returned (.agg #[.int .i64 r.n, .bool r.asks, .bool r.ask.neg, .string r.ask.op, .string r.ask.path]) ∧ Below w.heap.size w w'
theorem RefPost.of {n : Int} {asks neg : Bool} {op path : ByteArray} {r : DecT} {w w' : World} (hr : r = ⟨n, ⟨neg, op, path⟩, asks⟩) (hb : Below w.heap.size w w') :
    RefPost r w (.returned (.agg #[.int .i64 n, .bool asks, .bool neg, .string op, .string path])) w' := by subst hr; exact ⟨rfl, hb⟩
/-- The world with the result's place made. -/
abbrev refW (w : World) : World := w.alloc (.cells #[.int .i64 0, .bool false, .bool false, .string ⟨#[]⟩, .string ⟨#[]⟩] 29)
theorem refW_below (w : World) : Below w.heap.size w (refW w) := (Below.refl _ _).alloc (Nat.le_refl _) _
theorem refW_row (w : World) : RowIs (refW w) w.heap.size 29 [.int .i64 0, .bool false, .bool false, .string ⟨#[]⟩, .string ⟨#[]⟩] := RowIs.new _ _ _
theorem set5 {w wx : World} (h : Below w.heap.size w wx) (v0 v1 v2 v3 v4 : Value) :
    Below w.heap.size w (((((wx.setCell ⟨w.heap.size, 0, none⟩ v0).setCell ⟨w.heap.size, 1, none⟩ v1).setCell ⟨w.heap.size, 2, none⟩ v2).setCell ⟨w.heap.size, 3, none⟩ v3).setCell ⟨w.heap.size, 4, none⟩ v4) :=
  ((((h.setCell (Nat.le_refl _) _).setCell (Nat.le_refl _) _).setCell (Nat.le_refl _) _).setCell (Nat.le_refl _) _).setCell (Nat.le_refl _) _
set_option maxRecDepth 100000 in
set_option maxHeartbeats 4000000 in
theorem rd0 (v : Value) (w : World) (hv : StrsAt w v []) : Calls Tryz.prog 12 #[v] w (RefPost ⟨1, AskT.none, false⟩ w) := by
  obtain ⟨a, cap, rfl, hcap, hc⟩ := hv
  clear hc hcap
  go_enter Tryz.func12, Tryz.ntmps12
  go_wp2_with fail
  exact bodyPost_ret (v := refV ⟨1, AskT.none, false⟩) (by simp [results, Tryz.results12, go_sem, refV, AskT.none]) rfl (.of rfl (by go_grown))
set_option maxRecDepth 100000 in
set_option maxHeartbeats 4000000 in
theorem rd1 (s : ByteArray) (v : Value) (w : World) (hv : StrsAt w v [s]) : Calls Tryz.prog 12 #[v] w (RefPost (dec1F s) w) := by
  obtain ⟨a, cap, rfl, hcap, hc⟩ := hv
  rcases hc with hc | ⟨b, off, rfl, hc⟩
  · cases hc
  have c0 : w.cell? ⟨b, off, none⟩ = some (.string s) := hc 0 (by simp)
  have l0 := block_lt_of_cell c0
  clear hc hcap
  have hem := empty_iff s
  obtain ⟨t, ht⟩ : ∃ t, decide (0 < s.size) = t := ⟨_, rfl⟩
  obtain ⟨n, hn⟩ : ∃ n, truthF t = n := ⟨_, rfl⟩
  have HD : Hid (dec1F s = ⟨n, AskT.none, false⟩) := by unfold Hid dec1F; rw [ht, hn]
  have HT := Lib.hid (rtruth_at t n hn)
  rw [ht] at hem
  clear ht hn
  go_enter Tryz.func12, Tryz.ntmps12
  go_wp2_with fail
  refine (HT.out _).mono ?_; rintro e w1 ⟨rfl, hb1⟩
  obtain ⟨k0, k1, k2, k3, k4, f0, f1, f2, f3, f4, l1⟩ := ref_facts ((refW_row w).below hb1)
  have B1 := (refW_below w).trans (hb1.mono (by simp))
  clear hb1
  go_wp2_with fail
  exact bodyPost_ret (v := refV ⟨n, AskT.none, false⟩) (by simp [results, Tryz.results12, go_sem, refV, AskT.none, k0, k1, k2, k3, k4]) rfl (.of HD.out (set5 B1 _ _ _ _ _))
end Go.Proofs.YtjpdhbalngpdpaaGreatDoor
