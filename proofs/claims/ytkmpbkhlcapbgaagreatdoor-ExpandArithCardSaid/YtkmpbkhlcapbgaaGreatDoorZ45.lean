/-
  DERIVED. The walk of arith's of at what has two kids.
-/
import Derived.Test.YtkmpbkhlcapbgaaGreatDoorZ39
import Derived.RegionDies
namespace Go.Proofs.YtkmpbkhlcapbgaaGreatDoor
open Go.RowKit
/-- The block in which a tree of two is boxed, its kids, and what lay there ahead. -/
structure LawP (b : Nat) (op : ByteArray) (o1 : ByteArray) (n1 : Int) (m1 : ByteArray) (p1 : Option Addr) (k1 : Nat) (o2 : ByteArray) (n2 : Int) (m2 : ByteArray) (p2 : Option Addr) (k2 : Nat) (w wx : World) : Prop where
  box : RowIs wx w.heap.size 177 [.string op, .int .i64 0, .string ⟨#[]⟩, .slice (some ⟨b, 0, none⟩) 2 2]
  row : RowIs wx b 177 [.string o1, .int .i64 n1, .string m1, .slice p1 k1 k1, .string o2, .int .i64 n2, .string m2, .slice p2 k2 k2]
  below : Below w.heap.size w wx
section
variable {b : Nat} {o o1 : ByteArray} {n1 : Int} {m1 : ByteArray} {p1 : Option Addr} {k1 : Nat} {o2 : ByteArray} {n2 : Int} {m2 : ByteArray} {p2 : Option Addr} {k2 : Nat} {w wx : World}
theorem LawP.start (b : Nat) (o : ByteArray) (h : RowIs w b 177 [.string o1, .int .i64 n1, .string m1, .slice p1 k1 k1, .string o2, .int .i64 n2, .string m2, .slice p2 k2 k2]) :
    LawP b o o1 n1 m1 p1 k1 o2 n2 m2 p2 k2 w (w.alloc (.cells #[.string o, .int .i64 0, .string ⟨#[]⟩, .slice (some ⟨b, 0, none⟩) 2 2] 177)) :=
  ⟨RowIs.new _ _ _, h.alloc _, (Below.refl _ _).alloc (Nat.le_refl _) _⟩
theorem LawP.next (h : LawP b o o1 n1 m1 p1 k1 o2 n2 m2 p2 k2 w wx) {wy : World} (hb : Below wx.heap.size wx wy) : LawP b o o1 n1 m1 p1 k1 o2 n2 m2 p2 k2 w wy :=
  ⟨h.box.below hb, h.row.below hb, h.below.trans (hb.mono h.below.size)⟩
theorem pair_facts {W : World} {b e : Nat} {x0 x1 x2 x3 x4 x5 x6 x7 : Value} (r : RowIs W b e [x0, x1, x2, x3, x4, x5, x6, x7]) :
    W.cell? ⟨b, 0, none⟩ = some x0 ∧ W.cell? ⟨b, 1, none⟩ = some x1 ∧ W.cell? ⟨b, 2, none⟩ = some x2 ∧ W.cell? ⟨b, 3, none⟩ = some x3 ∧ W.cell? ⟨b, 4, none⟩ = some x4 ∧ W.cell? ⟨b, 5, none⟩ = some x5 ∧ W.cell? ⟨b, 6, none⟩ = some x6 ∧ W.cell? ⟨b, 7, none⟩ = some x7 ∧ b < W.heap.size :=
  ⟨by rw [r.cell]; rfl, by rw [r.cell]; rfl, by rw [r.cell]; rfl, by rw [r.cell]; rfl, by rw [r.cell]; rfl, by rw [r.cell]; rfl, by rw [r.cell]; rfl, by rw [r.cell]; rfl, r.lt⟩
theorem LawP.all (h : LawP b o o1 n1 m1 p1 k1 o2 n2 m2 p2 k2 w wx) : (wx.cell? ⟨w.heap.size, 0, none⟩ = some (.string o) ∧ wx.cell? ⟨w.heap.size, 3, none⟩ = some (.slice (some ⟨b, 0, none⟩) 2 2) ∧ wx.cell? ⟨b, 4, none⟩ = some (.string o2) ∧ wx.cell? ⟨b, 5, none⟩ = some (.int .i64 n2) ∧ wx.cell? ⟨b, 6, none⟩ = some (.string m2) ∧ wx.cell? ⟨b, 7, none⟩ = some (.slice p2 k2 k2)) ∧ LawP b o o1 n1 m1 p1 k1 o2 n2 m2 p2 k2 w wx := by
  obtain ⟨c0, _, _, c3, _⟩ := tree_facts h.box
  obtain ⟨_, _, _, _, a4, a5, a6, a7, _⟩ := pair_facts h.row
  exact ⟨⟨c0, c3, a4, a5, a6, a7⟩, h⟩
end
theorem bin_tests {x : List UInt8} (h : x ∈ binL) : x.isEmpty = false ∧ (x == [36]) = false ∧ (x == [63]) = false ∧ (x == [38, 38]) = false ∧ (x == [124, 124]) = false := by
  unfold binL at h
  simp only [List.mem_cons, List.not_mem_nil, or_false] at h
  rcases h with rfl | rfl | rfl | rfl | rfl | rfl | rfl | rfl | rfl | rfl | rfl | rfl | rfl | rfl | rfl | rfl <;> decide
set_option maxRecDepth 100000 in
set_option maxHeartbeats 4000000 in
theorem of_bin (l : List (ByteArray × ByteArray)) (a c : Tree) (x : Int) (ha : OfAt l a (.ok x)) (y : Int) (hc : OfAt l c (.ok y)) (op : List UInt8) (ho : op ∈ binL) (r : Int) (hd : doesF op x y = .ok r) : OfAt l (.node op [a, c]) (.ok r) := by
  intro o n m p k S w v h hV hE
  cases h with
  | two _ b hb hrow ht ht2 =>
    rename_i o1 n1 m1 p1 k1 o2 n2 m2 p2 k2
    have L0 := LawP.start b o hrow
    have HA := Lib.hid (ha o1 n1 m1 p1 k1 S _ v (ht.under L0.below) (hV.below L0.below) (hE.keep L0.below))
    have HC := Lib.hid (fun (W : World) (hB : Below w.heap.size w W) => hc o2 n2 m2 p2 k2 S W v (ht2.under hB) (hV.below hB) (hE.keep hB))
    obtain ⟨a0, a1, a2, a3, a4, a5, a6, a7, lb⟩ := pair_facts hrow
    have q0 : o.toList.isEmpty = false := by rw [Lib.toList_data]; exact (bin_tests ho).1
    have q1 : (o.toList == [36]) = false := by rw [Lib.toList_data]; exact (bin_tests ho).2.1
    have q2 : (o.toList == [63]) = false := by rw [Lib.toList_data]; exact (bin_tests ho).2.2.1
    have q3 : (o.toList == [38, 38]) = false := by rw [Lib.toList_data]; exact (bin_tests ho).2.2.2.1
    have q4 : (o.toList == [124, 124]) = false := by rw [Lib.toList_data]; exact (bin_tests ho).2.2.2.2
    have HD := Lib.hid (does_any o ho x y (.ok r) hd)
    clear ha hV hE hrow ht ht2 hc ho
    go_enter Tryz.func131, Tryz.ntmps131
    go_wp2_with fail
    refine HA.out.mono ?_; rintro e w1 ⟨rfl, b1⟩
    have L1 := L0.next b1
    have L2 := L1.next (Below.refl _ _).drew
    obtain ⟨⟨c0, c3, d4, d5, d6, d7⟩, -⟩ := L1.all
    clear b1 HA a0 a1 a2 a3 a4 a5 a6 a7 L0
    go_wp2_with fail
    go_region_held3 (fun wx => (wx.cell? ⟨w.heap.size, 0, none⟩ = some (.string o) ∧ wx.cell? ⟨w.heap.size, 3, none⟩ = some (.slice (some ⟨b, 0, none⟩) 2 2) ∧ wx.cell? ⟨b, 4, none⟩ = some (.string o2) ∧ wx.cell? ⟨b, 5, none⟩ = some (.int .i64 n2) ∧ wx.cell? ⟨b, 6, none⟩ = some (.string m2) ∧ wx.cell? ⟨b, 7, none⟩ = some (.slice p2 k2 k2)) ∧ LawP b o o1 n1 m1 p1 k1 o2 n2 m2 p2 k2 w wx) (exact LawP.all (by assumption))
      (first | (go_at_call 131; refine (HC.out _ L2.below).mono ?_; rintro e wn ⟨rfl, hb⟩; have hn := LawP.next (by assumption) hb) | (go_at_call 165; refine (HD.out _).mono ?_; rintro e wm ⟨rfl, hb⟩; have hn2 := LawP.next hn hb))
    all_goals
      go_wp2_with fail
      go_ret
      exact ⟨rfl, hn2.below⟩
set_option maxRecDepth 100000 in
set_option maxHeartbeats 4000000 in
theorem of_bin_zero (l : List (ByteArray × ByteArray)) (a c : Tree) (x : Int) (ha : OfAt l a (.ok x)) (y : Int) (hc : OfAt l c (.ok y)) (op : List UInt8) (ho : op ∈ binL) (hd : doesF op x y = .zero) : OfAt l (.node op [a, c]) .zero := by
  intro o n m p k S w v h hV hE
  cases h with
  | two _ b hb hrow ht ht2 =>
    rename_i o1 n1 m1 p1 k1 o2 n2 m2 p2 k2
    have L0 := LawP.start b o hrow
    have HA := Lib.hid (ha o1 n1 m1 p1 k1 S _ v (ht.under L0.below) (hV.below L0.below) (hE.keep L0.below))
    have HC := Lib.hid (fun (W : World) (hB : Below w.heap.size w W) => hc o2 n2 m2 p2 k2 S W v (ht2.under hB) (hV.below hB) (hE.keep hB))
    obtain ⟨a0, a1, a2, a3, a4, a5, a6, a7, lb⟩ := pair_facts hrow
    have q0 : o.toList.isEmpty = false := by rw [Lib.toList_data]; exact (bin_tests ho).1
    have q1 : (o.toList == [36]) = false := by rw [Lib.toList_data]; exact (bin_tests ho).2.1
    have q2 : (o.toList == [63]) = false := by rw [Lib.toList_data]; exact (bin_tests ho).2.2.1
    have q3 : (o.toList == [38, 38]) = false := by rw [Lib.toList_data]; exact (bin_tests ho).2.2.2.1
    have q4 : (o.toList == [124, 124]) = false := by rw [Lib.toList_data]; exact (bin_tests ho).2.2.2.2
    have HD := Lib.hid (does_any o ho x y .zero hd)
    clear ha hV hE hrow ht ht2 hc ho
    go_enter Tryz.func131, Tryz.ntmps131
    go_wp2_with fail
    refine HA.out.mono ?_; rintro e w1 ⟨rfl, b1⟩
    have L1 := L0.next b1
    have L2 := L1.next (Below.refl _ _).drew
    obtain ⟨⟨c0, c3, d4, d5, d6, d7⟩, -⟩ := L1.all
    clear b1 HA a0 a1 a2 a3 a4 a5 a6 a7 L0
    go_wp2_with fail
    obtain ⟨⟨x0, x3, x4, x5, x6, x7⟩, -⟩ := L2.all
    go_region_dies
    · rename_i hK
      refine (HC.out _ L2.below).mono ?_; rintro e wn ⟨rfl, hb⟩
      have hn := LawP.next L2 hb
      obtain ⟨⟨e0, e3, e4, e5, e6, e7⟩, -⟩ := hn.all
      refine hK _ _ ?_
      refine wpAny_ready (rs := [9]) (by kernel_rfl) (by simp) ?_
      refine AllReady.cons rfl (fun K3 hK3 => ?_) AllReady.nil
      go_simp
      refine (HD.out _).mono ?_; rintro e wm ⟨rfl, hb2⟩
      exact ⟨rfl, rfl, (LawP.next hn hb2).below⟩
    · rename_i hK
      refine (HC.out _ L2.below).mono ?_; rintro e wn ⟨rfl, hb⟩
      have hn := LawP.next L2 hb
      obtain ⟨⟨e0, e3, e4, e5, e6, e7⟩, -⟩ := hn.all
      refine hK _ _ ?_
      refine wpAny_ready (rs := [9]) (by kernel_rfl) (by simp) ?_
      refine AllReady.cons rfl (fun K3 hK3 => ?_) AllReady.nil
      go_simp
      refine (HD.out _).mono ?_; rintro e wm ⟨rfl, hb2⟩
      exact ⟨rfl, rfl, (LawP.next hn hb2).below⟩
    · rename_i hK
      refine (HC.out _ L2.below).mono ?_; rintro e wn ⟨rfl, hb⟩
      have hn := LawP.next L2 hb
      obtain ⟨⟨e0, e3, e4, e5, e6, e7⟩, -⟩ := hn.all
      refine hK _ _ ?_
      refine wpAny_ready (rs := [9]) (by kernel_rfl) (by simp) ?_
      refine AllReady.cons rfl (fun K3 hK3 => ?_) AllReady.nil
      go_simp
      refine (HD.out _).mono ?_; rintro e wm ⟨rfl, hb2⟩
      exact ⟨rfl, rfl, (LawP.next hn hb2).below⟩
    · rename_i hK
      refine (HC.out _ L2.below).mono ?_; rintro e wn ⟨rfl, hb⟩
      have hn := LawP.next L2 hb
      obtain ⟨⟨e0, e3, e4, e5, e6, e7⟩, -⟩ := hn.all
      refine hK _ _ ?_
      refine wpAny_ready (rs := [1]) (by kernel_rfl) (by simp) ?_
      refine AllReady.cons rfl (fun K2 hK2 => ?_) AllReady.nil
      go_simp
      refine hK2 _ _ ?_
      refine wpAny_ready (rs := [9]) (by kernel_rfl) (by simp) ?_
      refine AllReady.cons rfl (fun K3 hK3 => ?_) AllReady.nil
      go_simp
      refine (HD.out _).mono ?_; rintro e wm ⟨rfl, hb2⟩
      exact ⟨rfl, rfl, (LawP.next hn hb2).below⟩
set_option maxRecDepth 100000 in
set_option maxHeartbeats 4000000 in
theorem of_bin_right (l : List (ByteArray × ByteArray)) (a c : Tree) (x : Int) (ha : OfAt l a (.ok x)) (hc : OfAt l c .zero) (op : List UInt8) (ho : op ∈ binL) : OfAt l (.node op [a, c]) .zero := by
  intro o n m p k S w v h hV hE
  cases h with
  | two _ b hb hrow ht ht2 =>
    rename_i o1 n1 m1 p1 k1 o2 n2 m2 p2 k2
    have L0 := LawP.start b o hrow
    have HA := Lib.hid (ha o1 n1 m1 p1 k1 S _ v (ht.under L0.below) (hV.below L0.below) (hE.keep L0.below))
    have HC := Lib.hid (fun (W : World) (hB : Below w.heap.size w W) => hc o2 n2 m2 p2 k2 S W v (ht2.under hB) (hV.below hB) (hE.keep hB))
    obtain ⟨a0, a1, a2, a3, a4, a5, a6, a7, lb⟩ := pair_facts hrow
    have q0 : o.toList.isEmpty = false := by rw [Lib.toList_data]; exact (bin_tests ho).1
    have q1 : (o.toList == [36]) = false := by rw [Lib.toList_data]; exact (bin_tests ho).2.1
    have q2 : (o.toList == [63]) = false := by rw [Lib.toList_data]; exact (bin_tests ho).2.2.1
    have q3 : (o.toList == [38, 38]) = false := by rw [Lib.toList_data]; exact (bin_tests ho).2.2.2.1
    have q4 : (o.toList == [124, 124]) = false := by rw [Lib.toList_data]; exact (bin_tests ho).2.2.2.2
    clear ha hV hE hrow ht ht2 hc ho
    go_enter Tryz.func131, Tryz.ntmps131
    go_wp2_with fail
    refine HA.out.mono ?_; rintro e w1 ⟨rfl, b1⟩
    have L1 := L0.next b1
    have L2 := L1.next (Below.refl _ _).drew
    obtain ⟨⟨c0, c3, d4, d5, d6, d7⟩, -⟩ := L1.all
    clear b1 HA a0 a1 a2 a3 a4 a5 a6 a7 L0
    go_wp2_with fail
    obtain ⟨⟨x0, x3, x4, x5, x6, x7⟩, -⟩ := L2.all
    go_region_dies
    all_goals
      refine (HC.out _ L2.below).mono ?_; rintro e wn ⟨rfl, hb⟩
      exact ⟨rfl, rfl, (LawP.next L2 hb).below⟩
end Go.Proofs.YtkmpbkhlcapbgaaGreatDoor
