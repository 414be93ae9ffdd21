/-
  DERIVED. The walk of arith's of at &&, || and ? : (printed by gen_of.py); what a whole tree comes to.
-/
import Derived.Test.YtkmpbkhlcapbgaaGreatDoorZ45
namespace Go.Proofs.YtkmpbkhlcapbgaaGreatDoor
open Go.RowKit
theorem triple_facts {W : World} {b e : Nat} {x0 x1 x2 x3 x4 x5 x6 x7 x8 x9 xa xb : Value} (r : RowIs W b e [x0, x1, x2, x3, x4, x5, x6, x7, x8, x9, xa, xb]) :
    (W.cell? ⟨b, 0, none⟩ = some x0 ∧ W.cell? ⟨b, 1, none⟩ = some x1 ∧ W.cell? ⟨b, 2, none⟩ = some x2 ∧ W.cell? ⟨b, 3, none⟩ = some x3) ∧ (W.cell? ⟨b, 4, none⟩ = some x4 ∧ W.cell? ⟨b, 5, none⟩ = some x5 ∧ W.cell? ⟨b, 6, none⟩ = some x6 ∧ W.cell? ⟨b, 7, none⟩ = some x7) ∧ (W.cell? ⟨b, 8, none⟩ = some x8 ∧ W.cell? ⟨b, 9, none⟩ = some x9 ∧ W.cell? ⟨b, 10, none⟩ = some xa ∧ W.cell? ⟨b, 11, none⟩ = some xb) ∧ b < W.heap.size :=
  ⟨⟨by rw [r.cell]; rfl, by rw [r.cell]; rfl, by rw [r.cell]; rfl, by rw [r.cell]; rfl⟩, ⟨by rw [r.cell]; rfl, by rw [r.cell]; rfl, by rw [r.cell]; rfl, by rw [r.cell]; rfl⟩, ⟨by rw [r.cell]; rfl, by rw [r.cell]; rfl, by rw [r.cell]; rfl, by rw [r.cell]; rfl⟩, r.lt⟩
set_option maxRecDepth 100000 in
set_option maxHeartbeats 4000000 in
theorem of_and_no (l : List (ByteArray × ByteArray)) (a c : Tree) (x : Int) (ha : OfAt l a (.ok x)) (hx : x = 0)  : OfAt l (.node [38, 38] [a, c]) (.ok 0) := by
  intro o n m p k S w v h hV hE
  have ho : ∀ t, h = h → t = [38, 38] → True := fun _ _ _ => trivial
  clear ho
  generalize hop : ([38, 38] : List UInt8) = op at h
  cases h with
  | two _ b hb hrow ht ht2 =>
    rename_i o1 n1 m1 p1 k1 o2 n2 m2 p2 k2
    obtain rfl : o = ⟨#[38, 38]⟩ := by rw [← Lib.mk_data o, ← hop]
    have L0 := LawP.start b ⟨#[38, 38]⟩ hrow
    have HA := Lib.hid (ha o1 n1 m1 p1 k1 S _ v (ht.under L0.below) (hV.below L0.below) (hE.keep L0.below))
    obtain ⟨a0, a1, a2, a3, a4, a5, a6, a7, lb⟩ := pair_facts hrow
    have q0 : (x == 0) = true := by simpa using hx
    have q1 : (x != 0) = false := by simpa using hx
    clear ha hV hE hrow ht ht2 hx hop 
    go_enter Tryz.func131, Tryz.ntmps131
    go_wp2_with fail
    refine HA.out.mono ?_; rintro e w1 ⟨rfl, b1⟩
    have L1 := L0.next b1
    obtain ⟨c0, c1, c2, c3, _, _, _, _, lc⟩ := tree_facts L1.box
    obtain ⟨d0, d1, d2, d3, d4, d5, d6, d7, ld⟩ := pair_facts L1.row
    clear b1 HA a0 a1 a2 a3 a4 a5 a6 a7 L0
    go_wp2_with fail
    refine (atruth_any _ _).mono ?_; rintro e w2 ⟨rfl, hw⟩; subst hw
    go_wp2_with fail
    go_ret
    exact ⟨rfl, L1.below⟩
set_option maxRecDepth 100000 in
set_option maxHeartbeats 4000000 in
theorem of_and_yes (l : List (ByteArray × ByteArray)) (a c : Tree) (x : Int) (ha : OfAt l a (.ok x)) (hx : ¬ x = 0) (y : Int) (hc : OfAt l c (.ok y)) : OfAt l (.node [38, 38] [a, c]) (.ok (truthF (y != 0))) := by
  intro o n m p k S w v h hV hE
  have ho : ∀ t, h = h → t = [38, 38] → True := fun _ _ _ => trivial
  clear ho
  generalize hop : ([38, 38] : List UInt8) = op at h
  cases h with
  | two _ b hb hrow ht ht2 =>
    rename_i o1 n1 m1 p1 k1 o2 n2 m2 p2 k2
    obtain rfl : o = ⟨#[38, 38]⟩ := by rw [← Lib.mk_data o, ← hop]
    have L0 := LawP.start b ⟨#[38, 38]⟩ hrow
    have HA := Lib.hid (ha o1 n1 m1 p1 k1 S _ v (ht.under L0.below) (hV.below L0.below) (hE.keep L0.below))
    have HC := Lib.hid (fun (W : World) (hB : Below w.heap.size w W) => hc o2 n2 m2 p2 k2 S W v (ht2.under hB) (hV.below hB) (hE.keep hB))
    obtain ⟨a0, a1, a2, a3, a4, a5, a6, a7, lb⟩ := pair_facts hrow
    have q0 : (x == 0) = false := by simpa using hx
    have q1 : (x != 0) = true := by simpa using hx
    clear ha hV hE hrow ht ht2 hx hop hc
    go_enter Tryz.func131, Tryz.ntmps131
    go_wp2_with fail
    refine HA.out.mono ?_; rintro e w1 ⟨rfl, b1⟩
    have L1 := L0.next b1
    obtain ⟨c0, c1, c2, c3, _, _, _, _, lc⟩ := tree_facts L1.box
    obtain ⟨d0, d1, d2, d3, d4, d5, d6, d7, ld⟩ := pair_facts L1.row
    clear b1 HA a0 a1 a2 a3 a4 a5 a6 a7 L0
    go_wp2_with fail
    refine (HC.out _ L1.below).mono ?_; rintro e wn ⟨rfl, hb2⟩
    have hn := LawP.next L1 hb2
    clear hb2 c0 c1 c2 c3 d0 d1 d2 d3 d4 d5 d6 d7
    go_wp2_with fail
    refine (atruth_any _ _).mono ?_; rintro e w2 ⟨rfl, hw⟩; subst hw
    go_wp2_with fail
    go_ret
    exact ⟨rfl, hn.below⟩
set_option maxRecDepth 100000 in
set_option maxHeartbeats 4000000 in
theorem of_and_zero (l : List (ByteArray × ByteArray)) (a c : Tree) (x : Int) (ha : OfAt l a (.ok x)) (hx : ¬ x = 0) (hc : OfAt l c .zero) : OfAt l (.node [38, 38] [a, c]) .zero := by
  intro o n m p k S w v h hV hE
  have ho : ∀ t, h = h → t = [38, 38] → True := fun _ _ _ => trivial
  clear ho
  generalize hop : ([38, 38] : List UInt8) = op at h
  cases h with
  | two _ b hb hrow ht ht2 =>
    rename_i o1 n1 m1 p1 k1 o2 n2 m2 p2 k2
    obtain rfl : o = ⟨#[38, 38]⟩ := by rw [← Lib.mk_data o, ← hop]
    have L0 := LawP.start b ⟨#[38, 38]⟩ hrow
    have HA := Lib.hid (ha o1 n1 m1 p1 k1 S _ v (ht.under L0.below) (hV.below L0.below) (hE.keep L0.below))
    have HC := Lib.hid (fun (W : World) (hB : Below w.heap.size w W) => hc o2 n2 m2 p2 k2 S W v (ht2.under hB) (hV.below hB) (hE.keep hB))
    obtain ⟨a0, a1, a2, a3, a4, a5, a6, a7, lb⟩ := pair_facts hrow
    have q0 : (x == 0) = false := by simpa using hx
    have q1 : (x != 0) = true := by simpa using hx
    clear ha hV hE hrow ht ht2 hx hop hc
    go_enter Tryz.func131, Tryz.ntmps131
    go_wp2_with fail
    refine HA.out.mono ?_; rintro e w1 ⟨rfl, b1⟩
    have L1 := L0.next b1
    obtain ⟨c0, c1, c2, c3, _, _, _, _, lc⟩ := tree_facts L1.box
    obtain ⟨d0, d1, d2, d3, d4, d5, d6, d7, ld⟩ := pair_facts L1.row
    clear b1 HA a0 a1 a2 a3 a4 a5 a6 a7 L0
    go_wp2_with fail
    refine (HC.out _ L1.below).mono ?_; rintro e wn ⟨rfl, hb2⟩
    have hn := LawP.next L1 hb2
    clear hb2
    go_wp2_with fail
    exact ⟨rfl, rfl, hn.below⟩
set_option maxRecDepth 100000 in
set_option maxHeartbeats 4000000 in
theorem of_or_yes (l : List (ByteArray × ByteArray)) (a c : Tree) (x : Int) (ha : OfAt l a (.ok x)) (hx : ¬ x = 0)  : OfAt l (.node [124, 124] [a, c]) (.ok 1) := by
  intro o n m p k S w v h hV hE
  have ho : ∀ t, h = h → t = [124, 124] → True := fun _ _ _ => trivial
  clear ho
  generalize hop : ([124, 124] : List UInt8) = op at h
  cases h with
  | two _ b hb hrow ht ht2 =>
    rename_i o1 n1 m1 p1 k1 o2 n2 m2 p2 k2
    obtain rfl : o = ⟨#[124, 124]⟩ := by rw [← Lib.mk_data o, ← hop]
    have L0 := LawP.start b ⟨#[124, 124]⟩ hrow
    have HA := Lib.hid (ha o1 n1 m1 p1 k1 S _ v (ht.under L0.below) (hV.below L0.below) (hE.keep L0.below))
    obtain ⟨a0, a1, a2, a3, a4, a5, a6, a7, lb⟩ := pair_facts hrow
    have q0 : (x == 0) = false := by simpa using hx
    have q1 : (x != 0) = true := by simpa using hx
    clear ha hV hE hrow ht ht2 hx hop 
    go_enter Tryz.func131, Tryz.ntmps131
    go_wp2_with fail
    refine HA.out.mono ?_; rintro e w1 ⟨rfl, b1⟩
    have L1 := L0.next b1
    obtain ⟨c0, c1, c2, c3, _, _, _, _, lc⟩ := tree_facts L1.box
    obtain ⟨d0, d1, d2, d3, d4, d5, d6, d7, ld⟩ := pair_facts L1.row
    clear b1 HA a0 a1 a2 a3 a4 a5 a6 a7 L0
    go_wp2_with fail
    refine (atruth_any _ _).mono ?_; rintro e w2 ⟨rfl, hw⟩; subst hw
    go_wp2_with fail
    go_ret
    exact ⟨rfl, L1.below⟩
set_option maxRecDepth 100000 in
set_option maxHeartbeats 4000000 in
theorem of_or_no (l : List (ByteArray × ByteArray)) (a c : Tree) (x : Int) (ha : OfAt l a (.ok x)) (hx : x = 0) (y : Int) (hc : OfAt l c (.ok y)) : OfAt l (.node [124, 124] [a, c]) (.ok (truthF (y != 0))) := by
  intro o n m p k S w v h hV hE
  have ho : ∀ t, h = h → t = [124, 124] → True := fun _ _ _ => trivial
  clear ho
  generalize hop : ([124, 124] : List UInt8) = op at h
  cases h with
  | two _ b hb hrow ht ht2 =>
    rename_i o1 n1 m1 p1 k1 o2 n2 m2 p2 k2
    obtain rfl : o = ⟨#[124, 124]⟩ := by rw [← Lib.mk_data o, ← hop]
    have L0 := LawP.start b ⟨#[124, 124]⟩ hrow
    have HA := Lib.hid (ha o1 n1 m1 p1 k1 S _ v (ht.under L0.below) (hV.below L0.below) (hE.keep L0.below))
    have HC := Lib.hid (fun (W : World) (hB : Below w.heap.size w W) => hc o2 n2 m2 p2 k2 S W v (ht2.under hB) (hV.below hB) (hE.keep hB))
    obtain ⟨a0, a1, a2, a3, a4, a5, a6, a7, lb⟩ := pair_facts hrow
    have q0 : (x == 0) = true := by simpa using hx
    have q1 : (x != 0) = false := by simpa using hx
    clear ha hV hE hrow ht ht2 hx hop hc
    go_enter Tryz.func131, Tryz.ntmps131
    go_wp2_with fail
    refine HA.out.mono ?_; rintro e w1 ⟨rfl, b1⟩
    have L1 := L0.next b1
    obtain ⟨c0, c1, c2, c3, _, _, _, _, lc⟩ := tree_facts L1.box
    obtain ⟨d0, d1, d2, d3, d4, d5, d6, d7, ld⟩ := pair_facts L1.row
    clear b1 HA a0 a1 a2 a3 a4 a5 a6 a7 L0
    go_wp2_with fail
    refine (HC.out _ L1.below).mono ?_; rintro e wn ⟨rfl, hb2⟩
    have hn := LawP.next L1 hb2
    clear hb2 c0 c1 c2 c3 d0 d1 d2 d3 d4 d5 d6 d7
    go_wp2_with fail
    refine (atruth_any _ _).mono ?_; rintro e w2 ⟨rfl, hw⟩; subst hw
    go_wp2_with fail
    go_ret
    exact ⟨rfl, hn.below⟩
set_option maxRecDepth 100000 in
set_option maxHeartbeats 4000000 in
theorem of_or_zero (l : List (ByteArray × ByteArray)) (a c : Tree) (x : Int) (ha : OfAt l a (.ok x)) (hx : x = 0) (hc : OfAt l c .zero) : OfAt l (.node [124, 124] [a, c]) .zero := by
  intro o n m p k S w v h hV hE
  have ho : ∀ t, h = h → t = [124, 124] → True := fun _ _ _ => trivial
  clear ho
  generalize hop : ([124, 124] : List UInt8) = op at h
  cases h with
  | two _ b hb hrow ht ht2 =>
    rename_i o1 n1 m1 p1 k1 o2 n2 m2 p2 k2
    obtain rfl : o = ⟨#[124, 124]⟩ := by rw [← Lib.mk_data o, ← hop]
    have L0 := LawP.start b ⟨#[124, 124]⟩ hrow
    have HA := Lib.hid (ha o1 n1 m1 p1 k1 S _ v (ht.under L0.below) (hV.below L0.below) (hE.keep L0.below))
    have HC := Lib.hid (fun (W : World) (hB : Below w.heap.size w W) => hc o2 n2 m2 p2 k2 S W v (ht2.under hB) (hV.below hB) (hE.keep hB))
    obtain ⟨a0, a1, a2, a3, a4, a5, a6, a7, lb⟩ := pair_facts hrow
    have q0 : (x == 0) = true := by simpa using hx
    have q1 : (x != 0) = false := by simpa using hx
    clear ha hV hE hrow ht ht2 hx hop hc
    go_enter Tryz.func131, Tryz.ntmps131
    go_wp2_with fail
    refine HA.out.mono ?_; rintro e w1 ⟨rfl, b1⟩
    have L1 := L0.next b1
    obtain ⟨c0, c1, c2, c3, _, _, _, _, lc⟩ := tree_facts L1.box
    obtain ⟨d0, d1, d2, d3, d4, d5, d6, d7, ld⟩ := pair_facts L1.row
    clear b1 HA a0 a1 a2 a3 a4 a5 a6 a7 L0
    go_wp2_with fail
    refine (HC.out _ L1.below).mono ?_; rintro e wn ⟨rfl, hb2⟩
    have hn := LawP.next L1 hb2
    clear hb2
    go_wp2_with fail
    exact ⟨rfl, rfl, hn.below⟩
set_option maxRecDepth 100000 in
set_option maxHeartbeats 4000000 in
theorem of_cond_yes (l : List (ByteArray × ByteArray)) (a c d : Tree) (x : Int) (ha : OfAt l a (.ok x)) (hx : ¬ x = 0) (y : Int) (hc : OfAt l c (.ok y)) : OfAt l (.node [63] [a, c, d]) (.ok y) := by
  intro o n m p k S w v h hV hE
  generalize hop : ([63] : List UInt8) = op at h
  cases h with
  | three _ b hb hrow ht ht2 ht3 =>
    rename_i o1 n1 m1 p1 k1 o2 n2 m2 p2 k2 o3 n3 m3 p3 k3
    obtain rfl : o = ⟨#[63]⟩ := by rw [← Lib.mk_data o, ← hop]
    have L0 := LawO.start w b 3 ⟨#[63]⟩
    have HA := Lib.hid (ha o1 n1 m1 p1 k1 S _ v (ht.under L0.below) (hV.below L0.below) (hE.keep L0.below))
    have HC := Lib.hid (fun (W : World) (hB : Below w.heap.size w W) => hc o2 n2 m2 p2 k2 S W v (ht2.under hB) (hV.below hB) (hE.keep hB))
    obtain ⟨⟨a0, a1, a2, a3⟩, A1, A2, lb⟩ := triple_facts hrow
    have HROW := Lib.hid hrow
    have q0 : (x == 0) = false := by simpa using hx
    have q1 : (x != 0) = true := by simpa using hx
    clear ha hV hE hrow ht ht2 ht3 hx hop hc A1 A2
    go_enter Tryz.func131, Tryz.ntmps131
    go_wp2_with fail
    refine HA.out.mono ?_; rintro e w1 ⟨rfl, b1⟩
    have L1 := L0.next b1
    obtain ⟨c0, c1, c2, c3, _, _, _, _, lc⟩ := tree_facts L1.box
    obtain ⟨_, ⟨d4, d5, d6, d7⟩, ⟨d8, d9, da, db⟩, ld⟩ := triple_facts (HROW.out.below L1.below)
    clear b1 HA a0 a1 a2 a3 L0
    go_wp2_with fail
    refine (HC.out _ L1.below).mono ?_; rintro e wn ⟨rfl, hb2⟩
    have hn := LawO.next L1 hb2
    clear hb2 c0 c1 c2 c3 d4 d5 d6 d7 d8 d9 da db
    go_wp2_with fail
    go_ret
    exact ⟨rfl, hn.below⟩
set_option maxRecDepth 100000 in
set_option maxHeartbeats 4000000 in
theorem of_cond_yes_zero (l : List (ByteArray × ByteArray)) (a c d : Tree) (x : Int) (ha : OfAt l a (.ok x)) (hx : ¬ x = 0)  (hc : OfAt l c .zero) : OfAt l (.node [63] [a, c, d]) .zero := by
  intro o n m p k S w v h hV hE
  generalize hop : ([63] : List UInt8) = op at h
  cases h with
  | three _ b hb hrow ht ht2 ht3 =>
    rename_i o1 n1 m1 p1 k1 o2 n2 m2 p2 k2 o3 n3 m3 p3 k3
    obtain rfl : o = ⟨#[63]⟩ := by rw [← Lib.mk_data o, ← hop]
    have L0 := LawO.start w b 3 ⟨#[63]⟩
    have HA := Lib.hid (ha o1 n1 m1 p1 k1 S _ v (ht.under L0.below) (hV.below L0.below) (hE.keep L0.below))
    have HC := Lib.hid (fun (W : World) (hB : Below w.heap.size w W) => hc o2 n2 m2 p2 k2 S W v (ht2.under hB) (hV.below hB) (hE.keep hB))
    obtain ⟨⟨a0, a1, a2, a3⟩, A1, A2, lb⟩ := triple_facts hrow
    have HROW := Lib.hid hrow
    have q0 : (x == 0) = false := by simpa using hx
    have q1 : (x != 0) = true := by simpa using hx
    clear ha hV hE hrow ht ht2 ht3 hx hop hc A1 A2
    go_enter Tryz.func131, Tryz.ntmps131
    go_wp2_with fail
    refine HA.out.mono ?_; rintro e w1 ⟨rfl, b1⟩
    have L1 := L0.next b1
    obtain ⟨c0, c1, c2, c3, _, _, _, _, lc⟩ := tree_facts L1.box
    obtain ⟨_, ⟨d4, d5, d6, d7⟩, ⟨d8, d9, da, db⟩, ld⟩ := triple_facts (HROW.out.below L1.below)
    clear b1 HA a0 a1 a2 a3 L0
    go_wp2_with fail
    refine (HC.out _ L1.below).mono ?_; rintro e wn ⟨rfl, hb2⟩
    have hn := LawO.next L1 hb2
    clear hb2 c0 c1 c2 c3 d4 d5 d6 d7 d8 d9 da db
    go_wp2_with fail
    exact ⟨rfl, rfl, hn.below⟩
set_option maxRecDepth 100000 in
set_option maxHeartbeats 4000000 in
theorem of_cond_no (l : List (ByteArray × ByteArray)) (a c d : Tree) (x : Int) (ha : OfAt l a (.ok x)) (hx : x = 0) (y : Int) (hc : OfAt l d (.ok y)) : OfAt l (.node [63] [a, c, d]) (.ok y) := by
  intro o n m p k S w v h hV hE
  generalize hop : ([63] : List UInt8) = op at h
  cases h with
  | three _ b hb hrow ht ht2 ht3 =>
    rename_i o1 n1 m1 p1 k1 o2 n2 m2 p2 k2 o3 n3 m3 p3 k3
    obtain rfl : o = ⟨#[63]⟩ := by rw [← Lib.mk_data o, ← hop]
    have L0 := LawO.start w b 3 ⟨#[63]⟩
    have HA := Lib.hid (ha o1 n1 m1 p1 k1 S _ v (ht.under L0.below) (hV.below L0.below) (hE.keep L0.below))
    have HC := Lib.hid (fun (W : World) (hB : Below w.heap.size w W) => hc o3 n3 m3 p3 k3 S W v (ht3.under hB) (hV.below hB) (hE.keep hB))
    obtain ⟨⟨a0, a1, a2, a3⟩, A1, A2, lb⟩ := triple_facts hrow
    have HROW := Lib.hid hrow
    have q0 : (x == 0) = true := by simpa using hx
    have q1 : (x != 0) = false := by simpa using hx
    clear ha hV hE hrow ht ht2 ht3 hx hop hc A1 A2
    go_enter Tryz.func131, Tryz.ntmps131
    go_wp2_with fail
    refine HA.out.mono ?_; rintro e w1 ⟨rfl, b1⟩
    have L1 := L0.next b1
    obtain ⟨c0, c1, c2, c3, _, _, _, _, lc⟩ := tree_facts L1.box
    obtain ⟨_, ⟨d4, d5, d6, d7⟩, ⟨d8, d9, da, db⟩, ld⟩ := triple_facts (HROW.out.below L1.below)
    clear b1 HA a0 a1 a2 a3 L0
    go_wp2_with fail
    refine (HC.out _ L1.below).mono ?_; rintro e wn ⟨rfl, hb2⟩
    have hn := LawO.next L1 hb2
    clear hb2 c0 c1 c2 c3 d4 d5 d6 d7 d8 d9 da db
    go_wp2_with fail
    go_ret
    exact ⟨rfl, hn.below⟩
set_option maxRecDepth 100000 in
set_option maxHeartbeats 4000000 in
theorem of_cond_no_zero (l : List (ByteArray × ByteArray)) (a c d : Tree) (x : Int) (ha : OfAt l a (.ok x)) (hx : x = 0)  (hc : OfAt l d .zero) : OfAt l (.node [63] [a, c, d]) .zero := by
  intro o n m p k S w v h hV hE
  generalize hop : ([63] : List UInt8) = op at h
  cases h with
  | three _ b hb hrow ht ht2 ht3 =>
    rename_i o1 n1 m1 p1 k1 o2 n2 m2 p2 k2 o3 n3 m3 p3 k3
    obtain rfl : o = ⟨#[63]⟩ := by rw [← Lib.mk_data o, ← hop]
    have L0 := LawO.start w b 3 ⟨#[63]⟩
    have HA := Lib.hid (ha o1 n1 m1 p1 k1 S _ v (ht.under L0.below) (hV.below L0.below) (hE.keep L0.below))
    have HC := Lib.hid (fun (W : World) (hB : Below w.heap.size w W) => hc o3 n3 m3 p3 k3 S W v (ht3.under hB) (hV.below hB) (hE.keep hB))
    obtain ⟨⟨a0, a1, a2, a3⟩, A1, A2, lb⟩ := triple_facts hrow
    have HROW := Lib.hid hrow
    have q0 : (x == 0) = true := by simpa using hx
    have q1 : (x != 0) = false := by simpa using hx
    clear ha hV hE hrow ht ht2 ht3 hx hop hc A1 A2
    go_enter Tryz.func131, Tryz.ntmps131
    go_wp2_with fail
    refine HA.out.mono ?_; rintro e w1 ⟨rfl, b1⟩
    have L1 := L0.next b1
    obtain ⟨c0, c1, c2, c3, _, _, _, _, lc⟩ := tree_facts L1.box
    obtain ⟨_, ⟨d4, d5, d6, d7⟩, ⟨d8, d9, da, db⟩, ld⟩ := triple_facts (HROW.out.below L1.below)
    clear b1 HA a0 a1 a2 a3 L0
    go_wp2_with fail
    refine (HC.out _ L1.below).mono ?_; rintro e wn ⟨rfl, hb2⟩
    have hn := LawO.next L1 hb2
    clear hb2 c0 c1 c2 c3 d4 d5 d6 d7 d8 d9 da db
    go_wp2_with fail
    exact ⟨rfl, rfl, hn.below⟩
theorem un_tests {x : List UInt8} (h : x ∈ unL) : x ≠ [] ∧ x ≠ [36] := by
  unfold unL at h
  simp only [List.mem_cons, List.not_mem_nil, or_false] at h
  rcases h with rfl | rfl | rfl | rfl <;> decide
/-- A tree's call comes to what the tree comes to. -/
theorem of_ok (l : List (ByteArray × ByteArray)) : ∀ (f : Nat) (t : Tree) (R : Res), evF l f t = R → R ≠ .bad → OfAt l t R := by
  intro f
  induction f with
  | zero => intro t R h hb; exact absurd h.symm (by unfold evF; exact hb)
  | succ f ih =>
    intro t R h hb
    match t with
    | .num n => unfold evF at h; subst h; exact of_num l n
    | .var x =>
      unfold evF at h
      split at h
      · rename_i r hr
        subst h; exact of_var l x r hr
      · exact absurd h.symm hb
    | .node op [] => exact absurd h.symm (by unfold evF; exact hb)
    | .node op [a] =>
      unfold evF at h
      split at h
      · rename_i ho
        cases hx : evF l f a with
        | ok x =>
          rw [hx] at h
          have ha := ih a _ hx (by simp)
          cases R with
          | ok r => exact of_un l a x ha op r h
          | zero => simp only [unF] at h; split at h <;> (try split at h) <;> (try split at h) <;> (try split at h) <;> cases h
          | bad => exact absurd rfl hb
        | zero =>
          rw [hx] at h
          subst h
          exact of_zero l a (ih a _ hx (by simp)) op [] (un_tests ho).1 (un_tests ho).2
        | bad => rw [hx] at h; exact absurd h.symm hb
      · exact absurd h.symm hb
    | .node op [a, c] =>
      unfold evF at h
      split at h
      · rename_i ho
        subst ho
        cases hx : evF l f a with
        | ok x =>
          rw [hx] at h
          have ha := ih a _ hx (by simp)
          simp only at h
          split at h
          · rename_i hx0
            subst h; exact of_and_no l a c x ha hx0
          · rename_i hx0
            cases hy : evF l f c with
            | ok y => rw [hy] at h; subst h; exact of_and_yes l a c x ha hx0 y (ih c _ hy (by simp))
            | zero => rw [hy] at h; subst h; exact of_and_zero l a c x ha hx0 (ih c _ hy (by simp))
            | bad => rw [hy] at h; exact absurd h.symm hb
        | zero => rw [hx] at h; subst h; exact of_zero l a (ih a _ hx (by simp)) _ _ (by decide) (by decide)
        | bad => rw [hx] at h; exact absurd h.symm hb
      · split at h
        · rename_i ho
          subst ho
          cases hx : evF l f a with
          | ok x =>
            rw [hx] at h
            have ha := ih a _ hx (by simp)
            simp only at h
            split at h
            · rename_i hx0
              cases hy : evF l f c with
              | ok y => rw [hy] at h; subst h; exact of_or_no l a c x ha hx0 y (ih c _ hy (by simp))
              | zero => rw [hy] at h; subst h; exact of_or_zero l a c x ha hx0 (ih c _ hy (by simp))
              | bad => rw [hy] at h; exact absurd h.symm hb
            · rename_i hx0
              subst h; exact of_or_yes l a c x ha hx0
          | zero => rw [hx] at h; subst h; exact of_zero l a (ih a _ hx (by simp)) _ _ (by decide) (by decide)
          | bad => rw [hx] at h; exact absurd h.symm hb
        · split at h
          · rename_i ho
            cases hx : evF l f a with
            | ok x =>
              rw [hx] at h
              have ha := ih a _ hx (by simp)
              cases hy : evF l f c with
              | ok y =>
                rw [hy] at h
                simp only at h
                have hc := ih c _ hy (by simp)
                cases R with
                | ok r => exact of_bin l a c x ha y hc op ho r h
                | zero => exact of_bin_zero l a c x ha y hc op ho h
                | bad => exact absurd rfl hb
              | zero => rw [hy] at h; subst h; exact of_bin_right l a c x ha (ih c _ hy (by simp)) op ho
              | bad => rw [hy] at h; exact absurd h.symm hb
            | zero =>
              rw [hx] at h; subst h
              have hbt := bin_tests ho
              exact of_zero l a (ih a _ hx (by simp)) _ _ (by intro e; rw [e] at hbt; exact absurd hbt.1 (by decide)) (by intro e; rw [e] at hbt; exact absurd hbt.2.1 (by decide))
            | bad => rw [hx] at h; exact absurd h.symm hb
          · exact absurd h.symm hb
    | .node op [a, c, d] =>
      unfold evF at h
      split at h
      · rename_i ho
        subst ho
        cases hx : evF l f a with
        | ok x =>
          rw [hx] at h
          have ha := ih a _ hx (by simp)
          simp only at h
          split at h
          · rename_i hx0
            have hd := ih d R h hb
            cases R with
            | ok y => exact of_cond_no l a c d x ha hx0 y hd
            | zero => exact of_cond_no_zero l a c d x ha hx0 hd
            | bad => exact absurd rfl hb
          · rename_i hx0
            have hc := ih c R h hb
            cases R with
            | ok y => exact of_cond_yes l a c d x ha hx0 y hc
            | zero => exact of_cond_yes_zero l a c d x ha hx0 hc
            | bad => exact absurd rfl hb
        | zero => rw [hx] at h; subst h; exact of_zero l a (ih a _ hx (by simp)) _ _ (by decide) (by decide)
        | bad => rw [hx] at h; exact absurd h.symm hb
      · exact absurd h.symm hb
    | .node op (a :: b :: c :: d :: e) => exact absurd h.symm (by unfold evF; exact hb)
end Go.Proofs.YtkmpbkhlcapbgaaGreatDoor
