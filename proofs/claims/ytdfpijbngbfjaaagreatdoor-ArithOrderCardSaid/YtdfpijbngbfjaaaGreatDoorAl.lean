/-
  DERIVED. What a tree comes to; the walk of arith's of.
-/
import Derived.Test.YtdfpijbngbfjaaaGreatDoorAc
import Derived.Test.YtdfpijbngbfjaaaGreatDoorAk
import Derived.Deep.RegionHeld3
namespace Go.Proofs.YtdfpijbngbfjaaaGreatDoor
open Go.RowKit
def unF (op : List UInt8) (x : Int) : Res := if op = [33] then .ok (truthF (x == 0)) else if op = [126] then .ok (bits .xor .i64 (-1) x) else if op = [45] then .ok (wrap64 (-x)) else if op = [43] then .ok x else .bad
def unL : List (List UInt8) := [[33], [126], [45], [43]]
/-- What a tree comes to; fuel ahead of all. -/
def evF (l : List (ByteArray × ByteArray)) : Nat → Tree → Res
  | 0, _ => .bad
  | _ + 1, .num n => .ok n
  | _ + 1, .var x => match valF l x with | some n => .ok n | none => .bad
  | f + 1, .node op [a] => if op ∈ unL then (match evF l f a with | .ok x => unF op x | .zero => .zero | .bad => .bad) else .bad
  | f + 1, .node op [a, b] =>
    if op = [38, 38] then (match evF l f a with | .ok x => (if x = 0 then .ok 0 else match evF l f b with | .ok y => .ok (truthF (y != 0)) | .zero => .zero | .bad => .bad) | .zero => .zero | .bad => .bad)
    else if op = [124, 124] then (match evF l f a with | .ok x => (if x = 0 then (match evF l f b with | .ok y => .ok (truthF (y != 0)) | .zero => .zero | .bad => .bad) else .ok 1) | .zero => .zero | .bad => .bad)
    else if op ∈ binL then (match evF l f a with | .ok x => (match evF l f b with | .ok y => doesF op x y | .zero => .zero | .bad => .bad) | .zero => .zero | .bad => .bad)
    else .bad
  | f + 1, .node op [a, b, c] => if op = [63] then (match evF l f a with | .ok x => if x = 0 then evF l f c else evF l f b | .zero => .zero | .bad => .bad) else .bad
  | _ + 1, .node _ _ => .bad
/-- How a tree's call is told. -/
def OfAt (l : List (ByteArray × ByteArray)) (t : Tree) (R : Res) : Prop := ∀ (o : ByteArray) (n : Int) (m : ByteArray) (p : Option Addr) (k : Nat) (S : Nat → Prop) (w : World) (v : Value), TreeAt w S o n m p k t → VarsAt w v l → Env w →
  Calls Tryz.prog 14 #[.agg #[.string o, .int .i64 n, .string m, .slice p k k], v] w (ResPost R w)
set_option maxRecDepth 100000 in
set_option maxHeartbeats 4000000 in
theorem of_num (l : List (ByteArray × ByteArray)) (x : Int) : OfAt l (.num x) (.ok x) := by
  intro o n m p k S w v h _ _
  cases h
  go_enter Tryz.func14, Tryz.ntmps14
  go_wp2_with fail
  go_ret
  exact ⟨rfl, by go_grown⟩
set_option maxRecDepth 100000 in
set_option maxHeartbeats 4000000 in
theorem of_var (l : List (ByteArray × ByteArray)) (x : List UInt8) (r : Int) (hr : valF l x = some r) : OfAt l (.var x) (.ok r) := by
  intro o n m p k S w v h hV hE
  cases h with
  | var =>
    have HV := Lib.hid (value_any m l r hr v)
    have HB := Lib.hid ((Below.refl w.heap.size w).alloc (Nat.le_refl _) (.cells #[.string ⟨#[36]⟩, .int .i64 0, .string m, .slice none 0 0] 43))
    have HVA := Lib.hid (hV.below HB.out)
    have HE := Lib.hid (hE.keep HB.out)
    clear hr hV hE
    go_enter Tryz.func14, Tryz.ntmps14
    go_wp2_with fail
    refine (HV.out _ HVA.out HE.out).mono ?_; rintro e w1 ⟨rfl, b1⟩
    have B1 := HB.out.trans (b1.mono (by simp))
    clear b1
    go_wp2_with fail
    go_ret
    exact ⟨rfl, B1⟩
/-- The block in which a tree is boxed, and what lay there ahead. -/
structure LawO (b k : Nat) (op : ByteArray) (w wx : World) : Prop where
  box : RowIs wx w.heap.size 43 [.string op, .int .i64 0, .string ⟨#[]⟩, .slice (some ⟨b, 0, none⟩) k k]
  below : Below w.heap.size w wx
theorem LawO.start (w : World) (b k : Nat) (op : ByteArray) : LawO b k op w (w.alloc (.cells #[.string op, .int .i64 0, .string ⟨#[]⟩, .slice (some ⟨b, 0, none⟩) k k] 43)) :=
  ⟨RowIs.new _ _ _, (Below.refl _ _).alloc (Nat.le_refl _) _⟩
theorem LawO.next {b k : Nat} {op : ByteArray} {w wx wy : World} (h : LawO b k op w wx) (hb : Below wx.heap.size wx wy) : LawO b k op w wy :=
  ⟨h.box.below hb, h.below.trans (hb.mono h.below.size)⟩
set_option maxRecDepth 100000 in
set_option maxHeartbeats 4000000 in
theorem of_un (l : List (ByteArray × ByteArray)) (a : Tree) (x : Int) (ha : OfAt l a (.ok x)) (op : List UInt8) (r : Int) (hr : unF op x = .ok r) : OfAt l (.node op [a]) (.ok r) := by
  intro o n m p k S w v h hV hE
  cases h with
  | one op b hb hrow ht =>
    rename_i o1 n1 m1 p1 k1
    have L0 := LawO.start w b 1 o
    have HA := Lib.hid (ha o1 n1 m1 p1 k1 S _ v (ht.under L0.below) (hV.below L0.below) (hE.keep L0.below))
    obtain ⟨a0, a1, a2, a3, _, _, _, _, lb⟩ := tree_facts hrow
    obtain ⟨y, hy⟩ : ∃ y, o.data.toList = y := ⟨_, rfl⟩
    obtain rfl : o = ⟨y.toArray⟩ := by rw [← hy]
    clear ha hV hE hy hrow ht
    have hc : y = [33] ∨ y = [126] ∨ y = [45] ∨ y = [43] := by
      simp only [unF] at hr
      split at hr
      · rename_i h; exact .inl h
      · split at hr
        · rename_i h; exact .inr (.inl h)
        · split at hr
          · rename_i h; exact .inr (.inr (.inl h))
          · split at hr
            · rename_i h; exact .inr (.inr (.inr h))
            · cases hr
    rcases hc with rfl | rfl | rfl | rfl
    all_goals
      simp [unF] at hr
      subst hr
      go_enter Tryz.func14, Tryz.ntmps14
      go_wp2_with fail
      refine HA.out.mono ?_; rintro e w1 ⟨rfl, b1⟩
      have L1 := L0.next b1
      obtain ⟨c0, c1, c2, c3, _, _, _, _, lc⟩ := tree_facts L1.box
      clear b1 HA
      go_wp2_with fail
      first | (go_ret; exact ⟨rfl, L1.below⟩) | (refine (atruth_any _ _).mono ?_; rintro e w2 ⟨rfl, hw⟩; subst hw; go_wp2_with fail; go_ret; exact ⟨rfl, L1.below⟩)
set_option maxRecDepth 100000 in
set_option maxHeartbeats 4000000 in
/-- Whatever has kids ends by a division by 0 if its first one does. -/
theorem of_zero (l : List (ByteArray × ByteArray)) (a : Tree) (ha : OfAt l a .zero) (op : List UInt8) (ks : List Tree) (h0 : op ≠ []) (h1 : op ≠ [36]) : OfAt l (.node op (a :: ks)) .zero := by
  intro o n m p k S w v h hV hE
  have main : ∀ (op : ByteArray) (b k : Nat) (hk : 0 < k) (o1 : ByteArray) (n1 : Int) (m1 : ByteArray) (p1 : Option Addr) (k1 : Nat) (rest : List Value), op.data.toList ≠ [] → op.data.toList ≠ [36] → RowIs w b 43 (.string o1 :: .int .i64 n1 :: .string m1 :: .slice p1 k1 k1 :: rest) → TreeAt w S o1 n1 m1 p1 k1 a →
      Calls Tryz.prog 14 #[.agg #[.string op, .int .i64 0, .string ⟨#[]⟩, .slice (some ⟨b, 0, none⟩) k k], v] w (ResPost .zero w) := by
    intro op b k hk o1 n1 m1 p1 k1 rest h0 h1 hrow ht
    have L0 := LawO.start w b k op
    have HA := Lib.hid (ha o1 n1 m1 p1 k1 S _ v (ht.under L0.below) (hV.below L0.below) (hE.keep L0.below))
    have a0 : w.cell? ⟨b, 0, none⟩ = some (.string o1) := by rw [hrow.cell]; rfl
    have a1 : w.cell? ⟨b, 1, none⟩ = some (.int .i64 n1) := by rw [hrow.cell]; rfl
    have a2 : w.cell? ⟨b, 2, none⟩ = some (.string m1) := by rw [hrow.cell]; rfl
    have a3 : w.cell? ⟨b, 3, none⟩ = some (.slice p1 k1 k1) := by rw [hrow.cell]; rfl
    have lb := hrow.lt
    have q0 : op.toList.isEmpty = false := by rw [Lib.toList_data]; cases hh : op.data.toList with | nil => exact absurd hh h0 | cons _ _ => rfl
    have q1 : (op.toList == [36]) = false := by rw [Lib.toList_data]; simpa using h1
    have hkz : (0 : Int) < (k : Int) := by omega
    clear hrow ht h0 h1 hk
    go_enter Tryz.func14, Tryz.ntmps14
    go_wp2_with fail
    refine HA.out.mono ?_; rintro e w1 ⟨rfl, b1⟩
    have L1 := L0.next b1
    clear b1 HA
    go_wp2_with fail
    exact ⟨rfl, rfl, L1.below⟩
  cases h with
  | one op b hb hrow ht => exact main o b 1 (by omega) _ _ _ _ _ _ h0 h1 hrow ht
  | two op b hb hrow ht _ => exact main o b 2 (by omega) _ _ _ _ _ _ h0 h1 hrow ht
  | three op b hb hrow ht _ _ => exact main o b 3 (by omega) _ _ _ _ _ _ h0 h1 hrow ht
end Go.Proofs.YtdfpijbngbfjaaaGreatDoor
