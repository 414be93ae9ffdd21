/-
  DERIVED. The walks of the reference's three (kinetoscoperef17): printed by gen_three.py.
-/
import Derived.Test.YtjpdhbalngpdpaaGreatDoorRv
namespace Go.Proofs.YtjpdhbalngpdpaaGreatDoor
open Go.RowKit
/-- What three hands back where it compares. -/
def cmpV (n : Int) : Value := .agg #[.int .i64 n, .bool false, .bool false, .string ⟨#[]⟩, .string ⟨#[]⟩]
theorem ref_facts {W : World} {b e : Nat} {x0 x1 x2 x3 x4 : Value} (r : RowIs W b e [x0, x1, x2, x3, x4]) :
    W.cell? ⟨b, 0, none⟩ = some x0 ∧ W.cell? ⟨b, 1, none⟩ = some x1 ∧ W.cell? ⟨b, 2, none⟩ = some x2 ∧ W.cell? ⟨b, 3, none⟩ = some x3 ∧ W.cell? ⟨b, 4, none⟩ = some x4 ∧ W.frozen? ⟨b, 0, none⟩ = false ∧ W.frozen? ⟨b, 1, none⟩ = false ∧ W.frozen? ⟨b, 2, none⟩ = false ∧ W.frozen? ⟨b, 3, none⟩ = false ∧ W.frozen? ⟨b, 4, none⟩ = false ∧ b < W.heap.size :=
  ⟨by rw [r.cell]; rfl, by rw [r.cell]; rfl, by rw [r.cell]; rfl, by rw [r.cell]; rfl, by rw [r.cell]; rfl, r.free _, r.free _, r.free _, r.free _, r.free _, r.lt⟩
/-- The block of the result, as it begins. -/
def refZ : List Value := [.int .i64 0, .bool false, .bool false, .string ⟨#[]⟩, .string ⟨#[]⟩]
def three (w : World) : World := w.alloc (.cells #[.int .i64 0, .bool false, .bool false, .string ⟨#[]⟩, .string ⟨#[]⟩] 29)
set_option maxRecDepth 100000 in
set_option maxHeartbeats 8000000 in
theorem r3_same (a b : ByteArray) (t : Bool) (ht : (a.toList == b.toList) = t) (n : Int) (hn : truthF (t) = n) (w : World) :
    Calls Tryz.prog 22 #[.string a, .string ⟨#[61]⟩, .string b] w fun e w' => e = .returned (.tuple #[cmpV n, .bool true]) ∧ Below w.heap.size w w' := by
  have HT := Lib.hid (rtruth_at (t) n hn)
  clear hn
  go_enter Tryz.func22, Tryz.ntmps22
  go_wp2_with fail
  refine (HT.out _).mono ?_; rintro e w1 ⟨rfl, hb1⟩
  have r1 := (RowIs.new w 29 [.int .i64 0, .bool false, .bool false, .string ⟨#[]⟩, .string ⟨#[]⟩]).below hb1
  have B1 := ((Below.refl w.heap.size w).alloc (Nat.le_refl _) (.cells #[.int .i64 0, .bool false, .bool false, .string ⟨#[]⟩, .string ⟨#[]⟩] 29)).trans (hb1.mono (by simp))
  obtain ⟨k0, k1, k2, k3, k4, f0, f1, f2, f3, f4, l1⟩ := ref_facts r1
  clear r1 hb1
  go_wp2_with fail
  exact bodyPost_ret (v := .tuple #[cmpV n, .bool true]) (by simp [results, Tryz.results22, go_sem, cmpV, k0, k1, k2, k3, k4]) rfl ⟨rfl, ((((B1.setCell (Nat.le_refl _) _).setCell (Nat.le_refl _) _).setCell (Nat.le_refl _) _).setCell (Nat.le_refl _) _).setCell (Nat.le_refl _) _⟩
set_option maxRecDepth 100000 in
set_option maxHeartbeats 8000000 in
theorem r3_other (a b : ByteArray) (t : Bool) (ht : (a.toList == b.toList) = t) (n : Int) (hn : truthF (!t) = n) (w : World) :
    Calls Tryz.prog 22 #[.string a, .string ⟨#[33, 61]⟩, .string b] w fun e w' => e = .returned (.tuple #[cmpV n, .bool true]) ∧ Below w.heap.size w w' := by
  have hne : (a.toList != b.toList) = !t := by rw [← ht]; rfl
  have HT := Lib.hid (rtruth_at (!t) n hn)
  clear hn
  go_enter Tryz.func22, Tryz.ntmps22
  go_wp2_with fail
  refine (HT.out _).mono ?_; rintro e w1 ⟨rfl, hb1⟩
  have r1 := (RowIs.new w 29 [.int .i64 0, .bool false, .bool false, .string ⟨#[]⟩, .string ⟨#[]⟩]).below hb1
  have B1 := ((Below.refl w.heap.size w).alloc (Nat.le_refl _) (.cells #[.int .i64 0, .bool false, .bool false, .string ⟨#[]⟩, .string ⟨#[]⟩] 29)).trans (hb1.mono (by simp))
  obtain ⟨k0, k1, k2, k3, k4, f0, f1, f2, f3, f4, l1⟩ := ref_facts r1
  clear r1 hb1
  go_wp2_with fail
  exact bodyPost_ret (v := .tuple #[cmpV n, .bool true]) (by simp [results, Tryz.results22, go_sem, cmpV, k0, k1, k2, k3, k4]) rfl ⟨rfl, ((((B1.setCell (Nat.le_refl _) _).setCell (Nat.le_refl _) _).setCell (Nat.le_refl _) _).setCell (Nat.le_refl _) _).setCell (Nat.le_refl _) _⟩
set_option maxRecDepth 100000 in
set_option maxHeartbeats 8000000 in
theorem r3_eq_tt (a b : ByteArray) (ha : a.size ≤ 281474976710656) (hb : b.size ≤ 281474976710656) (x y : Int) (hx : tnumF a = (x, true)) (hy : tnumF b = (y, true)) (w : World) :
    Calls Tryz.prog 22 #[.string a, .string ⟨#[45, 101, 113]⟩, .string b] w fun e w' => e = .returned (.tuple #[cmpV (truthF ((x == y))), .bool true]) ∧ Below w.heap.size w w' := by
  have H1 := Lib.hid (rnum17 a ha x true hx)
  have H2 := Lib.hid (rnum17 b hb y true hy)
  clear hx hy
  go_enter Tryz.func22, Tryz.ntmps22
  go_wp2_with fail
  refine (H1.out _).mono ?_; rintro e w1 ⟨rfl, rfl⟩
  go_wp2_with fail
  refine (H2.out _).mono ?_; rintro e w1 ⟨rfl, rfl⟩
  go_wp2_with fail
  refine (rtruth_at _ _ rfl _).mono ?_; rintro e w1 ⟨rfl, hb1⟩
  obtain ⟨n, hn⟩ : ∃ n, n = truthF ((x == y)) := ⟨_, rfl⟩
  rw [← hn]
  have HN := Lib.hid hn
  clear hn
  have r1 := (RowIs.new w 29 [.int .i64 0, .bool false, .bool false, .string ⟨#[]⟩, .string ⟨#[]⟩]).below hb1
  have B1 := ((Below.refl w.heap.size w).alloc (Nat.le_refl _) (.cells #[.int .i64 0, .bool false, .bool false, .string ⟨#[]⟩, .string ⟨#[]⟩] 29)).trans (hb1.mono (by simp))
  obtain ⟨k0, k1, k2, k3, k4, f0, f1, f2, f3, f4, l1⟩ := ref_facts r1
  clear r1 hb1
  go_wp2_with fail
  exact bodyPost_ret (v := .tuple #[cmpV n, .bool true]) (by simp [results, Tryz.results22, go_sem, cmpV, k0, k1, k2, k3, k4]) rfl ⟨by rw [HN.out], ((((B1.setCell (Nat.le_refl _) _).setCell (Nat.le_refl _) _).setCell (Nat.le_refl _) _).setCell (Nat.le_refl _) _).setCell (Nat.le_refl _) _⟩
set_option maxRecDepth 100000 in
set_option maxHeartbeats 8000000 in
theorem r3_eq_tf (a b : ByteArray) (ha : a.size ≤ 281474976710656) (hb : b.size ≤ 281474976710656) (x y : Int) (hx : tnumF a = (x, true)) (hy : tnumF b = (y, false)) (w : World) :
    Calls Tryz.prog 22 #[.string a, .string ⟨#[45, 101, 113]⟩, .string b] w fun e w' => e = .returned (.tuple #[cmpV 2, .bool true]) ∧ Below w.heap.size w w' := by
  have H1 := Lib.hid (rnum17 a ha x true hx)
  have H2 := Lib.hid (rnum17 b hb y false hy)
  clear hx hy
  go_enter Tryz.func22, Tryz.ntmps22
  go_wp2_with fail
  refine (H1.out _).mono ?_; rintro e w1 ⟨rfl, rfl⟩
  go_wp2_with fail
  refine (H2.out _).mono ?_; rintro e w1 ⟨rfl, rfl⟩
  go_wp2_with fail
  exact bodyPost_ret (v := .tuple #[cmpV 2, .bool true]) (by simp [results, Tryz.results22, go_sem, cmpV]) rfl ⟨rfl, by go_grown⟩
set_option maxRecDepth 100000 in
set_option maxHeartbeats 8000000 in
theorem r3_eq_ft (a b : ByteArray) (ha : a.size ≤ 281474976710656) (hb : b.size ≤ 281474976710656) (x y : Int) (hx : tnumF a = (x, false)) (hy : tnumF b = (y, true)) (w : World) :
    Calls Tryz.prog 22 #[.string a, .string ⟨#[45, 101, 113]⟩, .string b] w fun e w' => e = .returned (.tuple #[cmpV 2, .bool true]) ∧ Below w.heap.size w w' := by
  have H1 := Lib.hid (rnum17 a ha x false hx)
  have H2 := Lib.hid (rnum17 b hb y true hy)
  clear hx hy
  go_enter Tryz.func22, Tryz.ntmps22
  go_wp2_with fail
  refine (H1.out _).mono ?_; rintro e w1 ⟨rfl, rfl⟩
  go_wp2_with fail
  refine (H2.out _).mono ?_; rintro e w1 ⟨rfl, rfl⟩
  go_wp2_with fail
  exact bodyPost_ret (v := .tuple #[cmpV 2, .bool true]) (by simp [results, Tryz.results22, go_sem, cmpV]) rfl ⟨rfl, by go_grown⟩
set_option maxRecDepth 100000 in
set_option maxHeartbeats 8000000 in
theorem r3_eq_ff (a b : ByteArray) (ha : a.size ≤ 281474976710656) (hb : b.size ≤ 281474976710656) (x y : Int) (hx : tnumF a = (x, false)) (hy : tnumF b = (y, false)) (w : World) :
    Calls Tryz.prog 22 #[.string a, .string ⟨#[45, 101, 113]⟩, .string b] w fun e w' => e = .returned (.tuple #[cmpV 2, .bool true]) ∧ Below w.heap.size w w' := by
  have H1 := Lib.hid (rnum17 a ha x false hx)
  have H2 := Lib.hid (rnum17 b hb y false hy)
  clear hx hy
  go_enter Tryz.func22, Tryz.ntmps22
  go_wp2_with fail
  refine (H1.out _).mono ?_; rintro e w1 ⟨rfl, rfl⟩
  go_wp2_with fail
  refine (H2.out _).mono ?_; rintro e w1 ⟨rfl, rfl⟩
  go_wp2_with fail
  exact bodyPost_ret (v := .tuple #[cmpV 2, .bool true]) (by simp [results, Tryz.results22, go_sem, cmpV]) rfl ⟨rfl, by go_grown⟩
set_option maxRecDepth 100000 in
set_option maxHeartbeats 8000000 in
theorem r3_ne_tt (a b : ByteArray) (ha : a.size ≤ 281474976710656) (hb : b.size ≤ 281474976710656) (x y : Int) (hx : tnumF a = (x, true)) (hy : tnumF b = (y, true)) (w : World) :
    Calls Tryz.prog 22 #[.string a, .string ⟨#[45, 110, 101]⟩, .string b] w fun e w' => e = .returned (.tuple #[cmpV (truthF ((x != y))), .bool true]) ∧ Below w.heap.size w w' := by
  have H1 := Lib.hid (rnum17 a ha x true hx)
  have H2 := Lib.hid (rnum17 b hb y true hy)
  clear hx hy
  go_enter Tryz.func22, Tryz.ntmps22
  go_wp2_with fail
  refine (H1.out _).mono ?_; rintro e w1 ⟨rfl, rfl⟩
  go_wp2_with fail
  refine (H2.out _).mono ?_; rintro e w1 ⟨rfl, rfl⟩
  go_wp2_with fail
  refine (rtruth_at _ _ rfl _).mono ?_; rintro e w1 ⟨rfl, hb1⟩
  obtain ⟨n, hn⟩ : ∃ n, n = truthF ((x != y)) := ⟨_, rfl⟩
  rw [← hn]
  have HN := Lib.hid hn
  clear hn
  have r1 := (RowIs.new w 29 [.int .i64 0, .bool false, .bool false, .string ⟨#[]⟩, .string ⟨#[]⟩]).below hb1
  have B1 := ((Below.refl w.heap.size w).alloc (Nat.le_refl _) (.cells #[.int .i64 0, .bool false, .bool false, .string ⟨#[]⟩, .string ⟨#[]⟩] 29)).trans (hb1.mono (by simp))
  obtain ⟨k0, k1, k2, k3, k4, f0, f1, f2, f3, f4, l1⟩ := ref_facts r1
  clear r1 hb1
  go_wp2_with fail
  exact bodyPost_ret (v := .tuple #[cmpV n, .bool true]) (by simp [results, Tryz.results22, go_sem, cmpV, k0, k1, k2, k3, k4]) rfl ⟨by rw [HN.out], ((((B1.setCell (Nat.le_refl _) _).setCell (Nat.le_refl _) _).setCell (Nat.le_refl _) _).setCell (Nat.le_refl _) _).setCell (Nat.le_refl _) _⟩
set_option maxRecDepth 100000 in
set_option maxHeartbeats 8000000 in
theorem r3_ne_tf (a b : ByteArray) (ha : a.size ≤ 281474976710656) (hb : b.size ≤ 281474976710656) (x y : Int) (hx : tnumF a = (x, true)) (hy : tnumF b = (y, false)) (w : World) :
    Calls Tryz.prog 22 #[.string a, .string ⟨#[45, 110, 101]⟩, .string b] w fun e w' => e = .returned (.tuple #[cmpV 2, .bool true]) ∧ Below w.heap.size w w' := by
  have H1 := Lib.hid (rnum17 a ha x true hx)
  have H2 := Lib.hid (rnum17 b hb y false hy)
  clear hx hy
  go_enter Tryz.func22, Tryz.ntmps22
  go_wp2_with fail
  refine (H1.out _).mono ?_; rintro e w1 ⟨rfl, rfl⟩
  go_wp2_with fail
  refine (H2.out _).mono ?_; rintro e w1 ⟨rfl, rfl⟩
  go_wp2_with fail
  exact bodyPost_ret (v := .tuple #[cmpV 2, .bool true]) (by simp [results, Tryz.results22, go_sem, cmpV]) rfl ⟨rfl, by go_grown⟩
set_option maxRecDepth 100000 in
set_option maxHeartbeats 8000000 in
theorem r3_ne_ft (a b : ByteArray) (ha : a.size ≤ 281474976710656) (hb : b.size ≤ 281474976710656) (x y : Int) (hx : tnumF a = (x, false)) (hy : tnumF b = (y, true)) (w : World) :
    Calls Tryz.prog 22 #[.string a, .string ⟨#[45, 110, 101]⟩, .string b] w fun e w' => e = .returned (.tuple #[cmpV 2, .bool true]) ∧ Below w.heap.size w w' := by
  have H1 := Lib.hid (rnum17 a ha x false hx)
  have H2 := Lib.hid (rnum17 b hb y true hy)
  clear hx hy
  go_enter Tryz.func22, Tryz.ntmps22
  go_wp2_with fail
  refine (H1.out _).mono ?_; rintro e w1 ⟨rfl, rfl⟩
  go_wp2_with fail
  refine (H2.out _).mono ?_; rintro e w1 ⟨rfl, rfl⟩
  go_wp2_with fail
  exact bodyPost_ret (v := .tuple #[cmpV 2, .bool true]) (by simp [results, Tryz.results22, go_sem, cmpV]) rfl ⟨rfl, by go_grown⟩
set_option maxRecDepth 100000 in
set_option maxHeartbeats 8000000 in
theorem r3_ne_ff (a b : ByteArray) (ha : a.size ≤ 281474976710656) (hb : b.size ≤ 281474976710656) (x y : Int) (hx : tnumF a = (x, false)) (hy : tnumF b = (y, false)) (w : World) :
    Calls Tryz.prog 22 #[.string a, .string ⟨#[45, 110, 101]⟩, .string b] w fun e w' => e = .returned (.tuple #[cmpV 2, .bool true]) ∧ Below w.heap.size w w' := by
  have H1 := Lib.hid (rnum17 a ha x false hx)
  have H2 := Lib.hid (rnum17 b hb y false hy)
  clear hx hy
  go_enter Tryz.func22, Tryz.ntmps22
  go_wp2_with fail
  refine (H1.out _).mono ?_; rintro e w1 ⟨rfl, rfl⟩
  go_wp2_with fail
  refine (H2.out _).mono ?_; rintro e w1 ⟨rfl, rfl⟩
  go_wp2_with fail
  exact bodyPost_ret (v := .tuple #[cmpV 2, .bool true]) (by simp [results, Tryz.results22, go_sem, cmpV]) rfl ⟨rfl, by go_grown⟩
set_option maxRecDepth 100000 in
set_option maxHeartbeats 8000000 in
theorem r3_lt_tt (a b : ByteArray) (ha : a.size ≤ 281474976710656) (hb : b.size ≤ 281474976710656) (x y : Int) (hx : tnumF a = (x, true)) (hy : tnumF b = (y, true)) (w : World) :
    Calls Tryz.prog 22 #[.string a, .string ⟨#[45, 108, 116]⟩, .string b] w fun e w' => e = .returned (.tuple #[cmpV (truthF (decide (x < y))), .bool true]) ∧ Below w.heap.size w w' := by
  have H1 := Lib.hid (rnum17 a ha x true hx)
  have H2 := Lib.hid (rnum17 b hb y true hy)
  clear hx hy
  go_enter Tryz.func22, Tryz.ntmps22
  go_wp2_with fail
  refine (H1.out _).mono ?_; rintro e w1 ⟨rfl, rfl⟩
  go_wp2_with fail
  refine (H2.out _).mono ?_; rintro e w1 ⟨rfl, rfl⟩
  go_wp2_with fail
  refine (rtruth_at _ _ rfl _).mono ?_; rintro e w1 ⟨rfl, hb1⟩
  obtain ⟨n, hn⟩ : ∃ n, n = truthF (decide (x < y)) := ⟨_, rfl⟩
  rw [← hn]
  have HN := Lib.hid hn
  clear hn
  have r1 := (RowIs.new w 29 [.int .i64 0, .bool false, .bool false, .string ⟨#[]⟩, .string ⟨#[]⟩]).below hb1
  have B1 := ((Below.refl w.heap.size w).alloc (Nat.le_refl _) (.cells #[.int .i64 0, .bool false, .bool false, .string ⟨#[]⟩, .string ⟨#[]⟩] 29)).trans (hb1.mono (by simp))
  obtain ⟨k0, k1, k2, k3, k4, f0, f1, f2, f3, f4, l1⟩ := ref_facts r1
  clear r1 hb1
  go_wp2_with fail
  exact bodyPost_ret (v := .tuple #[cmpV n, .bool true]) (by simp [results, Tryz.results22, go_sem, cmpV, k0, k1, k2, k3, k4]) rfl ⟨by rw [HN.out], ((((B1.setCell (Nat.le_refl _) _).setCell (Nat.le_refl _) _).setCell (Nat.le_refl _) _).setCell (Nat.le_refl _) _).setCell (Nat.le_refl _) _⟩
set_option maxRecDepth 100000 in
set_option maxHeartbeats 8000000 in
theorem r3_lt_tf (a b : ByteArray) (ha : a.size ≤ 281474976710656) (hb : b.size ≤ 281474976710656) (x y : Int) (hx : tnumF a = (x, true)) (hy : tnumF b = (y, false)) (w : World) :
    Calls Tryz.prog 22 #[.string a, .string ⟨#[45, 108, 116]⟩, .string b] w fun e w' => e = .returned (.tuple #[cmpV 2, .bool true]) ∧ Below w.heap.size w w' := by
  have H1 := Lib.hid (rnum17 a ha x true hx)
  have H2 := Lib.hid (rnum17 b hb y false hy)
  clear hx hy
  go_enter Tryz.func22, Tryz.ntmps22
  go_wp2_with fail
  refine (H1.out _).mono ?_; rintro e w1 ⟨rfl, rfl⟩
  go_wp2_with fail
  refine (H2.out _).mono ?_; rintro e w1 ⟨rfl, rfl⟩
  go_wp2_with fail
  exact bodyPost_ret (v := .tuple #[cmpV 2, .bool true]) (by simp [results, Tryz.results22, go_sem, cmpV]) rfl ⟨rfl, by go_grown⟩
set_option maxRecDepth 100000 in
set_option maxHeartbeats 8000000 in
theorem r3_lt_ft (a b : ByteArray) (ha : a.size ≤ 281474976710656) (hb : b.size ≤ 281474976710656) (x y : Int) (hx : tnumF a = (x, false)) (hy : tnumF b = (y, true)) (w : World) :
    Calls Tryz.prog 22 #[.string a, .string ⟨#[45, 108, 116]⟩, .string b] w fun e w' => e = .returned (.tuple #[cmpV 2, .bool true]) ∧ Below w.heap.size w w' := by
  have H1 := Lib.hid (rnum17 a ha x false hx)
  have H2 := Lib.hid (rnum17 b hb y true hy)
  clear hx hy
  go_enter Tryz.func22, Tryz.ntmps22
  go_wp2_with fail
  refine (H1.out _).mono ?_; rintro e w1 ⟨rfl, rfl⟩
  go_wp2_with fail
  refine (H2.out _).mono ?_; rintro e w1 ⟨rfl, rfl⟩
  go_wp2_with fail
  exact bodyPost_ret (v := .tuple #[cmpV 2, .bool true]) (by simp [results, Tryz.results22, go_sem, cmpV]) rfl ⟨rfl, by go_grown⟩
set_option maxRecDepth 100000 in
set_option maxHeartbeats 8000000 in
theorem r3_lt_ff (a b : ByteArray) (ha : a.size ≤ 281474976710656) (hb : b.size ≤ 281474976710656) (x y : Int) (hx : tnumF a = (x, false)) (hy : tnumF b = (y, false)) (w : World) :
    Calls Tryz.prog 22 #[.string a, .string ⟨#[45, 108, 116]⟩, .string b] w fun e w' => e = .returned (.tuple #[cmpV 2, .bool true]) ∧ Below w.heap.size w w' := by
  have H1 := Lib.hid (rnum17 a ha x false hx)
  have H2 := Lib.hid (rnum17 b hb y false hy)
  clear hx hy
  go_enter Tryz.func22, Tryz.ntmps22
  go_wp2_with fail
  refine (H1.out _).mono ?_; rintro e w1 ⟨rfl, rfl⟩
  go_wp2_with fail
  refine (H2.out _).mono ?_; rintro e w1 ⟨rfl, rfl⟩
  go_wp2_with fail
  exact bodyPost_ret (v := .tuple #[cmpV 2, .bool true]) (by simp [results, Tryz.results22, go_sem, cmpV]) rfl ⟨rfl, by go_grown⟩
set_option maxRecDepth 100000 in
set_option maxHeartbeats 8000000 in
theorem r3_le_tt (a b : ByteArray) (ha : a.size ≤ 281474976710656) (hb : b.size ≤ 281474976710656) (x y : Int) (hx : tnumF a = (x, true)) (hy : tnumF b = (y, true)) (w : World) :
    Calls Tryz.prog 22 #[.string a, .string ⟨#[45, 108, 101]⟩, .string b] w fun e w' => e = .returned (.tuple #[cmpV (truthF (decide (x ≤ y))), .bool true]) ∧ Below w.heap.size w w' := by
  have H1 := Lib.hid (rnum17 a ha x true hx)
  have H2 := Lib.hid (rnum17 b hb y true hy)
  clear hx hy
  go_enter Tryz.func22, Tryz.ntmps22
  go_wp2_with fail
  refine (H1.out _).mono ?_; rintro e w1 ⟨rfl, rfl⟩
  go_wp2_with fail
  refine (H2.out _).mono ?_; rintro e w1 ⟨rfl, rfl⟩
  go_wp2_with fail
  refine (rtruth_at _ _ rfl _).mono ?_; rintro e w1 ⟨rfl, hb1⟩
  obtain ⟨n, hn⟩ : ∃ n, n = truthF (decide (x ≤ y)) := ⟨_, rfl⟩
  rw [← hn]
  have HN := Lib.hid hn
  clear hn
  have r1 := (RowIs.new w 29 [.int .i64 0, .bool false, .bool false, .string ⟨#[]⟩, .string ⟨#[]⟩]).below hb1
  have B1 := ((Below.refl w.heap.size w).alloc (Nat.le_refl _) (.cells #[.int .i64 0, .bool false, .bool false, .string ⟨#[]⟩, .string ⟨#[]⟩] 29)).trans (hb1.mono (by simp))
  obtain ⟨k0, k1, k2, k3, k4, f0, f1, f2, f3, f4, l1⟩ := ref_facts r1
  clear r1 hb1
  go_wp2_with fail
  exact bodyPost_ret (v := .tuple #[cmpV n, .bool true]) (by simp [results, Tryz.results22, go_sem, cmpV, k0, k1, k2, k3, k4]) rfl ⟨by rw [HN.out], ((((B1.setCell (Nat.le_refl _) _).setCell (Nat.le_refl _) _).setCell (Nat.le_refl _) _).setCell (Nat.le_refl _) _).setCell (Nat.le_refl _) _⟩
set_option maxRecDepth 100000 in
set_option maxHeartbeats 8000000 in
theorem r3_le_tf (a b : ByteArray) (ha : a.size ≤ 281474976710656) (hb : b.size ≤ 281474976710656) (x y : Int) (hx : tnumF a = (x, true)) (hy : tnumF b = (y, false)) (w : World) :
    Calls Tryz.prog 22 #[.string a, .string ⟨#[45, 108, 101]⟩, .string b] w fun e w' => e = .returned (.tuple #[cmpV 2, .bool true]) ∧ Below w.heap.size w w' := by
  have H1 := Lib.hid (rnum17 a ha x true hx)
  have H2 := Lib.hid (rnum17 b hb y false hy)
  clear hx hy
  go_enter Tryz.func22, Tryz.ntmps22
  go_wp2_with fail
  refine (H1.out _).mono ?_; rintro e w1 ⟨rfl, rfl⟩
  go_wp2_with fail
  refine (H2.out _).mono ?_; rintro e w1 ⟨rfl, rfl⟩
  go_wp2_with fail
  exact bodyPost_ret (v := .tuple #[cmpV 2, .bool true]) (by simp [results, Tryz.results22, go_sem, cmpV]) rfl ⟨rfl, by go_grown⟩
set_option maxRecDepth 100000 in
set_option maxHeartbeats 8000000 in
theorem r3_le_ft (a b : ByteArray) (ha : a.size ≤ 281474976710656) (hb : b.size ≤ 281474976710656) (x y : Int) (hx : tnumF a = (x, false)) (hy : tnumF b = (y, true)) (w : World) :
    Calls Tryz.prog 22 #[.string a, .string ⟨#[45, 108, 101]⟩, .string b] w fun e w' => e = .returned (.tuple #[cmpV 2, .bool true]) ∧ Below w.heap.size w w' := by
  have H1 := Lib.hid (rnum17 a ha x false hx)
  have H2 := Lib.hid (rnum17 b hb y true hy)
  clear hx hy
  go_enter Tryz.func22, Tryz.ntmps22
  go_wp2_with fail
  refine (H1.out _).mono ?_; rintro e w1 ⟨rfl, rfl⟩
  go_wp2_with fail
  refine (H2.out _).mono ?_; rintro e w1 ⟨rfl, rfl⟩
  go_wp2_with fail
  exact bodyPost_ret (v := .tuple #[cmpV 2, .bool true]) (by simp [results, Tryz.results22, go_sem, cmpV]) rfl ⟨rfl, by go_grown⟩
set_option maxRecDepth 100000 in
set_option maxHeartbeats 8000000 in
theorem r3_le_ff (a b : ByteArray) (ha : a.size ≤ 281474976710656) (hb : b.size ≤ 281474976710656) (x y : Int) (hx : tnumF a = (x, false)) (hy : tnumF b = (y, false)) (w : World) :
    Calls Tryz.prog 22 #[.string a, .string ⟨#[45, 108, 101]⟩, .string b] w fun e w' => e = .returned (.tuple #[cmpV 2, .bool true]) ∧ Below w.heap.size w w' := by
  have H1 := Lib.hid (rnum17 a ha x false hx)
  have H2 := Lib.hid (rnum17 b hb y false hy)
  clear hx hy
  go_enter Tryz.func22, Tryz.ntmps22
  go_wp2_with fail
  refine (H1.out _).mono ?_; rintro e w1 ⟨rfl, rfl⟩
  go_wp2_with fail
  refine (H2.out _).mono ?_; rintro e w1 ⟨rfl, rfl⟩
  go_wp2_with fail
  exact bodyPost_ret (v := .tuple #[cmpV 2, .bool true]) (by simp [results, Tryz.results22, go_sem, cmpV]) rfl ⟨rfl, by go_grown⟩
set_option maxRecDepth 100000 in
set_option maxHeartbeats 8000000 in
theorem r3_gt_tt (a b : ByteArray) (ha : a.size ≤ 281474976710656) (hb : b.size ≤ 281474976710656) (x y : Int) (hx : tnumF a = (x, true)) (hy : tnumF b = (y, true)) (w : World) :
    Calls Tryz.prog 22 #[.string a, .string ⟨#[45, 103, 116]⟩, .string b] w fun e w' => e = .returned (.tuple #[cmpV (truthF (decide (y < x))), .bool true]) ∧ Below w.heap.size w w' := by
  have H1 := Lib.hid (rnum17 a ha x true hx)
  have H2 := Lib.hid (rnum17 b hb y true hy)
  clear hx hy
  go_enter Tryz.func22, Tryz.ntmps22
  go_wp2_with fail
  refine (H1.out _).mono ?_; rintro e w1 ⟨rfl, rfl⟩
  go_wp2_with fail
  refine (H2.out _).mono ?_; rintro e w1 ⟨rfl, rfl⟩
  go_wp2_with fail
  refine (rtruth_at _ _ rfl _).mono ?_; rintro e w1 ⟨rfl, hb1⟩
  obtain ⟨n, hn⟩ : ∃ n, n = truthF (decide (y < x)) := ⟨_, rfl⟩
  rw [← hn]
  have HN := Lib.hid hn
  clear hn
  have r1 := (RowIs.new w 29 [.int .i64 0, .bool false, .bool false, .string ⟨#[]⟩, .string ⟨#[]⟩]).below hb1
  have B1 := ((Below.refl w.heap.size w).alloc (Nat.le_refl _) (.cells #[.int .i64 0, .bool false, .bool false, .string ⟨#[]⟩, .string ⟨#[]⟩] 29)).trans (hb1.mono (by simp))
  obtain ⟨k0, k1, k2, k3, k4, f0, f1, f2, f3, f4, l1⟩ := ref_facts r1
  clear r1 hb1
  go_wp2_with fail
  exact bodyPost_ret (v := .tuple #[cmpV n, .bool true]) (by simp [results, Tryz.results22, go_sem, cmpV, k0, k1, k2, k3, k4]) rfl ⟨by rw [HN.out], ((((B1.setCell (Nat.le_refl _) _).setCell (Nat.le_refl _) _).setCell (Nat.le_refl _) _).setCell (Nat.le_refl _) _).setCell (Nat.le_refl _) _⟩
set_option maxRecDepth 100000 in
set_option maxHeartbeats 8000000 in
theorem r3_gt_tf (a b : ByteArray) (ha : a.size ≤ 281474976710656) (hb : b.size ≤ 281474976710656) (x y : Int) (hx : tnumF a = (x, true)) (hy : tnumF b = (y, false)) (w : World) :
    Calls Tryz.prog 22 #[.string a, .string ⟨#[45, 103, 116]⟩, .string b] w fun e w' => e = .returned (.tuple #[cmpV 2, .bool true]) ∧ Below w.heap.size w w' := by
  have H1 := Lib.hid (rnum17 a ha x true hx)
  have H2 := Lib.hid (rnum17 b hb y false hy)
  clear hx hy
  go_enter Tryz.func22, Tryz.ntmps22
  go_wp2_with fail
  refine (H1.out _).mono ?_; rintro e w1 ⟨rfl, rfl⟩
  go_wp2_with fail
  refine (H2.out _).mono ?_; rintro e w1 ⟨rfl, rfl⟩
  go_wp2_with fail
  exact bodyPost_ret (v := .tuple #[cmpV 2, .bool true]) (by simp [results, Tryz.results22, go_sem, cmpV]) rfl ⟨rfl, by go_grown⟩
set_option maxRecDepth 100000 in
set_option maxHeartbeats 8000000 in
theorem r3_gt_ft (a b : ByteArray) (ha : a.size ≤ 281474976710656) (hb : b.size ≤ 281474976710656) (x y : Int) (hx : tnumF a = (x, false)) (hy : tnumF b = (y, true)) (w : World) :
    Calls Tryz.prog 22 #[.string a, .string ⟨#[45, 103, 116]⟩, .string b] w fun e w' => e = .returned (.tuple #[cmpV 2, .bool true]) ∧ Below w.heap.size w w' := by
  have H1 := Lib.hid (rnum17 a ha x false hx)
  have H2 := Lib.hid (rnum17 b hb y true hy)
  clear hx hy
  go_enter Tryz.func22, Tryz.ntmps22
  go_wp2_with fail
  refine (H1.out _).mono ?_; rintro e w1 ⟨rfl, rfl⟩
  go_wp2_with fail
  refine (H2.out _).mono ?_; rintro e w1 ⟨rfl, rfl⟩
  go_wp2_with fail
  exact bodyPost_ret (v := .tuple #[cmpV 2, .bool true]) (by simp [results, Tryz.results22, go_sem, cmpV]) rfl ⟨rfl, by go_grown⟩
set_option maxRecDepth 100000 in
set_option maxHeartbeats 8000000 in
theorem r3_gt_ff (a b : ByteArray) (ha : a.size ≤ 281474976710656) (hb : b.size ≤ 281474976710656) (x y : Int) (hx : tnumF a = (x, false)) (hy : tnumF b = (y, false)) (w : World) :
    Calls Tryz.prog 22 #[.string a, .string ⟨#[45, 103, 116]⟩, .string b] w fun e w' => e = .returned (.tuple #[cmpV 2, .bool true]) ∧ Below w.heap.size w w' := by
  have H1 := Lib.hid (rnum17 a ha x false hx)
  have H2 := Lib.hid (rnum17 b hb y false hy)
  clear hx hy
  go_enter Tryz.func22, Tryz.ntmps22
  go_wp2_with fail
  refine (H1.out _).mono ?_; rintro e w1 ⟨rfl, rfl⟩
  go_wp2_with fail
  refine (H2.out _).mono ?_; rintro e w1 ⟨rfl, rfl⟩
  go_wp2_with fail
  exact bodyPost_ret (v := .tuple #[cmpV 2, .bool true]) (by simp [results, Tryz.results22, go_sem, cmpV]) rfl ⟨rfl, by go_grown⟩
set_option maxRecDepth 100000 in
set_option maxHeartbeats 8000000 in
theorem r3_ge_tt (a b : ByteArray) (ha : a.size ≤ 281474976710656) (hb : b.size ≤ 281474976710656) (x y : Int) (hx : tnumF a = (x, true)) (hy : tnumF b = (y, true)) (w : World) :
    Calls Tryz.prog 22 #[.string a, .string ⟨#[45, 103, 101]⟩, .string b] w fun e w' => e = .returned (.tuple #[cmpV (truthF (decide (y ≤ x))), .bool true]) ∧ Below w.heap.size w w' := by
  have H1 := Lib.hid (rnum17 a ha x true hx)
  have H2 := Lib.hid (rnum17 b hb y true hy)
  clear hx hy
  go_enter Tryz.func22, Tryz.ntmps22
  go_wp2_with fail
  refine (H1.out _).mono ?_; rintro e w1 ⟨rfl, rfl⟩
  go_wp2_with fail
  refine (H2.out _).mono ?_; rintro e w1 ⟨rfl, rfl⟩
  go_wp2_with fail
  refine (rtruth_at _ _ rfl _).mono ?_; rintro e w1 ⟨rfl, hb1⟩
  obtain ⟨n, hn⟩ : ∃ n, n = truthF (decide (y ≤ x)) := ⟨_, rfl⟩
  rw [← hn]
  have HN := Lib.hid hn
  clear hn
  have r1 := (RowIs.new w 29 [.int .i64 0, .bool false, .bool false, .string ⟨#[]⟩, .string ⟨#[]⟩]).below hb1
  have B1 := ((Below.refl w.heap.size w).alloc (Nat.le_refl _) (.cells #[.int .i64 0, .bool false, .bool false, .string ⟨#[]⟩, .string ⟨#[]⟩] 29)).trans (hb1.mono (by simp))
  obtain ⟨k0, k1, k2, k3, k4, f0, f1, f2, f3, f4, l1⟩ := ref_facts r1
  clear r1 hb1
  go_wp2_with fail
  exact bodyPost_ret (v := .tuple #[cmpV n, .bool true]) (by simp [results, Tryz.results22, go_sem, cmpV, k0, k1, k2, k3, k4]) rfl ⟨by rw [HN.out], ((((B1.setCell (Nat.le_refl _) _).setCell (Nat.le_refl _) _).setCell (Nat.le_refl _) _).setCell (Nat.le_refl _) _).setCell (Nat.le_refl _) _⟩
set_option maxRecDepth 100000 in
set_option maxHeartbeats 8000000 in
theorem r3_ge_tf (a b : ByteArray) (ha : a.size ≤ 281474976710656) (hb : b.size ≤ 281474976710656) (x y : Int) (hx : tnumF a = (x, true)) (hy : tnumF b = (y, false)) (w : World) :
    Calls Tryz.prog 22 #[.string a, .string ⟨#[45, 103, 101]⟩, .string b] w fun e w' => e = .returned (.tuple #[cmpV 2, .bool true]) ∧ Below w.heap.size w w' := by
  have H1 := Lib.hid (rnum17 a ha x true hx)
  have H2 := Lib.hid (rnum17 b hb y false hy)
  clear hx hy
  go_enter Tryz.func22, Tryz.ntmps22
  go_wp2_with fail
  refine (H1.out _).mono ?_; rintro e w1 ⟨rfl, rfl⟩
  go_wp2_with fail
  refine (H2.out _).mono ?_; rintro e w1 ⟨rfl, rfl⟩
  go_wp2_with fail
  exact bodyPost_ret (v := .tuple #[cmpV 2, .bool true]) (by simp [results, Tryz.results22, go_sem, cmpV]) rfl ⟨rfl, by go_grown⟩
set_option maxRecDepth 100000 in
set_option maxHeartbeats 8000000 in
theorem r3_ge_ft (a b : ByteArray) (ha : a.size ≤ 281474976710656) (hb : b.size ≤ 281474976710656) (x y : Int) (hx : tnumF a = (x, false)) (hy : tnumF b = (y, true)) (w : World) :
    Calls Tryz.prog 22 #[.string a, .string ⟨#[45, 103, 101]⟩, .string b] w fun e w' => e = .returned (.tuple #[cmpV 2, .bool true]) ∧ Below w.heap.size w w' := by
  have H1 := Lib.hid (rnum17 a ha x false hx)
  have H2 := Lib.hid (rnum17 b hb y true hy)
  clear hx hy
  go_enter Tryz.func22, Tryz.ntmps22
  go_wp2_with fail
  refine (H1.out _).mono ?_; rintro e w1 ⟨rfl, rfl⟩
  go_wp2_with fail
  refine (H2.out _).mono ?_; rintro e w1 ⟨rfl, rfl⟩
  go_wp2_with fail
  exact bodyPost_ret (v := .tuple #[cmpV 2, .bool true]) (by simp [results, Tryz.results22, go_sem, cmpV]) rfl ⟨rfl, by go_grown⟩
set_option maxRecDepth 100000 in
set_option maxHeartbeats 8000000 in
theorem r3_ge_ff (a b : ByteArray) (ha : a.size ≤ 281474976710656) (hb : b.size ≤ 281474976710656) (x y : Int) (hx : tnumF a = (x, false)) (hy : tnumF b = (y, false)) (w : World) :
    Calls Tryz.prog 22 #[.string a, .string ⟨#[45, 103, 101]⟩, .string b] w fun e w' => e = .returned (.tuple #[cmpV 2, .bool true]) ∧ Below w.heap.size w w' := by
  have H1 := Lib.hid (rnum17 a ha x false hx)
  have H2 := Lib.hid (rnum17 b hb y false hy)
  clear hx hy
  go_enter Tryz.func22, Tryz.ntmps22
  go_wp2_with fail
  refine (H1.out _).mono ?_; rintro e w1 ⟨rfl, rfl⟩
  go_wp2_with fail
  refine (H2.out _).mono ?_; rintro e w1 ⟨rfl, rfl⟩
  go_wp2_with fail
  exact bodyPost_ret (v := .tuple #[cmpV 2, .bool true]) (by simp [results, Tryz.results22, go_sem, cmpV]) rfl ⟨rfl, by go_grown⟩
set_option maxRecDepth 100000 in
set_option maxHeartbeats 8000000 in
theorem r3_none (a b : ByteArray) (l : List UInt8) (ha : a.size ≤ 281474976710656) (hb : b.size ≤ 281474976710656) (h1 : l ≠ [61]) (h2 : l ≠ [33, 61]) (h3 : l ≠ [45, 101, 113]) (h4 : l ≠ [45, 110, 101]) (h5 : l ≠ [45, 108, 116]) (h6 : l ≠ [45, 108, 101]) (h7 : l ≠ [45, 103, 116]) (h8 : l ≠ [45, 103, 101]) (w : World) :
    Calls Tryz.prog 22 #[.string a, .string ⟨l.toArray⟩, .string b] w fun e w' => e = .returned (.tuple #[cmpV 0, .bool false]) ∧ Below w.heap.size w w' := by
  obtain ⟨⟨x, p⟩, hx⟩ : ∃ r, tnumF a = r := ⟨_, rfl⟩
  obtain ⟨⟨y, q⟩, hy⟩ : ∃ r, tnumF b = r := ⟨_, rfl⟩
  have H1 := Lib.hid (rnum17 a ha x p hx)
  have H2 := Lib.hid (rnum17 b hb y q hy)
  obtain ⟨s, hs⟩ : ∃ s : ByteArray, s = ⟨l.toArray⟩ := ⟨_, rfl⟩
  have hl : s.toList = l := by rw [hs, Lib.toList_data]
  have g1 : (s.toList == [61]) = false := by rw [hl]; simpa using h1
  have g2 : (s.toList == [33, 61]) = false := by rw [hl]; simpa using h2
  have g3 : (s.toList == [45, 101, 113]) = false := by rw [hl]; simpa using h3
  have g4 : (s.toList == [45, 110, 101]) = false := by rw [hl]; simpa using h4
  have g5 : (s.toList == [45, 108, 116]) = false := by rw [hl]; simpa using h5
  have g6 : (s.toList == [45, 108, 101]) = false := by rw [hl]; simpa using h6
  have g7 : (s.toList == [45, 103, 116]) = false := by rw [hl]; simpa using h7
  have g8 : (s.toList == [45, 103, 101]) = false := by rw [hl]; simpa using h8
  rw [← hs]
  clear hx hy h1 h2 h3 h4 h5 h6 h7 h8 hs hl
  go_enter Tryz.func22, Tryz.ntmps22
  go_wp2_with fail
  refine (H1.out _).mono ?_; rintro e w1 ⟨rfl, rfl⟩
  go_wp2_with fail
  refine (H2.out _).mono ?_; rintro e w1 ⟨rfl, rfl⟩
  go_wp2_with fail
  exact bodyPost_ret (v := .tuple #[cmpV 0, .bool false]) (by simp [results, Tryz.results22, go_sem, cmpV]) rfl ⟨rfl, by go_grown⟩
/-- What three comes to. -/
theorem r3_any (a op b : ByteArray) (ha : a.size ≤ 281474976710656) (hb : b.size ≤ 281474976710656) (n : Int) (is : Bool) (hr : compareF a op.data.toList b = (n, is)) (w : World) :
    Calls Tryz.prog 22 #[.string a, .string op, .string b] w fun e w' => e = .returned (.tuple #[cmpV (if is then n else 0), .bool is]) ∧ Below w.heap.size w w' := by
  obtain ⟨l, hl⟩ : ∃ l, op.data.toList = l := ⟨_, rfl⟩
  obtain rfl : op = ⟨l.toArray⟩ := by rw [← hl, Lib.mk_data]
  rw [hl] at hr
  clear hl
  unfold compareF at hr
  by_cases h1 : l = [61]
  · subst h1
    rw [if_pos rfl] at hr
    cases hr
    exact r3_same a b _ (toList_eq a b) _ rfl w
  by_cases h2 : l = [33, 61]
  · subst h2
    rw [if_neg (by decide), if_pos rfl] at hr
    cases hr
    exact r3_other a b _ (toList_eq a b) _ rfl w
  rw [if_neg h1, if_neg h2] at hr
  obtain ⟨x, p, hx⟩ : ∃ x p, tnumF a = (x, p) := ⟨_, _, rfl⟩
  obtain ⟨y, q, hy⟩ : ∃ y q, tnumF b = (y, q) := ⟨_, _, rfl⟩
  simp only [hx, hy] at hr
  by_cases h3 : l = [45, 101, 113]
  · subst h3
    have e : cmpOp [45, 101, 113] x y = some ((x == y)) := by simp [cmpOp]
    rw [e] at hr
    cases p <;> cases q <;> simp only [Bool.and_true, Bool.and_false, if_true, Bool.false_eq_true, if_false, Prod.mk.injEq] at hr <;> obtain ⟨rfl, rfl⟩ := hr
    · exact r3_eq_ff a b ha hb x y hx hy w
    · exact r3_eq_ft a b ha hb x y hx hy w
    · exact r3_eq_tf a b ha hb x y hx hy w
    · exact r3_eq_tt a b ha hb x y hx hy w
  by_cases h4 : l = [45, 110, 101]
  · subst h4
    have e : cmpOp [45, 110, 101] x y = some ((x != y)) := by simp [cmpOp]
    rw [e] at hr
    cases p <;> cases q <;> simp only [Bool.and_true, Bool.and_false, if_true, Bool.false_eq_true, if_false, Prod.mk.injEq] at hr <;> obtain ⟨rfl, rfl⟩ := hr
    · exact r3_ne_ff a b ha hb x y hx hy w
    · exact r3_ne_ft a b ha hb x y hx hy w
    · exact r3_ne_tf a b ha hb x y hx hy w
    · exact r3_ne_tt a b ha hb x y hx hy w
  by_cases h5 : l = [45, 108, 116]
  · subst h5
    have e : cmpOp [45, 108, 116] x y = some (decide (x < y)) := by simp [cmpOp]
    rw [e] at hr
    cases p <;> cases q <;> simp only [Bool.and_true, Bool.and_false, if_true, Bool.false_eq_true, if_false, Prod.mk.injEq] at hr <;> obtain ⟨rfl, rfl⟩ := hr
    · exact r3_lt_ff a b ha hb x y hx hy w
    · exact r3_lt_ft a b ha hb x y hx hy w
    · exact r3_lt_tf a b ha hb x y hx hy w
    · exact r3_lt_tt a b ha hb x y hx hy w
  by_cases h6 : l = [45, 108, 101]
  · subst h6
    have e : cmpOp [45, 108, 101] x y = some (decide (x ≤ y)) := by simp [cmpOp]
    rw [e] at hr
    cases p <;> cases q <;> simp only [Bool.and_true, Bool.and_false, if_true, Bool.false_eq_true, if_false, Prod.mk.injEq] at hr <;> obtain ⟨rfl, rfl⟩ := hr
    · exact r3_le_ff a b ha hb x y hx hy w
    · exact r3_le_ft a b ha hb x y hx hy w
    · exact r3_le_tf a b ha hb x y hx hy w
    · exact r3_le_tt a b ha hb x y hx hy w
  by_cases h7 : l = [45, 103, 116]
  · subst h7
    have e : cmpOp [45, 103, 116] x y = some (decide (y < x)) := by simp [cmpOp]
    rw [e] at hr
    cases p <;> cases q <;> simp only [Bool.and_true, Bool.and_false, if_true, Bool.false_eq_true, if_false, Prod.mk.injEq] at hr <;> obtain ⟨rfl, rfl⟩ := hr
    · exact r3_gt_ff a b ha hb x y hx hy w
    · exact r3_gt_ft a b ha hb x y hx hy w
    · exact r3_gt_tf a b ha hb x y hx hy w
    · exact r3_gt_tt a b ha hb x y hx hy w
  by_cases h8 : l = [45, 103, 101]
  · subst h8
    have e : cmpOp [45, 103, 101] x y = some (decide (y ≤ x)) := by simp [cmpOp]
    rw [e] at hr
    cases p <;> cases q <;> simp only [Bool.and_true, Bool.and_false, if_true, Bool.false_eq_true, if_false, Prod.mk.injEq] at hr <;> obtain ⟨rfl, rfl⟩ := hr
    · exact r3_ge_ff a b ha hb x y hx hy w
    · exact r3_ge_ft a b ha hb x y hx hy w
    · exact r3_ge_tf a b ha hb x y hx hy w
    · exact r3_ge_tt a b ha hb x y hx hy w
  have e : cmpOp l x y = none := by simp [cmpOp, h3, h4, h5, h6, h7, h8]
  rw [e] at hr
  cases hr
  exact r3_none a b l ha hb h1 h2 h3 h4 h5 h6 h7 h8 w
end Go.Proofs.YtjpdhbalngpdpaaGreatDoor
