/-
  DERIVED. Plain: what ArithLaws' expressions come to, with any numbers. No program in sight.
-/
import Derived.Test.YtdfpijbngbfjaaaGreatDoorEb
namespace Go.Proofs.YtdfpijbngbfjaaaGreatDoor
open Go.RowKit
theorem wrap64_is (n : Int) : ∃ k : Int, wrap64 n = n + k * 18446744073709551616 := ⟨-((n + 9223372036854775808) / 18446744073709551616), by unfold wrap64; omega⟩
theorem wrap64_eq {a b k : Int} (h : a = b + k * 18446744073709551616) : wrap64 a = wrap64 b := by unfold wrap64; omega
theorem wrap64_id {n : Int} (h0 : -9223372036854775808 ≤ n) (h1 : n ≤ 9223372036854775807) : wrap64 n = n := by unfold wrap64; omega
theorem law_dist (x y z : Int) : wrap64 (x * wrap64 (y + z)) = wrap64 (wrap64 (x * y) + wrap64 (x * z)) := by
  obtain ⟨k, hk⟩ := wrap64_is (y + z)
  obtain ⟨k2, h2⟩ := wrap64_is (x * y)
  obtain ⟨k3, h3⟩ := wrap64_is (x * z)
  rw [hk, h2, h3]
  refine wrap64_eq (k := x * k - k2 - k3) ?_
  rw [Int.mul_add, Int.mul_add, ← Int.mul_assoc, Int.sub_mul, Int.sub_mul]
  omega
theorem law_back (x y : Int) (h0 : -9223372036854775808 ≤ x) (h1 : x ≤ 9223372036854775807) : wrap64 (wrap64 (x + y) - y) = x := by unfold wrap64; omega
theorem bv_wrap (b : BitVec 64) : BitVec.ofInt 64 (IntKind.i64.wrap (b.toNat : Int)) = b := by
  apply BitVec.eq_of_toNat_eq
  have h := b.isLt
  rw [BitVec.toNat_ofInt, IntKind.wrap_i64]
  omega
theorem wrap_bv (x : Int) (h0 : -9223372036854775808 ≤ x) (h1 : x ≤ 9223372036854775807) : IntKind.i64.wrap ((BitVec.ofInt 64 x).toNat : Int) = x := by
  rw [BitVec.toNat_ofInt, IntKind.wrap_i64]
  omega
theorem law_xor (x y : Int) (h0 : -9223372036854775808 ≤ x) (h1 : x ≤ 9223372036854775807) : bits .xor .i64 (bits .xor .i64 x y) y = x := by
  show IntKind.i64.wrap ((BitVec.ofInt 64 (IntKind.i64.wrap ((BitVec.ofInt 64 x ^^^ BitVec.ofInt 64 y).toNat : Int)) ^^^ BitVec.ofInt 64 y).toNat : Int) = x
  rw [bv_wrap, BitVec.xor_assoc, BitVec.xor_self, BitVec.xor_zero, wrap_bv x h0 h1]
theorem law_not (x : Int) : bits .xor .i64 (-1) x = wrap64 (wrap64 (-x) - 1) := by
  show IntKind.i64.wrap ((BitVec.ofInt 64 (-1) ^^^ BitVec.ofInt 64 x).toNat : Int) = _
  have e : BitVec.ofInt 64 (-1) = BitVec.allOnes 64 := by decide
  rw [e, BitVec.allOnes_xor, BitVec.toNat_not, BitVec.toNat_ofInt, IntKind.wrap_i64]
  unfold wrap64
  omega
theorem law_div (x y : Int) (h0 : -9223372036854775807 ≤ x) (h1 : x ≤ 9223372036854775807) : wrap64 (wrap64 (wrap64 (x.tdiv y) * y) + x.tmod y) = x := by
  obtain ⟨k, hk⟩ := wrap64_is (x.tdiv y)
  obtain ⟨k2, h2⟩ := wrap64_is ((x.tdiv y + k * 18446744073709551616) * y)
  rw [hk, h2]
  have e := Int.mul_tdiv_add_tmod x y
  rw [Int.mul_comm y (x.tdiv y)] at e
  have e2 : (x.tdiv y + k * 18446744073709551616) * y + k2 * 18446744073709551616 + x.tmod y = x + (k * y + k2) * 18446744073709551616 := by
    rw [Int.add_mul, Int.add_mul, Int.mul_assoc, Int.mul_comm 18446744073709551616 y, ← Int.mul_assoc]
    omega
  rw [wrap64_eq e2, wrap64_id (by omega) h1]
abbrev vX : Tree := .var [120]
abbrev vY : Tree := .var [121]
abbrev vZ : Tree := .var [122]
def lawA : Tree := .node [61, 61] [.node [42] [vX, .node [43] [vY, vZ]], .node [43] [.node [42] [vX, vY], .node [42] [vX, vZ]]]
def lawB : Tree := .node [61, 61] [.node [45] [.node [43] [vX, vY], vY], vX]
def lawC : Tree := .node [61, 61] [.node [94] [.node [94] [vX, vY], vY], vX]
def lawD : Tree := .node [61, 61] [.node [126] [vX], .node [45] [.node [45] [vX], .num 1]]
def lawE : Tree := .node [61, 61] [.node [33] [.node [60] [vX, vY]], .node [60, 61] [vY, vX]]
def lawF : Tree := .node [61, 61] [.node [33, 61] [vX, vY], .node [124, 124] [.node [60] [vX, vY], .node [60] [vY, vX]]]
def lawT : Tree := .node [38, 38] [.node [38, 38] [.node [38, 38] [.node [38, 38] [.node [38, 38] [lawA, lawB], lawC], lawD], lawE], lawF]
def lawQ : Tree := .node [63] [vY, .node [61, 61] [.node [43] [.node [42] [.node [47] [vX, vY], vY], .node [37] [vX, vY]], vX], .num 1]
section
variable (l : List (ByteArray × ByteArray)) (x y z : Int) (hx : valF l [120] = some x) (hy : valF l [121] = some y) (hz : valF l [122] = some z)
theorem ev_bin {f : Nat} {o : List UInt8} {a b : Tree} {p q : Int} (ho : binL.contains o = true) (ha : evF l f a = .ok p) (hb : evF l f b = .ok q) : evF l (f + 1) (.node o [a, b]) = doesF o p q := by
  have ho2 : o ∈ binL := by simpa using ho
  have hbt := bin_tests ho2
  show (if o = [38, 38] then _ else if o = [124, 124] then _ else if o ∈ binL then _ else _) = _
  rw [if_neg (by intro e; rw [e] at hbt; exact absurd hbt.2.2.2.1 (by decide)), if_neg (by intro e; rw [e] at hbt; exact absurd hbt.2.2.2.2 (by decide)), if_pos ho2, ha, hb]
theorem ev_and {f : Nat} {a b : Tree} (ha : evF l f a = .ok 1) (hb : evF l f b = .ok 1) : evF l (f + 1) (.node [38, 38] [a, b]) = .ok 1 := by
  show (if ([38, 38] : List UInt8) = [38, 38] then _ else _) = _
  rw [if_pos rfl, ha, hb]
  rfl
theorem ev_un {f : Nat} {o : List UInt8} {a : Tree} {p : Int} (ho : unL.contains o = true) (ha : evF l f a = .ok p) : evF l (f + 1) (.node o [a]) = unF o p := by
  have ho2 : o ∈ unL := by simpa using ho
  show (if o ∈ unL then _ else _) = _
  rw [if_pos ho2, ha]
include hx in
theorem ev_x (f : Nat) : evF l (f + 1) vX = .ok x := by show (match valF l [120] with | some n => Res.ok n | none => .bad) = _; rw [hx]
include hy in
theorem ev_y (f : Nat) : evF l (f + 1) vY = .ok y := by show (match valF l [121] with | some n => Res.ok n | none => .bad) = _; rw [hy]
include hz in
theorem ev_z (f : Nat) : evF l (f + 1) vZ = .ok z := by show (match valF l [122] with | some n => Res.ok n | none => .bad) = _; rw [hz]
theorem same_ok {a b : Int} (h : a = b) : doesF [61, 61] a b = .ok 1 := by subst h; show Res.ok (truthF (a == a)) = _; simp [truthF]
include hx hy hz in
theorem ev_lawA (f : Nat) : evF l (f + 4) lawA = .ok 1 := by
  have h1 : evF l (f + 3) (.node [42] [vX, .node [43] [vY, vZ]]) = .ok (wrap64 (x * wrap64 (y + z))) := ev_bin l rfl (ev_x l x hx _) (ev_bin l rfl (ev_y l y hy _) (ev_z l z hz f))
  have h2 : evF l (f + 3) (.node [43] [.node [42] [vX, vY], .node [42] [vX, vZ]]) = .ok (wrap64 (wrap64 (x * y) + wrap64 (x * z))) := ev_bin l rfl (ev_bin l rfl (ev_x l x hx _) (ev_y l y hy f)) (ev_bin l rfl (ev_x l x hx _) (ev_z l z hz _))
  exact (ev_bin l rfl h1 h2).trans (same_ok (law_dist x y z))
include hx hy in
theorem ev_lawB (h0 : -9223372036854775808 ≤ x) (h1 : x ≤ 9223372036854775807) (f : Nat) : evF l (f + 4) lawB = .ok 1 := by
  have e1 : evF l (f + 3) (.node [45] [.node [43] [vX, vY], vY]) = .ok (wrap64 (wrap64 (x + y) - y)) := ev_bin l rfl (ev_bin l rfl (ev_x l x hx _) (ev_y l y hy f)) (ev_y l y hy _)
  exact (ev_bin l rfl e1 (ev_x l x hx _)).trans (same_ok (law_back x y h0 h1))
include hx hy in
theorem ev_lawC (h0 : -9223372036854775808 ≤ x) (h1 : x ≤ 9223372036854775807) (f : Nat) : evF l (f + 4) lawC = .ok 1 := by
  have e1 : evF l (f + 3) (.node [94] [.node [94] [vX, vY], vY]) = .ok (bits .xor .i64 (bits .xor .i64 x y) y) := ev_bin l rfl (ev_bin l rfl (ev_x l x hx _) (ev_y l y hy f)) (ev_y l y hy _)
  exact (ev_bin l rfl e1 (ev_x l x hx _)).trans (same_ok (law_xor x y h0 h1))
include hx in
theorem ev_lawD (f : Nat) : evF l (f + 4) lawD = .ok 1 := by
  have e1 : evF l (f + 3) (.node [126] [vX]) = .ok (bits .xor .i64 (-1) x) := ev_un l rfl (ev_x l x hx _)
  have e2 : evF l (f + 3) (.node [45] [.node [45] [vX], .num 1]) = .ok (wrap64 (wrap64 (-x) - 1)) := ev_bin l rfl (ev_un l rfl (ev_x l x hx f)) rfl
  exact (ev_bin l rfl e1 e2).trans (same_ok (law_not x))
include hx hy in
theorem ev_lawE (f : Nat) : evF l (f + 4) lawE = .ok 1 := by
  have e1 : evF l (f + 3) (.node [33] [.node [60] [vX, vY]]) = .ok (truthF (truthF (decide (x < y)) == 0)) := ev_un l rfl (ev_bin l rfl (ev_x l x hx f) (ev_y l y hy _))
  have e2 : evF l (f + 3) (.node [60, 61] [vY, vX]) = .ok (truthF (decide (y ≤ x))) := ev_bin l rfl (ev_y l y hy _) (ev_x l x hx _)
  refine (ev_bin l rfl e1 e2).trans (same_ok ?_)
  by_cases h : x < y
  · have h2 : ¬ y ≤ x := by omega
    simp [h, h2, truthF]
  · have h2 : y ≤ x := by omega
    simp [h, h2, truthF]
include hx hy in
theorem ev_lawF (f : Nat) : evF l (f + 4) lawF = .ok 1 := by
  have e1 : evF l (f + 3) (.node [33, 61] [vX, vY]) = .ok (truthF (x != y)) := ev_bin l rfl (ev_x l x hx _) (ev_y l y hy _)
  have e3 : evF l (f + 2) (.node [60] [vX, vY]) = .ok (truthF (decide (x < y))) := ev_bin l rfl (ev_x l x hx f) (ev_y l y hy _)
  have e4 : evF l (f + 2) (.node [60] [vY, vX]) = .ok (truthF (decide (y < x))) := ev_bin l rfl (ev_y l y hy _) (ev_x l x hx f)
  have e2 : evF l (f + 3) (.node [124, 124] [.node [60] [vX, vY], .node [60] [vY, vX]]) = .ok (truthF (x != y)) := by
    show (if ([124, 124] : List UInt8) = [38, 38] then _ else if ([124, 124] : List UInt8) = [124, 124] then _ else _) = _
    rw [if_neg (by decide), if_pos rfl, e3, e4]
    by_cases h : x < y
    · have h2 : ¬ x = y := by omega
      simp [h, h2, truthF]
    · by_cases h3 : y < x
      · have h2 : ¬ x = y := by omega
        simp [h, h2, h3, truthF]
      · have h2 : x = y := by omega
        simp [h2, truthF]
  exact (ev_bin l rfl e1 e2).trans (same_ok rfl)
include hx hy hz in
theorem ev_lawT (h0 : -9223372036854775808 ≤ x) (h1 : x ≤ 9223372036854775807) : evF l 20 lawT = .ok 1 :=
  ev_and l (ev_and l (ev_and l (ev_and l (ev_and l (ev_lawA l x y z hx hy hz 11) (ev_lawB l x y hx hy h0 h1 11)) (ev_lawC l x y hx hy h0 h1 12)) (ev_lawD l x hx 13)) (ev_lawE l x y hx hy 14)) (ev_lawF l x y hx hy 15)
include hx hy in
theorem ev_lawQ (h0 : -9223372036854775807 ≤ x) (h1 : x ≤ 9223372036854775807) : evF l 20 lawQ = .ok 1 := by
  show (if ([63] : List UInt8) = [63] then _ else _) = _
  rw [if_pos rfl, ev_y l y hy 18]
  simp only
  by_cases h : y = 0
  · rw [if_pos h]; rfl
  · rw [if_neg h]
    have d1 : doesF [47] x y = .ok (wrap64 (x.tdiv y)) := by unfold doesF; show (if y = 0 then _ else _) = _; rw [if_neg h]; rfl
    have d2 : doesF [37] x y = .ok (x.tmod y) := by unfold doesF; show (if y = 0 then _ else _) = _; rw [if_neg h]; rfl
    have e1 : evF l 16 (.node [47] [vX, vY]) = .ok (wrap64 (x.tdiv y)) := (ev_bin l rfl (ev_x l x hx _) (ev_y l y hy _)).trans d1
    have e2 : evF l 17 (.node [37] [vX, vY]) = .ok (x.tmod y) := (ev_bin l rfl (ev_x l x hx _) (ev_y l y hy _)).trans d2
    have e3 : evF l 17 (.node [42] [.node [47] [vX, vY], vY]) = .ok (wrap64 (wrap64 (x.tdiv y) * y)) := ev_bin l rfl e1 (ev_y l y hy _)
    have e4 : evF l 18 (.node [43] [.node [42] [.node [47] [vX, vY], vY], .node [37] [vX, vY]]) = .ok (wrap64 (wrap64 (wrap64 (x.tdiv y) * y) + x.tmod y)) := ev_bin l rfl e3 e2
    exact (ev_bin l rfl e4 (ev_x l x hx _)).trans (same_ok (law_div x y h0 h1))
end
end Go.Proofs.YtdfpijbngbfjaaaGreatDoor
