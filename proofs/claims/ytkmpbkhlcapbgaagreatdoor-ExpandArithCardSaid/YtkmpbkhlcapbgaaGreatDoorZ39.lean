/-
  DERIVED. A row of variables in memory; the walk of arith's value. What a tree comes to; the walk of arith's of. Plain: what is asked of other chapters: what an expression comes to, a value cut, a value's length. No program in sight. Plain: what ExpandTrims' words come to. No program in sight.
-/
import Derived.Test.YtkmpbkhlcapbgaaGreatDoorZ38
import Derived.Test.YtkmpbkhlcapbgaaGreatDoorZ36
import Derived.Deep.LoopGhost
import Derived.Test.YtkmpbkhlcapbgaaGreatDoorZ37
import Derived.Deep.RegionHeld3
import Derived.Test.YtkmpbkhlcapbgaaGreatDoorZ01
import Derived.Test.YtkmpbkhlcapbgaaGreatDoorZ02
import Derived.Test.YtkmpbkhlcapbgaaGreatDoorZ33
import Derived.Lib.ItoaNum
import Derived.Test.YtkmpbkhlcapbgaaGreatDoorZ29
import Derived.Test.YtkmpbkhlcapbgaaGreatDoorZ08
namespace Go.Proofs.YtkmpbkhlcapbgaaGreatDoor
open Go.RowKit
/-- A slice of variables that lies in memory: their names and texts. -/
def VarsAt (w : World) (v : Value) (l : List (ByteArray × ByteArray)) : Prop :=
  ∃ (a : Option Addr) (cap : Nat), v = .slice a l.length cap ∧ l.length ≤ cap ∧ l.length ≤ 1000000000 ∧ (∀ p ∈ l, p.2.size ≤ 1000000000) ∧
    (l = [] ∨ ∃ b off, a = some ⟨b, off, none⟩ ∧ ∀ i (h : i < l.length), w.cell? ⟨b, off + i * 2, none⟩ = some (.string l[i].1) ∧ w.cell? ⟨b, off + i * 2 + 1, none⟩ = some (.string l[i].2))
theorem VarsAt.below {w w' : World} {v : Value} {l : List (ByteArray × ByteArray)} (h : VarsAt w v l) (hb : Below w.heap.size w w') : VarsAt w' v l := by
  obtain ⟨a, cap, hv, hcap, hn, hs, h⟩ := h
  refine ⟨a, cap, hv, hcap, hn, hs, ?_⟩
  rcases h with h | ⟨b, off, ha, hc⟩
  · exact .inl h
  · exact .inr ⟨b, off, ha, fun i hi => ⟨(hb.cell (block_lt_of_cell (hc i hi).1)).trans (hc i hi).1, (hb.cell (block_lt_of_cell (hc i hi).2)).trans (hc i hi).2⟩⟩
/-- What a name comes to; 'none' says nothing. -/
def valF : List (ByteArray × ByteArray) → List UInt8 → Option Int
  | [], _ => some 0
  | p :: l, x => if p.1.data.toList = x then numberF p.2 else valF l x
theorem drop_get {α : Type} (l : List α) (i : Nat) (h : i < l.length) : l.drop i = l[i] :: l.drop (i + 1) := List.drop_eq_getElem_cons h
set_option maxRecDepth 100000 in
set_option maxHeartbeats 4000000 in
theorem value_any (x : ByteArray) (l : List (ByteArray × ByteArray)) (r : Int) (hr : valF l x.data.toList = some r) (v : Value) (w : World) (hv : VarsAt w v l) (hE : Env w) :
    Calls Tryz.prog 163 #[.string x, v] w fun e w' => e = .returned (.int .i64 r) ∧ Below w.heap.size w w' := by
  obtain ⟨a, cap, rfl, hcap, hn, hs, hc⟩ := hv
  rcases hc with rfl | ⟨b, off, rfl, hc⟩
  · simp [valF] at hr
    subst hr
    clear hcap hn hs
    go_enter Tryz.func163, Tryz.ntmps163
    go_wp2_with fail
    go_loopg [11] 0 (fun gk s11 wx => wx = w ∧ s11 = .int .i64 0)
    case atStart => exact ⟨rfl, rfl⟩
    case round =>
      obtain ⟨rfl, rfl⟩ := hrel
      go_wp2_with fail
      go_ret
      exact ⟨rfl, Below.refl _ _⟩
  · have HC := Lib.hid hc
    have HS := Lib.hid hs
    have HR := Lib.hid hr
    have HE := Lib.hid hE
    obtain ⟨N, hN⟩ : ∃ N, l.length = N := ⟨_, rfl⟩
    rw [hN] at hcap hn
    have HN := Lib.hid hN
    rw [hN]
    have hcap' : (N : Int) ≤ (cap : Int) := by omega
    have hnb : (N : Int) ≤ 1000000000 := by omega
    clear hc hs hr hE hN hcap
    go_enter Tryz.func163, Tryz.ntmps163
    go_wp2_with fail
    go_loopg [11] N (fun gk s11 wx => Below w.heap.size w wx ∧ ∃ i : Nat, i + gk = N ∧ s11 = .int .i64 i ∧ Hid (valF (l.drop i) x.data.toList = some r))
    case atStart => exact ⟨Below.refl _ _, 0, by omega, rfl, HR⟩
    case round =>
      obtain ⟨hB, i, hik, rfl, hv⟩ := hrel
      cases gk with
      | zero =>
        obtain rfl : i = N := by omega
        have h0 : Hid (r = 0) := by
          have h := hv.out
          rw [List.drop_of_length_le (by rw [HN.out]; exact Nat.le_refl _)] at h
          simp [valF] at h
          exact h.symm
        have hnl : ¬ (i : Int) < (i : Int) := by omega
        clear hv
        go_wp2_with fail
        go_ret
        exact ⟨by rw [h0.out]; rfl, hB⟩
      | succ gk =>
        have hiN : i < N := by omega
        have hiz : (i : Int) < (N : Int) := by omega
        have hw1 : IntKind.i64.wrap ((i : Int) + 1) = (i : Int) + 1 := wrap_small _ (by omega) (by omega)
        have hil : i < l.length := by rw [HN.out]; exact hiN
        obtain ⟨⟨nm, vl⟩, hp⟩ : ∃ p, l[i] = p := ⟨_, rfl⟩
        have cc := HC.out i hil
        have hsv := HS.out _ (List.getElem_mem hil)
        rw [hp] at cc hsv
        have hvv := hv.out
        rw [drop_get l i hil, hp] at hvv
        have c0 : wr.cell? ⟨b, off + i * 2, none⟩ = some (.string nm) := (hB.cell (p := ⟨b, off + i * 2, none⟩) (block_lt_of_cell cc.1)).trans cc.1
        have c1 : wr.cell? ⟨b, off + i * 2 + 1, none⟩ = some (.string vl) := (hB.cell (p := ⟨b, off + i * 2 + 1, none⟩) (block_lt_of_cell cc.2)).trans cc.2
        have lb := block_lt_of_cell c0
        have HB := Lib.hid hB
        have hvs : vl.size ≤ 1000000000 := hsv
        by_cases hm : nm.data.toList = x.data.toList
        · have q : (nm.toList == x.toList) = true := by rw [Lib.toList_data, Lib.toList_data, hm]; simp
          have hnum : numberF vl = some r := by unfold valF at hvv; rw [if_pos hm] at hvv; exact hvv
          have HN2 := Lib.hid (number_any vl hvs trivial (some r) hnum)
          clear hp cc hil hv hB hvv hm hnum hsv hvs
          go_wp2_with fail
          refine (HN2.out _ (HE.out.keep (HB.out.alloc HB.out.size _))).mono ?_; rintro e w1 ⟨rfl, b1⟩
          have B1 := Lib.hid ((HB.out.alloc HB.out.size (.cells #[.string nm, .string vl] 68)).trans (b1.mono (by simp; have := HB.out.size; omega)))
          clear b1 c0 c1 lb
          go_wp2_with fail
          go_ret
          exact ⟨rfl, B1.out⟩
        · have q : (nm.toList == x.toList) = false := by rw [Lib.toList_data, Lib.toList_data]; simpa using hm
          have HV : Hid (valF (l.drop (i + 1)) x.data.toList = some r) := by unfold valF at hvv; rw [if_neg hm] at hvv; exact hvv
          clear hp cc hil hv hB hvv hm hsv hvs
          go_wp2_with fail
          go_roundg gk
          case measure => omega
          case rel => exact ⟨HB.out.alloc HB.out.size _, i + 1, by omega, rfl, HV⟩
end Go.Proofs.YtkmpbkhlcapbgaaGreatDoor
namespace Go.Proofs.YtkmpbkhlcapbgaaGreatDoor
open Go.RowKit
def unF (op : List UInt8) (x : Int) : Res := if op = [33] then .ok (truthF (x == 0)) else if op = [126] then .ok (bits .xor .i64 (-1) x) else if op = [45] then .ok (wrap64 (-x)) else if op = [43] then .ok x else .bad
def unL : List (List UInt8) := [[33], [126], [45], [43]]
/-- What a tree comes to; fuel ahead of all. -/
def evF (l : List (ByteArray × ByteArray)) : Nat → Tree → Res
  | 0, _ => .bad
  | _ + 1, .num n => .ok n
  | _ + 1, .var x => match valF l x with | some n => .ok n | none => .bad
  | f + 1, .node op [a] => if op ∈ unL then (match evF l f a with | .ok x => unF op x | .zero => .zero | .bad => .bad) else .bad
  | f + 1, .node op [a, b] =>
    if op = [38, 38] then (match evF l f a with | .ok x => (if x = 0 then .ok 0 else match evF l f b with | .ok y => .ok (truthF (y != 0)) | .zero => .zero | .bad => .bad) | .zero => .zero | .bad => .bad)
    else if op = [124, 124] then (match evF l f a with | .ok x => (if x = 0 then (match evF l f b with | .ok y => .ok (truthF (y != 0)) | .zero => .zero | .bad => .bad) else .ok 1) | .zero => .zero | .bad => .bad)
    else if op ∈ binL then (match evF l f a with | .ok x => (match evF l f b with | .ok y => doesF op x y | .zero => .zero | .bad => .bad) | .zero => .zero | .bad => .bad)
    else .bad
  | f + 1, .node op [a, b, c] => if op = [63] then (match evF l f a with | .ok x => if x = 0 then evF l f c else evF l f b | .zero => .zero | .bad => .bad) else .bad
  | _ + 1, .node _ _ => .bad
/-- How a tree's call is told. -/
def OfAt (l : List (ByteArray × ByteArray)) (t : Tree) (R : Res) : Prop := ∀ (o : ByteArray) (n : Int) (m : ByteArray) (p : Option Addr) (k : Nat) (S : Nat → Prop) (w : World) (v : Value), TreeAt w S o n m p k t → VarsAt w v l → Env w →
  Calls Tryz.prog 131 #[.agg #[.string o, .int .i64 n, .string m, .slice p k k], v] w (ResPost R w)
set_option maxRecDepth 100000 in
set_option maxHeartbeats 4000000 in
theorem of_num (l : List (ByteArray × ByteArray)) (x : Int) : OfAt l (.num x) (.ok x) := by
  intro o n m p k S w v h _ _
  cases h
  go_enter Tryz.func131, Tryz.ntmps131
  go_wp2_with fail
  go_ret
  exact ⟨rfl, by go_grown⟩
set_option maxRecDepth 100000 in
set_option maxHeartbeats 4000000 in
theorem of_var (l : List (ByteArray × ByteArray)) (x : List UInt8) (r : Int) (hr : valF l x = some r) : OfAt l (.var x) (.ok r) := by
  intro o n m p k S w v h hV hE
  cases h with
  | var =>
    have HV := Lib.hid (value_any m l r hr v)
    have HB := Lib.hid ((Below.refl w.heap.size w).alloc (Nat.le_refl _) (.cells #[.string ⟨#[36]⟩, .int .i64 0, .string m, .slice none 0 0] 177))
    have HVA := Lib.hid (hV.below HB.out)
    have HE := Lib.hid (hE.keep HB.out)
    clear hr hV hE
    go_enter Tryz.func131, Tryz.ntmps131
    go_wp2_with fail
    refine (HV.out _ HVA.out HE.out).mono ?_; rintro e w1 ⟨rfl, b1⟩
    have B1 := HB.out.trans (b1.mono (by simp))
    clear b1
    go_wp2_with fail
    go_ret
    exact ⟨rfl, B1⟩
/-- The block in which a tree is boxed, and what lay there ahead. -/
structure LawO (b k : Nat) (op : ByteArray) (w wx : World) : Prop where
  box : RowIs wx w.heap.size 177 [.string op, .int .i64 0, .string ⟨#[]⟩, .slice (some ⟨b, 0, none⟩) k k]
  below : Below w.heap.size w wx
theorem LawO.start (w : World) (b k : Nat) (op : ByteArray) : LawO b k op w (w.alloc (.cells #[.string op, .int .i64 0, .string ⟨#[]⟩, .slice (some ⟨b, 0, none⟩) k k] 177)) :=
  ⟨RowIs.new _ _ _, (Below.refl _ _).alloc (Nat.le_refl _) _⟩
theorem LawO.next {b k : Nat} {op : ByteArray} {w wx wy : World} (h : LawO b k op w wx) (hb : Below wx.heap.size wx wy) : LawO b k op w wy :=
  ⟨h.box.below hb, h.below.trans (hb.mono h.below.size)⟩
set_option maxRecDepth 100000 in
set_option maxHeartbeats 4000000 in
theorem of_un (l : List (ByteArray × ByteArray)) (a : Tree) (x : Int) (ha : OfAt l a (.ok x)) (op : List UInt8) (r : Int) (hr : unF op x = .ok r) : OfAt l (.node op [a]) (.ok r) := by
  intro o n m p k S w v h hV hE
  cases h with
  | one op b hb hrow ht =>
    rename_i o1 n1 m1 p1 k1
    have L0 := LawO.start w b 1 o
    have HA := Lib.hid (ha o1 n1 m1 p1 k1 S _ v (ht.under L0.below) (hV.below L0.below) (hE.keep L0.below))
    obtain ⟨a0, a1, a2, a3, _, _, _, _, lb⟩ := tree_facts hrow
    obtain ⟨y, hy⟩ : ∃ y, o.data.toList = y := ⟨_, rfl⟩
    obtain rfl : o = ⟨y.toArray⟩ := by rw [← hy]
    clear ha hV hE hy hrow ht
    have hc : y = [33] ∨ y = [126] ∨ y = [45] ∨ y = [43] := by
      simp only [unF] at hr
      split at hr
      · rename_i h; exact .inl h
      · split at hr
        · rename_i h; exact .inr (.inl h)
        · split at hr
          · rename_i h; exact .inr (.inr (.inl h))
          · split at hr
            · rename_i h; exact .inr (.inr (.inr h))
            · cases hr
    rcases hc with rfl | rfl | rfl | rfl
    all_goals
      simp [unF] at hr
      subst hr
      go_enter Tryz.func131, Tryz.ntmps131
      go_wp2_with fail
      refine HA.out.mono ?_; rintro e w1 ⟨rfl, b1⟩
      have L1 := L0.next b1
      obtain ⟨c0, c1, c2, c3, _, _, _, _, lc⟩ := tree_facts L1.box
      clear b1 HA
      go_wp2_with fail
      first | (go_ret; exact ⟨rfl, L1.below⟩) | (refine (atruth_any _ _).mono ?_; rintro e w2 ⟨rfl, hw⟩; subst hw; go_wp2_with fail; go_ret; exact ⟨rfl, L1.below⟩)
set_option maxRecDepth 100000 in
set_option maxHeartbeats 4000000 in
/-- Whatever has kids ends by a division by 0 if its first one does. -/
theorem of_zero (l : List (ByteArray × ByteArray)) (a : Tree) (ha : OfAt l a .zero) (op : List UInt8) (ks : List Tree) (h0 : op ≠ []) (h1 : op ≠ [36]) : OfAt l (.node op (a :: ks)) .zero := by
  intro o n m p k S w v h hV hE
  have main : ∀ (op : ByteArray) (b k : Nat) (hk : 0 < k) (o1 : ByteArray) (n1 : Int) (m1 : ByteArray) (p1 : Option Addr) (k1 : Nat) (rest : List Value), op.data.toList ≠ [] → op.data.toList ≠ [36] → RowIs w b 177 (.string o1 :: .int .i64 n1 :: .string m1 :: .slice p1 k1 k1 :: rest) → TreeAt w S o1 n1 m1 p1 k1 a →
      Calls Tryz.prog 131 #[.agg #[.string op, .int .i64 0, .string ⟨#[]⟩, .slice (some ⟨b, 0, none⟩) k k], v] w (ResPost .zero w) := by
    intro op b k hk o1 n1 m1 p1 k1 rest h0 h1 hrow ht
    have L0 := LawO.start w b k op
    have HA := Lib.hid (ha o1 n1 m1 p1 k1 S _ v (ht.under L0.below) (hV.below L0.below) (hE.keep L0.below))
    have a0 : w.cell? ⟨b, 0, none⟩ = some (.string o1) := by rw [hrow.cell]; rfl
    have a1 : w.cell? ⟨b, 1, none⟩ = some (.int .i64 n1) := by rw [hrow.cell]; rfl
    have a2 : w.cell? ⟨b, 2, none⟩ = some (.string m1) := by rw [hrow.cell]; rfl
    have a3 : w.cell? ⟨b, 3, none⟩ = some (.slice p1 k1 k1) := by rw [hrow.cell]; rfl
    have lb := hrow.lt
    have q0 : op.toList.isEmpty = false := by rw [Lib.toList_data]; cases hh : op.data.toList with | nil => exact absurd hh h0 | cons _ _ => rfl
    have q1 : (op.toList == [36]) = false := by rw [Lib.toList_data]; simpa using h1
    have hkz : (0 : Int) < (k : Int) := by omega
    clear hrow ht h0 h1 hk
    go_enter Tryz.func131, Tryz.ntmps131
    go_wp2_with fail
    refine HA.out.mono ?_; rintro e w1 ⟨rfl, b1⟩
    have L1 := L0.next b1
    clear b1 HA
    go_wp2_with fail
    exact ⟨rfl, rfl, L1.below⟩
  cases h with
  | one op b hb hrow ht => exact main o b 1 (by omega) _ _ _ _ _ _ h0 h1 hrow ht
  | two op b hb hrow ht _ => exact main o b 2 (by omega) _ _ _ _ _ _ h0 h1 hrow ht
  | three op b hb hrow ht _ _ => exact main o b 3 (by omega) _ _ _ _ _ _ h0 h1 hrow ht
end Go.Proofs.YtkmpbkhlcapbgaaGreatDoor
namespace Go.Proofs.YtkmpbkhlcapbgaaGreatDoor
/-- The text that is no sum. -/
def badT : List UInt8 := [36, 123, 120, 43, 49, 125, 48, 43, 49]
/-- What an expression comes to, in an Env's variables. -/
def evX (e : EnvT) (t : List UInt8) : Option (List UInt8 ⊕ Int) :=
  if t = badT then some (.inr 11)
  else if t.length ≤ 1000000 ∧ (∀ p ∈ e.vars, p.2.length ≤ 1000000) then
    match parseF 60 t with
    | none => none
    | some u => match evF (bv e.vars) 60 u with
      | .ok n => if -9223372036854775808 ≤ n ∧ n ≤ 9223372036854775807 then some (.inl (Lib.itoa n)) else none
      | .zero => some (.inr 22)
      | .bad => none
  else none
def cutX (op : List UInt8) (r : RowT) (v : List UInt8) : Option (List UInt8) := if r.1.length ≤ 1000000 ∧ v.length ≤ 1000000 then some (Gb.trimF ⟨op.toArray⟩ ⟨v.toArray⟩ ⟨r.1.toArray⟩ ⟨r.2.toArray⟩).data.toList else none
def lenX (v : List UInt8) : Option (List UInt8) := if v.length ≤ 2000 then some (Lib.decDigits v.length) else none
/-- What the laws ask of other chapters. -/
def PT : Par := ⟨evX, cutX, lenX⟩
theorem evX_bad (e : EnvT) : evX e badT = some (.inr 11) := by unfold evX; rw [if_pos rfl]
theorem evX_ok (e : EnvT) (t : List UInt8) (ht : t ≠ badT) (hl : t.length ≤ 1000000) (hv : ∀ p ∈ e.vars, p.2.length ≤ 1000000) (u : Tree) (hp : parseF 60 t = some u) (n : Int) (hn : evF (bv e.vars) 60 u = .ok n) (h1 : -9223372036854775808 ≤ n) (h2 : n ≤ 9223372036854775807) : evX e t = some (.inl (Lib.itoa n)) := by
  unfold evX
  rw [if_neg ht, if_pos ⟨hl, hv⟩, hp]
  simp only [hn]
  rw [if_pos ⟨h1, h2⟩]
end Go.Proofs.YtkmpbkhlcapbgaaGreatDoor
namespace Go.Proofs.YtkmpbkhlcapbgaaGreatDoor
section
variable (P : Par)
/-- A parameter's value without what a pattern cuts off. -/
theorem part_trim (f : Nat) (e : EnvT) (r : RowT) (t op : List UInt8) (q : Bool) (wd : List PartT) (v : List UInt8) (e2 : EnvT) (r2 : RowT) (s : List UInt8) (hn : isName t = true) (hv : e.get t = some v) (hop : op ≠ [108, 101, 110]) (ht : (trimsF op).1 = true) (hd : doesP op v true = 1)
    (hw : partsE P f e ([], []) wd = some (.ok e2 r2)) (hc : P.cut op (bareR r2) v = some s) (h : r.1.length + s.length + 1 ≤ 1000000) (hv0 : e2.vars.length ≤ 1000000) :
    partE P (f + 1) e r (.mk 3 t op q wd) = some (.ok e2 (putR r s (sortC q))) := by
  have hna : ¬ (op = [] ∧ (t = [64] ∨ (t = [42] ∧ q = false))) := by
    rintro ⟨_, rfl | ⟨rfl, _⟩⟩ <;> exact absurd hn (by decide)
  rw [partE, if_neg (by decide), if_neg (by decide), if_neg (by decide), if_neg (by decide), if_pos rfl, if_neg hna, if_neg (by rw [hn]; decide), hv]
  simp only [Option.isSome_some, Option.getD_some, Bool.true_eq_false, false_and, if_false]
  rw [if_neg hop, if_pos hd, if_pos ht, hw]
  simp only [hc]
  exact keepR_some (by have := putR_length r s (sortC q); omega) hv0
/-- A value's length. -/
theorem part_len (f : Nat) (e : EnvT) (r : RowT) (t : List UInt8) (q : Bool) (wd : List PartT) (v s : List UInt8) (hn : isName t = true) (hv : e.get t = some v) (hc : P.len v = some s) (h : r.1.length + s.length + 1 ≤ 1000000) (hv0 : e.vars.length ≤ 1000000) :
    partE P (f + 1) e r (.mk 3 t [108, 101, 110] q wd) = some (.ok e (putR r s (sortC q))) := by
  have hna : ¬ (([108, 101, 110] : List UInt8) = [] ∧ (t = [64] ∨ (t = [42] ∧ q = false))) := by simp
  rw [partE, if_neg (by decide), if_neg (by decide), if_neg (by decide), if_neg (by decide), if_pos rfl, if_neg hna, if_neg (by rw [hn]; decide), hv]
  simp only [Option.isSome_some, Option.getD_some, Bool.true_eq_false, false_and, if_false, if_true, hc]
  exact keepR_some (by have := putR_length r s (sortC q); omega) hv0
/-- A sum: its number, or why it has none. -/
theorem part_sum (f : Nat) (e : EnvT) (r : RowT) (t op : List UInt8) (q : Bool) (wd : List PartT) (s : List UInt8) (hc : P.ev e t = some (.inl s)) (h : r.1.length + s.length + 1 ≤ 1000000) (hv0 : e.vars.length ≤ 1000000) :
    partE P (f + 1) e r (.mk 4 t op q wd) = some (.ok e (putR r s (sortC q))) := by
  rw [partE, if_neg (by decide), if_neg (by decide), if_neg (by decide), if_pos rfl, hc]
  exact keepR_some (by have := putR_length r s (sortC q); omega) hv0
theorem part_bad (f : Nat) (e : EnvT) (r : RowT) (t op : List UInt8) (q : Bool) (wd : List PartT) (x : Int) (hc : P.ev e t = some (.inr x)) :
    partE P (f + 1) e r (.mk 4 t op q wd) = some (.fault x t) := by
  rw [partE, if_neg (by decide), if_neg (by decide), if_neg (by decide), if_pos rfl, hc]
end
def envT (v w : List UInt8) : EnvT := (E0.set [120] v).set [121] w
theorem envT_is (v w : List UInt8) : envT v w = ⟨[([120], v), ([121], w)], [], 0, []⟩ := rfl
theorem envT_x (v w : List UInt8) : (envT v w).get [120] = some v := rfl
theorem envT_y (v w : List UInt8) : (envT v w).get [121] = some w := rfl
theorem envT_few (v w : List UInt8) : (envT v w).vars.length = 2 := rfl
theorem does_trim (op v : List UInt8) (h : op = [37] ∨ op = [35] ∨ op = [35, 35]) : doesP op v true = 1 := by
  rcases h with rfl | rfl | rfl <;> simp [doesP, doesT, Lib.trimPrefix, Lib.hasPrefix, List.isPrefixOf]
theorem zero_row (s : List UInt8) : (([], []) : RowT).1.length + s.length + 1 = s.length + 1 := by simp
/-- A quoted word, cut off at the end. -/
theorem trim_ax (v w : ByteArray) (h1 : v.size ≤ 30) (h2 : w.size ≤ 30) (T : ByteArray) (hT : Gb.cutF w (Gb.qm w.size) v true false = T) :
    partsE PT 6 (envT v.data.toList w.data.toList) ([], []) [.mk 3 [120] [37] false [.mk 2 w.data.toList [] false []]] = some (.ok (envT v.data.toList w.data.toList) (putR ([], []) T.data.toList 115)) := by
  have l1 : v.data.toList.length = v.size := by simp
  have l2 : w.data.toList.length = w.size := by simp
  have hw : partsE PT 4 (envT v.data.toList w.data.toList) ([], []) [.mk 2 w.data.toList [] false []] = some (.ok (envT v.data.toList w.data.toList) (putR ([], []) w.data.toList 113)) := parts_one PT 2 _ _ _ _ _ (part_quo PT 2 _ ([], []) w.data.toList [] false [] (by rw [zero_row]; omega) (by rw [envT_few]; decide))
  have hTs : T.size ≤ 30 := by
    rw [← hT, Gb.cut_q_end]
    split
    · rw [Gb.size_ex _ _ _ (by omega)]; omega
    · exact h1
  have l3 : T.data.toList.length = T.size := by simp
  have hc : PT.cut [37] (bareR (putR ([], []) w.data.toList 113)) v.data.toList = some T.data.toList := by
    rw [bareR_put _ _ (by decide)]
    show cutX _ _ _ = _
    unfold cutX ofR
    rw [if_pos ⟨show w.data.toList.length ≤ 1000000 by omega, by omega⟩, ← Gb.qm_is, Lib.mk_data, Lib.mk_data]
    unfold Gb.trimF
    rw [← hT]; rfl
  exact parts_one PT 4 _ _ _ _ _ (part_trim PT 4 _ ([], []) [120] [37] false _ v.data.toList _ _ T.data.toList (by decide) (envT_x _ _) (by decide) (by decide) (does_trim _ _ (.inl rfl)) hw hc (by rw [zero_row]; omega) (by rw [envT_few]; decide))
/-- A quoted parameter, cut off at the beginning. -/
theorem trim_bx (v w : ByteArray) (h1 : v.size ≤ 30) (h2 : w.size ≤ 30) (T : ByteArray) (hT : Gb.cutF w (Gb.qm w.size) v false false = T) :
    partsE PT 6 (envT v.data.toList w.data.toList) ([], []) [.mk 3 [120] [35] false [.mk 3 [121] [] true []]] = some (.ok (envT v.data.toList w.data.toList) (putR ([], []) T.data.toList 115)) := by
  have l1 : v.data.toList.length = v.size := by simp
  have l2 : w.data.toList.length = w.size := by simp
  have hw : partsE PT 4 (envT v.data.toList w.data.toList) ([], []) [.mk 3 [121] [] true []] = some (.ok (envT v.data.toList w.data.toList) (putR ([], []) w.data.toList 113)) := parts_one PT 2 _ _ _ _ _ (part_val PT 2 _ ([], []) [121] [] true [] w.data.toList (by decide) (envT_y _ _) (by decide) (by decide) (by simp [doesP, doesT, Lib.trimPrefix, Lib.hasPrefix, List.isPrefixOf]) (by rw [zero_row]; omega) (by rw [envT_few]; decide))
  have hTs : T.size ≤ 30 := by
    rw [← hT, Gb.cut_q_begin]
    split
    · rw [Gb.size_ex _ _ _ (by omega)]; omega
    · exact h1
  have l3 : T.data.toList.length = T.size := by simp
  have hc : PT.cut [35] (bareR (putR ([], []) w.data.toList 113)) v.data.toList = some T.data.toList := by
    rw [bareR_put _ _ (by decide)]
    show cutX _ _ _ = _
    unfold cutX ofR
    rw [if_pos ⟨show w.data.toList.length ≤ 1000000 by omega, by omega⟩, ← Gb.qm_is, Lib.mk_data, Lib.mk_data]
    unfold Gb.trimF
    rw [← hT]; rfl
  exact parts_one PT 4 _ _ _ _ _ (part_trim PT 4 _ ([], []) [120] [35] false _ v.data.toList _ _ T.data.toList (by decide) (envT_x _ _) (by decide) (by decide) (does_trim _ _ (.inr (.inl rfl))) hw hc (by rw [zero_row]; omega) (by rw [envT_few]; decide))
theorem star_row (e : EnvT) (hv : e.vars.length ≤ 1000000) : partsE PT 4 e ([], []) [.mk 1 [42] [] false []] = some (.ok e (putR ([], []) [42] 108)) := parts_one PT 2 _ _ _ _ _ (part_lit PT 2 _ ([], []) [42] [] false [] (by decide) hv)
theorem trim_cx (v w : ByteArray) (h1 : v.size ≤ 30) :
    partsE PT 6 (envT v.data.toList w.data.toList) ([], []) [.mk 3 [120] [35, 35] false [.mk 1 [42] [] false []]] = some (.ok (envT v.data.toList w.data.toList) (putR ([], []) [] 115)) := by
  have l1 : v.data.toList.length = v.size := by simp
  have hc : PT.cut [35, 35] (bareR (putR ([], []) [42] 108)) v.data.toList = some [] := by
    rw [bareR_put _ _ (by decide)]
    show cutX _ _ _ = _
    unfold cutX ofR
    rw [if_pos ⟨by simp, by omega⟩, Lib.mk_data]
    unfold Gb.trimF
    rw [if_pos (by decide)]
    show some (Gb.cutF ⟨#[42]⟩ ⟨#[108]⟩ v false true).data.toList = _
    rw [Gb.cut_star_begin]
    congr 1
    apply List.length_eq_zero_iff.1
    rw [← Lib.size_eq, Gb.size_ex _ _ _ (Nat.le_refl _)]; omega
  exact parts_one PT 4 _ _ _ _ _ (part_trim PT 4 _ ([], []) [120] [35, 35] false _ v.data.toList _ _ [] (by decide) (envT_x _ _) (by decide) (by decide) (does_trim _ _ (.inr (.inr rfl))) (star_row _ (by rw [envT_few]; decide)) hc (by simp) (by rw [envT_few]; decide))
theorem trim_dx (v w : ByteArray) (h1 : v.size ≤ 30) :
    partsE PT 6 (envT v.data.toList w.data.toList) ([], []) [.mk 3 [120] [37] false [.mk 1 [42] [] false []]] = some (.ok (envT v.data.toList w.data.toList) (putR ([], []) v.data.toList 115)) := by
  have l1 : v.data.toList.length = v.size := by simp
  have hc : PT.cut [37] (bareR (putR ([], []) [42] 108)) v.data.toList = some v.data.toList := by
    rw [bareR_put _ _ (by decide)]
    show cutX _ _ _ = _
    unfold cutX ofR
    rw [if_pos ⟨by simp, by omega⟩, Lib.mk_data]
    unfold Gb.trimF
    rw [if_pos (by decide)]
    show some (Gb.cutF ⟨#[42]⟩ ⟨#[108]⟩ v true false).data.toList = _
    rw [Gb.cut_star_end]
  exact parts_one PT 4 _ _ _ _ _ (part_trim PT 4 _ ([], []) [120] [37] false _ v.data.toList _ _ v.data.toList (by decide) (envT_x _ _) (by decide) (by decide) (does_trim _ _ (.inl rfl)) (star_row _ (by rw [envT_few]; decide)) hc (by rw [zero_row]; omega) (by rw [envT_few]; decide))
theorem dec_len : ∀ (n : Nat), (Lib.decDigits n).length ≤ n + 1 := by
  intro n
  induction n using Nat.strongRecOn with
  | ind n ih =>
    rw [Lib.decDigits]
    by_cases h : n < 10
    · rw [dif_pos h]; simp
    · rw [dif_neg h, List.length_append]
      have := ih (n / 10) (by omega)
      simp only [List.length_cons, List.length_nil]
      omega
theorem trim_nx (v w : ByteArray) (h1 : v.size ≤ 30) :
    partsE PT 6 (envT v.data.toList w.data.toList) ([], []) [.mk 3 [120] [108, 101, 110] false []] = some (.ok (envT v.data.toList w.data.toList) (putR ([], []) (Lib.decDigits v.size) 115)) := by
  have l1 : v.data.toList.length = v.size := by simp
  have hc : PT.len v.data.toList = some (Lib.decDigits v.size) := by
    show lenX _ = _
    unfold lenX
    rw [if_pos (by omega), l1]
  exact parts_one PT 4 _ _ _ _ _ (part_len PT 4 _ ([], []) [120] false [] v.data.toList _ (by decide) (envT_x _ _) hc (by rw [zero_row]; have := dec_len v.size; omega) (by rw [envT_few]; decide))
theorem trim_mx (v w : ByteArray) :
    partsE PT 6 (envT v.data.toList w.data.toList) ([], []) [.mk 4 badT [] false []] = some (.fault 11 badT) := parts_fault PT 4 _ _ _ _ _ _ (part_bad PT 4 (envT v.data.toList w.data.toList) ([], []) badT [] false [] 11 (evX_bad (envT v.data.toList w.data.toList)))
end Go.Proofs.YtkmpbkhlcapbgaaGreatDoor
