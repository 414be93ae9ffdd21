/-
  DERIVED. The walk of split's Split.
-/
import Derived.Test.YtkmpbkhlcapbgaaGreatDoorZ27
import Derived.Lib.IndexAny
namespace Go.Proofs.YtkmpbkhlcapbgaaGreatDoor
open Go Go.RowKit Go.Shelf
attribute [local go_sem] Oper.semAt_some
theorem fields_own (n base g : Nat) (f : List (UInt8 × UInt8) → FieldsT) : OwnFrom n (fun pre W => ∃ v, FieldsAt base g W v (f pre)) := fun s A B row ⟨v, hs⟩ hg hr => by
  refine ⟨v, row_own n g _ (fun (_ : Unit) => _) () A B row hs.row hg hr, ?_, hs.gb, hs.few⟩
  refine ⟨hs.own.1, ?_⟩
  rcases hs.own.2 with h2 | ⟨q, c, cur, hv, hb, hh, r⟩
  · exact .inl h2
  · exact .inr ⟨q, c, cur, hv, hb, (hg.block q (lt_of_block hh) (fun eq => by
      obtain ⟨_, o, ho, hc⟩ := hr q eq.symm
      rw [hh] at ho
      cases ho
      cases hc)).trans hh, r⟩
theorem Upto.row {base g : Nat} {w w' : World} (hu : Upto base g w w') {b e : Nat} {l : List Value} (h : RowIs w b e l) (h1 : b < base) (h2 : b ≠ g) : RowIs w' b e l := by
  unfold RowIs; rw [hu.block b h1 h2]; exact h
theorem Upto.toBelow {base g s : Nat} {w w' : World} (hu : Upto base g w w') (h1 : s ≤ base) (h2 : s ≤ g) : Below s w w' :=
  ⟨hu.os, hu.tape, hu.output, hu.size, fun k hk => hu.block k (by omega) (by omega)⟩
/-- What stands at each round. -/
def SplitJ (t m ifs : ByteArray) (w : World) (pre : List (UInt8 × UInt8)) (W : World) : Prop :=
  ((∃ v, FieldsAt (w.heap.size + 5) (w.heap.size + 1 + 1) W v (accF ifs.data.toList pre)) ∧ RowIs W (w.heap.size + 1) 9 [.string ifs] ∧ RowIs W (w.heap.size + 1 + 1 + 1) 94 [.pointer (some ⟨w.heap.size + 1 + 1, 0, none⟩)] ∧ RowIs W (w.heap.size + 1 + 1 + 1 + 1) 38 [.string t, .string m]) ∧ Below w.heap.size w W
theorem splitJ_own (n : Nat) (t m ifs : ByteArray) (w : World) (hn : w.heap.size ≤ n) : OwnFrom n (SplitJ t m ifs w) :=
  OwnFrom.and (OwnFrom.and (fields_own _ _ _ (accF ifs.data.toList)) (OwnFrom.and (row_own _ _ _ (fun _ => [.string ifs])) (OwnFrom.and (row_own _ _ _ (fun _ => [.pointer (some ⟨w.heap.size + 1 + 1, 0, none⟩)])) (row_own _ _ _ (fun _ => [.string t, .string m]))))) (ownFrom_below (Nat.le_refl _) hn)
/-- A round has done its work: what it leaves. -/
theorem splitJ_next (n : Nat) (t m ifs : ByteArray) (w : World) (pre : List (UInt8 × UInt8)) (x : UInt8 × UInt8) (W W' : World) (h : SplitJ t m ifs w pre W) (hu : Upto (w.heap.size + 5) (w.heap.size + 1 + 1) W W')
    (hf : ∃ v, FieldsAt (w.heap.size + 5) (w.heap.size + 1 + 1) W' v ((accF ifs.data.toList pre).take ifs.data.toList x)) : KeepsFrom n W W' ∧ KB (w.heap.size + 1 + 1 + 1 + 1) W W' ∧ SplitJ t m ifs w (pre ++ [x]) W' := by
  obtain ⟨⟨_, h1, h2, h3⟩, hb⟩ := h
  refine ⟨hu.others.from _, hu.block _ (by omega) (by omega), ⟨?_, hu.row h1 (by omega) (by omega), hu.row h2 (by omega) (by omega), hu.row h3 (by omega) (by omega)⟩, hb.trans (hu.toBelow (by omega) (by omega))⟩
  rw [accF_snoc]
  exact hf
theorem take_sep (ifs : List UInt8) (F : FieldsT) (x : UInt8 × UInt8) (h1 : x.2 = 115) (h2 : ifs.contains x.1 = true) : F.take ifs x = F.sep ([32, 9, 10].contains x.1) := by
  unfold FieldsT.take; rw [h1, h2]; rfl
theorem take_stop (ifs : List UInt8) (F : FieldsT) (x : UInt8 × UInt8) (h2 : x.2 = 98) : F.take ifs x = F.stop false := by
  unfold FieldsT.take; rw [h2]; rfl
theorem take_more (ifs : List UInt8) (F : FieldsT) (x : UInt8 × UInt8) (h1 : (x.2 == 115 && ifs.contains x.1) = false) (h2 : x.2 ≠ 98) :
    F.take ifs x = ⟨F.l, if x.2 == 101 then F.now else (F.now.1 ++ [x.1], F.now.2 ++ [x.2]), true, false⟩ := by
  unfold FieldsT.take; rw [h1, if_neg (by decide), if_neg (by simpa using h2)]
theorem take_skip (ifs : List UInt8) (F : FieldsT) (xc : UInt8) : F.take ifs (xc, 101) = ⟨F.l, F.now, true, false⟩ := by
  rw [take_more ifs F (xc, 101) rfl (show (101 : UInt8) ≠ 98 by decide)]; rfl
theorem take_add (ifs : List UInt8) (F : FieldsT) (xc xk : UInt8) (h1 : (xk == 115 && ifs.contains xc) = false) (h2 : xk ≠ 98) (h3 : xk ≠ 101) : F.take ifs (xc, xk) = ⟨F.l, (F.now.1 ++ [xc], F.now.2 ++ [xk]), true, false⟩ := by
  rw [take_more ifs F (xc, xk) h1 h2, if_neg (by simpa using h3)]
theorem split_start (t m ifs : ByteArray) (w W0 : World) (hW0 : (((((w.alloc (.cells #[.string t, .string m] 38)).alloc (.cells #[.string ifs] 9)).alloc (.cells #[.slice none 0 0, .string ⟨#[]⟩, .string ⟨#[]⟩, .bool false, .bool false] 96)).alloc (.cells #[.pointer (some ⟨w.heap.size + 1 + 1, 0, none⟩)] 94)).alloc (.cells #[.string t, .string m] 38)) = W0) :
    SplitJ t m ifs w [] W0 ∧ RowIs W0 (w.heap.size + 1 + 1 + 1 + 1) 38 [.string t, .string m] ∧ W0.heap.size = w.heap.size + 5 := by
  obtain ⟨W1, h1⟩ : ∃ W1, w.alloc (.cells #[.string t, .string m] 38) = W1 := ⟨_, rfl⟩
  have s1 : W1.heap.size = w.heap.size + 1 := by rw [← h1]; simp
  have b1 : Below w.heap.size w W1 := by rw [← h1]; exact (Below.refl _ _).alloc (Nat.le_refl _) _
  rw [h1] at hW0; clear h1
  obtain ⟨W2, h2⟩ : ∃ W2, W1.alloc (.cells #[.string ifs] 9) = W2 := ⟨_, rfl⟩
  have s2 : W2.heap.size = w.heap.size + 1 + 1 := by rw [← h2]; simp [s1]
  have r2 : RowIs W2 (w.heap.size + 1) 9 [.string ifs] := by rw [← h2, ← s1]; exact RowIs.new W1 _ _
  have b2 : Below w.heap.size w W2 := by rw [← h2]; exact b1.alloc b1.size _
  rw [h2] at hW0; clear h2
  obtain ⟨W3, h3⟩ : ∃ W3, W2.alloc (.cells #[.slice none 0 0, .string ⟨#[]⟩, .string ⟨#[]⟩, .bool false, .bool false] 96) = W3 := ⟨_, rfl⟩
  have s3 : W3.heap.size = w.heap.size + 1 + 1 + 1 := by rw [← h3]; simp [s2]
  have r3 : RowIs W3 (w.heap.size + 1 + 1) 96 [.slice none 0 0, .string ⟨#[]⟩, .string ⟨#[]⟩, .bool false, .bool false] := by rw [← h3, ← s2]; exact RowIs.new W2 _ _
  have q2 : RowIs W3 (w.heap.size + 1) 9 [.string ifs] := by rw [← h3]; exact r2.alloc _
  have b3 : Below w.heap.size w W3 := by rw [← h3]; exact b2.alloc b2.size _
  rw [h3] at hW0; clear h3
  obtain ⟨W4, h4⟩ : ∃ W4, W3.alloc (.cells #[.pointer (some ⟨w.heap.size + 1 + 1, 0, none⟩)] 94) = W4 := ⟨_, rfl⟩
  have s4 : W4.heap.size = w.heap.size + 1 + 1 + 1 + 1 := by rw [← h4]; simp [s3]
  have r4 : RowIs W4 (w.heap.size + 1 + 1 + 1) 94 [.pointer (some ⟨w.heap.size + 1 + 1, 0, none⟩)] := by rw [← h4, ← s3]; exact RowIs.new W3 _ _
  have q3 : RowIs W4 (w.heap.size + 1) 9 [.string ifs] := by rw [← h4]; exact q2.alloc _
  have q4 : RowIs W4 (w.heap.size + 1 + 1) 96 [.slice none 0 0, .string ⟨#[]⟩, .string ⟨#[]⟩, .bool false, .bool false] := by rw [← h4]; exact r3.alloc _
  have b4 : Below w.heap.size w W4 := by rw [← h4]; exact b3.alloc b3.size _
  rw [h4] at hW0; clear h4
  have r5 : RowIs W0 (w.heap.size + 1 + 1 + 1 + 1) 38 [.string t, .string m] := by rw [← hW0, ← s4]; exact RowIs.new W4 _ _
  have s5 : W0.heap.size = w.heap.size + 5 := by rw [← hW0]; simp [s4]
  refine ⟨⟨⟨⟨.slice none 0 0, ?_, ⟨rfl, .inl ⟨rfl, rfl⟩⟩, by omega, by simp [accF]⟩, ?_, ?_, r5⟩, ?_⟩, r5, s5⟩
  · rw [← hW0]; exact q4.alloc _
  · rw [← hW0]; exact q3.alloc _
  · rw [← hW0]; exact r4.alloc _
  · rw [← hW0]; exact b4.alloc b4.size _
theorem snoc_bytes (l : List UInt8) (x : UInt8) : (⟨l.toArray⟩ : ByteArray) ++ ⟨#[x]⟩ = ⟨(l ++ [x]).toArray⟩ := by
  apply ByteArray.ext; simp
theorem ib_at (s : ByteArray) (c : UInt8) : ∃ k : Int, (∀ W, Calls Tryz.prog 48 #[.string s, .int .u8 (c.toNat : Int)] W fun e w' => e = .returned (.int .i64 k) ∧ w' = W) ∧ s.data.toList.contains c = decide (0 ≤ k) :=
  ⟨Lib.indexByte s.data.toList c, fun W => by have h := Tryz.strings_IndexByte s (c.toNat : Int) W; simpa using h, Lib.contains_iff_indexByte _ _⟩
theorem FieldsAt.drew {base g : Nat} {w : World} {v : Value} {F : FieldsT} (h : FieldsAt base g w v F) : FieldsAt base g w.drew v F := ⟨h.row, ⟨h.own.1, h.own.2⟩, h.gb, h.few⟩
theorem FieldsAt.below {base g : Nat} {w w' : World} {v : Value} {F : FieldsT} (h : FieldsAt base g w v F) (hb : Below w.heap.size w w') : FieldsAt base g w' v F := ⟨h.row.below hb, own_below h.own hb, h.gb, h.few⟩
theorem FieldsAt.go {base g : Nat} {w : World} {v : Value} {F : FieldsT} (h : FieldsAt base g w v F) : FieldsAt base g ((w.setCell ⟨g, 3, none⟩ (.bool true)).setCell ⟨g, 4, none⟩ (.bool false)) v ⟨F.l, F.now, true, false⟩ :=
  ⟨(h.row.set 3 (.bool true)).set 4 (.bool false), own_set (own_set h.own g 3 h.gb _) g 4 h.gb _, h.gb, h.few⟩
theorem FieldsAt.now {base g : Nat} {w : World} {v : Value} {F : FieldsT} (h : FieldsAt base g w v F) (N : RowT) : FieldsAt base g ((w.setCell ⟨g, 1, none⟩ (.string ⟨N.1.toArray⟩)).setCell ⟨g, 2, none⟩ (.string ⟨N.2.toArray⟩)) v ⟨F.l, N, F.begun, F.blank⟩ :=
  ⟨(h.row.set 1 _).set 2 _, own_set (own_set h.own g 1 h.gb _) g 2 h.gb _, h.gb, h.few⟩
theorem one_cell {W : World} {b e : Nat} {x0 : Value} (r : RowIs W b e [x0]) : W.cell? ⟨b, 0, none⟩ = some x0 := by rw [r.cell]; rfl
/-- What a walked round leaves, to be shown. -/
def RoundL (n : Nat) (t m ifs : ByteArray) (w : World) (pre : List (UInt8 × UInt8)) (x : UInt8 × UInt8) (W W' : World) : Prop := KeepsFrom n W W' ∧ KB (w.heap.size + 1 + 1 + 1 + 1) W W' ∧ SplitJ t m ifs w (pre ++ [x]) W'
set_option maxRecDepth 100000 in
set_option maxHeartbeats 8000000 in
theorem split_in (n : Nat) (hn : 6 ≤ n) (t m ifs : ByteArray) (h : t.size = m.size) (hs : t.size ≤ 1000000) (w : World) :
    CallsIn Fence.wide n Tryz.prog 23 #[.agg #[.string t, .string m], .string ifs] w fun e w' => ∃ v, e = .returned v ∧ w'.ownsRow w.heap.size 38 2 v (splitR (t.data.toList, m.data.toList) ifs.data.toList).length (cellsL (bvR (splitR (t.data.toList, m.data.toList) ifs.data.toList))) ∧ Below w.heap.size w w' := by
  have H1 := Lib.hid h
  have HS := Lib.hid hs
  clear h hs
  have hn1 : 1 ≤ n := by omega
  refine callsIn_of_wp_marks Tryz.func23 rfl trivial ?_ rfl
  simp only [Tryz.ntmps23, List.size_toArray, List.length_cons, List.length_nil, Nat.reduceAdd, Nat.reduceSub, Array.replicate_succ, Array.replicate_zero, List.push_toArray, List.append_toArray, List.nil_append, List.cons_append]
  gi_wp2
  first | refine ⟨trivial, (?_ : CallsIn _ _ _ _ _ _ _)⟩ | refine ⟨trivial, fun _ => by omega, ?_⟩
  refine (cells_in (n - 1) _ _ _).mono ?_; rintro e w' ⟨rfl, rfl⟩
  gi_wp2
  obtain ⟨W0, hW0⟩ : ∃ W0, (((((w.alloc (.cells #[.string t, .string m] 38)).alloc (.cells #[.string ifs] 9)).alloc (.cells #[.slice none 0 0, .string ⟨#[]⟩, .string ⟨#[]⟩, .bool false, .bool false] 96)).alloc (.cells #[.pointer (some ⟨w.heap.size + 1 + 1, 0, none⟩)] 94)).alloc (.cells #[.string t, .string m] 38)) = W0 := ⟨_, rfl⟩
  obtain ⟨hj0, rY, hsz⟩ : SplitJ t m ifs w [] W0 ∧ RowIs W0 (w.heap.size + 1 + 1 + 1 + 1) 38 [.string t, .string m] ∧ W0.heap.size = w.heap.size + 5 := split_start t m ifs w W0 hW0
  rw [hW0]
  clear hW0
  refine wpIn_rangeFunc_ownH rfl hn1 (gf := 75) (lb := #[.pointer (some ⟨w.heap.size + 1 + 1 + 1 + 1, 0, none⟩)]) rfl trivial (enters_of Tryz.func75 (by kernel_rfl) rfl)
    (cells_stops (n - 1) (by omega) (w.heap.size + 1 + 1 + 1 + 1) t m H1.out (by have := HS.out; omega) W0 rY) (fun h k => kb_t _ h k) (kb_b _ (by omega)) (Below.refl _ _) (fun _ => rfl)
    (SplitJ t m ifs w) (fun _ _ _ => False)
    (splitJ_own _ t m ifs w (by omega)) (fun _ _ _ _ _ hs _ _ => hs) hj0
    (fun x a' W => ∃ Bx, w.heap.size + 1 + 1 + 1 + 1 < Bx ∧ RowIs W Bx 100 [.int .u8 (x.1.toNat : Int), .int .u8 (x.2.toNat : Int)] ∧ a' = { tmps := #[.agg #[.string t, .string m], .string ifs, .pointer (some ⟨w.heap.size, 0, none⟩), .pointer (some ⟨w.heap.size + 1, 0, none⟩), .slice none 0 0, .pointer (some ⟨w.heap.size + 1 + 1 + 1, 0, none⟩), .pointer (some ⟨Bx, 0, none⟩), .agg #[.slice none 0 0, .string ⟨#[]⟩, .string ⟨#[]⟩, .bool false, .bool false], .pointer (some ⟨w.heap.size + 1 + 1, 0, none⟩), .agg #[.string t, .string m], .func (.func 75) #[] #[.pointer (some ⟨w.heap.size + 1 + 1 + 1 + 1, 0, none⟩)], .agg #[.int .u8 (x.1.toNat : Int), .int .u8 (x.2.toNat : Int)], undef, undef, undef, undef, undef, undef, undef, undef, undef, undef, undef, undef, undef, undef, undef, undef, undef, undef, undef, undef, undef, undef, undef, undef, undef, undef, undef, undef, undef, undef, undef, undef, undef, undef, undef, undef, undef, undef, undef, undef, undef, undef, undef, undef, undef, undef, undef], defers := [] })
    (fun x a' _ X Y row hs hg hr => by obtain ⟨Bx, q1, q2, q3⟩ := hs; exact ⟨Bx, q1, row_own _ Bx _ (fun (_ : Unit) => [.int .u8 (x.1.toNat : Int), .int .u8 (x.2.toNat : Int)]) () X Y row q2 hg hr, q3⟩)
    ?assign0 ?body0 ?done0 ?stop0
  case assign0 =>
    rintro l pre x W K ⟨⟨⟨v, h0⟩, h1, h2, h3⟩, hb⟩ hK
    have hyl := h3.lt
    simp only [encC]
    gi_wp2
    exact hK _ _ ((KeepsOthers.alloc _ _).from _) (kb_below ((Below.refl W.heap.size W).alloc (Nat.le_refl _) _) hyl) ⟨⟨⟨v, h0.below ((Below.refl W.heap.size W).alloc (Nat.le_refl _) _)⟩, h1.alloc _, h2.alloc _, h3.alloc _⟩, hb.alloc hb.size _⟩ ⟨W.heap.size, hyl, RowIs.new W _ _, rfl⟩
  case body0 =>
    rintro l pre x a' W hl ⟨r, hr⟩ hJ ⟨Bx, hBx, bX, rfl⟩ hltN
    have hlen : (cellsR t m).length ≤ t.size := by
      unfold cellsR; rw [List.length_zip]; have : t.size = t.data.toList.length := by simp
      omega
    have hq := HS.out
    have hfew := accF_few ifs.data.toList pre ⟨[], ([], []), false, false⟩
    simp only [List.length_nil, Nat.zero_add] at hfew
    have hprel : pre.length < 1000000 := by omega
    have hbase : w.heap.size + 5 ≤ W.heap.size := by have := hJ.1.2.2.2.lt; omega
    have HJ := Lib.hid hJ
    obtain ⟨⟨⟨v, h0⟩, h1, h2, h3⟩, hb⟩ := hJ
    have hF : ∃ F, accF ifs.data.toList pre = F := ⟨_, rfl⟩
    obtain ⟨F, hF⟩ := hF
    have hfew' : F.l.length ≤ pre.length ∧ F.now.1.length ≤ pre.length ∧ F.now.2.length ≤ pre.length := by rw [← hF]; exact hfew
    rw [hF] at h0
    have HNX : Hid (∀ n W', Upto (w.heap.size + 5) (w.heap.size + 1 + 1) W W' → (∃ v, FieldsAt (w.heap.size + 5) (w.heap.size + 1 + 1) W' v (F.take ifs.data.toList x)) → RoundL n t m ifs w pre x W W') := fun n W' hu hf => splitJ_next _ t m ifs w pre x W W' HJ.out hu (by rw [hF]; exact hf)
    clear hfew hF HJ
    have ic := one_cell h1
    have pc := one_cell h2
    have bc0 : W.cell? ⟨Bx, 0, none⟩ = some (.int .u8 (x.1.toNat : Int)) := by rw [bX.cell]; rfl
    have bc1 : W.cell? ⟨Bx, 1, none⟩ = some (.int .u8 (x.2.toNat : Int)) := by rw [bX.cell]; rfl
    obtain ⟨c0, c1, c2, c3, c4, f0, f1, f2, f3, f4, lt⟩ := cells5 h0.row
    have hd : 1 ≤ n - 1 - 1 := by omega
    have hf1 : Fence.wide.fn 48 := trivial
    have hf2 : Fence.wide.fn 49 := trivial
    have hf3 : Fence.wide.fn 51 := trivial
    have hf4 : Fence.wide.fn 50 := trivial
    obtain ⟨xc, xk⟩ := x
    dsimp only at bc0 bc1 ⊢
    obtain ⟨i1, hI1, hc1'⟩ := ib_at ifs xc
    obtain ⟨i2, hI2, hc2'⟩ := ib_at ⟨#[32, 9, 10]⟩ xc
    have HBX := Lib.hid bX
    have HI1 := Lib.hid hI1
    have HI2 := Lib.hid hI2
    have H0 := Lib.hid h0
    have HBS := Lib.hid hbase
    have HPL := Lib.hid hprel
    have HFW := Lib.hid hfew'
    have HRP := Lib.hid h2
    have HR1 := Lib.hid hr
    have HLL := Lib.hid hl
    clear hI1 hI2 h0 hbase hprel hfew' h1 h2 h3 hb bX hr hltN hlen hq hl
    by_cases hk1 : xk = 115
    · subst hk1
      have bc1 : W.cell? ⟨Bx, 1, none⟩ = some (.int .u8 115) := bc1
      cases hq1 : ifs.data.toList.contains xc
      · -- A2
        rw [hq1] at hc1'
        have hni : ¬ 0 ≤ i1 := by simpa using hc1'.symm
        have hto : (((115 : UInt8) == 115 && ifs.data.toList.contains xc) = false) := by rw [hq1]; rfl
        have hk2 : (115 : UInt8) ≠ 98 := by decide
        clear hc1' hc2' hq1
        have hfw := HFW.out
        have hpl := HPL.out
        have HADD := Lib.hid (fun (W : World) => add_at ⟨F.now.1.toArray⟩ ⟨F.now.2.toArray⟩ xc 115 (by show F.now.1.toArray.size ≤ _; simp; omega) (by show F.now.2.toArray.size ≤ _; simp; omega) W)
        have hmo : Tryz.prog.follows .mixedOrders = true := by kernel_rfl
        obtain ⟨T, hT⟩ : ∃ T : ByteArray, (⟨F.now.1.toArray⟩ : ByteArray) = T := ⟨_, rfl⟩
        obtain ⟨M, hM⟩ : ∃ M : ByteArray, (⟨F.now.2.toArray⟩ : ByteArray) = M := ⟨_, rfl⟩
        rw [hT, hM] at HADD
        rw [hT] at c1
        rw [hM] at c2
        have HT := Lib.hid hT
        have HM := Lib.hid hM
        have hg2 := Lib.hid (H0.out.go)
        have hu2 : Hid (Upto (w.heap.size + 5) (w.heap.size + 1 + 1) W ((W.setCell ⟨w.heap.size + 1 + 1, 3, none⟩ (.bool true)).setCell ⟨w.heap.size + 1 + 1, 4, none⟩ (.bool false))) := ((Upto.refl _ _ W).set 3 _).set 4 _
        clear hfw hpl hT hM
        have hBn : Bx ≠ w.heap.size + 1 + 1 := by omega
        have hBn2 : ¬ w.heap.size + 1 + 1 = Bx := by omega
        have hPn : ¬ w.heap.size + 1 + 1 = w.heap.size + 1 + 1 + 1 := by omega
        have hkn3 : ((115 : Int) == 101) = false := by decide
        gi_wp2
        refine (CallsIn.inRound l (callsIn_wide.2 (HI1.out _))).mono ?_; rintro e w2 ⟨rfl, hw2⟩
        rw [hw2]
        clear hw2
        gi_wp2
        obtain ⟨X, hX⟩ : ∃ X, ((W.setCell ⟨w.heap.size + 1 + 1, 3, none⟩ (.bool true)).setCell ⟨w.heap.size + 1 + 1, 4, none⟩ (.bool false)) = X := ⟨_, rfl⟩
        have bX2 := (HBX.out.other (a := ⟨w.heap.size + 1 + 1, 3, none⟩) hBn (.bool true)).other (a := ⟨w.heap.size + 1 + 1, 4, none⟩) hBn (.bool false)
        rw [hX] at hg2 hu2 bX2 ⊢
        clear hX c0 c1 c2 c3 c4 f0 f1 f2 f3 f4 lt pc ic bc0 bc1
        have rx := hg2.out.row
        rw [HT.out, HM.out] at rx
        obtain ⟨c0, c1, c2, c3, c4, f0, f1, f2, f3, f4, lt⟩ := cells5 rx
        have px := hu2.out.row HRP.out (by omega) (by omega)
        have pc := one_cell px
        have bc0 : X.cell? ⟨Bx, 0, none⟩ = some (.int .u8 (xc.toNat : Int)) := by rw [bX2.cell]; rfl
        have bc1 : X.cell? ⟨Bx, 1, none⟩ = some (.int .u8 115) := by rw [bX2.cell]; rfl
        have HPX := Lib.hid px
        have hbx : w.heap.size + 5 ≤ X.heap.size := Nat.le_trans HBS.out hu2.out.size
        have HBX2 := Lib.hid hbx
        have HR5 : Hid (∀ w3, Below X.drew.heap.size X.drew w3 → RowIs w3 (w.heap.size + 1 + 1) 96 [v, .string T, .string M, .bool true, .bool false] ∧ RowIs w3 (w.heap.size + 1 + 1 + 1) 94 [.pointer (some ⟨w.heap.size + 1 + 1, 0, none⟩)]) := fun w3 hb => ⟨RowIs.below (w := X.drew) rx hb, RowIs.below (w := X.drew) px hb⟩
        clear rx px bX2 hbx
        gi_region_with_o (gi_at_call 51; refine (CallsIn.inRound l (callsIn_wide.2 (HADD.out _))).mono ?_; rintro e w3 ⟨rfl, hb3⟩; obtain ⟨r5, rp⟩ := HR5.out w3 hb3; obtain ⟨d0, d1, d2, d3, d4, g0, g1, g2, g3, g4, lt3⟩ := cells5 r5; have pc3 := one_cell rp; have HB3 := Lib.hid hb3; clear r5 rp hb3)
        all_goals
          gi_wp2
          have hgf := ((hg2.out.drew).below HB3.out).now (F.now.1 ++ [xc], F.now.2 ++ [115])
          simp only [← snoc_bytes, HT.out, HM.out] at hgf
          refine HNX.out _ _ (hu2.out.trans ((Upto.drew X).trans (((Upto.below (w := X.drew) HB3.out HBX2.out).set 1 _).set 2 _))) ⟨v, ?_⟩
          rw [take_add _ _ _ _ hto hk2 (by decide)]
          exact hgf
      · -- A1: the separator
        rw [hq1] at hc1'
        have hni : 0 ≤ i1 := by simpa using hc1'.symm
        obtain ⟨b, hb⟩ : ∃ b, ([32, 9, 10] : List UInt8).contains xc = b := ⟨_, rfl⟩
        have hc3 : decide (0 ≤ i2) = b := by rw [← hc2']; exact hb
        have hbw := HBS.out
        have hpl := HPL.out
        have hfw := HFW.out
        have HS1 := Lib.hid (sep_at (w.heap.size + 5) (w.heap.size + 1 + 1) v F b (by omega) W.drew hbw H0.out.drew)
        have HT : Hid (F.take ifs.data.toList (xc, 115) = F.sep b) := by unfold Hid; rw [take_sep _ _ _ rfl hq1, hb]
        clear hbw hpl hfw hq1 hc1' hc2' hb
        gi_wp2
        refine (CallsIn.inRound l (callsIn_wide.2 (HI1.out _))).mono ?_; rintro e w2 ⟨rfl, rfl⟩
        have hmo : Tryz.prog.follows .mixedOrders = true := by kernel_rfl
        gi_wp2
        gi_region_with_o (first
          | (gi_at_call 48; refine (CallsIn.inRound l (callsIn_wide.2 (HI2.out _))).mono ?_; rintro e w3 ⟨rfl, rfl⟩)
          | (gi_at_call 49; refine (CallsIn.inRound l (callsIn_wide.2 HS1.out)).mono ?_; intro e w3 hp; have HP := Lib.hid hp; obtain ⟨rfl, _⟩ := hp))
        all_goals
          gi_wp2
          obtain ⟨_, v3, hf3, hu3⟩ := HP.out
          exact HNX.out _ _ ((Upto.drew w2).trans hu3) ⟨v3, by rw [HT.out]; exact hf3⟩
    · by_cases hk2 : xk = 98
      · subst hk2
        have bc1 : W.cell? ⟨Bx, 1, none⟩ = some (.int .u8 98) := bc1
        have hbw := HBS.out
        have hpl := HPL.out
        have hfw := HFW.out
        have HS1 := Lib.hid (end_at (w.heap.size + 5) (w.heap.size + 1 + 1) v F false (by omega) W hbw H0.out)
        have HT : Hid (F.take ifs.data.toList (xc, 98) = F.stop false) := take_stop _ _ _ rfl
        clear hbw hpl hfw hc1' hc2' hk1
        gi_wp2
        refine (CallsIn.inRound l (callsIn_wide.2 HS1.out)).mono ?_; intro e w3 hp
        have HP := Lib.hid hp
        obtain ⟨rfl, _⟩ := hp
        gi_wp2
        obtain ⟨_, v3, hf3, hu3⟩ := HP.out
        exact HNX.out _ _ hu3 ⟨v3, by rw [HT.out]; exact hf3⟩
      · have hkn1 : ((xk.toNat : Int) == 115) = false := by
          have : xk.toNat ≠ 115 := fun e => hk1 (UInt8.toNat_inj.1 (e.trans rfl))
          simp; omega
        have hkn2 : ((xk.toNat : Int) == 98) = false := by
          have : xk.toNat ≠ 98 := fun e => hk2 (UInt8.toNat_inj.1 (e.trans rfl))
          simp; omega
        have hto : ((xk == 115 && ifs.data.toList.contains xc) = false) := by simp [hk1]
        clear hc1' hc2'
        have hfw := HFW.out
        have hpl := HPL.out
        have HADD := Lib.hid (fun (W : World) => add_at ⟨F.now.1.toArray⟩ ⟨F.now.2.toArray⟩ xc xk (by show F.now.1.toArray.size ≤ _; simp; omega) (by show F.now.2.toArray.size ≤ _; simp; omega) W)
        have hmo : Tryz.prog.follows .mixedOrders = true := by kernel_rfl
        obtain ⟨T, hT⟩ : ∃ T : ByteArray, (⟨F.now.1.toArray⟩ : ByteArray) = T := ⟨_, rfl⟩
        obtain ⟨M, hM⟩ : ∃ M : ByteArray, (⟨F.now.2.toArray⟩ : ByteArray) = M := ⟨_, rfl⟩
        rw [hT, hM] at HADD
        rw [hT] at c1
        rw [hM] at c2
        have HT := Lib.hid hT
        have HM := Lib.hid hM
        have hg2 := Lib.hid (H0.out.go)
        have hu2 : Hid (Upto (w.heap.size + 5) (w.heap.size + 1 + 1) W ((W.setCell ⟨w.heap.size + 1 + 1, 3, none⟩ (.bool true)).setCell ⟨w.heap.size + 1 + 1, 4, none⟩ (.bool false))) := ((Upto.refl _ _ W).set 3 _).set 4 _
        clear hfw hpl hT hM
        have hBn : Bx ≠ w.heap.size + 1 + 1 := by omega
        have hBn2 : ¬ w.heap.size + 1 + 1 = Bx := by omega
        have hPn : ¬ w.heap.size + 1 + 1 = w.heap.size + 1 + 1 + 1 := by omega
        by_cases hk3 : xk = 101
        · subst hk3
          have bc1 : W.cell? ⟨Bx, 1, none⟩ = some (.int .u8 101) := bc1
          clear hk1 hk2
          gi_wp2
          exact HNX.out _ _ hu2.out ⟨v, by rw [take_skip]; exact hg2.out⟩
        · have hkn3 : ((xk.toNat : Int) == 101) = false := by
            have : xk.toNat ≠ 101 := fun e => hk3 (UInt8.toNat_inj.1 (e.trans rfl))
            simp; omega
          have hkn4 : ((xk.toNat : Int) != 101) = true := by simp [bne, hkn3]
          gi_wp2
          obtain ⟨X, hX⟩ : ∃ X, ((W.setCell ⟨w.heap.size + 1 + 1, 3, none⟩ (.bool true)).setCell ⟨w.heap.size + 1 + 1, 4, none⟩ (.bool false)) = X := ⟨_, rfl⟩
          have bX2 := (HBX.out.other (a := ⟨w.heap.size + 1 + 1, 3, none⟩) hBn (.bool true)).other (a := ⟨w.heap.size + 1 + 1, 4, none⟩) hBn (.bool false)
          rw [hX] at hg2 hu2 bX2 ⊢
          clear hX c0 c1 c2 c3 c4 f0 f1 f2 f3 f4 lt pc ic bc0 bc1
          have rx := hg2.out.row
          rw [HT.out, HM.out] at rx
          obtain ⟨c0, c1, c2, c3, c4, f0, f1, f2, f3, f4, lt⟩ := cells5 rx
          have px := hu2.out.row HRP.out (by omega) (by omega)
          have pc := one_cell px
          have bc0 : X.cell? ⟨Bx, 0, none⟩ = some (.int .u8 (xc.toNat : Int)) := by rw [bX2.cell]; rfl
          have bc1 : X.cell? ⟨Bx, 1, none⟩ = some (.int .u8 (xk.toNat : Int)) := by rw [bX2.cell]; rfl
          have HPX := Lib.hid px
          have hbx : w.heap.size + 5 ≤ X.heap.size := Nat.le_trans HBS.out hu2.out.size
          have HBX2 := Lib.hid hbx
          have HR5 : Hid (∀ w3, Below X.drew.heap.size X.drew w3 → RowIs w3 (w.heap.size + 1 + 1) 96 [v, .string T, .string M, .bool true, .bool false] ∧ RowIs w3 (w.heap.size + 1 + 1 + 1) 94 [.pointer (some ⟨w.heap.size + 1 + 1, 0, none⟩)]) := fun w3 hb => ⟨RowIs.below (w := X.drew) rx hb, RowIs.below (w := X.drew) px hb⟩
          clear rx px bX2 hbx
          gi_region_with_o (gi_at_call 51; refine (CallsIn.inRound l (callsIn_wide.2 (HADD.out _))).mono ?_; rintro e w3 ⟨rfl, hb3⟩; obtain ⟨r5, rp⟩ := HR5.out w3 hb3; obtain ⟨d0, d1, d2, d3, d4, g0, g1, g2, g3, g4, lt3⟩ := cells5 r5; have pc3 := one_cell rp; have HB3 := Lib.hid hb3; clear r5 rp hb3)
          all_goals
            gi_wp2
            have hgf := ((hg2.out.drew).below HB3.out).now (F.now.1 ++ [xc], F.now.2 ++ [xk])
            simp only [← snoc_bytes, HT.out, HM.out] at hgf
            refine HNX.out _ _ (hu2.out.trans ((Upto.drew X).trans (((Upto.below (w := X.drew) HB3.out HBX2.out).set 1 _).set 2 _))) ⟨v, ?_⟩
            rw [take_add _ _ _ _ hto hk2 hk3]
            exact hgf
  case done0 =>
    rintro D ys W hD rfl hJ hK
    have hlen : (cellsR t m).length ≤ t.size := by
      unfold cellsR; rw [List.length_zip]; have : t.size = t.data.toList.length := by simp
      omega
    have hq := HS.out
    have hfew := accF_few ifs.data.toList (cellsR t m) ⟨[], ([], []), false, false⟩
    simp only [List.length_nil, Nat.zero_add] at hfew
    have hbase : w.heap.size + 5 ≤ W.heap.size := by have := hJ.1.2.2.2.lt; omega
    obtain ⟨⟨⟨v, h0⟩, h1, h2, h3⟩, hb⟩ := hJ
    have pc := one_cell h2
    have HE := Lib.hid (end_at (w.heap.size + 5) (w.heap.size + 1 + 1) v (accF ifs.data.toList (cellsR t m)) false (by have := hfew.1; unfold accF; omega) W hbase h0)
    have HRP := Lib.hid h2
    have HB := Lib.hid hb
    have HK := Lib.hid hK
    clear hfew hq hlen h0 h1 h2 h3 hb hbase hK
    gi_wp2
    first | refine ⟨trivial, (?_ : CallsIn _ _ _ _ _ _ _)⟩ | refine ⟨trivial, fun _ => by omega, ?_⟩
    refine (callsIn_wide.2 HE.out).mono ?_; rintro e w3 ⟨rfl, v3, hf3, hu3⟩
    have pc3 := one_cell (hu3.row HRP.out (by omega) (by omega))
    obtain ⟨c0, _, _, _, _, _, _, _, _, _, _⟩ := cells5 hf3.row
    have HF3 := Lib.hid hf3
    have HU3 := Lib.hid hu3
    clear hf3 hu3 pc
    gi_wp2
    have hK3 : w3.heap[D]? = some (.deferred (some [])) := HU3.out.others.2 D _ HK.out rfl
    refine ⟨by simp, .inl ⟨_, _, rfl, run_takeDeferred hK3, ?_⟩⟩
    have hBf : Below w.heap.size w (w3.putObj D (.deferred none)) := (HB.out.trans (HU3.out.toBelow (by omega) (by omega))).trans (belowK_b (w := w) (Nat.le_refl _) w3 D _ (.deferred none) (by omega) hK3 rfl rfl)
    refine ⟨v3, by simp [results, Tryz.results23, go_sem], v3, rfl, ?_, hBf⟩
    have ho := HF3.out.own
    have hsp : ((accF ifs.data.toList (cellsR t m)).stop false).l = splitR (t.data.toList, m.data.toList) ifs.data.toList := rfl
    rw [hsp] at ho
    refine ⟨ho.1, ?_⟩
    rcases ho.2 with q | ⟨q, c, cur, hv, hgq, hh, r⟩
    · exact .inl q
    · refine .inr ⟨q, c, cur, hv, by omega, ?_, r⟩
      show (w3.heap.setIfInBounds D _)[q]? = _
      rw [Array.getElem?_setIfInBounds_ne (by rintro rfl; rw [hK3] at hh; cases hh)]
      exact hh
  case stop0 =>
    rintro D c pre W _ _ h _
    exact h.elim
end Go.Proofs.YtkmpbkhlcapbgaaGreatDoor
