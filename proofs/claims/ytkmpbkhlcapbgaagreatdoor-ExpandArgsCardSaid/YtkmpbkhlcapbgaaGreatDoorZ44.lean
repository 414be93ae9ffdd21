/-
  DERIVED. The walk of split's separator; how a row is split, step by step, plain. The walk of split's Split. The walks of Ifs, at an Env, and of expand's Fields. Plain: the document's four examples (awake), as closed data. No program in sight.
-/
import Derived.Test.YtkmpbkhlcapbgaaGreatDoorZ43
import Derived.Lib.IndexAny
import Derived.Test.YtkmpbkhlcapbgaaGreatDoorZ42
import Derived.Test.YtkmpbkhlcapbgaaGreatDoorZ16
import Derived.Test.YtkmpbkhlcapbgaaGreatDoorZ20
namespace Go.Proofs.YtkmpbkhlcapbgaaGreatDoor
open Go Go.RowKit Go.Shelf
theorem own_set {w : World} {base e s : Nat} {v : Value} {n : Nat} {xs : List Value} (ho : w.ownsRow base e s v n xs) (g j : Nat) (hg : g < base) (u : Value) : (w.setCell ⟨g, j, none⟩ u).ownsRow base e s v n xs := by
  refine ⟨ho.1, ?_⟩
  rcases ho.2 with h2 | ⟨q, c, cur, hv, hb, hh, r⟩
  · exact .inl h2
  · exact .inr ⟨q, c, cur, hv, hb, (Below.heap_setCell _ _ _ _ (by show q ≠ g; omega)).trans hh, r⟩
theorem FieldsAt.begin {base g : Nat} {w : World} {v : Value} {F : FieldsT} (h : FieldsAt base g w v F) : FieldsAt base g (w.setCell ⟨g, 3, none⟩ (.bool true)) v { F with begun := true } :=
  ⟨h.row.set 3 (.bool true), own_set h.own g 3 h.gb _, h.gb, h.few⟩
theorem Upto.from_ {base g : Nat} {w w1 w' : World} {F : FieldsT} {e : Ending} (hu : Upto base g w w1) (h : EndPost base g F w1 e w') : EndPost base g F w e w' := by
  obtain ⟨he, v, hf, hk⟩ := h
  exact ⟨he, v, hf, hu.trans hk⟩
theorem sep_same (F : FieldsT) (hB : F.begun = false) : F.sep true = F := by unfold FieldsT.sep; rw [hB]; rfl
theorem sep_new (F : FieldsT) (hB : F.begun = false) (hK : F.blank = false) : F.sep false = ({ F with begun := true } : FieldsT).stop false := by unfold FieldsT.sep; rw [hB, hK]; rfl
theorem sep_end (F : FieldsT) (b : Bool) (h : F.begun = true ∨ (b = false ∧ F.blank = true)) : F.sep b = F.stop b := by
  unfold FieldsT.sep
  rcases h with h | ⟨rfl, h⟩
  · rw [h]; cases b <;> rfl
  · rw [h]; cases F.begun <;> rfl
set_option maxRecDepth 100000 in
set_option maxHeartbeats 8000000 in
theorem sep_at (base g : Nat) (v : Value) (F : FieldsT) (b : Bool) (hfew : F.l.length < 1000000000) (w : World) (hbw : base ≤ w.heap.size) (h : FieldsAt base g w v F) :
    Calls Tryz.prog 49 #[.pointer (some ⟨g, 0, none⟩), .bool b] w (EndPost base g (F.sep b) w) := by
  obtain ⟨c0, c1, c2, c3, c4, f0, f1, f2, f3, f4, lt⟩ := cells5 h.row
  have HE := Lib.hid (end_at base g v F b hfew w hbw h)
  have hup := (Upto.refl base g w).set 3 (.bool true)
  have HE2 := Lib.hid (end_at base g v { F with begun := true } false hfew _ (Nat.le_trans hbw hup.size) h.begin)
  have HUP := Lib.hid hup
  have HH := Lib.hid h
  clear h hup hfew hbw
  cases hB : F.begun
  · cases b
    · cases hK : F.blank
      · rw [sep_new F hB hK]
        rw [hB] at c3
        rw [hK] at c4
        clear hB hK HE
        go_enter Tryz.func49, Tryz.ntmps49
        go_wp2_with fail
        refine (HE2.out).mono ?_; intro e w1 hp
        have hq := hp
        obtain ⟨rfl, _⟩ := hq
        have HP := Lib.hid hp
        clear hp HE2
        go_wp2_with fail
        go_end0
        exact Upto.from_ HUP.out HP.out
      · rw [sep_end F false (.inr ⟨rfl, hK⟩)]
        rw [hB] at c3
        rw [hK] at c4
        clear hB hK HE2
        go_enter Tryz.func49, Tryz.ntmps49
        go_wp2_with fail
        refine (HE.out).mono ?_; intro e w1 hp
        have hq := hp
        obtain ⟨rfl, _⟩ := hq
        have HP := Lib.hid hp
        clear hp HE
        go_wp2_with fail
        go_end0
        exact HP.out
    · rw [sep_same F hB]
      rw [hB] at c3
      clear hB HE HE2
      go_enter Tryz.func49, Tryz.ntmps49
      go_wp2_with fail
      go_end0
      exact ⟨rfl, v, HH.out, Upto.refl _ _ _⟩
  · rw [sep_end F b (.inl hB)]
    rw [hB] at c3
    clear hB HE2
    cases b
    all_goals
      go_enter Tryz.func49, Tryz.ntmps49
      go_wp2_with fail
      refine (HE.out).mono ?_; intro e w1 hp
      have hq := hp
      obtain ⟨rfl, _⟩ := hq
      have HP := Lib.hid hp
      clear hp HE
      go_wp2_with fail
      go_end0
      exact HP.out
/-- How far a row is split. -/
def accF (ifs : List UInt8) (pre : List (UInt8 × UInt8)) : FieldsT := pre.foldl (FieldsT.take ifs) ⟨[], ([], []), false, false⟩
theorem accF_nil (ifs : List UInt8) : accF ifs [] = ⟨[], ([], []), false, false⟩ := rfl
theorem accF_snoc (ifs : List UInt8) (pre : List (UInt8 × UInt8)) (x : UInt8 × UInt8) : accF ifs (pre ++ [x]) = (accF ifs pre).take ifs x := by
  unfold accF; rw [List.foldl_append]; rfl
theorem stop_few (F : FieldsT) (b : Bool) : (F.stop b).l.length ≤ F.l.length + 1 ∧ (F.stop b).now.1.length ≤ F.now.1.length + 1 ∧ (F.stop b).now.2.length ≤ F.now.2.length + 1 := by
  unfold FieldsT.stop
  cases F.begun <;> simp
theorem sep_few (F : FieldsT) (b : Bool) : (F.sep b).l.length ≤ F.l.length + 1 ∧ (F.sep b).now.1.length ≤ F.now.1.length + 1 ∧ (F.sep b).now.2.length ≤ F.now.2.length + 1 := by
  unfold FieldsT.sep
  split
  · omega
  · split
    · exact stop_few { F with begun := true } false
    · exact stop_few F b
theorem take_few (ifs : List UInt8) (F : FieldsT) (x : UInt8 × UInt8) : (F.take ifs x).l.length ≤ F.l.length + 1 ∧ (F.take ifs x).now.1.length ≤ F.now.1.length + 1 ∧ (F.take ifs x).now.2.length ≤ F.now.2.length + 1 := by
  unfold FieldsT.take
  split
  · exact sep_few F _
  · split
    · exact stop_few F _
    · dsimp only
      split <;> simp
theorem accF_few (ifs : List UInt8) : ∀ (pre : List (UInt8 × UInt8)) (F : FieldsT), (pre.foldl (FieldsT.take ifs) F).l.length ≤ F.l.length + pre.length ∧ (pre.foldl (FieldsT.take ifs) F).now.1.length ≤ F.now.1.length + pre.length ∧ (pre.foldl (FieldsT.take ifs) F).now.2.length ≤ F.now.2.length + pre.length
  | [], F => by simp
  | x :: pre, F => by
    have h1 := take_few ifs F x
    have h2 := accF_few ifs pre (F.take ifs x)
    simp only [List.foldl_cons, List.length_cons]
    omega
end Go.Proofs.YtkmpbkhlcapbgaaGreatDoor
namespace Go.Proofs.YtkmpbkhlcapbgaaGreatDoor
open Go Go.RowKit Go.Shelf
attribute [local go_sem] Oper.semAt_some
theorem fields_own (n base g : Nat) (f : List (UInt8 × UInt8) → FieldsT) : OwnFrom n (fun pre W => ∃ v, FieldsAt base g W v (f pre)) := fun s A B row ⟨v, hs⟩ hg hr => by
  refine ⟨v, row_own n g _ (fun (_ : Unit) => _) () A B row hs.row hg hr, ?_, hs.gb, hs.few⟩
  refine ⟨hs.own.1, ?_⟩
  rcases hs.own.2 with h2 | ⟨q, c, cur, hv, hb, hh, r⟩
  · exact .inl h2
  · exact .inr ⟨q, c, cur, hv, hb, (hg.block q (lt_of_block hh) (fun eq => by
      obtain ⟨_, o, ho, hc⟩ := hr q eq.symm
      rw [hh] at ho
      cases ho
      cases hc)).trans hh, r⟩
theorem Upto.row {base g : Nat} {w w' : World} (hu : Upto base g w w') {b e : Nat} {l : List Value} (h : RowIs w b e l) (h1 : b < base) (h2 : b ≠ g) : RowIs w' b e l := by
  unfold RowIs; rw [hu.block b h1 h2]; exact h
theorem Upto.toBelow {base g s : Nat} {w w' : World} (hu : Upto base g w w') (h1 : s ≤ base) (h2 : s ≤ g) : Below s w w' :=
  ⟨hu.os, hu.tape, hu.output, hu.size, fun k hk => hu.block k (by omega) (by omega)⟩
/-- What stands at each round. -/
def SplitJ (t m ifs : ByteArray) (w : World) (pre : List (UInt8 × UInt8)) (W : World) : Prop :=
  ((∃ v, FieldsAt (w.heap.size + 5) (w.heap.size + 1 + 1) W v (accF ifs.data.toList pre)) ∧ RowIs W (w.heap.size + 1) 9 [.string ifs] ∧ RowIs W (w.heap.size + 1 + 1 + 1) 94 [.pointer (some ⟨w.heap.size + 1 + 1, 0, none⟩)] ∧ RowIs W (w.heap.size + 1 + 1 + 1 + 1) 38 [.string t, .string m]) ∧ Below w.heap.size w W
theorem splitJ_own (n : Nat) (t m ifs : ByteArray) (w : World) (hn : w.heap.size ≤ n) : OwnFrom n (SplitJ t m ifs w) :=
  OwnFrom.and (OwnFrom.and (fields_own _ _ _ (accF ifs.data.toList)) (OwnFrom.and (row_own _ _ _ (fun _ => [.string ifs])) (OwnFrom.and (row_own _ _ _ (fun _ => [.pointer (some ⟨w.heap.size + 1 + 1, 0, none⟩)])) (row_own _ _ _ (fun _ => [.string t, .string m]))))) (ownFrom_below (Nat.le_refl _) hn)
/-- A round has done its work: what it leaves. -/
theorem splitJ_next (n : Nat) (t m ifs : ByteArray) (w : World) (pre : List (UInt8 × UInt8)) (x : UInt8 × UInt8) (W W' : World) (h : SplitJ t m ifs w pre W) (hu : Upto (w.heap.size + 5) (w.heap.size + 1 + 1) W W')
    (hf : ∃ v, FieldsAt (w.heap.size + 5) (w.heap.size + 1 + 1) W' v ((accF ifs.data.toList pre).take ifs.data.toList x)) : KeepsFrom n W W' ∧ KB (w.heap.size + 1 + 1 + 1 + 1) W W' ∧ SplitJ t m ifs w (pre ++ [x]) W' := by
  obtain ⟨⟨_, h1, h2, h3⟩, hb⟩ := h
  refine ⟨hu.others.from _, hu.block _ (by omega) (by omega), ⟨?_, hu.row h1 (by omega) (by omega), hu.row h2 (by omega) (by omega), hu.row h3 (by omega) (by omega)⟩, hb.trans (hu.toBelow (by omega) (by omega))⟩
  rw [accF_snoc]
  exact hf
theorem take_sep (ifs : List UInt8) (F : FieldsT) (x : UInt8 × UInt8) (h1 : x.2 = 115) (h2 : ifs.contains x.1 = true) : F.take ifs x = F.sep ([32, 9, 10].contains x.1) := by
  unfold FieldsT.take; rw [h1, h2]; rfl
theorem take_stop (ifs : List UInt8) (F : FieldsT) (x : UInt8 × UInt8) (h2 : x.2 = 98) : F.take ifs x = F.stop false := by
  unfold FieldsT.take; rw [h2]; rfl
theorem take_more (ifs : List UInt8) (F : FieldsT) (x : UInt8 × UInt8) (h1 : (x.2 == 115 && ifs.contains x.1) = false) (h2 : x.2 ≠ 98) :
    F.take ifs x = ⟨F.l, if x.2 == 101 then F.now else (F.now.1 ++ [x.1], F.now.2 ++ [x.2]), true, false⟩ := by
  unfold FieldsT.take; rw [h1, if_neg (by decide), if_neg (by simpa using h2)]
theorem take_skip (ifs : List UInt8) (F : FieldsT) (xc : UInt8) : F.take ifs (xc, 101) = ⟨F.l, F.now, true, false⟩ := by
  rw [take_more ifs F (xc, 101) rfl (show (101 : UInt8) ≠ 98 by decide)]; rfl
theorem take_add (ifs : List UInt8) (F : FieldsT) (xc xk : UInt8) (h1 : (xk == 115 && ifs.contains xc) = false) (h2 : xk ≠ 98) (h3 : xk ≠ 101) : F.take ifs (xc, xk) = ⟨F.l, (F.now.1 ++ [xc], F.now.2 ++ [xk]), true, false⟩ := by
  rw [take_more ifs F (xc, xk) h1 h2, if_neg (by simpa using h3)]
theorem split_start (t m ifs : ByteArray) (w W0 : World) (hW0 : (((((w.alloc (.cells #[.string t, .string m] 38)).alloc (.cells #[.string ifs] 9)).alloc (.cells #[.slice none 0 0, .string ⟨#[]⟩, .string ⟨#[]⟩, .bool false, .bool false] 96)).alloc (.cells #[.pointer (some ⟨w.heap.size + 1 + 1, 0, none⟩)] 94)).alloc (.cells #[.string t, .string m] 38)) = W0) :
    SplitJ t m ifs w [] W0 ∧ RowIs W0 (w.heap.size + 1 + 1 + 1 + 1) 38 [.string t, .string m] ∧ W0.heap.size = w.heap.size + 5 := by
  obtain ⟨W1, h1⟩ : ∃ W1, w.alloc (.cells #[.string t, .string m] 38) = W1 := ⟨_, rfl⟩
  have s1 : W1.heap.size = w.heap.size + 1 := by rw [← h1]; simp
  have b1 : Below w.heap.size w W1 := by rw [← h1]; exact (Below.refl _ _).alloc (Nat.le_refl _) _
  rw [h1] at hW0; clear h1
  obtain ⟨W2, h2⟩ : ∃ W2, W1.alloc (.cells #[.string ifs] 9) = W2 := ⟨_, rfl⟩
  have s2 : W2.heap.size = w.heap.size + 1 + 1 := by rw [← h2]; simp [s1]
  have r2 : RowIs W2 (w.heap.size + 1) 9 [.string ifs] := by rw [← h2, ← s1]; exact RowIs.new W1 _ _
  have b2 : Below w.heap.size w W2 := by rw [← h2]; exact b1.alloc b1.size _
  rw [h2] at hW0; clear h2
  obtain ⟨W3, h3⟩ : ∃ W3, W2.alloc (.cells #[.slice none 0 0, .string ⟨#[]⟩, .string ⟨#[]⟩, .bool false, .bool false] 96) = W3 := ⟨_, rfl⟩
  have s3 : W3.heap.size = w.heap.size + 1 + 1 + 1 := by rw [← h3]; simp [s2]
  have r3 : RowIs W3 (w.heap.size + 1 + 1) 96 [.slice none 0 0, .string ⟨#[]⟩, .string ⟨#[]⟩, .bool false, .bool false] := by rw [← h3, ← s2]; exact RowIs.new W2 _ _
  have q2 : RowIs W3 (w.heap.size + 1) 9 [.string ifs] := by rw [← h3]; exact r2.alloc _
  have b3 : Below w.heap.size w W3 := by rw [← h3]; exact b2.alloc b2.size _
  rw [h3] at hW0; clear h3
  obtain ⟨W4, h4⟩ : ∃ W4, W3.alloc (.cells #[.pointer (some ⟨w.heap.size + 1 + 1, 0, none⟩)] 94) = W4 := ⟨_, rfl⟩
  have s4 : W4.heap.size = w.heap.size + 1 + 1 + 1 + 1 := by rw [← h4]; simp [s3]
  have r4 : RowIs W4 (w.heap.size + 1 + 1 + 1) 94 [.pointer (some ⟨w.heap.size + 1 + 1, 0, none⟩)] := by rw [← h4, ← s3]; exact RowIs.new W3 _ _
  have q3 : RowIs W4 (w.heap.size + 1) 9 [.string ifs] := by rw [← h4]; exact q2.alloc _
  have q4 : RowIs W4 (w.heap.size + 1 + 1) 96 [.slice none 0 0, .string ⟨#[]⟩, .string ⟨#[]⟩, .bool false, .bool false] := by rw [← h4]; exact r3.alloc _
  have b4 : Below w.heap.size w W4 := by rw [← h4]; exact b3.alloc b3.size _
  rw [h4] at hW0; clear h4
  have r5 : RowIs W0 (w.heap.size + 1 + 1 + 1 + 1) 38 [.string t, .string m] := by rw [← hW0, ← s4]; exact RowIs.new W4 _ _
  have s5 : W0.heap.size = w.heap.size + 5 := by rw [← hW0]; simp [s4]
  refine ⟨⟨⟨⟨.slice none 0 0, ?_, ⟨rfl, .inl ⟨rfl, rfl⟩⟩, by omega, by simp [accF]⟩, ?_, ?_, r5⟩, ?_⟩, r5, s5⟩
  · rw [← hW0]; exact q4.alloc _
  · rw [← hW0]; exact q3.alloc _
  · rw [← hW0]; exact r4.alloc _
  · rw [← hW0]; exact b4.alloc b4.size _
theorem snoc_bytes (l : List UInt8) (x : UInt8) : (⟨l.toArray⟩ : ByteArray) ++ ⟨#[x]⟩ = ⟨(l ++ [x]).toArray⟩ := by
  apply ByteArray.ext; simp
theorem ib_at (s : ByteArray) (c : UInt8) : ∃ k : Int, (∀ W, Calls Tryz.prog 48 #[.string s, .int .u8 (c.toNat : Int)] W fun e w' => e = .returned (.int .i64 k) ∧ w' = W) ∧ s.data.toList.contains c = decide (0 ≤ k) :=
  ⟨Lib.indexByte s.data.toList c, fun W => by have h := Tryz.strings_IndexByte s (c.toNat : Int) W; simpa using h, Lib.contains_iff_indexByte _ _⟩
theorem FieldsAt.drew {base g : Nat} {w : World} {v : Value} {F : FieldsT} (h : FieldsAt base g w v F) : FieldsAt base g w.drew v F := ⟨h.row, ⟨h.own.1, h.own.2⟩, h.gb, h.few⟩
theorem FieldsAt.below {base g : Nat} {w w' : World} {v : Value} {F : FieldsT} (h : FieldsAt base g w v F) (hb : Below w.heap.size w w') : FieldsAt base g w' v F := ⟨h.row.below hb, own_below h.own hb, h.gb, h.few⟩
theorem FieldsAt.go {base g : Nat} {w : World} {v : Value} {F : FieldsT} (h : FieldsAt base g w v F) : FieldsAt base g ((w.setCell ⟨g, 3, none⟩ (.bool true)).setCell ⟨g, 4, none⟩ (.bool false)) v ⟨F.l, F.now, true, false⟩ :=
  ⟨(h.row.set 3 (.bool true)).set 4 (.bool false), own_set (own_set h.own g 3 h.gb _) g 4 h.gb _, h.gb, h.few⟩
theorem FieldsAt.now {base g : Nat} {w : World} {v : Value} {F : FieldsT} (h : FieldsAt base g w v F) (N : RowT) : FieldsAt base g ((w.setCell ⟨g, 1, none⟩ (.string ⟨N.1.toArray⟩)).setCell ⟨g, 2, none⟩ (.string ⟨N.2.toArray⟩)) v ⟨F.l, N, F.begun, F.blank⟩ :=
  ⟨(h.row.set 1 _).set 2 _, own_set (own_set h.own g 1 h.gb _) g 2 h.gb _, h.gb, h.few⟩
theorem one_cell {W : World} {b e : Nat} {x0 : Value} (r : RowIs W b e [x0]) : W.cell? ⟨b, 0, none⟩ = some x0 := by rw [r.cell]; rfl
/-- What a walked round leaves, to be shown. -/
def RoundL (n : Nat) (t m ifs : ByteArray) (w : World) (pre : List (UInt8 × UInt8)) (x : UInt8 × UInt8) (W W' : World) : Prop := KeepsFrom n W W' ∧ KB (w.heap.size + 1 + 1 + 1 + 1) W W' ∧ SplitJ t m ifs w (pre ++ [x]) W'
set_option maxRecDepth 100000 in
set_option maxHeartbeats 8000000 in
theorem split_in (n : Nat) (hn : 6 ≤ n) (t m ifs : ByteArray) (h : t.size = m.size) (hs : t.size ≤ 1000000) (w : World) :
    CallsIn Fence.wide n Tryz.prog 23 #[.agg #[.string t, .string m], .string ifs] w fun e w' => ∃ v, e = .returned v ∧ w'.ownsRow w.heap.size 38 2 v (splitR (t.data.toList, m.data.toList) ifs.data.toList).length (cellsL (bvR (splitR (t.data.toList, m.data.toList) ifs.data.toList))) ∧ Below w.heap.size w w' := by
  have H1 := Lib.hid h
  have HS := Lib.hid hs
  clear h hs
  have hn1 : 1 ≤ n := by omega
  refine callsIn_of_wp_marks Tryz.func23 rfl trivial ?_ rfl
  simp only [Tryz.ntmps23, List.size_toArray, List.length_cons, List.length_nil, Nat.reduceAdd, Nat.reduceSub, Array.replicate_succ, Array.replicate_zero, List.push_toArray, List.append_toArray, List.nil_append, List.cons_append]
  gi_wp2
  first | refine ⟨trivial, (?_ : CallsIn _ _ _ _ _ _ _)⟩ | refine ⟨trivial, fun _ => by omega, ?_⟩
  refine (cells_in (n - 1) _ _ _).mono ?_; rintro e w' ⟨rfl, rfl⟩
  gi_wp2
  obtain ⟨W0, hW0⟩ : ∃ W0, (((((w.alloc (.cells #[.string t, .string m] 38)).alloc (.cells #[.string ifs] 9)).alloc (.cells #[.slice none 0 0, .string ⟨#[]⟩, .string ⟨#[]⟩, .bool false, .bool false] 96)).alloc (.cells #[.pointer (some ⟨w.heap.size + 1 + 1, 0, none⟩)] 94)).alloc (.cells #[.string t, .string m] 38)) = W0 := ⟨_, rfl⟩
  obtain ⟨hj0, rY, hsz⟩ : SplitJ t m ifs w [] W0 ∧ RowIs W0 (w.heap.size + 1 + 1 + 1 + 1) 38 [.string t, .string m] ∧ W0.heap.size = w.heap.size + 5 := split_start t m ifs w W0 hW0
  rw [hW0]
  clear hW0
  refine wpIn_rangeFunc_ownH rfl hn1 (gf := 75) (lb := #[.pointer (some ⟨w.heap.size + 1 + 1 + 1 + 1, 0, none⟩)]) rfl trivial (enters_of Tryz.func75 (by kernel_rfl) rfl)
    (cells_stops (n - 1) (by omega) (w.heap.size + 1 + 1 + 1 + 1) t m H1.out (by have := HS.out; omega) W0 rY) (fun h k => kb_t _ h k) (kb_b _ (by omega)) (Below.refl _ _) (fun _ => rfl)
    (SplitJ t m ifs w) (fun _ _ _ => False)
    (splitJ_own _ t m ifs w (by omega)) (fun _ _ _ _ _ hs _ _ => hs) hj0
    (fun x a' W => ∃ Bx, w.heap.size + 1 + 1 + 1 + 1 < Bx ∧ RowIs W Bx 100 [.int .u8 (x.1.toNat : Int), .int .u8 (x.2.toNat : Int)] ∧ a' = { tmps := #[.agg #[.string t, .string m], .string ifs, .pointer (some ⟨w.heap.size, 0, none⟩), .pointer (some ⟨w.heap.size + 1, 0, none⟩), .slice none 0 0, .pointer (some ⟨w.heap.size + 1 + 1 + 1, 0, none⟩), .pointer (some ⟨Bx, 0, none⟩), .agg #[.slice none 0 0, .string ⟨#[]⟩, .string ⟨#[]⟩, .bool false, .bool false], .pointer (some ⟨w.heap.size + 1 + 1, 0, none⟩), .agg #[.string t, .string m], .func (.func 75) #[] #[.pointer (some ⟨w.heap.size + 1 + 1 + 1 + 1, 0, none⟩)], .agg #[.int .u8 (x.1.toNat : Int), .int .u8 (x.2.toNat : Int)], undef, undef, undef, undef, undef, undef, undef, undef, undef, undef, undef, undef, undef, undef, undef, undef, undef, undef, undef, undef, undef, undef, undef, undef, undef, undef, undef, undef, undef, undef, undef, undef, undef, undef, undef, undef, undef, undef, undef, undef, undef, undef, undef, undef, undef, undef, undef], defers := [] })
    (fun x a' _ X Y row hs hg hr => by obtain ⟨Bx, q1, q2, q3⟩ := hs; exact ⟨Bx, q1, row_own _ Bx _ (fun (_ : Unit) => [.int .u8 (x.1.toNat : Int), .int .u8 (x.2.toNat : Int)]) () X Y row q2 hg hr, q3⟩)
    ?assign0 ?body0 ?done0 ?stop0
  case assign0 =>
    rintro l pre x W K ⟨⟨⟨v, h0⟩, h1, h2, h3⟩, hb⟩ hK
    have hyl := h3.lt
    simp only [encC]
    gi_wp2
    exact hK _ _ ((KeepsOthers.alloc _ _).from _) (kb_below ((Below.refl W.heap.size W).alloc (Nat.le_refl _) _) hyl) ⟨⟨⟨v, h0.below ((Below.refl W.heap.size W).alloc (Nat.le_refl _) _)⟩, h1.alloc _, h2.alloc _, h3.alloc _⟩, hb.alloc hb.size _⟩ ⟨W.heap.size, hyl, RowIs.new W _ _, rfl⟩
  case body0 =>
    rintro l pre x a' W hl ⟨r, hr⟩ hJ ⟨Bx, hBx, bX, rfl⟩ hltN
    have hlen : (cellsR t m).length ≤ t.size := by
      unfold cellsR; rw [List.length_zip]; have : t.size = t.data.toList.length := by simp
      omega
    have hq := HS.out
    have hfew := accF_few ifs.data.toList pre ⟨[], ([], []), false, false⟩
    simp only [List.length_nil, Nat.zero_add] at hfew
    have hprel : pre.length < 1000000 := by omega
    have hbase : w.heap.size + 5 ≤ W.heap.size := by have := hJ.1.2.2.2.lt; omega
    have HJ := Lib.hid hJ
    obtain ⟨⟨⟨v, h0⟩, h1, h2, h3⟩, hb⟩ := hJ
    have hF : ∃ F, accF ifs.data.toList pre = F := ⟨_, rfl⟩
    obtain ⟨F, hF⟩ := hF
    have hfew' : F.l.length ≤ pre.length ∧ F.now.1.length ≤ pre.length ∧ F.now.2.length ≤ pre.length := by rw [← hF]; exact hfew
    rw [hF] at h0
    have HNX : Hid (∀ n W', Upto (w.heap.size + 5) (w.heap.size + 1 + 1) W W' → (∃ v, FieldsAt (w.heap.size + 5) (w.heap.size + 1 + 1) W' v (F.take ifs.data.toList x)) → RoundL n t m ifs w pre x W W') := fun n W' hu hf => splitJ_next _ t m ifs w pre x W W' HJ.out hu (by rw [hF]; exact hf)
    clear hfew hF HJ
    have ic := one_cell h1
    have pc := one_cell h2
    have bc0 : W.cell? ⟨Bx, 0, none⟩ = some (.int .u8 (x.1.toNat : Int)) := by rw [bX.cell]; rfl
    have bc1 : W.cell? ⟨Bx, 1, none⟩ = some (.int .u8 (x.2.toNat : Int)) := by rw [bX.cell]; rfl
    obtain ⟨c0, c1, c2, c3, c4, f0, f1, f2, f3, f4, lt⟩ := cells5 h0.row
    have hd : 1 ≤ n - 1 - 1 := by omega
    have hf1 : Fence.wide.fn 48 := trivial
    have hf2 : Fence.wide.fn 49 := trivial
    have hf3 : Fence.wide.fn 51 := trivial
    have hf4 : Fence.wide.fn 50 := trivial
    obtain ⟨xc, xk⟩ := x
    dsimp only at bc0 bc1 ⊢
    obtain ⟨i1, hI1, hc1'⟩ := ib_at ifs xc
    obtain ⟨i2, hI2, hc2'⟩ := ib_at ⟨#[32, 9, 10]⟩ xc
    have HBX := Lib.hid bX
    have HI1 := Lib.hid hI1
    have HI2 := Lib.hid hI2
    have H0 := Lib.hid h0
    have HBS := Lib.hid hbase
    have HPL := Lib.hid hprel
    have HFW := Lib.hid hfew'
    have HRP := Lib.hid h2
    have HR1 := Lib.hid hr
    have HLL := Lib.hid hl
    clear hI1 hI2 h0 hbase hprel hfew' h1 h2 h3 hb bX hr hltN hlen hq hl
    by_cases hk1 : xk = 115
    · subst hk1
      have bc1 : W.cell? ⟨Bx, 1, none⟩ = some (.int .u8 115) := bc1
      cases hq1 : ifs.data.toList.contains xc
      · -- A2
        rw [hq1] at hc1'
        have hni : ¬ 0 ≤ i1 := by simpa using hc1'.symm
        have hto : (((115 : UInt8) == 115 && ifs.data.toList.contains xc) = false) := by rw [hq1]; rfl
        have hk2 : (115 : UInt8) ≠ 98 := by decide
        clear hc1' hc2' hq1
        have hfw := HFW.out
        have hpl := HPL.out
        have HADD := Lib.hid (fun (W : World) => add_at ⟨F.now.1.toArray⟩ ⟨F.now.2.toArray⟩ xc 115 (by show F.now.1.toArray.size ≤ _; simp; omega) (by show F.now.2.toArray.size ≤ _; simp; omega) W)
        have hmo : Tryz.prog.follows .mixedOrders = true := by kernel_rfl
        obtain ⟨T, hT⟩ : ∃ T : ByteArray, (⟨F.now.1.toArray⟩ : ByteArray) = T := ⟨_, rfl⟩
        obtain ⟨M, hM⟩ : ∃ M : ByteArray, (⟨F.now.2.toArray⟩ : ByteArray) = M := ⟨_, rfl⟩
        rw [hT, hM] at HADD
        rw [hT] at c1
        rw [hM] at c2
        have HT := Lib.hid hT
        have HM := Lib.hid hM
        have hg2 := Lib.hid (H0.out.go)
        have hu2 : Hid (Upto (w.heap.size + 5) (w.heap.size + 1 + 1) W ((W.setCell ⟨w.heap.size + 1 + 1, 3, none⟩ (.bool true)).setCell ⟨w.heap.size + 1 + 1, 4, none⟩ (.bool false))) := ((Upto.refl _ _ W).set 3 _).set 4 _
        clear hfw hpl hT hM
        have hBn : Bx ≠ w.heap.size + 1 + 1 := by omega
        have hBn2 : ¬ w.heap.size + 1 + 1 = Bx := by omega
        have hPn : ¬ w.heap.size + 1 + 1 = w.heap.size + 1 + 1 + 1 := by omega
        have hkn3 : ((115 : Int) == 101) = false := by decide
        gi_wp2
        refine (CallsIn.inRound l (callsIn_wide.2 (HI1.out _))).mono ?_; rintro e w2 ⟨rfl, hw2⟩
        rw [hw2]
        clear hw2
        gi_wp2
        obtain ⟨X, hX⟩ : ∃ X, ((W.setCell ⟨w.heap.size + 1 + 1, 3, none⟩ (.bool true)).setCell ⟨w.heap.size + 1 + 1, 4, none⟩ (.bool false)) = X := ⟨_, rfl⟩
        have bX2 := (HBX.out.other (a := ⟨w.heap.size + 1 + 1, 3, none⟩) hBn (.bool true)).other (a := ⟨w.heap.size + 1 + 1, 4, none⟩) hBn (.bool false)
        rw [hX] at hg2 hu2 bX2 ⊢
        clear hX c0 c1 c2 c3 c4 f0 f1 f2 f3 f4 lt pc ic bc0 bc1
        have rx := hg2.out.row
        rw [HT.out, HM.out] at rx
        obtain ⟨c0, c1, c2, c3, c4, f0, f1, f2, f3, f4, lt⟩ := cells5 rx
        have px := hu2.out.row HRP.out (by omega) (by omega)
        have pc := one_cell px
        have bc0 : X.cell? ⟨Bx, 0, none⟩ = some (.int .u8 (xc.toNat : Int)) := by rw [bX2.cell]; rfl
        have bc1 : X.cell? ⟨Bx, 1, none⟩ = some (.int .u8 115) := by rw [bX2.cell]; rfl
        have HPX := Lib.hid px
        have hbx : w.heap.size + 5 ≤ X.heap.size := Nat.le_trans HBS.out hu2.out.size
        have HBX2 := Lib.hid hbx
        have HR5 : Hid (∀ w3, Below X.drew.heap.size X.drew w3 → RowIs w3 (w.heap.size + 1 + 1) 96 [v, .string T, .string M, .bool true, .bool false] ∧ RowIs w3 (w.heap.size + 1 + 1 + 1) 94 [.pointer (some ⟨w.heap.size + 1 + 1, 0, none⟩)]) := fun w3 hb => ⟨RowIs.below (w := X.drew) rx hb, RowIs.below (w := X.drew) px hb⟩
        clear rx px bX2 hbx
        gi_region_with_o (gi_at_call 51; refine (CallsIn.inRound l (callsIn_wide.2 (HADD.out _))).mono ?_; rintro e w3 ⟨rfl, hb3⟩; obtain ⟨r5, rp⟩ := HR5.out w3 hb3; obtain ⟨d0, d1, d2, d3, d4, g0, g1, g2, g3, g4, lt3⟩ := cells5 r5; have pc3 := one_cell rp; have HB3 := Lib.hid hb3; clear r5 rp hb3)
        all_goals
          gi_wp2
          have hgf := ((hg2.out.drew).below HB3.out).now (F.now.1 ++ [xc], F.now.2 ++ [115])
          simp only [← snoc_bytes, HT.out, HM.out] at hgf
          refine HNX.out _ _ (hu2.out.trans ((Upto.drew X).trans (((Upto.below (w := X.drew) HB3.out HBX2.out).set 1 _).set 2 _))) ⟨v, ?_⟩
          rw [take_add _ _ _ _ hto hk2 (by decide)]
          exact hgf
      · -- A1: the separator
        rw [hq1] at hc1'
        have hni : 0 ≤ i1 := by simpa using hc1'.symm
        obtain ⟨b, hb⟩ : ∃ b, ([32, 9, 10] : List UInt8).contains xc = b := ⟨_, rfl⟩
        have hc3 : decide (0 ≤ i2) = b := by rw [← hc2']; exact hb
        have hbw := HBS.out
        have hpl := HPL.out
        have hfw := HFW.out
        have HS1 := Lib.hid (sep_at (w.heap.size + 5) (w.heap.size + 1 + 1) v F b (by omega) W.drew hbw H0.out.drew)
        have HT : Hid (F.take ifs.data.toList (xc, 115) = F.sep b) := by unfold Hid; rw [take_sep _ _ _ rfl hq1, hb]
        clear hbw hpl hfw hq1 hc1' hc2' hb
        gi_wp2
        refine (CallsIn.inRound l (callsIn_wide.2 (HI1.out _))).mono ?_; rintro e w2 ⟨rfl, rfl⟩
        have hmo : Tryz.prog.follows .mixedOrders = true := by kernel_rfl
        gi_wp2
        gi_region_with_o (first
          | (gi_at_call 48; refine (CallsIn.inRound l (callsIn_wide.2 (HI2.out _))).mono ?_; rintro e w3 ⟨rfl, rfl⟩)
          | (gi_at_call 49; refine (CallsIn.inRound l (callsIn_wide.2 HS1.out)).mono ?_; intro e w3 hp; have HP := Lib.hid hp; obtain ⟨rfl, _⟩ := hp))
        all_goals
          gi_wp2
          obtain ⟨_, v3, hf3, hu3⟩ := HP.out
          exact HNX.out _ _ ((Upto.drew w2).trans hu3) ⟨v3, by rw [HT.out]; exact hf3⟩
    · by_cases hk2 : xk = 98
      · subst hk2
        have bc1 : W.cell? ⟨Bx, 1, none⟩ = some (.int .u8 98) := bc1
        have hbw := HBS.out
        have hpl := HPL.out
        have hfw := HFW.out
        have HS1 := Lib.hid (end_at (w.heap.size + 5) (w.heap.size + 1 + 1) v F false (by omega) W hbw H0.out)
        have HT : Hid (F.take ifs.data.toList (xc, 98) = F.stop false) := take_stop _ _ _ rfl
        clear hbw hpl hfw hc1' hc2' hk1
        gi_wp2
        refine (CallsIn.inRound l (callsIn_wide.2 HS1.out)).mono ?_; intro e w3 hp
        have HP := Lib.hid hp
        obtain ⟨rfl, _⟩ := hp
        gi_wp2
        obtain ⟨_, v3, hf3, hu3⟩ := HP.out
        exact HNX.out _ _ hu3 ⟨v3, by rw [HT.out]; exact hf3⟩
      · have hkn1 : ((xk.toNat : Int) == 115) = false := by
          have : xk.toNat ≠ 115 := fun e => hk1 (UInt8.toNat_inj.1 (e.trans rfl))
          simp; omega
        have hkn2 : ((xk.toNat : Int) == 98) = false := by
          have : xk.toNat ≠ 98 := fun e => hk2 (UInt8.toNat_inj.1 (e.trans rfl))
          simp; omega
        have hto : ((xk == 115 && ifs.data.toList.contains xc) = false) := by simp [hk1]
        clear hc1' hc2'
        have hfw := HFW.out
        have hpl := HPL.out
        have HADD := Lib.hid (fun (W : World) => add_at ⟨F.now.1.toArray⟩ ⟨F.now.2.toArray⟩ xc xk (by show F.now.1.toArray.size ≤ _; simp; omega) (by show F.now.2.toArray.size ≤ _; simp; omega) W)
        have hmo : Tryz.prog.follows .mixedOrders = true := by kernel_rfl
        obtain ⟨T, hT⟩ : ∃ T : ByteArray, (⟨F.now.1.toArray⟩ : ByteArray) = T := ⟨_, rfl⟩
        obtain ⟨M, hM⟩ : ∃ M : ByteArray, (⟨F.now.2.toArray⟩ : ByteArray) = M := ⟨_, rfl⟩
        rw [hT, hM] at HADD
        rw [hT] at c1
        rw [hM] at c2
        have HT := Lib.hid hT
        have HM := Lib.hid hM
        have hg2 := Lib.hid (H0.out.go)
        have hu2 : Hid (Upto (w.heap.size + 5) (w.heap.size + 1 + 1) W ((W.setCell ⟨w.heap.size + 1 + 1, 3, none⟩ (.bool true)).setCell ⟨w.heap.size + 1 + 1, 4, none⟩ (.bool false))) := ((Upto.refl _ _ W).set 3 _).set 4 _
        clear hfw hpl hT hM
        have hBn : Bx ≠ w.heap.size + 1 + 1 := by omega
        have hBn2 : ¬ w.heap.size + 1 + 1 = Bx := by omega
        have hPn : ¬ w.heap.size + 1 + 1 = w.heap.size + 1 + 1 + 1 := by omega
        by_cases hk3 : xk = 101
        · subst hk3
          have bc1 : W.cell? ⟨Bx, 1, none⟩ = some (.int .u8 101) := bc1
          clear hk1 hk2
          gi_wp2
          exact HNX.out _ _ hu2.out ⟨v, by rw [take_skip]; exact hg2.out⟩
        · have hkn3 : ((xk.toNat : Int) == 101) = false := by
            have : xk.toNat ≠ 101 := fun e => hk3 (UInt8.toNat_inj.1 (e.trans rfl))
            simp; omega
          have hkn4 : ((xk.toNat : Int) != 101) = true := by simp [bne, hkn3]
          gi_wp2
          obtain ⟨X, hX⟩ : ∃ X, ((W.setCell ⟨w.heap.size + 1 + 1, 3, none⟩ (.bool true)).setCell ⟨w.heap.size + 1 + 1, 4, none⟩ (.bool false)) = X := ⟨_, rfl⟩
          have bX2 := (HBX.out.other (a := ⟨w.heap.size + 1 + 1, 3, none⟩) hBn (.bool true)).other (a := ⟨w.heap.size + 1 + 1, 4, none⟩) hBn (.bool false)
          rw [hX] at hg2 hu2 bX2 ⊢
          clear hX c0 c1 c2 c3 c4 f0 f1 f2 f3 f4 lt pc ic bc0 bc1
          have rx := hg2.out.row
          rw [HT.out, HM.out] at rx
          obtain ⟨c0, c1, c2, c3, c4, f0, f1, f2, f3, f4, lt⟩ := cells5 rx
          have px := hu2.out.row HRP.out (by omega) (by omega)
          have pc := one_cell px
          have bc0 : X.cell? ⟨Bx, 0, none⟩ = some (.int .u8 (xc.toNat : Int)) := by rw [bX2.cell]; rfl
          have bc1 : X.cell? ⟨Bx, 1, none⟩ = some (.int .u8 (xk.toNat : Int)) := by rw [bX2.cell]; rfl
          have HPX := Lib.hid px
          have hbx : w.heap.size + 5 ≤ X.heap.size := Nat.le_trans HBS.out hu2.out.size
          have HBX2 := Lib.hid hbx
          have HR5 : Hid (∀ w3, Below X.drew.heap.size X.drew w3 → RowIs w3 (w.heap.size + 1 + 1) 96 [v, .string T, .string M, .bool true, .bool false] ∧ RowIs w3 (w.heap.size + 1 + 1 + 1) 94 [.pointer (some ⟨w.heap.size + 1 + 1, 0, none⟩)]) := fun w3 hb => ⟨RowIs.below (w := X.drew) rx hb, RowIs.below (w := X.drew) px hb⟩
          clear rx px bX2 hbx
          gi_region_with_o (gi_at_call 51; refine (CallsIn.inRound l (callsIn_wide.2 (HADD.out _))).mono ?_; rintro e w3 ⟨rfl, hb3⟩; obtain ⟨r5, rp⟩ := HR5.out w3 hb3; obtain ⟨d0, d1, d2, d3, d4, g0, g1, g2, g3, g4, lt3⟩ := cells5 r5; have pc3 := one_cell rp; have HB3 := Lib.hid hb3; clear r5 rp hb3)
          all_goals
            gi_wp2
            have hgf := ((hg2.out.drew).below HB3.out).now (F.now.1 ++ [xc], F.now.2 ++ [xk])
            simp only [← snoc_bytes, HT.out, HM.out] at hgf
            refine HNX.out _ _ (hu2.out.trans ((Upto.drew X).trans (((Upto.below (w := X.drew) HB3.out HBX2.out).set 1 _).set 2 _))) ⟨v, ?_⟩
            rw [take_add _ _ _ _ hto hk2 hk3]
            exact hgf
  case done0 =>
    rintro D ys W hD rfl hJ hK
    have hlen : (cellsR t m).length ≤ t.size := by
      unfold cellsR; rw [List.length_zip]; have : t.size = t.data.toList.length := by simp
      omega
    have hq := HS.out
    have hfew := accF_few ifs.data.toList (cellsR t m) ⟨[], ([], []), false, false⟩
    simp only [List.length_nil, Nat.zero_add] at hfew
    have hbase : w.heap.size + 5 ≤ W.heap.size := by have := hJ.1.2.2.2.lt; omega
    obtain ⟨⟨⟨v, h0⟩, h1, h2, h3⟩, hb⟩ := hJ
    have pc := one_cell h2
    have HE := Lib.hid (end_at (w.heap.size + 5) (w.heap.size + 1 + 1) v (accF ifs.data.toList (cellsR t m)) false (by have := hfew.1; unfold accF; omega) W hbase h0)
    have HRP := Lib.hid h2
    have HB := Lib.hid hb
    have HK := Lib.hid hK
    clear hfew hq hlen h0 h1 h2 h3 hb hbase hK
    gi_wp2
    first | refine ⟨trivial, (?_ : CallsIn _ _ _ _ _ _ _)⟩ | refine ⟨trivial, fun _ => by omega, ?_⟩
    refine (callsIn_wide.2 HE.out).mono ?_; rintro e w3 ⟨rfl, v3, hf3, hu3⟩
    have pc3 := one_cell (hu3.row HRP.out (by omega) (by omega))
    obtain ⟨c0, _, _, _, _, _, _, _, _, _, _⟩ := cells5 hf3.row
    have HF3 := Lib.hid hf3
    have HU3 := Lib.hid hu3
    clear hf3 hu3 pc
    gi_wp2
    have hK3 : w3.heap[D]? = some (.deferred (some [])) := HU3.out.others.2 D _ HK.out rfl
    refine ⟨by simp, .inl ⟨_, _, rfl, run_takeDeferred hK3, ?_⟩⟩
    have hBf : Below w.heap.size w (w3.putObj D (.deferred none)) := (HB.out.trans (HU3.out.toBelow (by omega) (by omega))).trans (belowK_b (w := w) (Nat.le_refl _) w3 D _ (.deferred none) (by omega) hK3 rfl rfl)
    refine ⟨v3, by simp [results, Tryz.results23, go_sem], v3, rfl, ?_, hBf⟩
    have ho := HF3.out.own
    have hsp : ((accF ifs.data.toList (cellsR t m)).stop false).l = splitR (t.data.toList, m.data.toList) ifs.data.toList := rfl
    rw [hsp] at ho
    refine ⟨ho.1, ?_⟩
    rcases ho.2 with q | ⟨q, c, cur, hv, hgq, hh, r⟩
    · exact .inl q
    · refine .inr ⟨q, c, cur, hv, by omega, ?_, r⟩
      show (w3.heap.setIfInBounds D _)[q]? = _
      rw [Array.getElem?_setIfInBounds_ne (by rintro rfl; rw [hK3] at hh; cases hh)]
      exact hh
  case stop0 =>
    rintro D c pre W _ _ h _
    exact h.elim
end Go.Proofs.YtkmpbkhlcapbgaaGreatDoor
namespace Go.Proofs.YtkmpbkhlcapbgaaGreatDoor
open Go Go.RowKit
theorem split_at (t m ifs : ByteArray) (h : t.size = m.size) (hs : t.size ≤ 1000000) (w : World) :
    Calls Tryz.prog 23 #[.agg #[.string t, .string m], .string ifs] w fun e w' => ∃ v, e = .returned v ∧ w'.ownsRow w.heap.size 38 2 v (splitR (t.data.toList, m.data.toList) ifs.data.toList).length (cellsL (bvR (splitR (t.data.toList, m.data.toList) ifs.data.toList))) ∧ Below w.heap.size w w' :=
  callsIn_wide.1 (split_in 6 (Nat.le_refl _) t m ifs h hs w)
theorem split_row (r : RowT) (ifs : List UInt8) (h : r.1.length = r.2.length) (hs : r.1.length ≤ 1000000) (w : World) :
    Calls Tryz.prog 23 #[.agg #[.string ⟨r.1.toArray⟩, .string ⟨r.2.toArray⟩], .string ⟨ifs.toArray⟩] w fun e w' => ∃ v, e = .returned v ∧ w'.ownsRow w.heap.size 38 2 v (splitR r ifs).length (cellsL (bvR (splitR r ifs))) ∧ Below w.heap.size w w' := by
  have := split_at ⟨r.1.toArray⟩ ⟨r.2.toArray⟩ ⟨ifs.toArray⟩ (by show r.1.toArray.size = r.2.toArray.size; simpa using h) (by show r.1.toArray.size ≤ _; simpa using hs) w
  simpa using this
theorem get_row (s : ByteArray) (hs : s.size ≤ 281474976710656) (hn : isName s.data.toList = true) (e : EnvT) (vv av vs vf : Value) (w : World) (hup : Rising e.vars) (hv : RowV w vv (bv e.vars)) :
    Calls Tryz.prog 15 #[.agg #[vv, av, vs, vf], .string s] w fun x w' => x = .returned (.tuple #[.string ⟨((e.get s.data.toList).getD []).toArray⟩, .bool (e.get s.data.toList).isSome]) ∧ Below w.heap.size w w' := by
  have hl := low_at hup s
  unfold EnvT.get
  cases hf : (findF e.vars s.data.toList).2
  · rw [hf] at hl
    exact get_none s (name_below s hs hn) _ _ hl vv av vs vf w hv
  · rw [hf] at hl
    have hlt : lowF e.vars s.data.toList < e.vars.length := by
      rcases Nat.lt_or_ge (lowF e.vars s.data.toList) e.vars.length with q | q
      · exact q
      · have := findF_end e.vars s.data.toList (Nat.le_antisymm (lowF_le _ _) q)
        rw [this] at hf; cases hf
    have hlt2 : lowF e.vars s.data.toList < (bv e.vars).length := by rw [bv_length]; exact hlt
    have := get_some s (name_below s hs hn) _ _ hl hlt2 _ rfl av vs vf vv w hv
    rw [if_pos rfl, List.head?_drop, List.getElem?_eq_getElem hlt]
    simpa [bv] using this
theorem ifs_at (e : EnvT) (S : Nat → Prop) (vv av vs vf : Value) (w : World) (h : EnvC w S vv av e) :
    Calls Tryz.prog 24 #[.agg #[vv, av, vs, vf]] w fun x w' => x = .returned (.string ⟨e.ifs.toArray⟩) ∧ Below w.heap.size w w' := by
  have := ifs_any (bv e.vars) vv av vs vf ⟨((e.get [73, 70, 83]).getD []).toArray⟩ (e.get [73, 70, 83]).isSome (fun W hW => get_row ⟨#[73, 70, 83]⟩ (by decide) (by decide) e vv av vs vf W h.up hW) w h.vars.1
  refine this.mono ?_
  rintro x w' ⟨rfl, hb⟩
  refine ⟨?_, hb⟩
  unfold EnvT.ifs
  cases e.get [73, 70, 83] <;> rfl
def FieldsRes (o : RowT × EnvT × Int × List UInt8) (w : World) (x : Ending) (w' : World) : Prop :=
  ∃ l va nv cv aa na ca, x = .returned (.tuple #[l, envVal va nv cv aa na ca o.2.1, faultVal o.2.2.1 o.2.2.2]) ∧ w'.ownsRow w.heap.size 38 2 l (splitR o.1 o.2.1.ifs).length (cellsL (bvR (splitR o.1 o.2.1.ifs))) ∧ EnvA w' (.slice va nv cv) (.slice aa na ca) o.2.1 ∧ Below w.heap.size w w'
theorem ownsRow_less {w : World} {b b' e s n : Nat} {v : Value} {xs : List Value} (h : w.ownsRow b e s v n xs) (hb : b' ≤ b) : w.ownsRow b' e s v n xs := by
  refine ⟨h.1, ?_⟩
  rcases h.2 with q | ⟨q, c, cur, hv, hg, r⟩
  · exact .inl q
  · exact .inr ⟨q, c, cur, hv, by omega, r⟩
set_option maxRecDepth 100000 in
set_option maxHeartbeats 8000000 in
theorem fields_of (s : ByteArray) (e : EnvT) (o : RowT × EnvT × Int × List UInt8) (va : Option Addr) (nv cv : Nat) (aa : Option Addr) (na ca : Nat) (w : World) 
    (hA : ∀ W, Below w.heap.size w W → Calls Tryz.prog 21 #[envVal va nv cv aa na ca e, .string s, .func (.func 22) #[] #[]] W (AllRes (fun b => b < w.heap.size) o W)) :
    Calls Tryz.prog 12 #[envVal va nv cv aa na ca e, .string s] w (FieldsRes o w) := by
  obtain ⟨r, e2, n, t⟩ := o
  have HA := Lib.hid hA
  clear hA
  go_enter Tryz.func12, Tryz.ntmps12
  go_wp2_with fail
  have B0 := (((Below.refl w.heap.size w).alloc (Nat.le_refl _) (.cells #[.slice va nv cv, .slice aa na ca, .int .i64 e.status, .string ⟨e.flags.toArray⟩] 28)).alloc (by simp) (.cells #[.slice none 0 0, .slice none 0 0, .int .i64 0, .string ⟨#[]⟩] 28)).alloc (by simp; omega) (.cells #[.int .i64 0, .string ⟨#[]⟩] 33)
  have r5 := ((RowIs.new (w.alloc (.cells #[.slice va nv cv, .slice aa na ca, .int .i64 e.status, .string ⟨e.flags.toArray⟩] 28)) 28 [.slice none 0 0, .slice none 0 0, .int .i64 0, .string ⟨#[]⟩])).alloc (.cells #[.int .i64 0, .string ⟨#[]⟩] 33)
  have r6 := RowIs.new ((w.alloc (.cells #[.slice va nv cv, .slice aa na ca, .int .i64 e.status, .string ⟨e.flags.toArray⟩] 28)).alloc (.cells #[.slice none 0 0, .slice none 0 0, .int .i64 0, .string ⟨#[]⟩] 28)) 33 [.int .i64 0, .string ⟨#[]⟩]
  simp only [World.size_alloc] at r5 r6
  refine (HA.out _ B0).mono ?_
  rintro y w1 ⟨va2, nv2, cv2, aa2, na2, ca2, rfl, hev, hlen, hfew, hb⟩
  have hb1 := B0.trans (hb.mono B0.size)
  have s5 := r5.below hb
  have s6 := r6.below hb
  have HF := fun W => Lib.hid (split_row r e2.ifs hlen hfew W)
  have HE : Hid (EnvC w1 (fun b => b ≠ w.heap.size + 1 ∧ b ≠ w.heap.size + 1 + 1) (.slice va2 nv2 cv2) (.slice aa2 na2 ca2) e2) := hev.keep (Nat.le_refl _) fun b q1 q2 => ⟨rfl, by simp at q1; omega⟩
  have HB1 := Lib.hid hb1
  have HS5 := Lib.hid s5
  have HS6 := Lib.hid s6
  clear B0 r5 r6 hb hb1 s5 s6 hev hlen hfew
  go_wp2_with fail
  have hne : w.heap.size + 1 + 1 < w1.heap.size := HS6.out.lt
  obtain ⟨W2, hW2⟩ : ∃ W2, (((w1.alloc (.cells #[.string ⟨r.1.toArray⟩, .string ⟨r.2.toArray⟩] 38)).alloc (.cells #[.slice va2 nv2 cv2, .slice aa2 na2 ca2, .int .i64 e2.status, .string ⟨e2.flags.toArray⟩] 28)).alloc (.cells #[.int .i64 n, .string ⟨t.toArray⟩] 33)) = W2 := ⟨_, rfl⟩
  have B2 := (((Below.refl w1.heap.size w1).alloc (Nat.le_refl _) (.cells #[.string ⟨r.1.toArray⟩, .string ⟨r.2.toArray⟩] 38)).alloc (by simp) (.cells #[.slice va2 nv2 cv2, .slice aa2 na2 ca2, .int .i64 e2.status, .string ⟨e2.flags.toArray⟩] 28)).alloc (by simp; omega) (.cells #[.int .i64 n, .string ⟨t.toArray⟩] 33)
  have q7 := ((RowIs.new w1 38 [.string ⟨r.1.toArray⟩, .string ⟨r.2.toArray⟩]).alloc (.cells #[.slice va2 nv2 cv2, .slice aa2 na2 ca2, .int .i64 e2.status, .string ⟨e2.flags.toArray⟩] 28)).alloc (.cells #[.int .i64 n, .string ⟨t.toArray⟩] 33)
  have q8 := (RowIs.new (w1.alloc (.cells #[.string ⟨r.1.toArray⟩, .string ⟨r.2.toArray⟩] 38)) 28 [.slice va2 nv2 cv2, .slice aa2 na2 ca2, .int .i64 e2.status, .string ⟨e2.flags.toArray⟩]).alloc (.cells #[.int .i64 n, .string ⟨t.toArray⟩] 33)
  have q9 := RowIs.new ((w1.alloc (.cells #[.string ⟨r.1.toArray⟩, .string ⟨r.2.toArray⟩] 38)).alloc (.cells #[.slice va2 nv2 cv2, .slice aa2 na2 ca2, .int .i64 e2.status, .string ⟨e2.flags.toArray⟩] 28)) 33 [.int .i64 n, .string ⟨t.toArray⟩]
  simp only [World.size_alloc] at q8 q9
  rw [hW2] at B2 q7 q8 q9 ⊢
  have HL0 : LawF w w1.heap.size r va2 nv2 cv2 aa2 na2 ca2 e2 n t W2.drew := ⟨q7, q8, q9, ⟨_, _, _, _, row_drew (HS5.out.below B2)⟩, ⟨_, _, row_drew (HS6.out.below B2)⟩, (HB1.out.trans (B2.mono HB1.out.size)).drew, HE.out.keep (w' := W2.drew) B2.size (fun b q1 q2 => ⟨B2.block b q2, q1⟩), hne⟩
  have hl0 := HL0
  clear hW2
  have HL := Lib.hid HL0
  obtain ⟨x0, x1, y0, y1, y2, y3, z0, z1, u0, u1, u2, u3, v0, v1, k0, k1, k2, k3, k4, k5, k6, k7⟩ := hl0.facts
  have hsz : w.heap.size + 1 + 1 < w1.heap.size := hne
  have HIF := Lib.hid (ifs_at e2 _ (.slice va2 nv2 cv2) (.slice aa2 na2 ca2) (.int .i64 e2.status) (.string ⟨e2.flags.toArray⟩) W2.drew HL0.ev)
  clear q7 q8 q9 hl0 HL
  go_region_held3 (fun wx => (wx.cell? ⟨w1.heap.size, 0, none⟩ = some (.string ⟨r.1.toArray⟩) ∧ wx.cell? ⟨w1.heap.size, 1, none⟩ = some (.string ⟨r.2.toArray⟩) ∧   wx.cell? ⟨w1.heap.size + 1, 0, none⟩ = some (.slice va2 nv2 cv2) ∧ wx.cell? ⟨w1.heap.size + 1, 1, none⟩ = some (.slice aa2 na2 ca2) ∧ wx.cell? ⟨w1.heap.size + 1, 2, none⟩ = some (.int .i64 e2.status) ∧ wx.cell? ⟨w1.heap.size + 1, 3, none⟩ = some (.string ⟨e2.flags.toArray⟩) ∧   wx.cell? ⟨w1.heap.size + 1 + 1, 0, none⟩ = some (.int .i64 n) ∧ wx.cell? ⟨w1.heap.size + 1 + 1, 1, none⟩ = some (.string ⟨t.toArray⟩) ∧   wx.cell? ⟨w.heap.size + 1, 0, none⟩ = some (cellOf wx ⟨w.heap.size + 1, 0, none⟩) ∧ wx.cell? ⟨w.heap.size + 1, 1, none⟩ = some (cellOf wx ⟨w.heap.size + 1, 1, none⟩) ∧ wx.cell? ⟨w.heap.size + 1, 2, none⟩ = some (cellOf wx ⟨w.heap.size + 1, 2, none⟩) ∧ wx.cell? ⟨w.heap.size + 1, 3, none⟩ = some (cellOf wx ⟨w.heap.size + 1, 3, none⟩) ∧   wx.cell? ⟨w.heap.size + 1 + 1, 0, none⟩ = some (cellOf wx ⟨w.heap.size + 1 + 1, 0, none⟩) ∧ wx.cell? ⟨w.heap.size + 1 + 1, 1, none⟩ = some (cellOf wx ⟨w.heap.size + 1 + 1, 1, none⟩) ∧   wx.frozen? ⟨w.heap.size + 1, 0, none⟩ = false ∧ wx.frozen? ⟨w.heap.size + 1, 1, none⟩ = false ∧ wx.frozen? ⟨w.heap.size + 1, 2, none⟩ = false ∧ wx.frozen? ⟨w.heap.size + 1, 3, none⟩ = false ∧ wx.frozen? ⟨w.heap.size + 1 + 1, 0, none⟩ = false ∧ wx.frozen? ⟨w.heap.size + 1 + 1, 1, none⟩ = false ∧ w.heap.size + 1 < wx.heap.size ∧ w.heap.size + 1 + 1 < wx.heap.size) ∧ LawF w w1.heap.size r va2 nv2 cv2 aa2 na2 ca2 e2 n t wx) (first | with_reducible exact LawF.all hn | with_reducible exact LawF.all hm | with_reducible exact LawF.all HL0 | with_reducible exact LawF.all (LawF.setO hn _ _ _ _) | with_reducible exact LawF.all (LawF.setR (LawF.setO hn _ _ _ _) _ _))
    (first
      | (go_at_call 24; refine HIF.out.mono ?_; rintro e wm ⟨rfl, hbm⟩; have hm := LawF.next HL0 hbm)
      | (go_at_call 23; refine (HF _).out.mono ?_; rintro e wn ⟨lv, rfl, hown, hbn⟩; have hn := LawF.next hm hbn))
  all_goals
    go_wp2_with fail
    have hm1 := hm.be.size
    have hl := hm.lt
    have hl7 := hm.r7.lt
    have hfin := LawF.setR (LawF.setO hn (.slice va2 nv2 cv2) (.slice aa2 na2 ca2) (.int .i64 e2.status) (.string ⟨e2.flags.toArray⟩)) (.int .i64 n) (.string ⟨t.toArray⟩)
    have hown2 := own_set (own_set (own_set (own_set (own_set (own_set hown (w.heap.size + 1) 0 (by omega) (.slice va2 nv2 cv2)) (w.heap.size + 1) 1 (by omega) (.slice aa2 na2 ca2)) (w.heap.size + 1) 2 (by omega) (.int .i64 e2.status)) (w.heap.size + 1) 3 (by omega) (.string ⟨e2.flags.toArray⟩)) (w.heap.size + 1 + 1) 0 (by omega) (.int .i64 n)) (w.heap.size + 1 + 1) 1 (by omega) (.string ⟨t.toArray⟩)
    obtain ⟨pa, pb, pc, pd, g5⟩ := hn.r5
    obtain ⟨qa, qb, g6⟩ := hn.r6
    have n7 : ¬ w.heap.size + 1 = w.heap.size + 1 + 1 := by omega
    have n8 : ¬ w.heap.size + 1 + 1 = w.heap.size + 1 := by omega
    have hf5 := ((((g5.set 0 (.slice va2 nv2 cv2)).set 1 (.slice aa2 na2 ca2)).set 2 (.int .i64 e2.status)).set 3 (.string ⟨e2.flags.toArray⟩)).other (a := ⟨w.heap.size + 1 + 1, 0, none⟩) n7 (.int .i64 n) |>.other (a := ⟨w.heap.size + 1 + 1, 1, none⟩) n7 (.string ⟨t.toArray⟩)
    have hf6 := ((((g6.other (a := ⟨w.heap.size + 1, 0, none⟩) n8 (.slice va2 nv2 cv2)).other (a := ⟨w.heap.size + 1, 1, none⟩) n8 (.slice aa2 na2 ca2)).other (a := ⟨w.heap.size + 1, 2, none⟩) n8 (.int .i64 e2.status)).other (a := ⟨w.heap.size + 1, 3, none⟩) n8 (.string ⟨e2.flags.toArray⟩)).set 0 (.int .i64 n) |>.set 1 (.string ⟨t.toArray⟩)
    simp only [List.set] at hf5 hf6
    generalize ((((((wn.setCell ⟨w.heap.size + 1, 0, none⟩ (.slice va2 nv2 cv2)).setCell ⟨w.heap.size + 1, 1, none⟩ (.slice aa2 na2 ca2)).setCell ⟨w.heap.size + 1, 2, none⟩ (.int .i64 e2.status)).setCell ⟨w.heap.size + 1, 3, none⟩ (.string ⟨e2.flags.toArray⟩)).setCell ⟨w.heap.size + 1 + 1, 0, none⟩ (.int .i64 n)).setCell ⟨w.heap.size + 1 + 1, 1, none⟩ (.string ⟨t.toArray⟩)) = WN at hf5 hf6 hfin hown2 ⊢
    obtain ⟨a0, a1, a2, a3, a4, a5, a6, a7, al⟩ := four_facts hf5
    obtain ⟨b0, b1, b2, b3, bl⟩ := two_facts hf6
    exact bodyPost_ret (v := .tuple #[lv, envVal va2 nv2 cv2 aa2 na2 ca2 e2, faultVal n t]) (by simp [results, Tryz.results12, go_sem, a0, a1, a2, a3, b0, b1]) rfl ⟨lv, va2, nv2, cv2, aa2, na2, ca2, rfl, ownsRow_less hown2 (by omega), hfin.ev.keep (Nat.le_refl _) (fun b _ _ => ⟨rfl, trivial⟩), hfin.be⟩
end Go.Proofs.YtkmpbkhlcapbgaaGreatDoor
namespace Go.Proofs.YtkmpbkhlcapbgaaGreatDoor
/-- Of other chapters nothing is asked. -/
def P0 : Par := ⟨fun _ _ => none, fun _ _ _ => none, fun _ => none⟩
def E0 : EnvT := ⟨[], [], 0, []⟩
def Eab : EnvT := E0.set [120] [97, 32, 98]
def Eab2 : EnvT := Eab.set [121] [49]
theorem eab_is : Eab = ⟨[([120], [97, 32, 98])], [], 0, []⟩ := by kernel_rfl
theorem eab2_is : Eab2 = ⟨[([120], [97, 32, 98]), ([121], [49])], [], 0, []⟩ := by kernel_rfl
theorem awake1 : partsE P0 8 Eab ([], []) [.mk 3 [120] [] false []] = some (.ok Eab ([97, 32, 98], [115, 115, 115])) := by kernel_rfl
theorem awake1s : splitR ([97, 32, 98], [115, 115, 115]) Eab.ifs = [([97], [115]), ([98], [115])] := by kernel_rfl
theorem awake2 : partsE P0 8 Eab ([], []) [.mk 3 [120] [] true []] = some (.ok Eab ([97, 32, 98], [113, 113, 113])) := by kernel_rfl
theorem awake2s : splitR ([97, 32, 98], [113, 113, 113]) Eab.ifs = [([97, 32, 98], [113, 113, 113])] := by kernel_rfl
theorem awake3 : partsE P0 8 Eab ([], []) [.mk 3 [121] [58, 61] false [.mk 1 [49] [] false []], .mk 3 [121] [] false []] = some (.ok Eab2 ([49, 49], [115, 115])) := by kernel_rfl
theorem awake3f : flatR ([49, 49], [115, 115]) = [49, 49] := by kernel_rfl
theorem awake4 : partsE P0 8 (Eab.flag 117 true) ([], []) [.mk 3 [122] [] false []] = some (.fault 23 [122]) := by kernel_rfl
theorem small_x (t : List UInt8) (q : Bool) (h : t.length ≤ 1000000) : smallL [.mk 3 t [] q []] := by
  rw [smallL_cons, smallL_nil, smallP_mk, smallL_nil]
  exact ⟨⟨h, by simp, by decide, trivial⟩, trivial⟩
theorem small_y : smallL [.mk 3 [121] [58, 61] false [.mk 1 [49] [] false []], .mk 3 [121] [] false []] := by
  rw [smallL_cons, smallP_mk, smallL_cons, smallL_nil, smallP_mk, smallL_nil]
  exact ⟨⟨by decide, by decide, by decide, ⟨by decide, by decide, by decide, trivial⟩, trivial⟩, small_x [121] false (by decide)⟩
end Go.Proofs.YtkmpbkhlcapbgaaGreatDoor
