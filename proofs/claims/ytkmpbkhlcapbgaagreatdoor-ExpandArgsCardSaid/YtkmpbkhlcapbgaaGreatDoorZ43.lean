/-
  DERIVED. The walks of split's end and separator.
-/
import Derived.Test.YtkmpbkhlcapbgaaGreatDoorZ18
import Derived.Test.YtkmpbkhlcapbgaaGreatDoorZ10
import Derived.Test.YtkmpbkhlcapbgaaGreatDoorZ02
import Derived.Test.YtkmpbkhlcapbgaaGreatDoorZ05
import Derived.Handy
import Derived.BigQuiet
import Derived.Deep.QuietTactic
namespace Go.Proofs.YtkmpbkhlcapbgaaGreatDoor
open Go Go.RowKit Go.Shelf
def rb (p : RowT) : ByteArray × ByteArray := (⟨p.1.toArray⟩, ⟨p.2.toArray⟩)
def bvR (l : List RowT) : List (ByteArray × ByteArray) := l.map rb
/-- Fields, while a row is split: their struct in block g; the ended ones in a row of the call's own, in a block from base on. -/
structure FieldsAt (base g : Nat) (w : World) (v : Value) (F : FieldsT) : Prop where
  row : RowIs w g 96 [v, .string ⟨F.now.1.toArray⟩, .string ⟨F.now.2.toArray⟩, .bool F.begun, .bool F.blank]
  own : w.ownsRow base 38 2 v F.l.length (cellsL (bvR F.l))
  gb : g < base
  few : F.l.length ≤ 1000000000
/-- What a call on them leaves: below base all but their struct; all that is no cells. -/
structure Upto (base g : Nat) (w w' : World) : Prop where
  os : w'.os = w.os
  tape : w'.tape = w.tape
  output : w'.output = w.output
  size : w.heap.size ≤ w'.heap.size
  block : ∀ k, k < base → k ≠ g → w'.heap[k]? = w.heap[k]?
  others : KeepsOthers w w'
theorem Upto.refl (base g : Nat) (w : World) : Upto base g w w := ⟨rfl, rfl, rfl, Nat.le_refl _, fun _ _ _ => rfl, KeepsOthers.refl _⟩
theorem Upto.trans {base g : Nat} {a b c : World} (h : Upto base g a b) (k : Upto base g b c) : Upto base g a c :=
  ⟨k.os.trans h.os, k.tape.trans h.tape, k.output.trans h.output, Nat.le_trans h.size k.size, fun i hi hg => (k.block i hi hg).trans (h.block i hi hg), h.others.trans k.others⟩
theorem Upto.set {base g : Nat} {w w' : World} (h : Upto base g w w') (j : Nat) (v : Value) : Upto base g w (w'.setCell ⟨g, j, none⟩ v) :=
  h.trans ⟨(Below.refl g w').setCell (p := ⟨g, j, none⟩) (Nat.le_refl _) v |>.os, (Below.refl g w').setCell (p := ⟨g, j, none⟩) (Nat.le_refl _) v |>.tape, (Below.refl g w').setCell (p := ⟨g, j, none⟩) (Nat.le_refl _) v |>.output, (Below.refl g w').setCell (p := ⟨g, j, none⟩) (Nat.le_refl _) v |>.size, fun _ _ hk => Below.heap_setCell _ _ _ _ hk, KeepsOthers.setCell _ _ _⟩
theorem Upto.below {base g : Nat} {w w' : World} (h : Below w.heap.size w w') (hb : base ≤ w.heap.size) : Upto base g w w' :=
  ⟨h.os, h.tape, h.output, h.size, fun k hk _ => h.block k (by omega), keeps_below h⟩
theorem Upto.drew {base g : Nat} (w : World) : Upto base g w w.drew := ⟨rfl, rfl, rfl, Nat.le_refl _, fun _ _ _ => rfl, KeepsOthers.drew w⟩
theorem Upto.grown {base g : Nat} {w w' : World} {v : Value} {e s n : Nat} {xs : List Value} (hg : w.grownBy w' v.ownBlock) (ho : w.ownsRow base e s v n xs) (hb : base ≤ w.heap.size) : Upto base g w w' := by
  refine ⟨hg.os, hg.tape, hg.output, hg.size, fun k hk _ => hg.block k (by omega) (fun e => by have := (ho.lt k e.symm).1; omega), ⟨hg.size, fun i o hi hnc => ?_⟩⟩
  refine (hg.block i (lt_of_block hi) (fun e => ?_)).trans hi
  rcases ho.2 with ⟨rfl, _⟩ | ⟨b, cap, cur, rfl, _, hh, _⟩
  · cases e
  · have : i = b := by simpa [Value.ownBlock] using e
    subst this
    rw [hh] at hi
    cases hi
    cases hnc
def EndPost (base g : Nat) (F : FieldsT) (w : World) (e : Ending) (w' : World) : Prop := e = .returned (.tuple #[]) ∧ ∃ v, FieldsAt base g w' v F ∧ Upto base g w w'
theorem rowInfo : (Tryz.prog.info? 38).map (fun i => (i.zero, i.size, i.bytes)) = some (some (.agg #[.string ⟨#[]⟩, .string ⟨#[]⟩]), 2, 32) := by kernel_rfl
theorem bvR_length (l : List RowT) : (bvR l).length = l.length := by simp [bvR]
theorem bvR_snoc (l : List RowT) (r : RowT) : cellsL (bvR (l ++ [r])) = cellsL (bvR l) ++ [.string ⟨r.1.toArray⟩, .string ⟨r.2.toArray⟩] := by
  unfold bvR; rw [List.map_append, cellsL_append]; rfl
theorem cells5 {W : World} {b e : Nat} {x0 x1 x2 x3 x4 : Value} (r : RowIs W b e [x0, x1, x2, x3, x4]) :
    W.cell? ⟨b, 0, none⟩ = some x0 ∧ W.cell? ⟨b, 1, none⟩ = some x1 ∧ W.cell? ⟨b, 2, none⟩ = some x2 ∧ W.cell? ⟨b, 3, none⟩ = some x3 ∧ W.cell? ⟨b, 4, none⟩ = some x4 ∧
    W.frozen? ⟨b, 0, none⟩ = false ∧ W.frozen? ⟨b, 1, none⟩ = false ∧ W.frozen? ⟨b, 2, none⟩ = false ∧ W.frozen? ⟨b, 3, none⟩ = false ∧ W.frozen? ⟨b, 4, none⟩ = false ∧ b < W.heap.size :=
  ⟨by rw [r.cell]; rfl, by rw [r.cell]; rfl, by rw [r.cell]; rfl, by rw [r.cell]; rfl, by rw [r.cell]; rfl, r.free _, r.free _, r.free _, r.free _, r.free _, r.lt⟩
theorem two_new2 (w : World) (x y : Value) (e : TypeId) : ∀ j u, ([x, y] : List Value)[j]? = some u → (w.alloc (.cells #[x, y] e)).cell? ((⟨w.heap.size, 0, none⟩ : Addr).add j) = some u := by
  intro j u hj
  rw [Addr.add_lit, (RowIs.new w e [x, y]).cell]
  simpa using hj
set_option maxRecDepth 100000 in
set_option maxHeartbeats 8000000 in
theorem end_no (base g : Nat) (v : Value) (F : FieldsT) (b : Bool) (hF : F.begun = false) (w : World) (h : FieldsAt base g w v F) :
    Calls Tryz.prog 50 #[.pointer (some ⟨g, 0, none⟩), .bool b] w (EndPost base g (F.stop b) w) := by
  obtain ⟨c0, c1, c2, c3, c4, f0, f1, f2, f3, f4, lt⟩ := cells5 h.row
  rw [hF] at c3
  have HH := Lib.hid h
  have HFF := Lib.hid hF
  clear h hF
  go_enter Tryz.func50, Tryz.ntmps50
  go_wp2_with fail
  go_end0
  have rf := (((HH.out.row.set 1 (.string ⟨#[]⟩)).set 2 (.string ⟨#[]⟩)).set 3 (.bool false)).set 4 (.bool b)
  have up := ((((Upto.refl base g w).set 1 (.string ⟨#[]⟩)).set 2 (.string ⟨#[]⟩)).set 3 (.bool false)).set 4 (.bool b)
  refine ⟨rfl, v, ⟨rf, ?_, HH.out.gb, ?_⟩, up⟩
  · have hl : (F.stop b).l = F.l := by unfold FieldsT.stop; rw [HFF.out]; rfl
    rw [hl]
    have ho := HH.out.own
    refine ⟨ho.1, ?_⟩
    rcases ho.2 with h2 | ⟨q, c, cur, hv, hg, hh, r⟩
    · exact .inl h2
    · have hgb := HH.out.gb
      have hne : q ≠ g := by omega
      exact .inr ⟨q, c, cur, hv, hg, ((Below.heap_setCell _ _ _ _ hne).trans ((Below.heap_setCell _ _ _ _ hne).trans ((Below.heap_setCell _ _ _ _ hne).trans (Below.heap_setCell _ _ _ _ hne)))).trans hh, r⟩
  · have hl : (F.stop b).l = F.l := by unfold FieldsT.stop; rw [HFF.out]; rfl
    rw [hl]; exact HH.out.few
set_option maxRecDepth 100000 in
set_option maxHeartbeats 8000000 in
theorem end_yes (base g : Nat) (v : Value) (F : FieldsT) (b : Bool) (hF : F.begun = true) (hfew : F.l.length < 1000000000) (w : World) (hbw : base ≤ w.heap.size) (h : FieldsAt base g w v F) :
    Calls Tryz.prog 50 #[.pointer (some ⟨g, 0, none⟩), .bool b] w (EndPost base g (F.stop b) w) := by
  obtain ⟨a, c, rfl⟩ := own_slice h.own
  obtain ⟨c0, c1, c2, c3, c4, f0, f1, f2, f3, f4, lt⟩ := cells5 h.row
  rw [hF] at c3
  obtain ⟨T, hT⟩ : ∃ T : ByteArray, (⟨F.now.1.toArray⟩ : ByteArray) = T := ⟨_, rfl⟩
  obtain ⟨M, hM⟩ : ∃ M : ByteArray, (⟨F.now.2.toArray⟩ : ByteArray) = M := ⟨_, rfl⟩
  rw [hT] at c1
  rw [hM] at c2
  have hB1 : Hid (Below w.heap.size w (w.drew.alloc (.cells #[.string T, .string M] 38))) := ((Below.refl _ _).drew).alloc (Nat.le_refl _) _
  have hO1 : Hid ((w.drew.alloc (.cells #[.string T, .string M] 38)).ownsRow base 38 2 (.slice a F.l.length c) F.l.length (cellsL (bvR F.l))) := own_below h.own hB1.out
  have hR1 : Hid (RowIs (w.drew.alloc (.cells #[.string T, .string M] 38)) g 96 [.slice a F.l.length c, .string T, .string M, .bool true, .bool F.blank]) := by
    have := h.row
    rw [hT, hM, hF] at this
    exact this.below hB1.out
  have HSZ : Hid (base ≤ (w.drew.alloc (.cells #[.string T, .string M] 38)).heap.size) := by unfold Hid; have := hB1.out.size; omega
  have hln : F.l.length + 1 ≤ maxLen ∧ (F.l.length + 1) * 32 ≤ 140737488355328 := by unfold maxLen; omega
  have HLN := Lib.hid hln
  have HH := Lib.hid h
  have HFF := Lib.hid hF
  have HT := Lib.hid hT
  have HM := Lib.hid hM
  have HFEW := Lib.hid hfew
  have HBW := Lib.hid hbw
  clear h hF hln hT hM hfew hbw
  go_enter Tryz.func50, Tryz.ntmps50
  go_wp2_with fail
  go_region_law (refine step_push rfl (.tmp 12) (.tmp 17) 30 rfl base 38 (.agg #[.string ⟨#[]⟩, .string ⟨#[]⟩]) 2 32 Tryz.underlying30 rowInfo rfl _ _ _ (by simp [Act.eval]) hO1.out ⟨w.heap.size, 0, none⟩ 1 (by simp [Act.eval]) [.string T, .string M] rfl (two_new2 w.drew _ _ _) (by intro u hu; simp at hu; rcases hu with rfl | rfl <;> rfl) HLN.out HSZ.out ?_; intro g2 cap w2 HPd0; have HPd := Lib.hid HPd0; have rr0 := hR1.out; have hbg := HPd0.base; have hgb := HH.out.gb; have rr1 : RowIs w2 g 96 [.slice a F.l.length c, .string T, .string M, .bool true, .bool F.blank] := by { unfold RowIs; rw [HPd0.grown.block g rr0.lt (fun e => by have := (hO1.out.lt g e.symm).1; omega)]; exact rr0 }; have HRR := Lib.hid rr1; obtain ⟨s0, s1, s2, s3, s4, q0, q1, q2, q3, q4, s6⟩ := cells5 rr1; clear HPd0 rr0 rr1 hbg hgb)
  all_goals
    go_wp2_with fail
    go_end0
    have rf := ((((HRR.out.set 0 (.slice (some ⟨g2, 0, none⟩) (F.l.length + 1) cap)).set 1 (.string ⟨#[]⟩)).set 2 (.string ⟨#[]⟩)).set 3 (.bool false)).set 4 (.bool b)
    have up0 : Upto base g w w2 := (Upto.below (g := g) hB1.out HBW.out).trans (Upto.grown HPd.out.grown hO1.out HSZ.out)
    have up := ((((up0.set 0 (.slice (some ⟨g2, 0, none⟩) (F.l.length + 1) cap)).set 1 (.string ⟨#[]⟩)).set 2 (.string ⟨#[]⟩)).set 3 (.bool false)).set 4 (.bool b)
    obtain ⟨cur, hk⟩ := HPd.out.known
    have hl : (F.stop b).l = F.l ++ [F.now] := by unfold FieldsT.stop; rw [HFF.out]; rfl
    have hgb := HH.out.gb
    have hbg := HPd.out.base
    have hne : g2 ≠ g := by omega
    refine ⟨rfl, _, ⟨rf, ?_, HH.out.gb, ?_⟩, up⟩
    · rw [hl, bvR_snoc, HT.out, HM.out, List.length_append]
      exact (((((hk.other (a := ⟨g, 0, none⟩) hne _).other (a := ⟨g, 1, none⟩) hne _).other (a := ⟨g, 2, none⟩) hne _).other (a := ⟨g, 3, none⟩) hne _).other (a := ⟨g, 4, none⟩) hne _).own hbg
    · rw [hl, List.length_append]; exact HFEW.out
theorem end_at (base g : Nat) (v : Value) (F : FieldsT) (b : Bool) (hfew : F.l.length < 1000000000) (w : World) (hbw : base ≤ w.heap.size) (h : FieldsAt base g w v F) :
    Calls Tryz.prog 50 #[.pointer (some ⟨g, 0, none⟩), .bool b] w (EndPost base g (F.stop b) w) := by
  cases hF : F.begun
  · exact end_no base g v F b hF w h
  · exact end_yes base g v F b hF hfew w hbw h
end Go.Proofs.YtkmpbkhlcapbgaaGreatDoor
