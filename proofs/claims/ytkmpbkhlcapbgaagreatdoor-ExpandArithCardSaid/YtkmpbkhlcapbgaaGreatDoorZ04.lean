/-
  DERIVED. The walk of env's Set (lexer.Name's answer is handed in). What a method leaves: all but its receiver's block. No program in sight. Plain: that a word's parts stay few and short while it is read; that rows only grow. No program in sight. The parts of a word in memory; what a word reader's call is given, and leaves. A push of one element onto a row of the call's own, in a region that draws: the row is known whole behind it, and where it lies; a store into it. No program in sight. The walk of word's put: a part put behind.
-/
import Derived.Test.YtkmpbkhlcapbgaaGreatDoorZ03
import Derived.Test.YtkmpbkhlcapbgaaGreatDoorZ02
import Derived.Test.YtkmpbkhlcapbgaaGreatDoorZ01
import Derived.Laws.AppendOwn
import Derived.Deep.RegionLaw
import Derived.Lib.Hide
import Derived.Test.YtkmpbkhlcapbgaaGreatDoorProg
import Derived.WalkKit
import Derived.WalkSpells
import Derived.WalkLawsBesides
import Derived.Handy
import Derived.BigQuiet
import Derived.Deep.QuietTactic
import Derived.Deep.LoopGhost
namespace Go.Proofs.YtkmpbkhlcapbgaaGreatDoor
open Go Go.RowKit
/-- A variable put into a row of the call's own. -/
theorem insert_row (l : List (ByteArray × ByteArray)) (base i vb : Nat) (hi : i ≤ l.length) (hn : l.length < 1000000000) (s x : ByteArray) (v : Value) (w : World) (ho : OwnV base w v l) (hb : base ≤ w.heap.size) (hv : RowIs w vb 68 [.string s, .string x]) (hvb : v.ownBlock ≠ some vb) :
    Calls Tryz.prog 27 #[v, .int .i64 i, .slice (some ⟨vb, 0, none⟩) 1 1] w fun e w' => ∃ v', e = .returned v' ∧ OwnV base w' v' (l.take i ++ (s, x) :: l.drop i) ∧ Below base w w' := by
  obtain ⟨h1, h2⟩ := ho
  have e0 : cellsL (l.take i ++ (s, x) :: l.drop i) = (cellsL l).take (i * 2) ++ .string s :: .string x :: (cellsL l).drop (i * 2) := by
    have e : cellsL ((s, x) :: l.drop i) = .string s :: .string x :: cellsL (l.drop i) := rfl
    rw [cellsL_append, cellsL_take, e, cellsL_drop]
  have e1 : (l.take i ++ (s, x) :: l.drop i).length = l.length + 1 := by simp; omega
  by_cases hil : i = l.length
  · subst hil
    refine (insert_end base l.length vb v (.string s) (.string x) (cellsL l) (by omega) w h1 hb hv ⟨rfl, rfl⟩).mono ?_
    rintro e w' ⟨v', rfl, ho, hb'⟩
    refine ⟨v', rfl, ⟨?_, by rw [e1]; omega⟩, hb'⟩
    rw [e0, e1, List.take_of_length_le (by rw [cellsL_length]; exact Nat.le_refl _), List.drop_of_length_le (by rw [cellsL_length]; exact Nat.le_refl _)]
    exact ho
  · rcases known_of_own h1 with ⟨rfl, h0⟩ | ⟨g, cap, cur, rfl, hg, hk⟩
    · omega
    · have hne : vb ≠ g := by
        intro e; exact hvb (by rw [e]; rfl)
      by_cases hr : l.length + 1 ≤ cap
      · refine (insert_room g cap i l.length vb cur (cellsL l) (.string s) (.string x) (by omega) (by omega) hr w hk (cellsL_one l) hv hne ⟨rfl, rfl⟩).mono ?_
        rintro e w' ⟨cur', rfl, hk', hb'⟩
        exact ⟨_, rfl, ⟨by rw [e0, e1]; exact hk'.own hg, by rw [e1]; omega⟩, hb'.mono hg⟩
      · refine (insert_grow g cap i l.length vb cur (cellsL l) (.string s) (.string x) (by omega) (by omega) (by omega) w hk (cellsL_one l) hv ⟨rfl, rfl⟩).mono ?_
        rintro e w' ⟨v', rfl, ho, hb'⟩
        exact ⟨_, rfl, ⟨by rw [e0, e1]; exact own_base ho hb, by rw [e1]; omega⟩, hb'.mono hb⟩
def cutV (l : List (ByteArray × ByteArray)) (cnt : Nat) (fnd : Bool) : List (ByteArray × ByteArray) := if fnd then l.take cnt ++ l.drop (cnt + 1) else l
theorem unset_any (s : ByteArray) (l : List (ByteArray × ByteArray)) (cnt : Nat) (fnd : Bool) (hl : LowAt l s cnt fnd) (v : Value) (aa : Option Addr) (na ca : Nat) (st : Int) (fl : ByteArray) (w : World) (hv : RowV w v l) :
    Calls Tryz.prog 18 #[.agg #[v, .slice aa na ca, .int .i64 st, .string fl], .string s] w fun e w' => ∃ v', e = .returned (.agg #[v', .slice aa na ca, .int .i64 st, .string fl]) ∧ OwnV w.heap.size w' v' (cutV l cnt fnd) ∧ Below w.heap.size w w' := by
  cases fnd
  · exact unset_none s l cnt hl v aa na ca st fl w hv
  · refine unset_some s l cnt hl ?_ v aa na ca st fl w hv
    rcases Nat.lt_or_ge cnt l.length with h | h
    · exact h
    · have := hl.no (Nat.le_antisymm hl.le h)
      cases this
set_option maxRecDepth 100000 in
set_option maxHeartbeats 8000000 in
theorem set_any (s x : ByteArray) (hN : ∀ W, Calls Tryz.prog 25 #[.string s] W fun e w' => e = .returned (.bool true) ∧ Below W.heap.size W w') (l : List (ByteArray × ByteArray)) (cnt cnt2 : Nat) (fnd fnd2 : Bool) (hl : LowAt l s cnt fnd) (hl2 : LowAt (cutV l cnt fnd) s cnt2 fnd2) (hln : (cutV l cnt fnd).length < 1000000000)
    (v : Value) (aa : Option Addr) (na ca : Nat) (st : Int) (fl : ByteArray) (w : World) (hv : RowV w v l) :
    Calls Tryz.prog 13 #[.agg #[v, .slice aa na ca, .int .i64 st, .string fl], .string s, .string x] w fun e w' => ∃ v', e = .returned (.agg #[v', .slice aa na ca, .int .i64 st, .string fl]) ∧ OwnV w.heap.size w' v' ((cutV l cnt fnd).take cnt2 ++ (s, x) :: (cutV l cnt fnd).drop cnt2) ∧ Below w.heap.size w w' := by
  obtain ⟨l2, hl2e⟩ : ∃ l2, cutV l cnt fnd = l2 := ⟨_, rfl⟩
  have HU := Lib.hid (fun (W : World) (hW : RowV W v l) => unset_any s l cnt fnd hl v aa na ca st fl W hW)
  rw [hl2e] at hl2 hln HU ⊢
  have HF := Lib.hid (fun (v2 : Value) (W : World) (hW : RowV W v2 l2) => find_any s l2 cnt2 fnd2 hl2 v2 (.slice aa na ca) (.int .i64 st) (.string fl) W hW)
  have HI := Lib.hid (fun (vb : Nat) (v2 : Value) (base : Nat) (W : World) (ho : OwnV base W v2 l2) (hb : base ≤ W.heap.size) (hv : RowIs W vb 68 [.string s, .string x]) (hvb : v2.ownBlock ≠ some vb) => insert_row l2 base cnt2 vb hl2.le hln s x v2 W ho hb hv hvb)
  have HV := Lib.hid hv
  have HN := Lib.hid hN
  have hcb : (cnt2 : Int) ≤ 1000000000 := by have := hl2.le; omega
  clear hv hl hl2 hN hl2e hln
  go_enter Tryz.func13, Tryz.ntmps13
  go_wp2_with fail
  have b0 := ((Below.refl w.heap.size w).alloc (Nat.le_refl _) (.cells #[v, .slice aa na ca, .int .i64 st, .string fl] 28)).alloc (by simp) (.cells #[.slice none 0 0, .slice none 0 0, .int .i64 0, .string ⟨#[]⟩] 28)
  refine (HN.out _).mono ?_; rintro e w1 ⟨rfl, k1⟩
  have r1 := ((RowIs.new w 28 [v, .slice aa na ca, .int .i64 st, .string fl]).alloc (.cells #[.slice none 0 0, .slice none 0 0, .int .i64 0, .string ⟨#[]⟩] 28)).below k1
  have r2 := (RowIs.new (w.alloc (.cells #[v, .slice aa na ca, .int .i64 st, .string fl] 28)) 28 [.slice none 0 0, .slice none 0 0, .int .i64 0, .string ⟨#[]⟩]).below k1
  have b1 := below_call k1 b0
  simp only [World.size_alloc] at r2
  obtain ⟨c0, c1, c2, c3, f0, f1, f2, f3, lt1⟩ := four_facts r1
  have lt2 : w.heap.size + 1 < w1.heap.size := r2.lt
  have HR1 := Lib.hid r1
  have HR2 := Lib.hid r2
  have HB1 := Lib.hid b1
  clear k1 b0 r1 r2 b1
  go_wp2_with fail
  refine (HU.out _ (HV.out.below HB1.out)).mono ?_; rintro e w2 ⟨v', rfl, ho, k2⟩
  obtain ⟨a2, cp2, rfl⟩ := own_slice ho.1
  obtain ⟨N2, hN2⟩ : ∃ N, l2.length = N := ⟨_, rfl⟩
  have RR := HR1.out.below k2
  have R1 := Lib.hid ((((RR.set 0 (.slice a2 l2.length cp2)).set 1 (.slice aa na ca)).set 2 (.int .i64 st)).set 3 (.string fl))
  have R2 := Lib.hid (((((HR2.out.below k2).other (a := ⟨w.heap.size, 0, none⟩) (by simp) (.slice a2 l2.length cp2)).other (a := ⟨w.heap.size, 1, none⟩) (by simp) (.slice aa na ca)).other (a := ⟨w.heap.size, 2, none⟩) (by simp) (.int .i64 st)).other (a := ⟨w.heap.size, 3, none⟩) (by simp) (.string fl))
  have B2 := Lib.hid (((((HB1.out.trans (k2.mono HB1.out.size)).setCell (p := ⟨w.heap.size, 0, none⟩) (Nat.le_refl _) (.slice a2 l2.length cp2)).setCell (p := ⟨w.heap.size, 1, none⟩) (Nat.le_refl _) (.slice aa na ca)).setCell (p := ⟨w.heap.size, 2, none⟩) (Nat.le_refl _) (.int .i64 st)).setCell (p := ⟨w.heap.size, 3, none⟩) (Nat.le_refl _) (.string fl))
  have HO : Hid (OwnV w1.heap.size ((((w2.setCell ⟨w.heap.size, 0, none⟩ (.slice a2 l2.length cp2)).setCell ⟨w.heap.size, 1, none⟩ (.slice aa na ca)).setCell ⟨w.heap.size, 2, none⟩ (.int .i64 st)).setCell ⟨w.heap.size, 3, none⟩ (.string fl)) (.slice a2 l2.length cp2) l2) :=
    ⟨own_other (own_other (own_other (own_other ho.1 (a := ⟨w.heap.size, 0, none⟩) lt1 _) (a := ⟨w.heap.size, 1, none⟩) lt1 _) (a := ⟨w.heap.size, 2, none⟩) lt1 _) (a := ⟨w.heap.size, 3, none⟩) lt1 _, ho.2⟩
  obtain ⟨p0, p1, p2, p3, g0, g1, g2, g3, lt3⟩ := four_facts RR
  have hs2 : Hid (w1.heap.size ≤ w2.heap.size) := k2.size
  rw [hN2] at R1 R2 B2 HO
  rw [hN2]
  have HN2 := Lib.hid hN2
  clear k2 ho c0 c1 c2 c3 f0 f1 f2 f3 RR hN2
  go_wp2_with fail
  refine (HF.out _ _ HO.out.row).mono ?_; rintro e w3 ⟨rfl, k3⟩
  have R13 := Lib.hid (R1.out.below k3)
  have R23 := Lib.hid (R2.out.below k3)
  have B3 := Lib.hid (B2.out.trans (k3.mono B2.out.size))
  have hs3 : Hid (w2.heap.size ≤ w3.heap.size) := by have := k3.size; unfold Hid; simpa using this
  have HO3 : Hid (OwnV w1.heap.size w3 (.slice a2 N2 cp2) l2) := ⟨own_below HO.out.1 k3, HO.out.2⟩
  obtain ⟨p0, p1, p2, p3, g0, g1, g2, g3, lt5⟩ := four_facts R13.out
  have lt4 : w.heap.size + 1 < w3.heap.size := R23.out.lt
  have hob : Hid ((Value.slice a2 N2 cp2).ownBlock ≠ some w3.heap.size) := by
    intro e
    have := (HO3.out.1.lt _ e).2
    omega
  clear k3
  go_wp2_with fail
  have rv := RowIs.new w3 68 [.string s, .string x]
  refine (HI.out w3.heap.size (.slice a2 N2 cp2) w1.heap.size _ ⟨HO3.out.1.alloc _, HO3.out.2⟩ (by have := hs2.out; have := hs3.out; simp; omega) rv hob.out).mono ?_
  rintro e w4 ⟨v4, rfl, ho4, k4⟩
  obtain ⟨a4, cp4, rfl⟩ := own_slice ho4.1
  have R14 := Lib.hid ((R13.out.alloc (.cells #[.string s, .string x] 68)).under k4 lt1)
  have R24 := Lib.hid ((R23.out.alloc (.cells #[.string s, .string x] 68)).under k4 lt2)
  have B4 := Lib.hid ((B3.out.alloc B3.out.size (.cells #[.string s, .string x] 68)).trans (k4.mono (by omega)))
  have HO4 := Lib.hid ho4
  obtain ⟨p0, p1, p2, p3, g0, g1, g2, g3, lt6⟩ := four_facts R14.out
  obtain ⟨y0, y1, y2, y3, z0, z1, z2, z3, lt7⟩ := four_facts R24.out
  obtain ⟨N, hN⟩ : ∃ N, (l2.take cnt2 ++ (s, x) :: l2.drop cnt2).length = N := ⟨_, rfl⟩
  rw [hN] at HO4
  rw [hN]
  clear k4 ho4 hN rv
  go_wp2_with fail
  have F2 := ((((R24.out.other (a := ⟨w.heap.size, 0, none⟩) (by simp) (.slice a4 N cp4)).set 0 (.slice a4 N cp4)).set 1 (.slice aa na ca)).set 2 (.int .i64 st)).set 3 (.string fl)
  obtain ⟨q0, q1, q2, q3, _⟩ := four_facts F2
  exact bodyPost_ret (v := .agg #[.slice a4 N cp4, .slice aa na ca, .int .i64 st, .string fl]) (by simp [results, Tryz.results13, go_sem, q0, q1, q2, q3]) rfl
    ⟨_, rfl, ⟨own_base (own_other (own_other (own_other (own_other (own_other HO4.out.1 (a := ⟨w.heap.size, 0, none⟩) lt1 _) (a := ⟨w.heap.size + 1, 0, none⟩) lt2 _) (a := ⟨w.heap.size + 1, 1, none⟩) lt2 _) (a := ⟨w.heap.size + 1, 2, none⟩) lt2 _) (a := ⟨w.heap.size + 1, 3, none⟩) lt2 _) (by omega), HO4.out.2⟩,
    ((((B4.out.setCell (p := ⟨w.heap.size, 0, none⟩) (Nat.le_refl _) _).setCell (p := ⟨w.heap.size + 1, 0, none⟩) (by simp) _).setCell (p := ⟨w.heap.size + 1, 1, none⟩) (by simp) _).setCell (p := ⟨w.heap.size + 1, 2, none⟩) (by simp) _).setCell (p := ⟨w.heap.size + 1, 3, none⟩) (by simp) _⟩
end Go.Proofs.YtkmpbkhlcapbgaaGreatDoor
namespace Go.Proofs.YtkmpbkhlcapbgaaGreatDoor
open Go.RowKit
/-- All that was there is as it was, but for one block; more may be made. -/
structure Kept (g : Nat) (w w' : World) : Prop where
  os : w'.os = w.os
  tape : w'.tape = w.tape
  output : w'.output = w.output
  size : w.heap.size ≤ w'.heap.size
  block : ∀ k, k < w.heap.size → k ≠ g → w'.heap[k]? = w.heap[k]?
theorem Kept.refl (g : Nat) (w : World) : Kept g w w := ⟨rfl, rfl, rfl, Nat.le_refl _, fun _ _ _ => rfl⟩
theorem Kept.trans {g : Nat} {a b c : World} (h : Kept g a b) (k : Kept g b c) : Kept g a c :=
  ⟨k.os.trans h.os, k.tape.trans h.tape, k.output.trans h.output, Nat.le_trans h.size k.size, fun i hi hg => (k.block i (Nat.lt_of_lt_of_le hi h.size) hg).trans (h.block i hi hg)⟩
theorem Kept.of {g : Nat} {w w' : World} (h : Below w.heap.size w w') : Kept g w w' := ⟨h.os, h.tape, h.output, h.size, fun k hk _ => h.block k hk⟩
theorem Kept.set {g : Nat} {w w' : World} (h : Kept g w w') (j : Nat) (v : Value) : Kept g w (w'.setCell ⟨g, j, none⟩ v) :=
  h.trans (by
    have b := (Below.refl g w').setCell (p := ⟨g, j, none⟩) (Nat.le_refl _) v
    refine ⟨b.os, b.tape, b.output, b.size, fun k _ hg => ?_⟩
    by_cases hk : k < g
    · exact b.block k hk
    · unfold World.setCell
      split
      · show (Array.modify _ g _)[k]? = _
        rw [Array.getElem?_modify, if_neg (Ne.symm hg)]
      · show (Array.modify _ g _)[k]? = _
        rw [Array.getElem?_modify, if_neg (Ne.symm hg)])
theorem Kept.row {g b e : Nat} {w w' : World} {l : List Value} (h : Kept g w w') (hr : RowIs w b e l) (hb : b ≠ g) : RowIs w' b e l := by
  unfold RowIs; rw [h.block b hr.lt hb]; exact hr
theorem Kept.cell {g : Nat} {w w' : World} (h : Kept g w w') {p : Addr} {v : Value} (hp : p.block ≠ g) (c : w.cell? p = some v) : w'.cell? p = some v :=
  (World.cell?_of_block (w := w) (h.block p.block (block_lt_of_cell c) hp)).trans c
theorem Kept.alloc {g : Nat} {w w' : World} (h : Kept g w w') (o : Obj) : Kept g w (w'.alloc o) := h.trans (.of ((Below.refl _ _).alloc (Nat.le_refl _) o))
theorem Kept.new {g : Nat} {w w' : World} (h : Kept g w w') {b : Nat} (hb : w.heap.size ≤ b) (j : Nat) (v : Value) : Kept g w (w'.setCell ⟨b, j, none⟩ v) := by
  have k := (Below.refl w.heap.size w').setCell (p := ⟨b, j, none⟩) hb v
  exact ⟨k.os.trans h.os, k.tape.trans h.tape, k.output.trans h.output, Nat.le_trans h.size k.size, fun i hi hg => (k.block i hi).trans (h.block i hi hg)⟩
abbrev treeL : List Value := [.string ⟨#[]⟩, .int .i64 0, .string ⟨#[]⟩, .slice none 0 0]
theorem Kept.toBelow {g B : Nat} {w w' : World} (h : Kept g w w') (hg : B ≤ g) (hB : B ≤ w.heap.size) : Below B w w' :=
  ⟨h.os, h.tape, h.output, h.size, fun k hk => h.block k (by omega) (by omega)⟩
theorem Kept.below {g : Nat} {w w' : World} (k : Kept g w w') (hg : g ≤ w.heap.size) : Below g w w' := ⟨k.os, k.tape, k.output, k.size, fun i hi => k.block i (by omega) (by omega)⟩
end Go.Proofs.YtkmpbkhlcapbgaaGreatDoor
namespace Go.Proofs.YtkmpbkhlcapbgaaGreatDoor
/-- Parts are few, and their texts are short, while so many bytes are left. -/
def Few (l : List PartT) (n : Nat) : Prop := l.length + n ≤ 1000000000 ∧ ∀ a ∈ l, a.text.length + n ≤ 1000000000
theorem Few.nil {n : Nat} (h : n ≤ 1000000000) : Few [] n := ⟨by simpa using h, by simp⟩
theorem Few.mono {l : List PartT} {n m : Nat} (h : Few l n) (hm : m ≤ n) : Few l m := ⟨by have := h.1; omega, fun a ha => by have := h.2 a ha; omega⟩
theorem putF_length (l : List PartT) (p : PartT) : (putF l p).length ≤ l.length + 1 := by
  induction l with
  | nil => simp [putF]
  | cons a l ih =>
    cases l with
    | nil => simp only [putF]; split <;> simp
    | cons b l => simp only [putF, List.length_cons] at ih ⊢; omega
theorem putF_mem (l : List PartT) (p : PartT) : ∀ a ∈ putF l p, a ∈ l ∨ a = p ∨ ∃ b ∈ l, a.text = b.text ++ p.text := by
  induction l with
  | nil => intro a ha; simp [putF] at ha; exact .inr (.inl ha)
  | cons b l ih =>
    cases l with
    | nil =>
      intro a ha
      simp only [putF] at ha
      split at ha
      · simp only [List.mem_singleton] at ha
        subst ha
        exact .inr (.inr ⟨b, by simp, rfl⟩)
      · simp only [List.mem_cons, List.not_mem_nil, or_false] at ha
        rcases ha with rfl | rfl
        · exact .inl (by simp)
        · exact .inr (.inl rfl)
    | cons c l =>
      intro a ha
      simp only [putF, List.mem_cons] at ha
      rcases ha with rfl | ha
      · exact .inl (by simp)
      · rcases ih a ha with h | h | ⟨x, hx, e⟩
        · exact .inl (by simp [List.mem_cons] at h ⊢; exact .inr h)
        · exact .inr (.inl h)
        · exact .inr (.inr ⟨x, by simp [List.mem_cons] at hx ⊢; exact .inr hx, e⟩)
theorem Few.put {l : List PartT} {n m : Nat} {p : PartT} (h : Few l n) (hp : p.text.length + m ≤ n) (hm : m < n) : Few (putF l p) m := by
  refine ⟨by have := putF_length l p; have := h.1; omega, fun a ha => ?_⟩
  have h1 := h.1
  rcases putF_mem l p a ha with h' | rfl | ⟨b, hb, e⟩
  · have := h.2 a h'; omega
  · omega
  · have := h.2 b hb; rw [e, List.length_append]; omega
theorem joinR_length (a b : RowT) : (joinR a b).1.length = a.1.length + b.1.length := by simp [joinR]
theorem joinR_mask (a b : RowT) : (joinR a b).2.length = a.2.length + b.2.length := by simp [joinR]
theorem argsR_ge : ∀ (l : List (List UInt8)) (r : RowT) (q first : Bool), r.1.length ≤ (argsR r q l first).1.length := by
  intro l
  induction l with
  | nil => intro r q first; exact Nat.le_refl _
  | cons a l ih =>
    intro r q first
    refine Nat.le_trans ?_ (ih _ q false)
    cases first <;> simp [putR, joinR_length] <;> omega
end Go.Proofs.YtkmpbkhlcapbgaaGreatDoor
namespace Go.Proofs.YtkmpbkhlcapbgaaGreatDoor
open Go.RowKit
/-- A slice of parts that lies in memory, in a block that S allows: its cells. -/
def WordV (w : World) (S : Nat → Prop) (v : Value) (n : Nat) (ys : List Value) : Prop :=
  ∃ (a : Option Addr) (c : Nat), v = .slice a n c ∧ n ≤ c ∧ (n = 0 ∨ ∃ b, a = some ⟨b, 0, none⟩ ∧ S b ∧ b < w.heap.size ∧ ∀ j u, ys[j]? = some u → w.cell? ⟨b, j, none⟩ = some u)
/-- Parts as cells: five each. -/
inductive PartsAt (w : World) (S : Nat → Prop) : List PartT → List Value → Prop where
  | nil : PartsAt w S [] []
  | cons (k : Nat) (t op : ByteArray) (q : Bool) {wd l : List PartT} {v : Value} {ys xs : List Value} (hv : WordV w S v wd.length ys) (hw : PartsAt w S wd ys) (hl : PartsAt w S l xs) :
      PartsAt w S (.mk k t.data.toList op.data.toList q wd :: l) (.int .i64 (k : Nat) :: .string t :: .string op :: .bool q :: v :: xs)
theorem WordV.keep {w w' : World} {S S' : Nat → Prop} (hs : w.heap.size ≤ w'.heap.size) (hk : ∀ b, S b → b < w.heap.size → w'.heap[b]? = w.heap[b]? ∧ S' b) {v : Value} {n : Nat} {ys : List Value} (h : WordV w S v n ys) : WordV w' S' v n ys := by
  obtain ⟨a, c, hv, hc, h⟩ := h
  refine ⟨a, c, hv, hc, ?_⟩
  rcases h with h | ⟨b, ha, hb, hl, h⟩
  · exact .inl h
  · obtain ⟨e, hS⟩ := hk b hb hl
    exact .inr ⟨b, ha, hS, by omega, fun j u hu => (World.cell?_of_block (w := w) (a := ⟨b, j, none⟩) e).trans (h j u hu)⟩
theorem PartsAt.keep {w w' : World} {S S' : Nat → Prop} (hs : w.heap.size ≤ w'.heap.size) (hk : ∀ b, S b → b < w.heap.size → w'.heap[b]? = w.heap[b]? ∧ S' b) {l : List PartT} {xs : List Value} (h : PartsAt w S l xs) : PartsAt w' S' l xs := by
  induction h with
  | nil => exact .nil
  | cons k t op q hv _ _ ih1 ih2 => exact .cons k t op q (hv.keep hs hk) ih1 ih2
theorem PartsAt.length {w : World} {S : Nat → Prop} {l : List PartT} {xs : List Value} (h : PartsAt w S l xs) : xs.length = l.length * 5 := by
  induction h with
  | nil => rfl
  | cons k t op q _ _ _ _ ih => simp [ih]; omega
theorem WordV.one {w : World} {S : Nat → Prop} {v : Value} {n : Nat} {ys : List Value} (h : WordV w S v n ys) : v.oneCell' = true := by
  obtain ⟨a, c, rfl, _⟩ := h; rfl
theorem PartsAt.one {w : World} {S : Nat → Prop} {l : List PartT} {xs : List Value} (h : PartsAt w S l xs) : ∀ u ∈ xs, u.oneCell' = true := by
  induction h with
  | nil => intro u hu; cases hu
  | cons k t op q hv _ _ _ ih =>
    intro u hu
    simp only [List.mem_cons] at hu
    rcases hu with rfl | rfl | rfl | rfl | rfl | hu
    · rfl
    · rfl
    · rfl
    · rfl
    · exact hv.one
    · exact ih u hu
/-- One part's cells. -/
def OneAt (w : World) (S : Nat → Prop) (p : PartT) (k : Nat) (t op : ByteArray) (q : Bool) (v : Value) : Prop :=
  ∃ wd ys, p = .mk k t.data.toList op.data.toList q wd ∧ WordV w S v wd.length ys ∧ PartsAt w S wd ys
theorem OneAt.keep {w w' : World} {S S' : Nat → Prop} (hs : w.heap.size ≤ w'.heap.size) (hk : ∀ b, S b → b < w.heap.size → w'.heap[b]? = w.heap[b]? ∧ S' b) {p : PartT} {k : Nat} {t op : ByteArray} {q : Bool} {v : Value} (h : OneAt w S p k t op q v) : OneAt w' S' p k t op q v := by
  obtain ⟨wd, ys, hp, hv, hw⟩ := h
  exact ⟨wd, ys, hp, hv.keep hs hk, hw.keep hs hk⟩
theorem PartsAt.snoc {w : World} {S : Nat → Prop} {l : List PartT} {xs : List Value} (h : PartsAt w S l xs) {p : PartT} {k : Nat} {t op : ByteArray} {q : Bool} {v : Value} (hp : OneAt w S p k t op q v) :
    PartsAt w S (l ++ [p]) (xs ++ [.int .i64 (k : Nat), .string t, .string op, .bool q, v]) := by
  obtain ⟨wd, ys, rfl, hv, hw⟩ := hp
  induction h with
  | nil => exact .cons k t op q hv hw .nil
  | cons k' t' op' q' hv' hw' _ _ ih => exact .cons k' t' op' q' hv' hw' ih
/-- The last one, apart. -/
theorem PartsAt.last {w : World} {S : Nat → Prop} : ∀ {l : List PartT} {xs : List Value} (_ : PartsAt w S l xs), l ≠ [] →
    ∃ (l0 : List PartT) (xs0 : List Value) (p : PartT) (k : Nat) (t op : ByteArray) (q : Bool) (v : Value), l = l0 ++ [p] ∧ xs = xs0 ++ [.int .i64 (k : Nat), .string t, .string op, .bool q, v] ∧ PartsAt w S l0 xs0 ∧ OneAt w S p k t op q v := by
  intro l xs h
  induction h with
  | nil => intro h; exact absurd rfl h
  | @cons k t op q wd l1 v1 ys1 xs1 hv hw hl _ ih =>
    intro _
    by_cases h0 : l1 = []
    · subst h0
      cases hl
      exact ⟨[], [], _, k, t, op, q, v1, rfl, rfl, .nil, wd, ys1, rfl, hv, hw⟩
    · obtain ⟨l0, xs0, p, k', t', op', q', v', rfl, rfl, h1, h2⟩ := ih h0
      exact ⟨_ :: l0, _, p, k', t', op', q', v', rfl, rfl, .cons k t op q hv hw h1, h2⟩
theorem putF_snoc (l : List PartT) (p : PartT) : putF l p = if (∃ a, l.getLast? = some a ∧ p.kind ≤ 2 ∧ a.kind = p.kind) then l.dropLast ++ (l.getLast?.map fun a => PartT.mk a.kind (a.text ++ p.text) a.op a.quoted a.word).toList else l ++ [p] := by
  induction l with
  | nil => simp [putF]
  | cons a l ih =>
    cases l with
    | nil =>
      simp only [putF, List.getLast?_singleton, Option.some.injEq, exists_eq_left']
      split <;> simp
    | cons b l =>
      simp only [putF, ih, List.getLast?_cons_cons, List.dropLast_cons_cons]
      split <;> simp
/-- The library's and word's variables that reading asks for. -/
structure Tab (w : World) : Prop where
  ops : ∀ i, i < 12 → w.cell? ⟨0, i, none⟩ = some (.string ⟨(wopsL.getD i []).toArray⟩)
  max : ∃ m, w.cell? ⟨1, 0, none⟩ = some (.int .i64 m)
def Far (g : Nat) : Prop := 0 < g ∧ 1 < g
theorem Tab.below {w w' : World} {B : Nat} (h : Tab w) (hB : Far B) (k : Below B w w') : Tab w' :=
  ⟨fun i hi => (k.cell (p := ⟨_, i, none⟩) hB.1).trans (h.ops i hi), h.max.elim fun m hm => ⟨m, (k.cell (p := ⟨_, 0, none⟩) hB.2).trans hm⟩⟩
theorem Tab.kept {w w' : World} {g : Nat} (h : Tab w) (hg : Far g) (k : Kept g w w') : Tab w' :=
  ⟨fun i hi => k.cell (Nat.ne_of_lt hg.1) (h.ops i hi), h.max.elim fun m hm => ⟨m, k.cell (Nat.ne_of_lt hg.2) hm⟩⟩
/-- A word reader: its parts, the text that is left, how deep it is. -/
structure Wr (g : Nat) (v : Value) (s : ByteArray) (d : Nat) (w : World) : Prop where
  row : RowIs w g 90 [v, .string s, .int .i64 (d : Int)]
  size : s.size ≤ 1000000000
  deep : d ≤ 8
  far : Far g
  tab : Tab w
theorem Wr.next {g : Nat} {v v' : Value} {s s' : ByteArray} {d : Nat} {w w' : World} (h : Wr g v s d w) (k : Kept g w w') (r : RowIs w' g 90 [v', .string s', .int .i64 (d : Int)]) (hs : s'.size ≤ 1000000000) : Wr g v' s' d w' :=
  ⟨r, hs, h.deep, h.far, h.tab.kept h.far k⟩
theorem Wr.after {g : Nat} {v v' : Value} {s s' : ByteArray} {d : Nat} {w w' : World} (h : Wr g v s d w) (k : Below g w w') (r : RowIs w' g 90 [v', .string s', .int .i64 (d : Int)]) (hs : s'.size ≤ 1000000000) : Wr g v' s' d w' :=
  ⟨r, hs, h.deep, h.far, h.tab.below h.far k⟩
/-- Its parts. -/
structure Wp (g : Nat) (v : Value) (l : List PartT) (w : World) : Prop where
  mk ::
  has : ∃ xs, w.ownsRow (g + 1) 92 5 v l.length xs ∧ PartsAt w (fun b => g < b ∧ v.ownBlock ≠ some b) l xs
theorem Wp.kept {g : Nat} {v : Value} {l : List PartT} {w w' : World} (h : Wp g v l w) (k : Kept g w w') : Wp g v l w' := by
  obtain ⟨⟨xs, h1, h2⟩⟩ := h
  refine ⟨⟨xs, ⟨h1.1, ?_⟩, h2.keep k.size fun b hb hl => ⟨k.block b hl (by omega), hb⟩⟩⟩
  rcases h1.2 with h1 | ⟨b, c, cur, hv, hg, hh, r⟩
  · exact .inl h1
  · exact .inr ⟨b, c, cur, hv, hg, by rw [k.block b (lt_of_block hh) (by omega)]; exact hh, r⟩
end Go.Proofs.YtkmpbkhlcapbgaaGreatDoor
namespace Go.Proofs.YtkmpbkhlcapbgaaGreatDoor
open Go Go.RowKit
section
variable {P : Program}
theorem run_push {w : World} {base : Nat} {e : TypeId} {size : Nat} {v : Value} {n : Nat} {xs : List Value} (t ty : TypeId) (z : Value) (bytes : Nat) (ht : P.underlying t = some (.slice e)) (hinfo : (P.info? e).map (fun i => (i.zero, i.size, i.bytes)) = some (some z, size, bytes))
    (hzs : z.cells.size = size) (hown : w.ownsRow base e size v n xs)
    (a : Addr) (c : Nat) (news : List Value) (hl : news.length = size) (hnews : ∀ j u, news[j]? = some u → w.cell? (a.add j) = some u) (h1 : ∀ u ∈ news, u.oneCell' = true)
    (hsz : n + 1 ≤ maxLen ∧ (n + 1) * bytes ≤ 140737488355328) (hbase : base ≤ w.heap.size) :
    ∃ g cap cur w', (Builtin.append_ #[t, t] ty #[v, .slice (some a) 1 c]).run P w = .ok (.slice (some ⟨g, 0, none⟩) (n + 1) cap) w' ∧ Known w' e size g cap cur (n + 1) (xs ++ news) ∧ base ≤ g ∧ w.grownBy w' v.ownBlock ∧ (v.ownBlock = some g ∨ w.heap.size ≤ g) := by
  obtain ⟨i, hi, hz, hsize, hby⟩ := info_parts hinfo
  subst hsize
  subst hby
  obtain ⟨h63, hbytes⟩ := hsz
  have hsmall : n + 1 ≤ 9223372036854775807 := by simp only [maxLen] at h63; omega
  have hlen : (xs ++ news).length = (n + 1) * i.size := by rw [List.length_append, hown.1, hl, Nat.add_mul, Nat.one_mul]
  have hl1 : news.length = 1 * i.size := by rw [hl, Nat.one_mul]
  have grown : ∀ (old : Nat), old < n + 1 → ∀ (row : Option Nat),
      Known (w.drew.alloc (.cells (xs.toArray ++ news.toArray ++ Builtin.zeroCells z.cells (grownCap w (n + 1) old e - (n + 1))) e)) e i.size w.heap.size (grownCap w (n + 1) old e) (xs ++ news ++ (Builtin.zeroCells z.cells (grownCap w (n + 1) old e - (n + 1))).toList) (n + 1) (xs ++ news) ∧
      w.grownBy (w.drew.alloc (.cells (xs.toArray ++ news.toArray ++ Builtin.zeroCells z.cells (grownCap w (n + 1) old e - (n + 1))) e)) row := by
    intro old ho row
    have hge := grownCap_ge w (n + 1) old e
    have hcm : grownCap w (n + 1) old e ≤ maxLen := grownCap_le_maxLen w (n + 1) old e h63
    refine ⟨⟨?_, hge, hcm, ?_, ?_⟩, ⟨rfl, rfl, rfl, by simp, fun k hk _ => (((Below.refl w.heap.size w).drew).alloc (Nat.le_refl _) _).block k hk⟩⟩
    · have := heap_alloc_new w.drew (.cells (xs.toArray ++ news.toArray ++ Builtin.zeroCells z.cells (grownCap w (n + 1) old e - (n + 1))) e)
      have e2 : (xs ++ news ++ (Builtin.zeroCells z.cells (grownCap w (n + 1) old e - (n + 1))).toList).toArray = xs.toArray ++ news.toArray ++ Builtin.zeroCells z.cells (grownCap w (n + 1) old e - (n + 1)) := by
        apply Array.ext'
        simp
      rw [e2]
      exact this
    · simp only [List.length_append, Array.length_toList, size_zeroCells, hzs, hown.1, hl1, ← Nat.add_mul]
      congr 1
      omega
    · rw [← hlen]
      exact List.take_left
  rcases hown.2 with ⟨rfl, rfl⟩ | ⟨g, cap, cur, rfl, hbg, hg, hnc, hcm, hcs, htake⟩
  · have hx : xs = [] := List.eq_nil_of_length_eq_zero (by simpa using hown.1)
    subst hx
    have hr := run_append_nil (P := P) w t ty e i z ht hi hz a 1 c news hl1 hnews (by omega) (by omega) (by have hb := hbytes; simp only [Nat.zero_add] at hb; omega)
    have hgr := grown 0 (by omega) (Value.ownBlock (.slice none 0 0))
    simp only [Nat.zero_add, List.nil_append, Array.empty_append] at hgr hr ⊢
    exact ⟨_, _, _, _, hr, hgr.1, hbase, hgr.2, .inr (Nat.le_refl _)⟩
  · by_cases hroom : n + 1 ≤ cap
    · have hfit : n * i.size + news.length ≤ cur.size := by rw [hl1, hcs, ← Nat.add_mul]; exact Nat.mul_le_mul_right _ hroom
      have hr := run_append_room (P := P) w t ty e i ht hi g n cap cur hg a 1 c news hl1 hnews h1 hroom hfit
      refine ⟨_, _, _, _, hr, ⟨setRow_heap w g cur _ e _ hg, hroom, hcm, ?_, ?_⟩, hbg, ⟨rfl, rfl, rfl, by simp, fun k _ hk => setRow_other w g k _ (fun e => hk (by simp [Value.ownBlock, e]))⟩, .inl rfl⟩
      · simp only [List.length_append, List.length_take, List.length_drop, Array.length_toList]
        omega
      · rw [htake, ← hlen]
        exact List.take_left
    · have holds : ∀ j u, xs[j]? = some u → w.cell? ((⟨g, 0, none⟩ : Addr).add j) = some u := hown.cells (g := g) rfl
      have hr := run_append_grow (P := P) w t ty e i z ht hi hz ⟨g, 0, none⟩ n cap xs hown.1 holds a 1 c news hl1 hnews (by omega) (by omega) (growslice_fits (by omega) hbytes)
      have hgr := grown cap (by omega) (Value.ownBlock (.slice (some ⟨g, 0, none⟩) n cap))
      exact ⟨_, _, _, _, hr, hgr.1, hbase, hgr.2, .inr (Nat.le_refl _)⟩
/-- What a push leaves, hidden from the walk. -/
structure Pushed (w w' : World) (base : Nat) (e : TypeId) (size : Nat) (v : Value) (n : Nat) (ys : List Value) (g cap : Nat) : Prop where
  known : ∃ cur, Known w' e size g cap cur (n + 1) ys
  base : base ≤ g
  grown : w.grownBy w' v.ownBlock
  loc : v.ownBlock = some g ∨ w.heap.size ≤ g
theorem step_push {w : World} {ops : Array Oper} {o : Oper} {a : Act} {K : Act → World → Prop} {Q : Exit → Act → World → Prop} {E : Prop} (hgd : o.guard = none) (s x : Operand) (t : TypeId)
    (ho : o.op = .call { callee := .builtin .append, args := #[s, x], argTypes := #[t, t] }) (base : Nat) (e : TypeId) (z : Value) (size bytes : Nat) (ht : P.underlying t = some (.slice e)) (hinfo : (P.info? e).map (fun i => (i.zero, i.size, i.bytes)) = some (some z, size, bytes))
    (hzs : z.cells.size = size) (v : Value) (n : Nat) (xs : List Value) (hs : a.eval s = v) (hown : w.ownsRow base e size v n xs)
    (ad : Addr) (c : Nat) (hx : a.eval x = .slice (some ad) 1 c) (news : List Value) (hl : news.length = size) (hnews : ∀ j u, news[j]? = some u → w.cell? (ad.add j) = some u) (h1 : ∀ u ∈ news, u.oneCell' = true)
    (hsz : n + 1 ≤ maxLen ∧ (n + 1) * bytes ≤ 140737488355328) (hbase : base ≤ w.heap.size)
    (h : ∀ g cap w', Pushed w w' base e size v n (xs ++ news) g cap → K (a.put o.dst (.slice (some ⟨g, 0, none⟩) (n + 1) cap)) w') :
    if Region.wanted o (yielded ops a.tmps) = true then Oper.wp P o a w K Q else E := by
  have hw : Region.wanted o (yielded ops a.tmps) = true := by simp [Region.wanted, hgd]
  rw [if_pos hw]
  obtain ⟨g, cap, cur, w', hrun, hk, hb, hg, hl⟩ := run_push (P := P) t o.type z bytes ht hinfo hzs hown ad c news hl hnews h1 hsz hbase
  unfold Oper.wp
  simp [execOp, ho, resolve, invoke, builtin, hs, hx, hrun, Result.andThen]
  exact h g cap w' ⟨⟨cur, hk⟩, hb, hg, hl⟩
theorem wpList_push_any {w : World} {ops : Array Oper} {rest : List Oper} {o : Oper} {a : Act} {Q : Exit → Act → World → Prop} (hgd : o.guard = none) (s x : Operand) (t : TypeId)
    (ho : o.op = .call { callee := .builtin .append, args := #[s, x], argTypes := #[t, t] }) (base : Nat) (e : TypeId) (z : Value) (size bytes : Nat) (ht : P.underlying t = some (.slice e)) (hinfo : (P.info? e).map (fun i => (i.zero, i.size, i.bytes)) = some (some z, size, bytes))
    (hzs : z.cells.size = size) (v : Value) (n : Nat) (xs : List Value) (hs : a.eval s = v) (hown : w.ownsRow base e size v n xs)
    (ad : Addr) (c : Nat) (hx : a.eval x = .slice (some ad) 1 c) (news : List Value) (hl : news.length = size) (hnews : ∀ j u, news[j]? = some u → w.cell? (ad.add j) = some u) (h1 : ∀ u ∈ news, u.oneCell' = true)
    (hsz : n + 1 ≤ maxLen ∧ (n + 1) * bytes ≤ 140737488355328) (hbase : base ≤ w.heap.size)
    (h : ∀ g cap w', Pushed w w' base e size v n (xs ++ news) g cap → wpList P ops Q rest (a.put o.dst (.slice (some ⟨g, 0, none⟩) (n + 1) cap)) w') : wpList P ops Q (o :: rest) a w := by
  refine wpList_plain hgd fun K hK => ?_
  obtain ⟨g, cap, cur, w', hrun, hk, hb, hg, hl⟩ := run_push (P := P) t o.type z bytes ht hinfo hzs hown ad c news hl hnews h1 hsz hbase
  unfold Oper.wp
  simp [execOp, ho, resolve, invoke, builtin, hs, hx, hrun, Result.andThen]
  exact hK _ _ (h g cap w' ⟨⟨cur, hk⟩, hb, hg, hl⟩)
end
theorem Known.set {w : World} {e : TypeId} {size g cap : Nat} {cur : List Value} {n : Nat} {xs : List Value} (h : Known w e size g cap cur n xs) (j : Nat) (u : Value) : Known (w.setCell ⟨g, j, none⟩ u) e size g cap (cur.set j u) n (xs.set j u) :=
  ⟨(show RowIs w g e cur from h.row).set j u, h.le, h.big, by rw [List.length_set]; exact h.len, by rw [← h.take, List.take_set]⟩
theorem Known.other {w : World} {e : TypeId} {size g cap : Nat} {cur : List Value} {n : Nat} {xs : List Value} (h : Known w e size g cap cur n xs) {a : Addr} (ha : g ≠ a.block) (u : Value) : Known (w.setCell a u) e size g cap cur n xs :=
  ⟨(show RowIs w g e cur from h.row).other ha u, h.le, h.big, h.len, h.take⟩
theorem Known.free {w : World} {e : TypeId} {size g cap : Nat} {cur : List Value} {n : Nat} {xs : List Value} (h : Known w e size g cap cur n xs) (j : Nat) : w.frozen? ⟨g, j, none⟩ = false := (show RowIs w g e cur from h.row).free j
theorem Known.lt {w : World} {e : TypeId} {size g cap : Nat} {cur : List Value} {n : Nat} {xs : List Value} (h : Known w e size g cap cur n xs) : g < w.heap.size := lt_of_block h.row
theorem Known.there {w : World} {e : TypeId} {size g cap : Nat} {cur : List Value} {n : Nat} {xs : List Value} (h : Known w e size g cap cur n xs) (j : Nat) (hj : j < n * size) : ∃ u, w.cell? ⟨g, j, none⟩ = some u := by
  have : j < cur.length := by
    have := h.len; have h2 := Nat.mul_le_mul_right size h.le; omega
  exact ⟨cur[j], by rw [setRow_cell h.row, List.getElem?_eq_getElem this]⟩
end Go.Proofs.YtkmpbkhlcapbgaaGreatDoor
namespace Go.Proofs.YtkmpbkhlcapbgaaGreatDoor
open Go Go.RowKit
def PutPost (g : Nat) (s : ByteArray) (d : Nat) (l : List PartT) (w : World) (e : Ending) (w' : World) : Prop :=
  e = .returned (.tuple #[]) ∧ ∃ v, Wr g v s d w' ∧ Wp g v l w' ∧ Below g w w'
theorem three_facts {W : World} {b e : Nat} {x0 x1 x2 : Value} (r : RowIs W b e [x0, x1, x2]) :
    W.cell? ⟨b, 0, none⟩ = some x0 ∧ W.cell? ⟨b, 1, none⟩ = some x1 ∧ W.cell? ⟨b, 2, none⟩ = some x2 ∧ W.frozen? ⟨b, 0, none⟩ = false ∧ W.frozen? ⟨b, 1, none⟩ = false ∧ W.frozen? ⟨b, 2, none⟩ = false ∧ b < W.heap.size :=
  ⟨by rw [r.cell]; rfl, by rw [r.cell]; rfl, by rw [r.cell]; rfl, r.free _, r.free _, r.free _, r.lt⟩
theorem partInfo : (Tryz.prog.info? 92).map (fun i => (i.zero, i.size, i.bytes)) = some (some (.agg #[.int .i64 0, .string ⟨#[]⟩, .string ⟨#[]⟩, .bool false, .slice none 0 0]), 5, 72) := by kernel_rfl
theorem five_new (w : World) (x0 x1 x2 x3 x4 : Value) (e : TypeId) : ∀ j u, ([x0, x1, x2, x3, x4] : List Value)[j]? = some u → (w.alloc (.cells #[x0, x1, x2, x3, x4] e)).cell? ((⟨w.heap.size, 0, none⟩ : Addr).add j) = some u := by
  intro j u hj
  rw [Addr.add_lit, (RowIs.new w e [x0, x1, x2, x3, x4]).cell]
  simpa using hj
theorem set_five (xs : List Value) (n : Nat) (hn : xs.length = n * 5) (z0 z1 z2 z3 z4 a b c d e : Value) :
    (((((xs ++ [z0, z1, z2, z3, z4]).set (n * 5) a).set (n * 5 + 1) b).set (n * 5 + 2) c).set (n * 5 + 3) d).set (n * 5 + 4) e = xs ++ [a, b, c, d, e] := by
  have h : ∀ (j : Nat) (ys : List Value) (u : Value), (xs ++ ys).set (n * 5 + j) u = xs ++ ys.set j u := fun j ys u => by
    rw [List.set_append_right _ _ (by omega)]
    congr 2
    omega
  have h0 := h 0
  rw [Nat.add_zero] at h0
  rw [h0, h 1, h 2, h 3, h 4]
  rfl
theorem put_end {g : Nat} {v : Value} {s : ByteArray} {d : Nat} {l : List PartT} {p : PartT} {k : Nat} {t op : ByteArray} {q : Bool} {wv : Value} {w W1 w2 w' : World} {xs ys : List Value} {g2 cap : Nat} {cur : List Value} (hr : Wr g v s d w) (h1 : w.ownsRow (g + 1) 92 5 v l.length xs) (h2 : PartsAt w (fun b => g < b ∧ v.ownBlock ≠ some b) l xs)
    (ho : OneAt w (fun b => g < b ∧ v.ownBlock ≠ some b) p k t op q wv) (hB1 : Below w.heap.size w W1) (hP : Pushed W1 w2 (g + 1) 92 5 v l.length ys g2 cap)
    (hk : Known w' 92 5 g2 cap cur (l.length + 1) (xs ++ [.int .i64 (k : Nat), .string t, .string op, .bool q, wv]))
    (hrow : RowIs w' g 90 [.slice (some ⟨g2, 0, none⟩) (l.length + 1) cap, .string s, .int .i64 (d : Int)]) (hheap : ∀ b, b ≠ g → b ≠ g2 → w'.heap[b]? = w2.heap[b]?) (hBw : Below g w2 w') :
    ∃ v, Wr g v s d w' ∧ Wp g v (l ++ [p]) w' ∧ Below g w w' := by
  have hg := hr.row.lt
  have hs1 := hB1.size
  have hs2 := hP.grown.size
  have hs3 := hBw.size
  have hb2 := hP.base
  have hlt := h1.lt
  have k1 : Below g w w' := ((hB1.mono (Nat.le_of_lt hg)).grown hP.grown (by omega) (fun k hk => by have := (hlt k hk).1; omega)).trans hBw
  refine ⟨_, hr.after k1 hrow hr.size, ⟨⟨xs ++ [.int .i64 (k : Nat), .string t, .string op, .bool q, wv], ?_⟩⟩, k1⟩
  · refine ⟨?_, (h2.snoc ho).keep (by omega) fun b hb hbl => ?_⟩
    · have := hk.own hb2
      rw [List.length_append]
      exact this
    · have hne : b ≠ g2 := by
        rcases hP.loc with h | h
        · rintro rfl; exact hb.2 h
        · omega
      refine ⟨?_, hb.1, ?_⟩
      · rw [hheap b (by have := hb.1; omega) hne, hP.grown.block b (by omega) (fun e => hb.2 e.symm), hB1.block b hbl]
      · intro e; simp [Value.ownBlock] at e; exact hne e.symm
theorem pushed_facts {W1 w2 : World} {base e n : Nat} {v : Value} {xs : List Value} {z0 z1 z2 z3 z4 : Value} {g2 cap : Nat} (hP : Pushed W1 w2 base e 5 v n (xs ++ [z0, z1, z2, z3, z4]) g2 cap) {g e2 : Nat} {l : List Value} (hr : RowIs W1 g e2 l) (hg : g < base) (hlt : ∀ k, v.ownBlock = some k → base ≤ k) :
    RowIs w2 g e2 l ∧ g2 ≠ g ∧ (∃ u, w2.cell? ⟨g2, n * 5, none⟩ = some u) ∧ (∃ u, w2.cell? ⟨g2, n * 5 + 1, none⟩ = some u) ∧ (∃ u, w2.cell? ⟨g2, n * 5 + 2, none⟩ = some u) ∧ (∃ u, w2.cell? ⟨g2, n * 5 + 3, none⟩ = some u) ∧ (∃ u, w2.cell? ⟨g2, n * 5 + 4, none⟩ = some u) ∧
      (∀ j, w2.frozen? ⟨g2, j, none⟩ = false) ∧ n + 1 ≤ cap ∧ cap ≤ maxLen := by
  obtain ⟨cur, hk⟩ := hP.known
  have hb := hP.base
  refine ⟨?_, by omega, hk.there _ (by omega), hk.there _ (by omega), hk.there _ (by omega), hk.there _ (by omega), hk.there _ (by omega), hk.free, hk.le, hk.big⟩
  unfold RowIs
  rw [hP.grown.block g hr.lt (fun e => by have := hlt g e.symm; omega)]
  exact hr
theorem put_fin1 {g : Nat} {v : Value} {s : ByteArray} {d : Nat} {l : List PartT} {p : PartT} {k : Nat} {t op : ByteArray} {q : Bool} {wv : Value} {w W1 w2 : World} {xs : List Value} {z0 z1 z2 z3 z4 : Value} {g2 cap : Nat} (hr : Wr g v s d w) (h1 : w.ownsRow (g + 1) 92 5 v l.length xs) (h2 : PartsAt w (fun b => g < b ∧ v.ownBlock ≠ some b) l xs)
    (ho : OneAt w (fun b => g < b ∧ v.ownBlock ≠ some b) p k t op q wv) (hB1 : Below w.heap.size w W1) (hP : Pushed W1 w2 (g + 1) 92 5 v l.length (xs ++ [z0, z1, z2, z3, z4]) g2 cap) (hR : RowIs w2 g 90 [v, .string s, .int .i64 (d : Int)]) (a a1 a2 a3 a4 m : Nat) (ha : a = l.length * 5 ∧ a1 = l.length * 5 + 1 ∧ a2 = l.length * 5 + 2 ∧ a3 = l.length * 5 + 3 ∧ a4 = l.length * 5 + 4 ∧ m = l.length + 1) :
    ∃ v, Wr g v s d ((((((w2.setCell ⟨g2, a, none⟩ (.int .i64 (k : Nat))).setCell ⟨g2, a1, none⟩ (.string t)).setCell ⟨g2, a2, none⟩ (.string op)).setCell ⟨g2, a3, none⟩ (.bool q)).setCell ⟨g2, a4, none⟩ wv).setCell ⟨g, 0, none⟩ (.slice (some ⟨g2, 0, none⟩) m cap)) ∧ Wp g v (l ++ [p]) ((((((w2.setCell ⟨g2, a, none⟩ (.int .i64 (k : Nat))).setCell ⟨g2, a1, none⟩ (.string t)).setCell ⟨g2, a2, none⟩ (.string op)).setCell ⟨g2, a3, none⟩ (.bool q)).setCell ⟨g2, a4, none⟩ wv).setCell ⟨g, 0, none⟩ (.slice (some ⟨g2, 0, none⟩) m cap)) ∧ Below g w ((((((w2.setCell ⟨g2, a, none⟩ (.int .i64 (k : Nat))).setCell ⟨g2, a1, none⟩ (.string t)).setCell ⟨g2, a2, none⟩ (.string op)).setCell ⟨g2, a3, none⟩ (.bool q)).setCell ⟨g2, a4, none⟩ wv).setCell ⟨g, 0, none⟩ (.slice (some ⟨g2, 0, none⟩) m cap)) := by
  obtain ⟨rfl, rfl, rfl, rfl, rfl, rfl⟩ := ha
  obtain ⟨cur, hk⟩ := hP.known
  have hb := hP.base
  have hgg : g ≤ g2 := Nat.le_of_lt hb
  have ne0 : g2 ≠ g := by omega
  have e5 := set_five xs l.length (by rw [h2.length]) z0 z1 z2 z3 z4 (.int .i64 (k : Nat)) (.string t) (.string op) (.bool q) wv
  refine put_end hr h1 h2 ho hB1 hP (by rw [← e5]; exact ((((((hk.set (l.length * 5) _).set (l.length * 5 + 1) _).set (l.length * 5 + 2) _).set (l.length * 5 + 3) _).set (l.length * 5 + 4) _).other (a := ⟨g, 0, none⟩) ne0 _)) (((((((hR.other (a := ⟨g2, (l.length * 5), none⟩) (Ne.symm ne0) _).other (a := ⟨g2, (l.length * 5 + 1), none⟩) (Ne.symm ne0) _).other (a := ⟨g2, (l.length * 5 + 2), none⟩) (Ne.symm ne0) _).other (a := ⟨g2, (l.length * 5 + 3), none⟩) (Ne.symm ne0) _).other (a := ⟨g2, (l.length * 5 + 4), none⟩) (Ne.symm ne0) _).set 0 _)) (fun b hb1 hb2 => ?_) ((((((((Below.refl g w2).setCell (p := ⟨g2, (l.length * 5), none⟩) hgg _).setCell (p := ⟨g2, (l.length * 5 + 1), none⟩) hgg _).setCell (p := ⟨g2, (l.length * 5 + 2), none⟩) hgg _).setCell (p := ⟨g2, (l.length * 5 + 3), none⟩) hgg _).setCell (p := ⟨g2, (l.length * 5 + 4), none⟩) hgg _).setCell (p := ⟨g, 0, none⟩) (Nat.le_refl _) _))
  repeat (refine (Below.heap_setCell _ _ _ _ (by first | exact hb1 | exact hb2)).trans ?_)
  rfl
theorem put_fin2 {g : Nat} {v : Value} {s : ByteArray} {d : Nat} {l : List PartT} {p : PartT} {k : Nat} {t op : ByteArray} {q : Bool} {wv : Value} {w W1 w2 : World} {xs : List Value} {z0 z1 z2 z3 z4 : Value} {g2 cap : Nat} (hr : Wr g v s d w) (h1 : w.ownsRow (g + 1) 92 5 v l.length xs) (h2 : PartsAt w (fun b => g < b ∧ v.ownBlock ≠ some b) l xs)
    (ho : OneAt w (fun b => g < b ∧ v.ownBlock ≠ some b) p k t op q wv) (hB1 : Below w.heap.size w W1) (hP : Pushed W1 w2 (g + 1) 92 5 v l.length (xs ++ [z0, z1, z2, z3, z4]) g2 cap) (hR : RowIs w2 g 90 [v, .string s, .int .i64 (d : Int)]) (a a1 a2 a3 a4 m : Nat) (ha : a = l.length * 5 ∧ a1 = l.length * 5 + 1 ∧ a2 = l.length * 5 + 2 ∧ a3 = l.length * 5 + 3 ∧ a4 = l.length * 5 + 4 ∧ m = l.length + 1) :
    ∃ v, Wr g v s d ((((((w2.setCell ⟨g, 0, none⟩ (.slice (some ⟨g2, 0, none⟩) m cap)).setCell ⟨g2, a, none⟩ (.int .i64 (k : Nat))).setCell ⟨g2, a1, none⟩ (.string t)).setCell ⟨g2, a2, none⟩ (.string op)).setCell ⟨g2, a3, none⟩ (.bool q)).setCell ⟨g2, a4, none⟩ wv) ∧ Wp g v (l ++ [p]) ((((((w2.setCell ⟨g, 0, none⟩ (.slice (some ⟨g2, 0, none⟩) m cap)).setCell ⟨g2, a, none⟩ (.int .i64 (k : Nat))).setCell ⟨g2, a1, none⟩ (.string t)).setCell ⟨g2, a2, none⟩ (.string op)).setCell ⟨g2, a3, none⟩ (.bool q)).setCell ⟨g2, a4, none⟩ wv) ∧ Below g w ((((((w2.setCell ⟨g, 0, none⟩ (.slice (some ⟨g2, 0, none⟩) m cap)).setCell ⟨g2, a, none⟩ (.int .i64 (k : Nat))).setCell ⟨g2, a1, none⟩ (.string t)).setCell ⟨g2, a2, none⟩ (.string op)).setCell ⟨g2, a3, none⟩ (.bool q)).setCell ⟨g2, a4, none⟩ wv) := by
  obtain ⟨rfl, rfl, rfl, rfl, rfl, rfl⟩ := ha
  obtain ⟨cur, hk⟩ := hP.known
  have hb := hP.base
  have hgg : g ≤ g2 := Nat.le_of_lt hb
  have ne0 : g2 ≠ g := by omega
  have e5 := set_five xs l.length (by rw [h2.length]) z0 z1 z2 z3 z4 (.int .i64 (k : Nat)) (.string t) (.string op) (.bool q) wv
  refine put_end hr h1 h2 ho hB1 hP (by rw [← e5]; exact ((((((hk.other (a := ⟨g, 0, none⟩) ne0 _).set (l.length * 5) _).set (l.length * 5 + 1) _).set (l.length * 5 + 2) _).set (l.length * 5 + 3) _).set (l.length * 5 + 4) _)) (((((((hR.set 0 _).other (a := ⟨g2, (l.length * 5), none⟩) (Ne.symm ne0) _).other (a := ⟨g2, (l.length * 5 + 1), none⟩) (Ne.symm ne0) _).other (a := ⟨g2, (l.length * 5 + 2), none⟩) (Ne.symm ne0) _).other (a := ⟨g2, (l.length * 5 + 3), none⟩) (Ne.symm ne0) _).other (a := ⟨g2, (l.length * 5 + 4), none⟩) (Ne.symm ne0) _)) (fun b hb1 hb2 => ?_) ((((((((Below.refl g w2).setCell (p := ⟨g, 0, none⟩) (Nat.le_refl _) _).setCell (p := ⟨g2, (l.length * 5), none⟩) hgg _).setCell (p := ⟨g2, (l.length * 5 + 1), none⟩) hgg _).setCell (p := ⟨g2, (l.length * 5 + 2), none⟩) hgg _).setCell (p := ⟨g2, (l.length * 5 + 3), none⟩) hgg _).setCell (p := ⟨g2, (l.length * 5 + 4), none⟩) hgg _))
  repeat (refine (Below.heap_setCell _ _ _ _ (by first | exact hb1 | exact hb2)).trans ?_)
  rfl
end Go.Proofs.YtkmpbkhlcapbgaaGreatDoor
