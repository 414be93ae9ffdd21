/-
  DERIVED. The walk of arith's Eval: what the parser has, reckoned; by a panic that is recovered, a division by 0. A text that is no sum, refused by its form: the walks of one, ahead, row, any, Eval where a brace is not closed behind a name. What the laws ask of the three other chapters is so: sums, lengths, values cut. Plain: a number's text. No program in sight. Plain: a number's text is that number. No program in sight. Plain: the library's numeral is the law's. No program in sight. The walks of the document's blank, digit, Digits and Number: they only reckon, so the world stays.
-/
import Derived.Test.YtkmpbkhlcapbgaaGreatDoorZ44
import Derived.Test.YtkmpbkhlcapbgaaGreatDoorZ46
import Derived.Defers
import Derived.Recover
import Derived.Laws.Pointers
import Derived.RegionTactic
import Derived.Test.YtkmpbkhlcapbgaaGreatDoorZ20
import Derived.Test.YtkmpbkhlcapbgaaGreatDoorZ39
import Derived.Test.YtkmpbkhlcapbgaaGreatDoorShelf
import Derived.Lib.SmallJoins
import Derived.Lib.ItoaNum
import Derived.Test.YtkmpbkhlcapbgaaGreatDoorProg
import Derived.Test.YtkmpbkhlcapbgaaGreatDoorZ01
import Derived.WalkKit
import Derived.WalkSpells
import Derived.WalkLawsBesides
import Derived.Handy
import Derived.Lib.Hide
import Derived.Deep.LoopGhost
import Derived.Deep.DeepCutAuto
namespace Go.Proofs.YtkmpbkhlcapbgaaGreatDoor
open Go.RowKit
theorem catch_zero (p q : Addr) (x y : Int) (w : World) (hc : w.cell? p = some (.int .i64 x)) (hz : w.frozen? p = false) (hc2 : w.cell? q = some (.int .i64 y)) (hz2 : w.frozen? q = false) (hpq : p ≠ q) :
    CallsD Tryz.prog 127 #[.pointer (some p), .pointer (some q)] (.panicking zeroP) w fun e u' w' =>
      e = .returned (.tuple #[]) ∧ u' = .panicking [{ v := .iface 31 (.int .i64 22), recovered := true }] ∧ w' = ((w.setCell p (.int .i64 0)).setCell q (.int .i64 22)).drew := by
  have hta : ∀ w : World, Sem.run Tryz.prog (Instr.typeAssert (.iface 31 (.int .i64 22)) 20 31 false) w = .ok (.int .i64 22) w := fun _ => by kernel_rfl
  refine callsD_of_wpS Tryz.func127 rfl fun c₀ cs hu => ?_
  apply wpS_seq
  apply wpS_region
  simp [wpOpsS, go_sem, recoverD, hu, Tryz.ntmps127, Exit.thenS, zeroP]
  apply wpS_seq
  apply wpS_region
  simp [wpOpsS, go_sem, Exit.thenS]
  refine wpS_cond (t := true) (by simp [Act.eval, Array.replicate]) ?_
  simp only [if_true]
  refine wpS_of_wp ?_
  go_region
  all_goals
    simp [bodyPostS, results, Tryz.results127]
theorem catch_none (p q : Addr) (w : World) :
    CallsD Tryz.prog 127 #[.pointer (some p), .pointer (some q)] .returning w fun e u' w' => e = .returned (.tuple #[]) ∧ u' = .returning ∧ w' = w := by
  refine callsD_of_wpS Tryz.func127 rfl fun c₀ cs hu => ?_
  apply wpS_seq
  apply wpS_region
  simp [wpOpsS, go_sem, recoverD, hu, Tryz.ntmps127, Exit.thenS]
  apply wpS_seq
  apply wpS_region
  simp [wpOpsS, go_sem, Exit.thenS]
  refine wpS_cond (t := false) (by simp [Act.eval, Array.replicate]) ?_
  simp only [Bool.false_eq_true, if_false]
  refine wpS_of_wp (wp_skip ?_)
  cases c₀
  simp_all [bodyPostS, results, Tryz.results127]
theorem drop_all {α : Type} (p : α → Bool) : ∀ l : List α, l.all p = true → l.dropWhile p = []
  | [], _ => rfl
  | c :: l, h => by
    simp only [List.all_cons, Bool.and_eq_true] at h
    rw [List.dropWhile_cons_of_pos h.1]; exact drop_all p l h.2
theorem trim_blank {u : ByteArray} (h : u.data.toList.all blankU = true) : trimB u = ⟨#[]⟩ := by
  rw [← Lib.mk_data (trimB u), trimB_eq]
  have e : u.data.toList.dropWhile blankU = [] := drop_all _ _ h
  rw [e]
  rfl
/-- The three blocks that Eval makes first: the results, the reader. -/
def evW (s : ByteArray) (w : World) : World := ((w.alloc (.cells #[.int .i64 0] 2)).alloc (.cells #[.int .i64 0] 31)).alloc (.cells #[.string s, .int .i64 0] 174)
theorem evW_rows (s : ByteArray) (w : World) : RowIs (evW s w) w.heap.size 2 [.int .i64 0] ∧ RowIs (evW s w) (w.heap.size + 1) 31 [.int .i64 0] := by
  have h1 := ((RowIs.new w 2 [.int .i64 0]).alloc (.cells #[.int .i64 0] 31)).alloc (.cells #[.string s, .int .i64 0] 174)
  have h2 := (RowIs.new (w.alloc (.cells #[.int .i64 0] 2)) 31 [.int .i64 0]).alloc (.cells #[.string s, .int .i64 0] 174)
  have e : (w.alloc (.cells #[.int .i64 0] 2)).heap.size = w.heap.size + 1 := by simp
  rw [e] at h2
  exact ⟨h1, h2⟩
theorem evW_below (s : ByteArray) (w : World) : Below w.heap.size w (evW s w) := (((Below.refl _ _).alloc (Nat.le_refl _) _).alloc (by simp) _).alloc (by simp; omega) _
theorem evW_rd (s : ByteArray) (hs : s.size ≤ 1000000000) (w : World) (hT : Tabs w) : Rd (w.heap.size + 2) s 0 (evW s w) := by
  have hb := evW_below s w
  have hT2 := hT.keep hb
  have r := RowIs.new ((w.alloc (.cells #[.int .i64 0] 2)).alloc (.cells #[.int .i64 0] 31)) 174 [.string s, .int .i64 0]
  have e : ((w.alloc (.cells #[.int .i64 0] 2)).alloc (.cells #[.int .i64 0] 31)).heap.size = w.heap.size + 2 := by simp
  rw [e] at r
  obtain ⟨m, hm⟩ := hT.rows.2
  have l1 : 8 < w.heap.size := block_lt_of_cell (hT.signs 0 (by omega))
  have l2 : 5 < w.heap.size := block_lt_of_cell (hT.rows.1 0 (by omega))
  have l3 : 1 < w.heap.size := block_lt_of_cell hm
  refine ⟨r, hs, by omega, by omega, ⟨by omega, by omega⟩, hT2.signs, hT2.rows, fun w' hk => hT.env.keep (hb.trans (hk.toBelow (by omega) hb.size))⟩
set_option maxRecDepth 100000 in
set_option maxHeartbeats 8000000 in
theorem eval_ok (f g : Nat) (s : ByteArray) (hs : s.size ≤ 1000000000) (t : Tree) (hp : parseF f s.data.toList = some t) (l : List (ByteArray × ByteArray)) (n : Int) (hn : evF l g t = .ok n) (v : Value) (w : World) (hV : VarsAt w v l) (hT : Tabs w) :
    Calls Tryz.prog 97 #[.string s, v] w fun e w' => e = .returned (.tuple #[.int .i64 n, .int .i64 0]) ∧ Below w.heap.size w w' := by
  obtain ⟨u, hu, hub⟩ : ∃ u : ByteArray, anyF f 0 s.data.toList = some (t, u.data.toList) ∧ u.data.toList.all blankU = true := by
    unfold parseF at hp
    split at hp
    · rename_i t' r hr
      split at hp
      · rename_i hb
        simp only [Option.some.injEq] at hp
        subst hp
        exact ⟨⟨r.toArray⟩, hr, hb⟩
      · cases hp
    · cases hp
  have hus : u.size ≤ 1000000000 := by have h5 := (parse_le f).1 _ _ _ _ hu; rw [Lib.size_eq] at hs ⊢; exact Nat.le_trans h5 hs
  have HA := Lib.hid (any_ok f 0 s u t hu (w.heap.size + 2) (evW s w) (evW_rd s hs w hT))
  have HTR := Lib.hid (trim_any u ⟨#[]⟩ hus (trim_blank hub))
  have HO := Lib.hid (of_ok l g t _ hn (by simp))
  have HV := Lib.hid hV
  have HT := Lib.hid hT
  have hmf : ∀ (fn : Fn) (first cap : Array Value) (w : World), (Instr.makeFunc fn first cap).run Tryz.prog w = .ok (.func fn first cap) w := fun _ _ _ _ => rfl
  clear hp hn hV hT hu hub hus hs
  obtain ⟨G, hG⟩ : ∃ G, G = w.heap.size + 1 + 1 := ⟨_, rfl⟩
  have HG := Lib.hid hG
  have HA2 : Hid (Calls Tryz.prog 128 #[.pointer (some ⟨w.heap.size + 1 + 1, 0, none⟩)] (((w.alloc (.cells #[.int .i64 0] 2)).alloc (.cells #[.int .i64 0] 31)).alloc (.cells #[.string s, .int .i64 0] 174)) (TreePost (w.heap.size + 1 + 1) 0 t u (fun x => (evW s w).heap.size ≤ x) (evW s w))) := HA.out
  clear HA hG
  go_enter_defers Tryz.func97, Tryz.ntmps97
  go_wp2_with fail
  refine HA2.out.mono ?_
  rintro e w1 ⟨o, n1, m, p, k, rfl, t1, r1, kk1⟩
  rw [← HG.out] at r1 kk1
  rw [← HG.out]
  obtain ⟨x0, x1⟩ := evW_rows s w
  have hGs := HG.out
  have B1 := (evW_below s w).trans (kk1.toBelow (by omega) (evW_below s w).size)
  have hs1 := kk1.size
  have hsz : (evW s w).heap.size = w.heap.size + 3 := by unfold evW; simp
  have ra1 := (kk1.row x0 (by omega)).alloc (.cells #[.string o, .int .i64 n1, .string m, .slice p k k] 177)
  have rb1 := (kk1.row x1 (by omega)).alloc (.cells #[.string o, .int .i64 n1, .string m, .slice p k k] 177)
  have rr1 := r1.alloc (.cells #[.string o, .int .i64 n1, .string m, .slice p k k] 177)
  have rt1 := RowIs.new w1 177 [.string o, .int .i64 n1, .string m, .slice p k k]
  have HT1 := Lib.hid (t1.alloc (.cells #[.string o, .int .i64 n1, .string m, .slice p k k] 177))
  have B2 := B1.alloc B1.size (.cells #[.string o, .int .i64 n1, .string m, .slice p k k] 177)
  obtain ⟨c0, _, _, _, lg⟩ := reader_facts rr1
  have HB2 := Lib.hid B2
  have HRA := Lib.hid ra1
  have HRB := Lib.hid rb1
  have HRT := Lib.hid rt1
  clear hGs B1 hs1 hsz ra1 rb1 rr1 rt1 t1 r1 kk1 x0 x1 B2 HA2
  go_wp2_with fail
  refine (HTR.out _).mono ?_; rintro e w2 ⟨rfl, b2⟩
  have ra2 := HRA.out.below b2
  have rb2 := HRB.out.below b2
  have rt2 := HRT.out.below b2
  have B3 := HB2.out.trans (b2.mono HB2.out.size)
  obtain ⟨j0, j1, j2, j3, _, _, _, _, lt⟩ := tree_facts rt2
  have HB3 := Lib.hid B3
  have HT2 := Lib.hid (HT1.out.under b2)
  have HRA2 := Lib.hid ra2
  have HRB2 := Lib.hid rb2
  clear ra2 rb2 rt2 b2 B3 c0
  go_wp2_with fail
  refine (HO.out _ _ _ _ _ _ _ _ HT2.out (HV.out.below HB3.out) (HT.out.env.keep HB3.out)).mono ?_
  rintro e w3 ⟨he, b3⟩
  have ra3 := HRA2.out.below b3
  have rb3 := HRB2.out.below b3
  have B4 := HB3.out.trans (b3.mono HB3.out.size)
  have q0 : w3.cell? ⟨w.heap.size, 0, none⟩ = some (.int .i64 0) := by rw [ra3.cell]; rfl
  have q1 : w3.cell? ⟨w.heap.size + 1, 0, none⟩ = some (.int .i64 0) := by rw [rb3.cell]; rfl
  have f0 := ra3.free 0
  have f1 := rb3.free 0
  have l0 := ra3.lt
  have l1 := rb3.lt
  clear j0 j1 j2 j3
  obtain rfl : e = .returned (.int .i64 n) := he
  go_wp2_with fail
  have hf0 := ((ra3.set 0 (.int .i64 n)).other (show w.heap.size ≠ w.heap.size + 1 by omega) (.int .i64 0) (a := ⟨w.heap.size + 1, 0, none⟩))
  have hf1 := ((rb3.other (show w.heap.size + 1 ≠ w.heap.size by omega) (.int .i64 n) (a := ⟨w.heap.size, 0, none⟩)).set 0 (.int .i64 0))
  have g0 : ((w3.setCell ⟨w.heap.size, 0, none⟩ (.int .i64 n)).setCell ⟨w.heap.size + 1, 0, none⟩ (.int .i64 0)).cell? ⟨w.heap.size, 0, none⟩ = some (.int .i64 n) := by rw [hf0.cell]; rfl
  have g1 : ((w3.setCell ⟨w.heap.size, 0, none⟩ (.int .i64 n)).setCell ⟨w.heap.size + 1, 0, none⟩ (.int .i64 0)).cell? ⟨w.heap.size + 1, 0, none⟩ = some (.int .i64 0) := by rw [hf1.cell]; rfl
  have HB5 := Lib.hid ((B4.setCell (p := ⟨w.heap.size, 0, none⟩) (Nat.le_refl _) (.int .i64 n)).setCell (p := ⟨w.heap.size + 1, 0, none⟩) (Nat.le_succ _) (.int .i64 0))
  refine leaves_cons (f := 127) (args := #[.pointer (some ⟨w.heap.size, 0, none⟩), .pointer (some ⟨w.heap.size + 1, 0, none⟩)]) (by simp) (by simp [go_sem]) ?_
  refine (catch_none _ _ _).mono ?_
  rintro e u' w'' ⟨rfl, rfl, rfl⟩
  simp [Leaves, settle, results, Tryz.results97, go_sem, g0, g1]
  exact HB5.out
set_option maxRecDepth 100000 in
set_option maxHeartbeats 8000000 in
theorem eval_zero (f g : Nat) (s : ByteArray) (hs : s.size ≤ 1000000000) (t : Tree) (hp : parseF f s.data.toList = some t) (l : List (ByteArray × ByteArray)) (hn : evF l g t = .zero) (v : Value) (w : World) (hV : VarsAt w v l) (hT : Tabs w) :
    Calls Tryz.prog 97 #[.string s, v] w fun e w' => e = .returned (.tuple #[.int .i64 0, .int .i64 22]) ∧ Below w.heap.size w w' := by
  obtain ⟨u, hu, hub⟩ : ∃ u : ByteArray, anyF f 0 s.data.toList = some (t, u.data.toList) ∧ u.data.toList.all blankU = true := by
    unfold parseF at hp
    split at hp
    · rename_i t' r hr
      split at hp
      · rename_i hb
        simp only [Option.some.injEq] at hp
        subst hp
        exact ⟨⟨r.toArray⟩, hr, hb⟩
      · cases hp
    · cases hp
  have hus : u.size ≤ 1000000000 := by have h5 := (parse_le f).1 _ _ _ _ hu; rw [Lib.size_eq] at hs ⊢; exact Nat.le_trans h5 hs
  have HA := Lib.hid (any_ok f 0 s u t hu (w.heap.size + 2) (evW s w) (evW_rd s hs w hT))
  have HTR := Lib.hid (trim_any u ⟨#[]⟩ hus (trim_blank hub))
  have HO := Lib.hid (of_ok l g t _ hn (by simp))
  have HV := Lib.hid hV
  have HT := Lib.hid hT
  have hmf : ∀ (fn : Fn) (first cap : Array Value) (w : World), (Instr.makeFunc fn first cap).run Tryz.prog w = .ok (.func fn first cap) w := fun _ _ _ _ => rfl
  clear hp hn hV hT hu hub hus hs
  obtain ⟨G, hG⟩ : ∃ G, G = w.heap.size + 1 + 1 := ⟨_, rfl⟩
  have HG := Lib.hid hG
  have HA2 : Hid (Calls Tryz.prog 128 #[.pointer (some ⟨w.heap.size + 1 + 1, 0, none⟩)] (((w.alloc (.cells #[.int .i64 0] 2)).alloc (.cells #[.int .i64 0] 31)).alloc (.cells #[.string s, .int .i64 0] 174)) (TreePost (w.heap.size + 1 + 1) 0 t u (fun x => (evW s w).heap.size ≤ x) (evW s w))) := HA.out
  clear HA hG
  go_enter_defers Tryz.func97, Tryz.ntmps97
  go_wp2_with fail
  refine HA2.out.mono ?_
  rintro e w1 ⟨o, n1, m, p, k, rfl, t1, r1, kk1⟩
  rw [← HG.out] at r1 kk1
  rw [← HG.out]
  obtain ⟨x0, x1⟩ := evW_rows s w
  have hGs := HG.out
  have B1 := (evW_below s w).trans (kk1.toBelow (by omega) (evW_below s w).size)
  have hs1 := kk1.size
  have hsz : (evW s w).heap.size = w.heap.size + 3 := by unfold evW; simp
  have ra1 := (kk1.row x0 (by omega)).alloc (.cells #[.string o, .int .i64 n1, .string m, .slice p k k] 177)
  have rb1 := (kk1.row x1 (by omega)).alloc (.cells #[.string o, .int .i64 n1, .string m, .slice p k k] 177)
  have rr1 := r1.alloc (.cells #[.string o, .int .i64 n1, .string m, .slice p k k] 177)
  have rt1 := RowIs.new w1 177 [.string o, .int .i64 n1, .string m, .slice p k k]
  have HT1 := Lib.hid (t1.alloc (.cells #[.string o, .int .i64 n1, .string m, .slice p k k] 177))
  have B2 := B1.alloc B1.size (.cells #[.string o, .int .i64 n1, .string m, .slice p k k] 177)
  obtain ⟨c0, _, _, _, lg⟩ := reader_facts rr1
  have HB2 := Lib.hid B2
  have HRA := Lib.hid ra1
  have HRB := Lib.hid rb1
  have HRT := Lib.hid rt1
  clear hGs B1 hs1 hsz ra1 rb1 rr1 rt1 t1 r1 kk1 x0 x1 B2 HA2
  go_wp2_with fail
  refine (HTR.out _).mono ?_; rintro e w2 ⟨rfl, b2⟩
  have ra2 := HRA.out.below b2
  have rb2 := HRB.out.below b2
  have rt2 := HRT.out.below b2
  have B3 := HB2.out.trans (b2.mono HB2.out.size)
  obtain ⟨j0, j1, j2, j3, _, _, _, _, lt⟩ := tree_facts rt2
  have HB3 := Lib.hid B3
  have HT2 := Lib.hid (HT1.out.under b2)
  have HRA2 := Lib.hid ra2
  have HRB2 := Lib.hid rb2
  clear ra2 rb2 rt2 b2 B3 c0
  go_wp2_with fail
  refine (HO.out _ _ _ _ _ _ _ _ HT2.out (HV.out.below HB3.out) (HT.out.env.keep HB3.out)).mono ?_
  rintro e w3 ⟨he, b3⟩
  have ra3 := HRA2.out.below b3
  have rb3 := HRB2.out.below b3
  have B4 := HB3.out.trans (b3.mono HB3.out.size)
  have q0 : w3.cell? ⟨w.heap.size, 0, none⟩ = some (.int .i64 0) := by rw [ra3.cell]; rfl
  have q1 : w3.cell? ⟨w.heap.size + 1, 0, none⟩ = some (.int .i64 0) := by rw [rb3.cell]; rfl
  have f0 := ra3.free 0
  have f1 := rb3.free 0
  have l0 := ra3.lt
  have l1 := rb3.lt
  clear j0 j1 j2 j3
  obtain rfl : e = .panicked zeroP := he
  go_wp2_with fail
  have hf0 := ((ra3.set 0 (.int .i64 0)).other (show w.heap.size ≠ w.heap.size + 1 by omega) (.int .i64 22) (a := ⟨w.heap.size + 1, 0, none⟩)).below (Below.refl _ _).drew
  have hf1 := ((rb3.other (show w.heap.size + 1 ≠ w.heap.size by omega) (.int .i64 0) (a := ⟨w.heap.size, 0, none⟩)).set 0 (.int .i64 22)).below (Below.refl _ _).drew
  have g0 : ((w3.setCell ⟨w.heap.size, 0, none⟩ (.int .i64 0)).setCell ⟨w.heap.size + 1, 0, none⟩ (.int .i64 22)).drew.cell? ⟨w.heap.size, 0, none⟩ = some (.int .i64 0) := by rw [hf0.cell]; rfl
  have g1 : ((w3.setCell ⟨w.heap.size, 0, none⟩ (.int .i64 0)).setCell ⟨w.heap.size + 1, 0, none⟩ (.int .i64 22)).drew.cell? ⟨w.heap.size + 1, 0, none⟩ = some (.int .i64 22) := by rw [hf1.cell]; rfl
  have HB5 := Lib.hid (((B4.setCell (p := ⟨w.heap.size, 0, none⟩) (Nat.le_refl _) (.int .i64 0)).setCell (p := ⟨w.heap.size + 1, 0, none⟩) (Nat.le_succ _) (.int .i64 22)).drew)
  refine leaves_cons (f := 127) (args := #[.pointer (some ⟨w.heap.size, 0, none⟩), .pointer (some ⟨w.heap.size + 1, 0, none⟩)]) (by simp) (by simp [go_sem]) ?_
  refine (catch_zero ⟨w.heap.size, 0, none⟩ ⟨w.heap.size + 1, 0, none⟩ 0 0 _ q0 f0 q1 f1 (by simp)).mono ?_
  rintro e u' w'' ⟨rfl, rfl, rfl⟩
  simp [Leaves, settle, results, Tryz.results97, go_sem, g0, g1]
  exact HB5.out
end Go.Proofs.YtkmpbkhlcapbgaaGreatDoor
namespace Go.Proofs.YtkmpbkhlcapbgaaGreatDoor
open Go.RowKit
def formP : List PanicEntry := [{ v := .iface 31 (.int .i64 11), recovered := false }]
/-- The text: a name in braces that are not closed behind it. -/
def badL : List UInt8 := [36, 123, 120, 43, 49, 125, 48, 43, 49]
def BadPost (g : Nat) (w : World) (e : Ending) (w' : World) : Prop := e = .panicked formP ∧ Kept g w w'
theorem afail_at (w : World) : Calls Tryz.prog 130 #[.int .i64 11] w fun x w' => x = .panicked formP ∧ w = w' := by
  go_enter Tryz.func130, Tryz.ntmps130
  go_wp2
  exact ⟨rfl, rfl, rfl⟩
theorem bad_sign {s : ByteArray} (h : dropB s.data.toList = badL) : signF s.data.toList = [] := by
  unfold signF
  rw [h]
  decide
theorem bad_of {u : ByteArray} {l : List UInt8} (h : u.data.toList = l) : u = ⟨l.toArray⟩ := by rw [← h, Lib.mk_data]
set_option maxRecDepth 100000 in
set_option maxHeartbeats 4000000 in
theorem one_bad (s : ByteArray) (hs : dropB s.data.toList = badL) (g d : Nat) (w : World) (hrd : Rd g s d w) :
    Calls Tryz.prog 206 #[.pointer (some ⟨g, 0, none⟩)] w (BadPost g w) := by
  obtain ⟨u, hu⟩ : ∃ u : ByteArray, u = ⟨#[36, 123, 120, 43, 49, 125, 48, 43, 49]⟩ := ⟨_, rfl⟩
  obtain ⟨x, hx⟩ : ∃ x : ByteArray, x = ⟨#[120, 43, 49, 125, 48, 43, 49]⟩ := ⟨_, rfl⟩
  obtain ⟨y, hy⟩ : ∃ y : ByteArray, y = ⟨#[43, 49, 125, 48, 43, 49]⟩ := ⟨_, rfl⟩
  have HS := Lib.hid (fun w => sign_any g s u (d : Int) (by rw [hs, hu]; rfl) ⟨#[]⟩ (bad_sign hs) w hrd.gs)
  have HC1 := Lib.hid (cut_yes u ⟨#[36, 123]⟩ x (by rw [hu]; decide) (by rw [hu, hx]; rfl))
  have HP2 := Lib.hid (has_pre y ⟨#[125]⟩ false (by rw [hy]; decide))
  have HGS := Lib.hid hrd.gs
  have HNM : Hid (∀ w, RowIs w g 174 [.string x, .int .i64 (d : Int)] → Calls Tryz.prog 213 #[.pointer (some ⟨g, 0, none⟩)] w fun e w' => e = .returned (.agg #[.string ⟨#[36]⟩, .int .i64 0, .string ⟨#[120]⟩, .slice none 0 0]) ∧ RowIs w' g 174 [.string y, .int .i64 (d : Int)] ∧ Kept g w w') := by
    intro w hw
    have e1 : y = x.extract 1 x.size := by rw [hy, hx]; decide
    have e2 : (⟨#[120]⟩ : ByteArray) = x.extract 0 1 := by rw [hx]; decide
    rw [e1, e2]
    exact name_yes g x (d : Int) 1 (by rw [hx]; decide) (by rw [hx]; decide) (by decide) (by rw [hx]; decide) w hw
  have lg := hrd.row.lt
  have HR := Lib.hid hrd.row
  have HSA := Lib.hid hrd.signs
  clear hu hx hy hrd hs
  go_enter Tryz.func206, Tryz.ntmps206
  go_wp2_with fail
  have k0 := (Kept.refl g w).alloc (.cells #[.string ⟨#[]⟩, .int .i64 0, .string ⟨#[]⟩, .slice none 0 0] 177)
  refine (HS.out _ (HR.out.alloc _) (HSA.out.kept HGS.out k0)).mono ?_; rintro e w1 ⟨rfl, r1, k1⟩
  have K1 := k0.trans k1
  have hne : w.heap.size ≠ g := by omega
  have rz : RowIs w1 w.heap.size 177 treeL := k1.row (RowIs.new _ _ _) hne
  have c1 : w1.cell? ⟨g, 0, none⟩ = some (.string u) := by rw [r1.cell]; rfl
  have f1 : w1.frozen? ⟨g, 0, none⟩ = false := r1.free _
  have l1 := r1.lt
  have HR1 := Lib.hid r1
  have HK1 := Lib.hid K1
  have HRZ := Lib.hid rz
  clear r1 k1 K1 k0 rz
  go_wp2_with fail
  refine (HC1.out _).mono ?_; rintro e w2 ⟨rfl, hw⟩; subst hw
  go_wp2_with fail
  refine (HNM.out _ (HR1.out.set 0 _)).mono ?_; rintro e w5 ⟨rfl, r5, k5⟩
  have q5 := k5.row (HRZ.out.other (Ne.intro fun h => hne h) (.string x) (a := ⟨g, 0, none⟩)) hne
  have K5 := (HK1.out.set 0 (.string x)).trans k5
  obtain ⟨j0, j1, j2, j3, i0, i1, i2, i3, l5⟩ := tree_facts q5
  have c5 : w5.cell? ⟨g, 0, none⟩ = some (.string y) := by rw [r5.cell]; rfl
  have f5 : w5.frozen? ⟨g, 0, none⟩ = false := r5.free _
  have lg5 := r5.lt
  have HK5 := Lib.hid K5
  have hne2 : ¬ g = w.heap.size := by omega
  clear r5 k5 q5 K5
  go_wp2_with fail
  refine (HP2.out _).mono ?_; rintro e w6 ⟨rfl, hw⟩; subst hw
  go_wp2_with fail
  refine (afail_at _).mono ?_; rintro e w7 ⟨rfl, rfl⟩
  have HKN : Hid (Kept g w _) := HK5
  go_wp2_with fail
  refine ⟨rfl, rfl, ?_⟩
  first
  | exact HK5.out
  | exact HK5.out.alloc _
  | exact (((HK5.out.new (Nat.le_refl _) 0 _).new (Nat.le_refl _) 1 _).new (Nat.le_refl _) 2 _).new (Nat.le_refl _) 3 _
set_option maxRecDepth 100000 in
set_option maxHeartbeats 8000000 in
theorem ahead_bad (s : ByteArray) (hs0 : dropB s.data.toList = badL) (g d : Nat) (w : World) (hr : Rd g s d w) :
    Calls Tryz.prog 177 #[.pointer (some ⟨g, 0, none⟩)] w (BadPost g w) := by
  have L0 := LawA.start hr
  have HS0 := Lib.hid hs0
  have HS := Lib.hid (show signF s.data.toList ≠ [40] by rw [bad_sign hs0]; decide)
  have HNO := Lib.hid (show ∀ i, i < 4 → signF s.data.toList ≠ aheadL.getD i [] by
    rw [bad_sign hs0]
    intro i hi
    rcases (show i = 0 ∨ i = 1 ∨ i = 2 ∨ i = 3 by omega) with rfl | rfl | rfl | rfl <;> decide)
  clear hr hs0
  go_enter Tryz.func177, Tryz.ntmps177
  go_wp2_with fail
  go_loopg [7] 4 (fun gk s7 wx => LawA g d s w wx ∧ ∃ i : Nat, i + gk = 4 ∧ s7 = .int .i64 i)
  case atStart => exact ⟨L0, 0, rfl, rfl⟩
  case round =>
    obtain ⟨L1, i, hik, rfl⟩ := hrel
    clear L0
    cases gk with
    | zero =>
      obtain rfl : i = 4 := by omega
      obtain ⟨s', R', hs'⟩ := L1.rd
      have c0 : wr.cell? ⟨w.heap.size, 0, none⟩ = some (.pointer (some ⟨g, 0, none⟩)) := by rw [L1.rr.cell]; rfl
      have lr0 := L1.rr.lt
      have HL1 := Lib.hid L1
      have gw := L1.gw
      have hlo := L1.kept.size
      have l2 := L1.rl.lt
      obtain ⟨v, hv⟩ : ∃ v : ByteArray, v.data.toList = dropB s'.data.toList := ⟨⟨(dropB s'.data.toList).toArray⟩, rfl⟩
      have hp : passF [40] s'.data.toList = (false, v.data.toList) := by
        unfold passF
        rw [if_neg (by rw [signF_drop hs']; exact HS.out), hv]
      have HP := Lib.hid (passN_at ⟨#[40]⟩ (u := v) hp R')
      have HO := Lib.hid (show dropB v.data.toList = badL by rw [hv, dropB_dropB, hs']; exact HS0.out)
      clear hp R' hs' L1 hv
      go_wp2_with fail
      refine HP.out.mono ?_
      rintro e w2 ⟨rfl, R2, kk2⟩
      have rr2 := kk2.row HL1.out.rr (by omega)
      have HK2 := Lib.hid (HL1.out.kept.trans kk2)
      have c2 : w2.cell? ⟨w.heap.size, 0, none⟩ = some (.pointer (some ⟨g, 0, none⟩)) := by rw [rr2.cell]; rfl
      have l2 := rr2.lt
      have HW := Lib.hid (one_bad v HO.out g d w2 R2)
      clear R2 kk2 rr2 HP c0
      go_wp2_with fail
      refine HW.out.mono ?_
      rintro e w3 ⟨rfl, kk5⟩
      have HK5 := Lib.hid (HK2.out.trans kk5)
      clear HW kk5
      go_wp2_with fail
      exact ⟨rfl, rfl, HK5.out⟩
    | succ gk =>
      have hi4 : i < 4 := by omega
      have hiz : (i : Int) < 4 := by omega
      have hlit0 := L1.lit i hi4
      obtain ⟨xs, hxs⟩ : ∃ xs, aheadL.getD i [] = xs := ⟨_, rfl⟩
      rw [hxs] at hlit0
      have HXS := Lib.hid hxs
      have hlit := hlit0
      clear hxs hlit0
      have hw1 : IntKind.i64.wrap ((i : Int) + 1) = (i : Int) + 1 := wrap_small _ (by omega) (by omega)
      have L2 := L1.alloc (.cells #[.string ⟨xs.toArray⟩] 9)
      obtain ⟨s', R', hs'⟩ := L2.rd
      have rx := RowIs.new wr 9 [.string ⟨xs.toArray⟩]
      have c0 : (wr.alloc (.cells #[.string ⟨xs.toArray⟩] 9)).cell? ⟨w.heap.size, 0, none⟩ = some (.pointer (some ⟨g, 0, none⟩)) := by rw [L2.rr.cell]; rfl
      have lr0 := L1.rr.lt
      have HL2 := Lib.hid L2
      have gw := L1.gw
      have hlo := L1.kept.size
      have l2 := L1.rl.lt
      obtain ⟨u2, hu2⟩ : ∃ u2 : ByteArray, u2.data.toList = dropB s'.data.toList := ⟨⟨(dropB s'.data.toList).toArray⟩, rfl⟩
      have hp : passF xs s'.data.toList = (false, u2.data.toList) := by
        unfold passF
        rw [← HXS.out, if_neg (by rw [signF_drop hs']; exact HNO.out i hi4), hu2]
      have HP := Lib.hid (passN_at ⟨xs.toArray⟩ (u := u2) hp R')
      have hd2 := Lib.hid (show dropB u2.data.toList = dropB s.data.toList by rw [hu2, dropB_dropB, hs'])
      clear hp R' hs' L2 rx L1 hu2
      go_wp2_with fail
      refine HP.out.mono ?_
      rintro e w2 ⟨rfl, R2, kk2⟩
      have L3 := HL2.out.next kk2 R2 hd2.out
      clear R2 kk2 c0 HP
      go_wp2_with fail
      go_roundg gk
      case measure => omega
      case rel => exact ⟨L3, i + 1, by omega, rfl⟩
set_option maxRecDepth 100000 in
set_option maxHeartbeats 4000000 in
theorem row_bad (s : ByteArray) (hs : dropB s.data.toList = badL) (g d : Nat) : ∀ (k i : Nat), i + k = 10 → ∀ (w : World), Rd g s d w →
    Calls Tryz.prog 151 #[.pointer (some ⟨g, 0, none⟩), .int .i64 (i : Int)] w (BadPost g w) := by
  intro k
  induction k with
  | zero =>
    intro i hi w hr
    obtain rfl : i = 10 := by omega
    have H1 := Lib.hid (ahead_bad s hs g d)
    have lg := hr.row.lt
    have HR := Lib.hid hr
    clear hr
    go_enter Tryz.func151, Tryz.ntmps151
    go_wp2_with fail
    have k0 := (Kept.refl g w).alloc (.cells #[.string ⟨#[]⟩, .int .i64 0, .string ⟨#[]⟩, .slice none 0 0] 177)
    refine (H1.out _ (HR.out.kept k0 (HR.out.row.alloc _))).mono ?_
    rintro e w1 ⟨rfl, kk1⟩
    have HK1 := Lib.hid (k0.trans kk1)
    clear k0 kk1
    go_wp2_with fail
    exact ⟨rfl, rfl, HK1.out⟩
  | succ k ih =>
    intro i hi w hr
    have H1 : Hid (∀ w, Rd g s d w → Calls Tryz.prog 151 #[.pointer (some ⟨g, 0, none⟩), .int .i64 ((i + 1 : Nat) : Int)] w (BadPost g w)) := ih (i + 1) (by omega)
    have hi10 : ((i : Int) == 10) = false := by simp; omega
    have hw1 : IntKind.i64.wrap ((i : Int) + 1) = (i : Int) + 1 := wrap_small _ (by omega) (by omega)
    have lg := hr.row.lt
    have HR := Lib.hid hr
    clear hr ih
    go_enter Tryz.func151, Tryz.ntmps151
    go_wp2_with fail
    have k0 := (Kept.refl g w).alloc (.cells #[.string ⟨#[]⟩, .int .i64 0, .string ⟨#[]⟩, .slice none 0 0] 177)
    refine (H1.out _ (HR.out.kept k0 (HR.out.row.alloc _))).mono ?_
    rintro e w1 ⟨rfl, kk1⟩
    have HK1 := Lib.hid (k0.trans kk1)
    clear k0 kk1
    go_wp2_with fail
    exact ⟨rfl, rfl, HK1.out⟩
set_option maxRecDepth 100000 in
set_option maxHeartbeats 4000000 in
theorem any_bad (s : ByteArray) (hs : dropB s.data.toList = badL) (g d : Nat) (w : World) (hr : Rd g s d w) :
    Calls Tryz.prog 128 #[.pointer (some ⟨g, 0, none⟩)] w (BadPost g w) := by
  have H1 : Hid (∀ w, Rd g s d w → Calls Tryz.prog 151 #[.pointer (some ⟨g, 0, none⟩), .int .i64 0] w (BadPost g w)) := row_bad s hs g d 10 0 rfl
  have lg := hr.row.lt
  have HR := Lib.hid hr
  clear hr hs
  go_enter Tryz.func128, Tryz.ntmps128
  go_wp2_with fail
  have k0 := ((Kept.refl g w).alloc (.cells #[.pointer (some ⟨g, 0, none⟩)] 172)).alloc (.cells #[.string ⟨#[]⟩, .int .i64 0, .string ⟨#[]⟩, .slice none 0 0] 177)
  refine (H1.out _ (HR.out.kept k0 ((HR.out.row.alloc _).alloc _))).mono ?_
  rintro e w1 ⟨rfl, kk1⟩
  have HK1 := Lib.hid (k0.trans kk1)
  clear k0 kk1
  go_wp2_with fail
  exact ⟨rfl, rfl, HK1.out⟩
theorem catch_form (p q : Addr) (x y : Int) (w : World) (hc : w.cell? p = some (.int .i64 x)) (hz : w.frozen? p = false) (hc2 : w.cell? q = some (.int .i64 y)) (hz2 : w.frozen? q = false) (hpq : p ≠ q) :
    CallsD Tryz.prog 127 #[.pointer (some p), .pointer (some q)] (.panicking formP) w fun e u' w' =>
      e = .returned (.tuple #[]) ∧ u' = .panicking [{ v := .iface 31 (.int .i64 11), recovered := true }] ∧ w' = ((w.setCell p (.int .i64 0)).setCell q (.int .i64 11)).drew := by
  have hta : ∀ w : World, Sem.run Tryz.prog (Instr.typeAssert (.iface 31 (.int .i64 11)) 20 31 false) w = .ok (.int .i64 11) w := fun _ => by kernel_rfl
  refine callsD_of_wpS Tryz.func127 rfl fun c₀ cs hu => ?_
  apply wpS_seq
  apply wpS_region
  simp [wpOpsS, go_sem, recoverD, hu, Tryz.ntmps127, Exit.thenS, formP]
  apply wpS_seq
  apply wpS_region
  simp [wpOpsS, go_sem, Exit.thenS]
  refine wpS_cond (t := true) (by simp [Act.eval, Array.replicate]) ?_
  simp only [if_true]
  refine wpS_of_wp ?_
  go_region
  all_goals
    simp [bodyPostS, results, Tryz.results127]
set_option maxRecDepth 100000 in
set_option maxHeartbeats 8000000 in
theorem eval_bad (s : ByteArray) (hs : s.data.toList = badL) (v : Value) (w : World) (hT : Tabs w) :
    Calls Tryz.prog 97 #[.string s, v] w fun e w' => e = .returned (.tuple #[.int .i64 0, .int .i64 11]) ∧ Below w.heap.size w w' := by
  have hsz : s.size ≤ 1000000000 := by rw [Lib.size_eq, hs]; decide
  have HA := Lib.hid (any_bad s (by rw [hs]; decide) (w.heap.size + 2) 0 (evW s w) (evW_rd s hsz w hT))
  have hmf : ∀ (fn : Fn) (first cap : Array Value) (w : World), (Instr.makeFunc fn first cap).run Tryz.prog w = .ok (.func fn first cap) w := fun _ _ _ _ => rfl
  clear hT hs hsz
  obtain ⟨G, hG⟩ : ∃ G, G = w.heap.size + 1 + 1 := ⟨_, rfl⟩
  have HG := Lib.hid hG
  have HA2 : Hid (Calls Tryz.prog 128 #[.pointer (some ⟨w.heap.size + 1 + 1, 0, none⟩)] (((w.alloc (.cells #[.int .i64 0] 2)).alloc (.cells #[.int .i64 0] 31)).alloc (.cells #[.string s, .int .i64 0] 174)) (BadPost (w.heap.size + 1 + 1) (evW s w))) := HA.out
  clear HA hG
  go_enter_defers Tryz.func97, Tryz.ntmps97
  go_wp2_with fail
  refine HA2.out.mono ?_
  rintro e w3 ⟨rfl, kk1⟩
  obtain ⟨x0, x1⟩ := evW_rows s w
  have B4 := (evW_below s w).trans (kk1.toBelow (by omega) (evW_below s w).size)
  have ra3 := kk1.row x0 (by omega)
  have rb3 := kk1.row x1 (by omega)
  have q0 : w3.cell? ⟨w.heap.size, 0, none⟩ = some (.int .i64 0) := by rw [ra3.cell]; rfl
  have q1 : w3.cell? ⟨w.heap.size + 1, 0, none⟩ = some (.int .i64 0) := by rw [rb3.cell]; rfl
  have f0 := ra3.free 0
  have f1 := rb3.free 0
  have l0 := ra3.lt
  have l1 := rb3.lt
  clear x0 x1 kk1 HA2
  go_wp2_with fail
  have hf0 := ((ra3.set 0 (.int .i64 0)).other (show w.heap.size ≠ w.heap.size + 1 by omega) (.int .i64 11) (a := ⟨w.heap.size + 1, 0, none⟩)).below (Below.refl _ _).drew
  have hf1 := ((rb3.other (show w.heap.size + 1 ≠ w.heap.size by omega) (.int .i64 0) (a := ⟨w.heap.size, 0, none⟩)).set 0 (.int .i64 11)).below (Below.refl _ _).drew
  have g0 : ((w3.setCell ⟨w.heap.size, 0, none⟩ (.int .i64 0)).setCell ⟨w.heap.size + 1, 0, none⟩ (.int .i64 11)).drew.cell? ⟨w.heap.size, 0, none⟩ = some (.int .i64 0) := by rw [hf0.cell]; rfl
  have g1 : ((w3.setCell ⟨w.heap.size, 0, none⟩ (.int .i64 0)).setCell ⟨w.heap.size + 1, 0, none⟩ (.int .i64 11)).drew.cell? ⟨w.heap.size + 1, 0, none⟩ = some (.int .i64 11) := by rw [hf1.cell]; rfl
  have HB5 := Lib.hid (((B4.setCell (p := ⟨w.heap.size, 0, none⟩) (Nat.le_refl _) (.int .i64 0)).setCell (p := ⟨w.heap.size + 1, 0, none⟩) (Nat.le_succ _) (.int .i64 11)).drew)
  refine leaves_cons (f := 127) (args := #[.pointer (some ⟨w.heap.size, 0, none⟩), .pointer (some ⟨w.heap.size + 1, 0, none⟩)]) (by simp) (by simp [go_sem]) ?_
  refine (catch_form ⟨w.heap.size, 0, none⟩ ⟨w.heap.size + 1, 0, none⟩ 0 0 _ q0 f0 q1 f1 (by simp)).mono ?_
  rintro e u' w'' ⟨rfl, rfl, rfl⟩
  simp [Leaves, settle, results, Tryz.results97, go_sem, g0, g1]
  exact HB5.out
end Go.Proofs.YtkmpbkhlcapbgaaGreatDoor
namespace Go.Proofs.YtkmpbkhlcapbgaaGreatDoor
open Go Go.RowKit Go.Sort
theorem below_growZ (w : World) (q : Nat) (os : Array Obj) : Below w.heap.size w (grow (w.drewN q) os) :=
  ⟨rfl, rfl, rfl, by first | (simp [grow]; done) | (simp [grow]; omega), fun i hi => by
    show ((w.drewN q).heap ++ os)[i]? = _
    rw [Array.getElem?_append_left (by show i < w.heap.size; omega)]
    rfl⟩
set_option maxHeartbeats 400000 in
theorem len_any (s : ByteArray) (hs : s.size ≤ 2000) (w : World) (hE : More w) :
    Calls Tryz.prog 88 #[.string s] w fun e w' => e = .returned (.string ⟨(Lib.decDigits s.size).toArray⟩) ∧ Below w.heap.size w w' := by
  have HI : Hid (Calls Tryz.prog 29 #[.int .i64 s.size] w fun e w' => e = .returned (.string ⟨(Lib.itoa s.size).toArray⟩) ∧ ∃ k os, w' = grow (w.drewN k) os) := Tryz.strconv_Itoa s.size (by omega) (by omega) w hE.pow
  clear hE
  go_enter Tryz.func88, Tryz.ntmps88
  go_wp2_with fail
  refine HI.out.mono ?_; rintro e w' ⟨rfl, k, os, rfl⟩
  go_wp2_with fail
  go_ret
  exact ⟨by simp [Lib.itoa_nonneg], below_growZ _ _ _⟩
/-- An Env's variables, as a sum reads them. -/
theorem vars_at {w : World} {v : Value} {l : List (List UInt8 × List UInt8)} (h : RowV w v (bv l)) (hs : ∀ p ∈ l, p.2.length ≤ 1000000) : VarsAt w v (bv l) := by
  obtain ⟨a, cap, rfl, h1, h2, h3⟩ := h
  refine ⟨a, cap, rfl, h1, h2, ?_, ?_⟩
  · intro p hp
    obtain ⟨q, hq, rfl⟩ := List.mem_map.1 hp
    have := hs q hq
    show q.2.toArray.size ≤ _
    simp; omega
  · rcases h3 with ⟨-, h⟩ | ⟨b, off, ha, hc⟩
    · exact .inl h
    · exact .inr ⟨b, off, ha, hc⟩
theorem pt_ok : ParOK PT where
  len v s h w hM := by
    have h' : (if v.length ≤ 2000 then some (Lib.decDigits v.length) else none) = some s := h
    split at h'
    · rename_i hl
      obtain rfl := Option.some.inj h'
      have e : (⟨v.toArray⟩ : ByteArray).size = v.length := by show v.toArray.size = _; simp
      have := len_any ⟨v.toArray⟩ (by rw [e]; exact hl) w hM
      rw [e] at this
      exact this
    · cases h'
  cut op r v s h w := by
    have h' : (if r.1.length ≤ 1000000 ∧ v.length ≤ 1000000 then some (Gb.trimF ⟨op.data.toList.toArray⟩ ⟨v.toArray⟩ ⟨r.1.toArray⟩ ⟨r.2.toArray⟩).data.toList else none) = some s := h
    split at h'
    · rename_i hl
      obtain rfl := Option.some.inj h'
      rw [Lib.mk_data, Lib.mk_data]
      exact Gb.trim_any op ⟨v.toArray⟩ ⟨r.1.toArray⟩ ⟨r.2.toArray⟩ (by show r.1.toArray.size ≤ _; simp; omega) (by show v.toArray.size ≤ _; simp; omega) _ rfl w
    · cases h'
  ev e t o h S vv av w hE hM := by
    have h' : evX e t.data.toList = some o := h
    unfold evX at h'
    split at h'
    · rename_i hb
      obtain rfl := Option.some.inj h'
      exact (eval_bad t hb vv w hM.ev).mono fun x w' ⟨h1, h2⟩ => ⟨h2, by decide, h1⟩
    · split at h'
      · rename_i hl
        have hV := vars_at hE.vars.1 hl.2
        have hts : t.size ≤ 1000000000 := by
          have : t.data.toList.length = t.size := by simp
          have := hl.1
          omega
        cases hp : parseF 60 t.data.toList with
        | none => rw [hp] at h'; cases h'
        | some u =>
          rw [hp] at h'
          simp only at h'
          cases hn : evF (bv e.vars) 60 u with
          | ok n =>
            rw [hn] at h'
            simp only at h'
            split at h'
            · rename_i h64
              obtain rfl := Option.some.inj h'
              exact (eval_ok 60 60 t hts u hp (bv e.vars) n hn vv w hV hM.ev).mono fun x w' ⟨h1, h2⟩ => ⟨h2, n, h64.1, h64.2, rfl, h1⟩
            · cases h'
          | zero =>
            rw [hn] at h'
            obtain rfl := Option.some.inj h'
            exact (eval_zero 60 60 t hts u hp (bv e.vars) hn vv w hV hM.ev).mono fun x w' ⟨h1, h2⟩ => ⟨h2, by decide, h1⟩
          | bad => rw [hn] at h'; cases h'
      · cases h'
end Go.Proofs.YtkmpbkhlcapbgaaGreatDoor
namespace Go.Proofs.YtkmpbkhlcapbgaaGreatDoor
/-- A number's digits, of those that are none below 0. -/
def decN (n : Nat) : List UInt8 := if n < 10 then [48 + UInt8.ofNat n] else decN (n / 10) ++ [48 + UInt8.ofNat (n % 10)]
/-- A number's text. -/
def numL (x : Int) : List UInt8 := if x < 0 then 45 :: decN (-x).toNat else decN x.toNat
theorem decN_small {n : Nat} (h : n < 10) : decN n = [48 + UInt8.ofNat n] := by rw [decN, if_pos h]
theorem decN_big {n : Nat} (h : ¬ n < 10) : decN n = decN (n / 10) ++ [48 + UInt8.ofNat (n % 10)] := by rw [decN, if_neg h]
theorem numL_nat (n : Nat) : numL (n : Int) = decN n := by unfold numL; rw [if_neg (by omega)]; simp
theorem numL_neg (n : Nat) (h : 0 < n) : numL (-(n : Int)) = 45 :: decN n := by unfold numL; rw [if_pos (by omega)]; simp
theorem decN_len (n : Nat) : (decN n).length ≤ n + 1 := by
  induction n using Nat.strongRecOn with
  | ind n ih =>
    by_cases h : n < 10
    · rw [decN_small h]; simp
    · rw [decN_big h, List.length_append]
      have := ih (n / 10) (by omega)
      simp only [List.length_cons, List.length_nil]
      omega
theorem decN_len20 (n : Nat) (h : n < 100000000000000000000) : (decN n).length ≤ 20 := by
  have key : ∀ k n : Nat, n < 10 ^ (k + 1) → (decN n).length ≤ k + 1 := by
    intro k
    induction k with
    | zero => intro n h; rw [decN_small (by omega)]; simp
    | succ k ih =>
      intro n h
      by_cases h9 : n < 10
      · rw [decN_small h9]; simp
      · rw [decN_big h9, List.length_append]
        have := ih (n / 10) (by rw [Nat.pow_succ] at h; omega)
        simp only [List.length_cons, List.length_nil]; omega
  exact key 19 n (by omega)
end Go.Proofs.YtkmpbkhlcapbgaaGreatDoor
namespace Go.Proofs.YtkmpbkhlcapbgaaGreatDoor
open Go.RowKit
theorem drop_app {α : Type} (p : α → Bool) : ∀ (a b : List α), a.all p = true → (a ++ b).dropWhile p = b.dropWhile p
  | [], _, _ => rfl
  | c :: a, b, h => by
    simp only [List.all_cons, Bool.and_eq_true] at h
    rw [List.cons_append, List.dropWhile_cons_of_pos h.1]; exact drop_app p a b h.2
theorem drop_id {α : Type} (p : α → Bool) (l : List α) (h : ∀ x ∈ l, p x = false) : l.dropWhile p = l := by
  cases l with
  | nil => rfl
  | cons c l => rw [List.dropWhile_cons_of_neg (by simp [h c (List.mem_cons_self ..)])]
theorem trim_pad (a l b : List UInt8) (ha : a.all blankU = true) (hb : b.all blankU = true) (hl : ∀ c ∈ l, blankU c = false) (hne : l ≠ []) : trimB ⟨(a ++ l ++ b).toArray⟩ = ⟨l.toArray⟩ := by
  rw [← Lib.mk_data (trimB _), trimB_eq]
  congr 2
  show cutR blankU ((a ++ l ++ b).dropWhile blankU) = l
  rw [List.append_assoc, drop_app _ _ _ ha]
  have e : (l ++ b).dropWhile blankU = l ++ b := by
    cases l with
    | nil => exact absurd rfl hne
    | cons c l => rw [List.cons_append, List.dropWhile_cons_of_neg (by simp [hl c (List.mem_cons_self ..)])]
  rw [e]
  unfold cutR
  rw [List.reverse_append, drop_app _ _ _ (by rw [List.all_reverse]; exact hb), drop_id _ _ (fun x hx => hl x (by simpa using hx)), List.reverse_reverse]
theorem digit_byte (n : Nat) (h : n < 10) : ((48 + UInt8.ofNat n : UInt8).toNat : Int) = 48 + n := by
  rcases (show n = 0 ∨ n = 1 ∨ n = 2 ∨ n = 3 ∨ n = 4 ∨ n = 5 ∨ n = 6 ∨ n = 7 ∨ n = 8 ∨ n = 9 by omega) with rfl | rfl | rfl | rfl | rfl | rfl | rfl | rfl | rfl | rfl <;> rfl
/-- A digit's byte. -/
def digB (c : UInt8) : Prop := ∃ n, n < 10 ∧ c = 48 + UInt8.ofNat n
theorem decN_dig : ∀ (n : Nat), ∀ c ∈ decN n, digB c := by
  intro n
  induction n using Nat.strongRecOn with
  | ind n ih =>
    intro c hc
    by_cases h : n < 10
    · rw [decN_small h] at hc
      simp only [List.mem_singleton] at hc
      exact ⟨n, h, hc⟩
    · rw [decN_big h] at hc
      rcases List.mem_append.1 hc with hc | hc
      · exact ih _ (by omega) c hc
      · simp only [List.mem_singleton] at hc
        exact ⟨n % 10, by omega, hc⟩
theorem decN_ne (n : Nat) : decN n ≠ [] := by
  by_cases h : n < 10
  · rw [decN_small h]; simp
  · rw [decN_big h]; simp
theorem decN_head : ∀ (n : Nat), 0 < n → ∃ d t, decN n = (48 + UInt8.ofNat d) :: t ∧ 0 < d ∧ d < 10 := by
  intro n
  induction n using Nat.strongRecOn with
  | ind n ih =>
    intro h0
    by_cases h : n < 10
    · exact ⟨n, [], decN_small h, h0, h⟩
    · obtain ⟨d, t, e, hd⟩ := ih (n / 10) (by omega) (by omega)
      exact ⟨d, t ++ [48 + UInt8.ofNat (n % 10)], by rw [decN_big h, e]; rfl, hd⟩
theorem digB_facts {c : UInt8} (h : digB c) : blankU c = false ∧ 48 ≤ (c.toNat : Int) ∧ (c.toNat : Int) ≤ 57 := by
  obtain ⟨n, hn, rfl⟩ := h
  have e := digit_byte n hn
  refine ⟨?_, by omega, by omega⟩
  rw [blankU_eq, e]
  unfold blankB
  simp; omega
theorem digGo_app (base : Int) : ∀ (l : List Int) (c m : Int), digGo base (l ++ [c]) m = match digGo base l m with
    | none => none
    | some k => if base ≤ digitV c ∨ (maxI - digitV c) / base < k then none else some (k * base + digitV c)
  | [], c, m => by simp only [List.nil_append, digGo]
  | x :: l, c, m => by
    simp only [List.cons_append, digGo]
    split
    · rfl
    · exact digGo_app base l c _
theorem digitV_dig (n : Nat) (h : n < 10) : digitV (48 + (n : Int)) = n := by unfold digitV; rw [if_pos (by omega)]; omega
theorem dec_go : ∀ (n : Nat), (n : Int) ≤ maxI → digGo 10 ((decN n).map fun b => (b.toNat : Int)) 0 = some (n : Int) := by
  intro n
  induction n using Nat.strongRecOn with
  | ind n ih =>
    intro hm
    rw [maxI_eq] at hm
    by_cases h : n < 10
    · rw [decN_small h]
      simp only [List.map_cons, List.map_nil, digGo, digit_byte n h, digitV_dig n h, maxI_eq]
      rw [if_neg (by omega)]
      simp
    · rw [decN_big h, List.map_append]
      simp only [List.map_cons, List.map_nil]
      rw [digGo_app, ih (n / 10) (by omega) (by rw [maxI_eq]; omega)]
      simp only [digit_byte (n % 10) (by omega), digitV_dig (n % 10) (by omega), maxI_eq]
      rw [if_neg (by omega)]
      congr 1
      omega
theorem dec_digits (n : Nat) (hm : (n : Int) ≤ maxI) : digitsF ⟨(decN n).toArray⟩ = some (n : Int) := by
  have hsz : (⟨(decN n).toArray⟩ : ByteArray).size ≠ 0 := by
    rw [Lib.size_eq]
    have := decN_ne n
    intro e
    exact this (List.length_eq_zero_iff.1 e)
  have hb : baseF ⟨(decN n).toArray⟩ = (10, 0) := by
    unfold baseF
    by_cases h : n < 10
    · have h1 : (⟨(decN n).toArray⟩ : ByteArray).size = 1 := by rw [decN_small h]; rfl
      rw [if_neg (by omega), if_neg (by omega)]
    · obtain ⟨d, t, e, h0, h9⟩ := decN_head n (by omega)
      have hbt : bt ⟨(decN n).toArray⟩ 0 ≠ 48 := by
        unfold bt
        rw [dif_pos (by omega)]
        have : ((⟨(decN n).toArray⟩ : ByteArray)[0]'(by omega)) = 48 + UInt8.ofNat d := by
          show (decN n).toArray[0]'_ = _
          simp [e]
        rw [this, digit_byte d h9]
        omega
      rw [if_neg (fun h => hbt h.2.1), if_neg (fun h => hbt h.2)]
  unfold digitsF
  rw [if_neg hsz, hb]
  exact dec_go n hm
theorem bt_cons (c : UInt8) (t : List UInt8) : bt ⟨(c :: t).toArray⟩ 0 = (c.toNat : Int) := by
  unfold bt
  rw [dif_pos (by show 0 < (c :: t).toArray.size; simp)]
  rfl
/-- A number's text, with blanks about it, is that number. -/
theorem num_text (x : Int) (h0 : -9223372036854775807 ≤ x) (h1 : x ≤ 9223372036854775807) (a b : List UInt8) (ha : a.all blankU = true) (hb : b.all blankU = true) : numberF ⟨(a ++ numL x ++ b).toArray⟩ = some x := by
  by_cases hx : x < 0
  · obtain ⟨n, rfl⟩ : ∃ n : Nat, x = -(n : Int) := ⟨(-x).toNat, by omega⟩
    have hn : 0 < n := by omega
    rw [numL_neg n hn]
    have ht := trim_pad a (45 :: decN n) b ha hb (by
      intro c hc
      rcases List.mem_cons.1 hc with rfl | hc
      · decide
      · exact (digB_facts (decN_dig n c hc)).1) (by simp)
    unfold numberF
    rw [ht, bt_cons]
    have e : (⟨(45 :: decN n).toArray⟩ : ByteArray).extract 1 (⟨(45 :: decN n).toArray⟩ : ByteArray).size = ⟨(decN n).toArray⟩ := by
      rw [← Lib.mk_data (ByteArray.extract _ _ _), Lib.extract_to_end]; rfl
    rw [e, dec_digits n (by rw [maxI_eq]; omega)]
    rw [if_neg (by show (45 :: decN n).toArray.size ≠ 0; simp), if_neg (by decide), if_pos (by decide)]
    rfl
  · obtain ⟨n, rfl⟩ : ∃ n : Nat, x = (n : Int) := ⟨x.toNat, by omega⟩
    rw [numL_nat n]
    have ht := trim_pad a (decN n) b ha hb (fun c hc => (digB_facts (decN_dig n c hc)).1) (decN_ne n)
    unfold numberF
    rw [ht]
    cases hd : decN n with
    | nil => exact absurd hd (decN_ne n)
    | cons c t =>
      have hc := (digB_facts (decN_dig n c (by rw [hd]; exact List.mem_cons_self ..))).2
      rw [bt_cons, ← hd, dec_digits n (by rw [maxI_eq]; omega)]
      rw [if_neg (by rw [hd]; show (c :: t).toArray.size ≠ 0; simp), if_neg (by omega), if_neg (by omega)]
theorem num_text0 (x : Int) (h0 : -9223372036854775807 ≤ x) (h1 : x ≤ 9223372036854775807) : numberF ⟨(numL x).toArray⟩ = some x := by
  have := num_text x h0 h1 [] [] rfl rfl
  simpa using this
end Go.Proofs.YtkmpbkhlcapbgaaGreatDoor
namespace Go.Proofs.YtkmpbkhlcapbgaaGreatDoor
theorem byte_add (n : Nat) (h : n < 10) : UInt8.ofNat (48 + n) = 48 + UInt8.ofNat n := by
  rcases (show n = 0 ∨ n = 1 ∨ n = 2 ∨ n = 3 ∨ n = 4 ∨ n = 5 ∨ n = 6 ∨ n = 7 ∨ n = 8 ∨ n = 9 by omega) with rfl | rfl | rfl | rfl | rfl | rfl | rfl | rfl | rfl | rfl <;> rfl
theorem dec_same : ∀ (n : Nat), Lib.decDigits n = decN n := by
  intro n
  induction n using Nat.strongRecOn with
  | ind n ih =>
    rw [Lib.decDigits]
    by_cases h : n < 10
    · rw [dif_pos h, decN_small h, byte_add n h]
    · rw [dif_neg h, decN_big h, ih (n / 10) (by omega), byte_add (n % 10) (by omega)]
theorem itoa_same (x : Int) : Lib.itoa x = numL x := by
  unfold Lib.itoa numL
  split
  · rw [dec_same, show x.natAbs = (-x).toNat by omega]
  · rw [dec_same]
end Go.Proofs.YtkmpbkhlcapbgaaGreatDoor
namespace Go.Proofs.YtkmpbkhlcapbgaaGreatDoor
open Go.RowKit
set_option maxHeartbeats 1000000 in
theorem rblank_any (c : Int) (b : Bool) (hb : blankB c = b) (w : World) :
    Calls Tryz.prog 32 #[.int .u8 c] w fun e w' => e = .returned (.bool b) ∧ w = w' := by
  subst hb
  cases h1 : (c == 32)
  · cases h2 : (c == 9)
    · go_enter Tryz.func32, Tryz.ntmps32
      go_wp2
      go_ret
      exact ⟨by simp [blankB, h1, h2], rfl⟩
    · go_enter Tryz.func32, Tryz.ntmps32
      go_wp2
      go_ret
      exact ⟨by simp [blankB, h1, h2], rfl⟩
  · go_enter Tryz.func32, Tryz.ntmps32
    go_wp2
    go_ret
    exact ⟨by simp [blankB, h1], rfl⟩
set_option maxHeartbeats 1000000 in
theorem rdigit_any (c : Int) (h0 : 0 ≤ c) (h1 : c ≤ 255) (w : World) :
    Calls Tryz.prog 63 #[.int .u8 c] w fun e w' => e = .returned (.int .i64 (digitV c)) ∧ w = w' := by
  by_cases a1 : 48 ≤ c
  · by_cases a2 : c ≤ 57
    · go_enter Tryz.func63, Tryz.ntmps63
      go_wp2
      go_ret
      exact ⟨ret_int (by unfold digitV; rw [if_pos ⟨a1, a2⟩]), rfl⟩
    · by_cases a3 : 97 ≤ c
      · by_cases a4 : c ≤ 102
        · go_enter Tryz.func63, Tryz.ntmps63
          go_wp2
          go_ret
          exact ⟨ret_int (by unfold digitV; rw [if_neg (by omega), if_pos ⟨a3, a4⟩]), rfl⟩
        · have a5 : ¬ c ≤ 70 := by omega
          have a6 : 65 ≤ c := by omega
          go_enter Tryz.func63, Tryz.ntmps63
          go_wp2
          go_ret
          exact ⟨ret_int (by unfold digitV; rw [if_neg (by omega), if_neg (by omega), if_neg (by omega)]), rfl⟩
      · by_cases a5 : 65 ≤ c
        · by_cases a6 : c ≤ 70
          · go_enter Tryz.func63, Tryz.ntmps63
            go_wp2
            go_ret
            exact ⟨ret_int (by unfold digitV; rw [if_neg (by omega), if_neg (by omega), if_pos ⟨a5, a6⟩]), rfl⟩
          · go_enter Tryz.func63, Tryz.ntmps63
            go_wp2
            go_ret
            exact ⟨ret_int (by unfold digitV; rw [if_neg (by omega), if_neg (by omega), if_neg (by omega)]), rfl⟩
        · go_enter Tryz.func63, Tryz.ntmps63
          go_wp2
          go_ret
          exact ⟨ret_int (by unfold digitV; rw [if_neg (by omega), if_neg (by omega), if_neg (by omega)]), rfl⟩
  · have a3 : ¬ 97 ≤ c := by omega
    have a5 : ¬ 65 ≤ c := by omega
    go_enter Tryz.func63, Tryz.ntmps63
    go_wp2
    go_ret
    exact ⟨ret_int (by unfold digitV; rw [if_neg (by omega), if_neg (by omega), if_neg (by omega)]), rfl⟩
theorem rdigit_at (c d : Int) (h0 : 0 ≤ c) (h1 : c ≤ 255) (hd : digitV c = d) (w : World) :
    Calls Tryz.prog 63 #[.int .u8 c] w fun e w' => e = .returned (.int .i64 d) ∧ w = w' := by
  subst hd; exact rdigit_any c h0 h1 w
end Go.Proofs.YtkmpbkhlcapbgaaGreatDoor
