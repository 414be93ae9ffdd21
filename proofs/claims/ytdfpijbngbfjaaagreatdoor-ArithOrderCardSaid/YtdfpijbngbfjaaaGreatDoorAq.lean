/-
  DERIVED. The walk of arith's Eval: what the parser has, reckoned; by a panic that is recovered, a division by 0.
-/
import Derived.Test.YtdfpijbngbfjaaaGreatDoorAm
import Derived.Test.YtdfpijbngbfjaaaGreatDoorAo
import Derived.Defers
import Derived.Recover
import Derived.Laws.Pointers
import Derived.RegionTactic
namespace Go.Proofs.YtdfpijbngbfjaaaGreatDoor
open Go.RowKit
theorem catch_zero (p q : Addr) (x y : Int) (w : World) (hc : w.cell? p = some (.int .i64 x)) (hz : w.frozen? p = false) (hc2 : w.cell? q = some (.int .i64 y)) (hz2 : w.frozen? q = false) (hpq : p ≠ q) :
    CallsD Tryz.prog 10 #[.pointer (some p), .pointer (some q)] (.panicking zeroP) w fun e u' w' =>
      e = .returned (.tuple #[]) ∧ u' = .panicking [{ v := .iface 27 (.int .i64 22), recovered := true }] ∧ w' = ((w.setCell p (.int .i64 0)).setCell q (.int .i64 22)).drew := by
  have hta : ∀ w : World, Sem.run Tryz.prog (Instr.typeAssert (.iface 27 (.int .i64 22)) 20 27 false) w = .ok (.int .i64 22) w := fun _ => by kernel_rfl
  refine callsD_of_wpS Tryz.func10 rfl fun c₀ cs hu => ?_
  apply wpS_seq
  apply wpS_region
  simp [wpOpsS, go_sem, recoverD, hu, Tryz.ntmps10, Exit.thenS, zeroP]
  apply wpS_seq
  apply wpS_region
  simp [wpOpsS, go_sem, Exit.thenS]
  refine wpS_cond (t := true) (by simp [Act.eval, Array.replicate]) ?_
  simp only [if_true]
  refine wpS_of_wp ?_
  go_region
  all_goals
    simp [bodyPostS, results, Tryz.results10]
theorem catch_none (p q : Addr) (w : World) :
    CallsD Tryz.prog 10 #[.pointer (some p), .pointer (some q)] .returning w fun e u' w' => e = .returned (.tuple #[]) ∧ u' = .returning ∧ w' = w := by
  refine callsD_of_wpS Tryz.func10 rfl fun c₀ cs hu => ?_
  apply wpS_seq
  apply wpS_region
  simp [wpOpsS, go_sem, recoverD, hu, Tryz.ntmps10, Exit.thenS]
  apply wpS_seq
  apply wpS_region
  simp [wpOpsS, go_sem, Exit.thenS]
  refine wpS_cond (t := false) (by simp [Act.eval, Array.replicate]) ?_
  simp only [Bool.false_eq_true, if_false]
  refine wpS_of_wp (wp_skip ?_)
  cases c₀
  simp_all [bodyPostS, results, Tryz.results10]
theorem Kept.toBelow {g B : Nat} {w w' : World} (h : Kept g w w') (hg : B ≤ g) (hB : B ≤ w.heap.size) : Below B w w' :=
  ⟨h.os, h.tape, h.output, h.size, fun k hk => h.block k (by omega) (by omega)⟩
theorem drop_all {α : Type} (p : α → Bool) : ∀ l : List α, l.all p = true → l.dropWhile p = []
  | [], _ => rfl
  | c :: l, h => by
    simp only [List.all_cons, Bool.and_eq_true] at h
    rw [List.dropWhile_cons_of_pos h.1]; exact drop_all p l h.2
theorem trim_blank {u : ByteArray} (h : u.data.toList.all blankU = true) : trimB u = ⟨#[]⟩ := by
  rw [← Lib.mk_data (trimB u), trimB_eq]
  have e : u.data.toList.dropWhile blankU = [] := drop_all _ _ h
  rw [e]
  rfl
/-- What Eval's call is given: the tables, the library's variables. -/
structure Tabs (w : World) : Prop where
  signs : SignsAt w
  rows : RowsAt w
  env : Env w
theorem Tabs.keep {w w' : World} (h : Tabs w) (hb : Below w.heap.size w w') : Tabs w' := by
  obtain ⟨m, hm⟩ := h.rows.2
  exact ⟨fun i hi => (hb.cell (block_lt_of_cell (h.signs i hi))).trans (h.signs i hi), ⟨fun i hi => (hb.cell (block_lt_of_cell (h.rows.1 i hi))).trans (h.rows.1 i hi), m, (hb.cell (block_lt_of_cell hm)).trans hm⟩, h.env.keep hb⟩
/-- The three blocks that Eval makes first: the results, the reader. -/
def evW (s : ByteArray) (w : World) : World := ((w.alloc (.cells #[.int .i64 0] 2)).alloc (.cells #[.int .i64 0] 27)).alloc (.cells #[.string s, .int .i64 0] 40)
theorem evW_rows (s : ByteArray) (w : World) : RowIs (evW s w) w.heap.size 2 [.int .i64 0] ∧ RowIs (evW s w) (w.heap.size + 1) 27 [.int .i64 0] := by
  have h1 := ((RowIs.new w 2 [.int .i64 0]).alloc (.cells #[.int .i64 0] 27)).alloc (.cells #[.string s, .int .i64 0] 40)
  have h2 := (RowIs.new (w.alloc (.cells #[.int .i64 0] 2)) 27 [.int .i64 0]).alloc (.cells #[.string s, .int .i64 0] 40)
  have e : (w.alloc (.cells #[.int .i64 0] 2)).heap.size = w.heap.size + 1 := by simp
  rw [e] at h2
  exact ⟨h1, h2⟩
theorem evW_below (s : ByteArray) (w : World) : Below w.heap.size w (evW s w) := (((Below.refl _ _).alloc (Nat.le_refl _) _).alloc (by simp) _).alloc (by simp; omega) _
theorem evW_rd (s : ByteArray) (hs : s.size ≤ 1000000000) (w : World) (hT : Tabs w) : Rd (w.heap.size + 2) s 0 (evW s w) := by
  have hb := evW_below s w
  have hT2 := hT.keep hb
  have r := RowIs.new ((w.alloc (.cells #[.int .i64 0] 2)).alloc (.cells #[.int .i64 0] 27)) 40 [.string s, .int .i64 0]
  have e : ((w.alloc (.cells #[.int .i64 0] 2)).alloc (.cells #[.int .i64 0] 27)).heap.size = w.heap.size + 2 := by simp
  rw [e] at r
  obtain ⟨m, hm⟩ := hT.rows.2
  have l1 : 1 < w.heap.size := block_lt_of_cell (hT.signs 0 (by omega))
  have l2 : 0 < w.heap.size := block_lt_of_cell (hT.rows.1 0 (by omega))
  have l3 : 5 < w.heap.size := block_lt_of_cell hm
  refine ⟨r, hs, by omega, by omega, ⟨by omega, by omega⟩, hT2.signs, hT2.rows, fun w' hk => hT.env.keep (hb.trans (hk.toBelow (by omega) hb.size))⟩
set_option maxRecDepth 100000 in
set_option maxHeartbeats 8000000 in
theorem eval_ok (f g : Nat) (s : ByteArray) (hs : s.size ≤ 1000000000) (t : Tree) (hp : parseF f s.data.toList = some t) (l : List (ByteArray × ByteArray)) (n : Int) (hn : evF l g t = .ok n) (v : Value) (w : World) (hV : VarsAt w v l) (hT : Tabs w) :
    Calls Tryz.prog 8 #[.string s, v] w fun e w' => e = .returned (.tuple #[.int .i64 n, .int .i64 0]) ∧ Below w.heap.size w w' := by
  obtain ⟨u, hu, hub⟩ : ∃ u : ByteArray, anyF f 0 s.data.toList = some (t, u.data.toList) ∧ u.data.toList.all blankU = true := by
    unfold parseF at hp
    split at hp
    · rename_i t' r hr
      split at hp
      · rename_i hb
        simp only [Option.some.injEq] at hp
        subst hp
        exact ⟨⟨r.toArray⟩, hr, hb⟩
      · cases hp
    · cases hp
  have hus : u.size ≤ 1000000000 := by have h5 := (parse_le f).1 _ _ _ _ hu; rw [Lib.size_eq] at hs ⊢; exact Nat.le_trans h5 hs
  have HA := Lib.hid (any_ok f 0 s u t hu (w.heap.size + 2) (evW s w) (evW_rd s hs w hT))
  have HTR := Lib.hid (trim_any u ⟨#[]⟩ hus (trim_blank hub))
  have HO := Lib.hid (of_ok l g t _ hn (by simp))
  have HV := Lib.hid hV
  have HT := Lib.hid hT
  have hmf : ∀ (fn : Fn) (first cap : Array Value) (w : World), (Instr.makeFunc fn first cap).run Tryz.prog w = .ok (.func fn first cap) w := fun _ _ _ _ => rfl
  clear hp hn hV hT hu hub hus hs
  obtain ⟨G, hG⟩ : ∃ G, G = w.heap.size + 1 + 1 := ⟨_, rfl⟩
  have HG := Lib.hid hG
  have HA2 : Hid (Calls Tryz.prog 11 #[.pointer (some ⟨w.heap.size + 1 + 1, 0, none⟩)] (((w.alloc (.cells #[.int .i64 0] 2)).alloc (.cells #[.int .i64 0] 27)).alloc (.cells #[.string s, .int .i64 0] 40)) (TreePost (w.heap.size + 1 + 1) 0 t u (fun x => (evW s w).heap.size ≤ x) (evW s w))) := HA.out
  clear HA hG
  go_enter_defers Tryz.func8, Tryz.ntmps8
  go_wp2_with fail
  refine HA2.out.mono ?_
  rintro e w1 ⟨o, n1, m, p, k, rfl, t1, r1, kk1⟩
  rw [← HG.out] at r1 kk1
  rw [← HG.out]
  obtain ⟨x0, x1⟩ := evW_rows s w
  have hGs := HG.out
  have B1 := (evW_below s w).trans (kk1.toBelow (by omega) (evW_below s w).size)
  have hs1 := kk1.size
  have hsz : (evW s w).heap.size = w.heap.size + 3 := by unfold evW; simp
  have ra1 := (kk1.row x0 (by omega)).alloc (.cells #[.string o, .int .i64 n1, .string m, .slice p k k] 43)
  have rb1 := (kk1.row x1 (by omega)).alloc (.cells #[.string o, .int .i64 n1, .string m, .slice p k k] 43)
  have rr1 := r1.alloc (.cells #[.string o, .int .i64 n1, .string m, .slice p k k] 43)
  have rt1 := RowIs.new w1 43 [.string o, .int .i64 n1, .string m, .slice p k k]
  have HT1 := Lib.hid (t1.alloc (.cells #[.string o, .int .i64 n1, .string m, .slice p k k] 43))
  have B2 := B1.alloc B1.size (.cells #[.string o, .int .i64 n1, .string m, .slice p k k] 43)
  obtain ⟨c0, _, _, _, lg⟩ := reader_facts rr1
  have HB2 := Lib.hid B2
  have HRA := Lib.hid ra1
  have HRB := Lib.hid rb1
  have HRT := Lib.hid rt1
  clear hGs B1 hs1 hsz ra1 rb1 rr1 rt1 t1 r1 kk1 x0 x1 B2 HA2
  go_wp2_with fail
  refine (HTR.out _).mono ?_; rintro e w2 ⟨rfl, b2⟩
  have ra2 := HRA.out.below b2
  have rb2 := HRB.out.below b2
  have rt2 := HRT.out.below b2
  have B3 := HB2.out.trans (b2.mono HB2.out.size)
  obtain ⟨j0, j1, j2, j3, _, _, _, _, lt⟩ := tree_facts rt2
  have HB3 := Lib.hid B3
  have HT2 := Lib.hid (HT1.out.under b2)
  have HRA2 := Lib.hid ra2
  have HRB2 := Lib.hid rb2
  clear ra2 rb2 rt2 b2 B3 c0
  go_wp2_with fail
  refine (HO.out _ _ _ _ _ _ _ _ HT2.out (HV.out.below HB3.out) (HT.out.env.keep HB3.out)).mono ?_
  rintro e w3 ⟨he, b3⟩
  have ra3 := HRA2.out.below b3
  have rb3 := HRB2.out.below b3
  have B4 := HB3.out.trans (b3.mono HB3.out.size)
  have q0 : w3.cell? ⟨w.heap.size, 0, none⟩ = some (.int .i64 0) := by rw [ra3.cell]; rfl
  have q1 : w3.cell? ⟨w.heap.size + 1, 0, none⟩ = some (.int .i64 0) := by rw [rb3.cell]; rfl
  have f0 := ra3.free 0
  have f1 := rb3.free 0
  have l0 := ra3.lt
  have l1 := rb3.lt
  clear j0 j1 j2 j3
  obtain rfl : e = .returned (.int .i64 n) := he
  go_wp2_with fail
  have hf0 := ((ra3.set 0 (.int .i64 n)).other (show w.heap.size ≠ w.heap.size + 1 by omega) (.int .i64 0) (a := ⟨w.heap.size + 1, 0, none⟩))
  have hf1 := ((rb3.other (show w.heap.size + 1 ≠ w.heap.size by omega) (.int .i64 n) (a := ⟨w.heap.size, 0, none⟩)).set 0 (.int .i64 0))
  have g0 : ((w3.setCell ⟨w.heap.size, 0, none⟩ (.int .i64 n)).setCell ⟨w.heap.size + 1, 0, none⟩ (.int .i64 0)).cell? ⟨w.heap.size, 0, none⟩ = some (.int .i64 n) := by rw [hf0.cell]; rfl
  have g1 : ((w3.setCell ⟨w.heap.size, 0, none⟩ (.int .i64 n)).setCell ⟨w.heap.size + 1, 0, none⟩ (.int .i64 0)).cell? ⟨w.heap.size + 1, 0, none⟩ = some (.int .i64 0) := by rw [hf1.cell]; rfl
  have HB5 := Lib.hid ((B4.setCell (p := ⟨w.heap.size, 0, none⟩) (Nat.le_refl _) (.int .i64 n)).setCell (p := ⟨w.heap.size + 1, 0, none⟩) (Nat.le_succ _) (.int .i64 0))
  refine leaves_cons (f := 10) (args := #[.pointer (some ⟨w.heap.size, 0, none⟩), .pointer (some ⟨w.heap.size + 1, 0, none⟩)]) (by simp) (by simp [go_sem]) ?_
  refine (catch_none _ _ _).mono ?_
  rintro e u' w'' ⟨rfl, rfl, rfl⟩
  simp [Leaves, settle, results, Tryz.results8, go_sem, g0, g1]
  exact HB5.out
set_option maxRecDepth 100000 in
set_option maxHeartbeats 8000000 in
theorem eval_zero (f g : Nat) (s : ByteArray) (hs : s.size ≤ 1000000000) (t : Tree) (hp : parseF f s.data.toList = some t) (l : List (ByteArray × ByteArray)) (hn : evF l g t = .zero) (v : Value) (w : World) (hV : VarsAt w v l) (hT : Tabs w) :
    Calls Tryz.prog 8 #[.string s, v] w fun e w' => e = .returned (.tuple #[.int .i64 0, .int .i64 22]) ∧ Below w.heap.size w w' := by
  obtain ⟨u, hu, hub⟩ : ∃ u : ByteArray, anyF f 0 s.data.toList = some (t, u.data.toList) ∧ u.data.toList.all blankU = true := by
    unfold parseF at hp
    split at hp
    · rename_i t' r hr
      split at hp
      · rename_i hb
        simp only [Option.some.injEq] at hp
        subst hp
        exact ⟨⟨r.toArray⟩, hr, hb⟩
      · cases hp
    · cases hp
  have hus : u.size ≤ 1000000000 := by have h5 := (parse_le f).1 _ _ _ _ hu; rw [Lib.size_eq] at hs ⊢; exact Nat.le_trans h5 hs
  have HA := Lib.hid (any_ok f 0 s u t hu (w.heap.size + 2) (evW s w) (evW_rd s hs w hT))
  have HTR := Lib.hid (trim_any u ⟨#[]⟩ hus (trim_blank hub))
  have HO := Lib.hid (of_ok l g t _ hn (by simp))
  have HV := Lib.hid hV
  have HT := Lib.hid hT
  have hmf : ∀ (fn : Fn) (first cap : Array Value) (w : World), (Instr.makeFunc fn first cap).run Tryz.prog w = .ok (.func fn first cap) w := fun _ _ _ _ => rfl
  clear hp hn hV hT hu hub hus hs
  obtain ⟨G, hG⟩ : ∃ G, G = w.heap.size + 1 + 1 := ⟨_, rfl⟩
  have HG := Lib.hid hG
  have HA2 : Hid (Calls Tryz.prog 11 #[.pointer (some ⟨w.heap.size + 1 + 1, 0, none⟩)] (((w.alloc (.cells #[.int .i64 0] 2)).alloc (.cells #[.int .i64 0] 27)).alloc (.cells #[.string s, .int .i64 0] 40)) (TreePost (w.heap.size + 1 + 1) 0 t u (fun x => (evW s w).heap.size ≤ x) (evW s w))) := HA.out
  clear HA hG
  go_enter_defers Tryz.func8, Tryz.ntmps8
  go_wp2_with fail
  refine HA2.out.mono ?_
  rintro e w1 ⟨o, n1, m, p, k, rfl, t1, r1, kk1⟩
  rw [← HG.out] at r1 kk1
  rw [← HG.out]
  obtain ⟨x0, x1⟩ := evW_rows s w
  have hGs := HG.out
  have B1 := (evW_below s w).trans (kk1.toBelow (by omega) (evW_below s w).size)
  have hs1 := kk1.size
  have hsz : (evW s w).heap.size = w.heap.size + 3 := by unfold evW; simp
  have ra1 := (kk1.row x0 (by omega)).alloc (.cells #[.string o, .int .i64 n1, .string m, .slice p k k] 43)
  have rb1 := (kk1.row x1 (by omega)).alloc (.cells #[.string o, .int .i64 n1, .string m, .slice p k k] 43)
  have rr1 := r1.alloc (.cells #[.string o, .int .i64 n1, .string m, .slice p k k] 43)
  have rt1 := RowIs.new w1 43 [.string o, .int .i64 n1, .string m, .slice p k k]
  have HT1 := Lib.hid (t1.alloc (.cells #[.string o, .int .i64 n1, .string m, .slice p k k] 43))
  have B2 := B1.alloc B1.size (.cells #[.string o, .int .i64 n1, .string m, .slice p k k] 43)
  obtain ⟨c0, _, _, _, lg⟩ := reader_facts rr1
  have HB2 := Lib.hid B2
  have HRA := Lib.hid ra1
  have HRB := Lib.hid rb1
  have HRT := Lib.hid rt1
  clear hGs B1 hs1 hsz ra1 rb1 rr1 rt1 t1 r1 kk1 x0 x1 B2 HA2
  go_wp2_with fail
  refine (HTR.out _).mono ?_; rintro e w2 ⟨rfl, b2⟩
  have ra2 := HRA.out.below b2
  have rb2 := HRB.out.below b2
  have rt2 := HRT.out.below b2
  have B3 := HB2.out.trans (b2.mono HB2.out.size)
  obtain ⟨j0, j1, j2, j3, _, _, _, _, lt⟩ := tree_facts rt2
  have HB3 := Lib.hid B3
  have HT2 := Lib.hid (HT1.out.under b2)
  have HRA2 := Lib.hid ra2
  have HRB2 := Lib.hid rb2
  clear ra2 rb2 rt2 b2 B3 c0
  go_wp2_with fail
  refine (HO.out _ _ _ _ _ _ _ _ HT2.out (HV.out.below HB3.out) (HT.out.env.keep HB3.out)).mono ?_
  rintro e w3 ⟨he, b3⟩
  have ra3 := HRA2.out.below b3
  have rb3 := HRB2.out.below b3
  have B4 := HB3.out.trans (b3.mono HB3.out.size)
  have q0 : w3.cell? ⟨w.heap.size, 0, none⟩ = some (.int .i64 0) := by rw [ra3.cell]; rfl
  have q1 : w3.cell? ⟨w.heap.size + 1, 0, none⟩ = some (.int .i64 0) := by rw [rb3.cell]; rfl
  have f0 := ra3.free 0
  have f1 := rb3.free 0
  have l0 := ra3.lt
  have l1 := rb3.lt
  clear j0 j1 j2 j3
  obtain rfl : e = .panicked zeroP := he
  go_wp2_with fail
  have hf0 := ((ra3.set 0 (.int .i64 0)).other (show w.heap.size ≠ w.heap.size + 1 by omega) (.int .i64 22) (a := ⟨w.heap.size + 1, 0, none⟩)).below (Below.refl _ _).drew
  have hf1 := ((rb3.other (show w.heap.size + 1 ≠ w.heap.size by omega) (.int .i64 0) (a := ⟨w.heap.size, 0, none⟩)).set 0 (.int .i64 22)).below (Below.refl _ _).drew
  have g0 : ((w3.setCell ⟨w.heap.size, 0, none⟩ (.int .i64 0)).setCell ⟨w.heap.size + 1, 0, none⟩ (.int .i64 22)).drew.cell? ⟨w.heap.size, 0, none⟩ = some (.int .i64 0) := by rw [hf0.cell]; rfl
  have g1 : ((w3.setCell ⟨w.heap.size, 0, none⟩ (.int .i64 0)).setCell ⟨w.heap.size + 1, 0, none⟩ (.int .i64 22)).drew.cell? ⟨w.heap.size + 1, 0, none⟩ = some (.int .i64 22) := by rw [hf1.cell]; rfl
  have HB5 := Lib.hid (((B4.setCell (p := ⟨w.heap.size, 0, none⟩) (Nat.le_refl _) (.int .i64 0)).setCell (p := ⟨w.heap.size + 1, 0, none⟩) (Nat.le_succ _) (.int .i64 22)).drew)
  refine leaves_cons (f := 10) (args := #[.pointer (some ⟨w.heap.size, 0, none⟩), .pointer (some ⟨w.heap.size + 1, 0, none⟩)]) (by simp) (by simp [go_sem]) ?_
  refine (catch_zero ⟨w.heap.size, 0, none⟩ ⟨w.heap.size + 1, 0, none⟩ 0 0 _ q0 f0 q1 f1 (by simp)).mono ?_
  rintro e u' w'' ⟨rfl, rfl, rfl⟩
  simp [Leaves, settle, results, Tryz.results8, go_sem, g0, g1]
  exact HB5.out
end Go.Proofs.YtdfpijbngbfjaaaGreatDoor
