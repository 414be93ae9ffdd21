/-
  DERIVED. The walk of word's put: a part put behind (printed by gen_put.py).
-/
import Derived.Test.YtkmpbkhlcapbgaaGreatDoorZ04
namespace Go.Proofs.YtkmpbkhlcapbgaaGreatDoor
open Go Go.RowKit
set_option maxRecDepth 100000 in
set_option maxHeartbeats 8000000 in
theorem put_a (g : Nat) (v : Value) (s : ByteArray) (d : Nat) (l : List PartT) (p : PartT) (k : Nat) (t op : ByteArray) (q : Bool) (wv : Value) (w : World) (hr : Wr g v s d w) (hp : Wp g v l w) (hfew : l.length ≤ 1000000000) (ho : OneAt w (fun b => g < b ∧ v.ownBlock ≠ some b) p k t op q wv) (hl : l = []) :
    Calls Tryz.prog 45 #[.pointer (some ⟨g, 0, none⟩), .agg #[.int .i64 (k : Nat), .string t, .string op, .bool q, wv]] w (PutPost g s d (l ++ [p]) w) := by
  obtain ⟨xs, h1, h2⟩ := hp.has
  obtain ⟨a, c, rfl⟩ := own_slice h1
  have hn1 : ¬ 0 < l.length := by rw [hl]; decide
  have hn0 : decide ((0 : Int) < (l.length : Nat)) = false := by simpa using hn1
  have hn2 : decide (0 < l.length) = false := by simpa using hn1
  clear hl
  have ho0 := ho
  obtain ⟨wd, ys, hpe, ⟨wa, wc, rfl, hwc, hwb⟩, hwp⟩ := ho0
  obtain ⟨r0, r1, r2, f0, f1, f2, lt0⟩ := three_facts hr.row
  have HF := Lib.hid hfew
  have HR := Lib.hid hr
  have H1 := Lib.hid h1
  have H2 := Lib.hid h2
  have HO := Lib.hid ho
  have HPE := Lib.hid hpe
  have HLN : ∃ x, x = (l.length : Nat) := ⟨_, rfl⟩
  clear hr hp h1 h2 hwb hwp ho hpe hfew HLN
  go_enter Tryz.func45, Tryz.ntmps45
  go_wp2_with fail
  go_quiet (fail)
  go_wp2_with fail
  obtain ⟨W0, hW0⟩ : ∃ W0, ((w.alloc (.cells #[.int .i64 (k : Nat), .string t, .string op, .bool q, .slice wa wd.length wc] 92)).drewN nq) = W0 := ⟨_, rfl⟩
  have hB0 : Below w.heap.size w W0 := by rw [← hW0]; exact below_drewN ((Below.refl _ w).alloc (Nat.le_refl _) _) nq
  have c0 : W0.cell? ⟨g, 0, none⟩ = some (.slice a l.length c) := (hB0.cell (p := ⟨g, 0, none⟩) lt0).trans r0
  have b0 : W0.cell? ⟨w.heap.size, 0, none⟩ = some (.int .i64 (k : Nat)) := by rw [← hW0]; simp
  have b1 : W0.cell? ⟨w.heap.size, 1, none⟩ = some (.string t) := by rw [← hW0]; simp
  have b2 : W0.cell? ⟨w.heap.size, 2, none⟩ = some (.string op) := by rw [← hW0]; simp
  have b3 : W0.cell? ⟨w.heap.size, 3, none⟩ = some (.bool q) := by rw [← hW0]; simp
  have b4 : W0.cell? ⟨w.heap.size, 4, none⟩ = some (.slice wa wd.length wc) := by rw [← hW0]; simp
  have hB1 : Hid (Below w.heap.size w (W0.drew.alloc (.cells #[.int .i64 0, .string ⟨#[]⟩, .string ⟨#[]⟩, .bool false, .slice none 0 0] 92))) := (hB0.drew).alloc hB0.size _
  have hB2 : Hid (Below w.heap.size w (W0.alloc (.cells #[.int .i64 0, .string ⟨#[]⟩, .string ⟨#[]⟩, .bool false, .slice none 0 0] 92)).drew) := hB1.out
  have hO1 : Hid ((W0.drew.alloc (.cells #[.int .i64 0, .string ⟨#[]⟩, .string ⟨#[]⟩, .bool false, .slice none 0 0] 92)).ownsRow (g + 1) 92 5 (.slice a l.length c) l.length xs) := own_below H1.out hB1.out
  have hR1 : Hid (RowIs (W0.drew.alloc (.cells #[.int .i64 0, .string ⟨#[]⟩, .string ⟨#[]⟩, .bool false, .slice none 0 0] 92)) g 90 [(.slice a l.length c), .string s, .int .i64 (d : Int)]) := HR.out.row.below hB1.out
  have HSZ : Hid (g + 1 ≤ (W0.drew.alloc (.cells #[.int .i64 0, .string ⟨#[]⟩, .string ⟨#[]⟩, .bool false, .slice none 0 0] 92)).heap.size) := by unfold Hid; have := hB1.out.size; omega
  have hl0 : w.heap.size < W0.heap.size := by rw [← hW0]; simp
  have hl1 : g < W0.heap.size := by omega
  have hln : l.length + 1 ≤ maxLen ∧ (l.length + 1) * 72 ≤ 140737488355328 := by have := HF.out; unfold maxLen; omega
  have HLN := Lib.hid hln
  rw [hW0]
  clear hW0 hln hB0
  go_region_law (refine step_push rfl (.tmp 48) (.tmp 51) 78 rfl (g + 1) 92 (.agg #[.int .i64 0, .string ⟨#[]⟩, .string ⟨#[]⟩, .bool false, .slice none 0 0]) 5 72 Tryz.underlying78 partInfo rfl _ _ xs (by simp [Act.eval, Act.put]) hO1.out ⟨W0.heap.size, 0, none⟩ 1 (by simp [Act.eval, Act.put]) [.int .i64 0, .string ⟨#[]⟩, .string ⟨#[]⟩, .bool false, .slice none 0 0] rfl (five_new W0.drew _ _ _ _ _ _) (by intro u hu; simp at hu; rcases hu with rfl | rfl | rfl | rfl | rfl <;> rfl) HLN.out HSZ.out ?_; intro g2 cap w2 HPd0; have HPd := Lib.hid HPd0; obtain ⟨rr0, ne0, ⟨u0, y0⟩, ⟨u1, y1⟩, ⟨u2, y2⟩, ⟨u3, y3⟩, ⟨u4, y4⟩, fz, cp1, cp2⟩ := pushed_facts HPd0 hR1.out (Nat.lt_succ_self g) (fun k hk => (hO1.out.lt k hk).1); have z0 := fz (l.length * 5); have z1 := fz (l.length * 5 + 1); have z2 := fz (l.length * 5 + 2); have z3 := fz (l.length * 5 + 3); have z4 := fz (l.length * 5 + 4); have HRR := Lib.hid rr0; obtain ⟨s0, s1, s2, s3, s4, s5, s6⟩ := three_facts rr0; have ne1 : ¬ g = g2 := fun e => ne0 e.symm; have nl1 : ((l.length : Nat) : Int) < ((l.length : Nat) : Int) + 1 := Int.lt_succ _; clear HPd0 rr0 fz; skip)
  all_goals
    go_end0
    refine ⟨rfl, ?_⟩
    first
    | with_reducible exact put_fin1 HR.out H1.out H2.out HO.out hB2.out HPd.out HRR.out _ _ _ _ _ _ ⟨rfl, rfl, rfl, rfl, rfl, rfl⟩
    | with_reducible exact put_fin2 HR.out H1.out H2.out HO.out hB2.out HPd.out HRR.out _ _ _ _ _ _ ⟨rfl, rfl, rfl, rfl, rfl, rfl⟩
end Go.Proofs.YtkmpbkhlcapbgaaGreatDoor
