/-
  DERIVED. The walk of slices.Insert of one variable ahead of others, in a row of the call's own that has room.
-/
import Derived.Test.YtkmpbkhlcapbgaaGreatDoorZ06
import Derived.Outline
namespace Go.Proofs.YtkmpbkhlcapbgaaGreatDoor
open Go Go.RowKit
theorem splice_two {α : Type} (L xs : List α) (n i : Nat) (c d : α) (hi : i < n) (hx : L.take (n * 2) = xs) (hl : (n + 1) * 2 ≤ L.length) :
    (splice (splice L ((i + 1) * 2) (xs.drop (i * 2))) (i * 2) [c, d]).take ((n + 1) * 2) = xs.take (i * 2) ++ c :: d :: xs.drop (i * 2) := by
  have hxl : xs.length = n * 2 := by rw [← hx, List.length_take]; omega
  have e1 : ((i + 1) * 2) + (xs.drop (i * 2)).length = (n + 1) * 2 := by rw [List.length_drop, hxl]; omega
  have l1 : (splice L ((i + 1) * 2) (xs.drop (i * 2))).length = L.length := length_splice _ _ _ (by omega)
  obtain ⟨M, hM⟩ : ∃ M, splice L ((i + 1) * 2) (xs.drop (i * 2)) = M := ⟨_, rfl⟩
  rw [hM] at l1 ⊢
  have t1 : M.take ((n + 1) * 2) = L.take ((i + 1) * 2) ++ xs.drop (i * 2) := by rw [← hM]; exact splice_take _ _ _ (by omega) _ e1.symm
  unfold splice
  have e2 : M.drop (i * 2 + [c, d].length) = M.drop ((i + 1) * 2) := by congr 1; simp; omega
  rw [e2]
  have lt : (M.take (i * 2)).length = i * 2 := by rw [List.length_take]; omega
  rw [List.take_append, lt, List.take_of_length_le (by rw [lt]; omega)]
  have a1 : M.take (i * 2) = xs.take (i * 2) := by
    have h1 : (M.take ((n + 1) * 2)).take (i * 2) = M.take (i * 2) := by rw [List.take_take, Nat.min_eq_left (by omega)]
    rw [← h1, t1, List.take_append_of_le_length (by rw [List.length_take]; omega), List.take_take, Nat.min_eq_left (by omega), ← hx, List.take_take, Nat.min_eq_left (by omega)]
  rw [a1]
  congr 1
  have e3 : (n + 1) * 2 - i * 2 = (n * 2 - i * 2) + 2 := by omega
  rw [e3]
  simp only [List.cons_append, List.nil_append, List.take_succ_cons]
  congr 2
  have h2 : (M.take ((n + 1) * 2)).drop ((i + 1) * 2) = xs.drop (i * 2) := by
    rw [t1, List.drop_append, List.length_take, Nat.min_eq_left (by omega), List.drop_of_length_le (by rw [List.length_take]; omega)]
    simp
  rw [← h2, List.drop_take]
  congr 1
  omega
set_option maxRecDepth 100000 in
set_option maxHeartbeats 8000000 in
theorem insert_room (g cap i n vb : Nat) (cur xs : List Value) (c d : Value) (hn : n ≤ 1000000000) (hi : i < n) (hr : n + 1 ≤ cap) (w : World) (hk : Known w 68 2 g cap cur n xs) (h1 : ∀ u ∈ xs, u.oneCell' = true) (hv : RowIs w vb 68 [c, d]) (hvb : vb ≠ g) (hc : c.oneCell' = true ∧ d.oneCell' = true) :
    Calls Tryz.prog 27 #[.slice (some ⟨g, 0, none⟩) n cap, .int .i64 i, .slice (some ⟨vb, 0, none⟩) 1 1] w fun e w' =>
      ∃ cur', e = .returned (.slice (some ⟨g, 0, none⟩) (n + 1) cap) ∧ Known w' 68 2 g cap cur' (n + 1) (xs.take (i * 2) ++ c :: d :: xs.drop (i * 2)) ∧ Below g w w' := by
  have hlen : xs.length = n * 2 := by
    rw [← hk.take, List.length_take, hk.len]
    exact Nat.min_eq_left (Nat.mul_le_mul_right _ hk.le)
  have hov : ∀ lb cb, (callFunc 56 #[.slice (some ⟨vb, 0, none⟩) 1 1, .slice (some ⟨g, (i + 1) * 2, none⟩) lb cb]).run Tryz.prog w = .ok (.value (.bool false)) w := fun lb cb => by
    have hvh : w.heap[vb]? = some (.cells [c, d].toArray 68 (0, 0)) := hv
    have hkh := hk.row
    rw [run_callFunc_extern Tryz.func56 (by kernel_rfl) (by kernel_rfl) (by kernel_rfl) (e := Extern.SlicesOverlaps.overlaps #[26, 26] #[4]) (by kernel_rfl),
      Lib.run_overlaps_apart w 26 4 68 Tryz.underlying26 2 Tryz.sizeOf68 ⟨vb, 0, none⟩ ⟨g, (i + 1) * 2, none⟩ 1 1 lb cb hvb 68 68 2 cur.length (by simp [World.shape?, hvh]) (by simp [World.shape?, hkh]) (by have := hk.len; omega) (hv.free 0) (hv.free 2)]
    rfl
  have hcurl := hk.len
  have hbig := hk.big
  unfold maxLen at hbig
  have hz2 : ((i : Int) == (n : Int)) = false := by simp; omega
  have hb2 : ¬ (cap = i + 1) := by omega
  have hb4 : ¬ (cap = i) := by omega
  have hb3 : (i : Int) ≤ (n : Int) := by omega
  have hb5 : (n : Int) ≤ (cap : Int) := by omega
  have hb6 : (n : Int) + 1 ≤ (cap : Int) := by omega
  have hb7 : (i : Int) + 1 ≤ (n : Int) + 1 := by omega
  have hb8 : (i : Int) ≤ (n : Int) + 1 := by omega
  have hin : i ≤ n := by omega
  have hnb : (n : Int) ≤ 1000000000 := by omega
  have HX1 : Hid ((xs.drop (i * 2)).length = (n - i) * 2) := by unfold Hid; rw [List.length_drop, hlen]; omega
  have HX2 : Hid ((i + 1) * 2 + (xs.drop (i * 2)).length ≤ cur.length) := by unfold Hid; rw [HX1.out, hcurl]; omega
  have hk1 : Hid (∀ u ∈ xs.drop (i * 2), u.oneCell' = true) := fun u hu => h1 u (List.mem_of_mem_drop hu)
  have hsrc : Hid (∀ j u, (xs.drop (i * 2))[j]? = some u → w.drew.cell? ((⟨g, i * 2, none⟩ : Addr).add j) = some u) := by
    intro j u hu
    rw [Addr.add_lit]
    rw [List.getElem?_drop] at hu
    exact hk.cell _ _ hu
  have hkd : Hid (w.drew.heap[g]? = some (.cells cur.toArray 68 (0, 0))) := hk.row
  have hvc : Hid (∀ (W : World), Below g w W ∨ vb < g → True) := fun _ _ => trivial
  obtain ⟨news, hnews⟩ : ∃ news, xs.drop (i * 2) = news := ⟨_, rfl⟩
  rw [hnews] at HX1 HX2 hk1 hsrc
  have HN := Lib.hid hnews
  have HK := Lib.hid hk
  have HV := Lib.hid hv
  have HC := Lib.hid hc
  have HCL := Lib.hid hcurl
  have HI := Lib.hid hi
  clear hk hv hc h1 hlen hcurl hnews hvc
  go_enter Tryz.func27, Tryz.ntmps27
  go_wp2_with (simp only [hov])
  have hi2 : (0 : Int) ≤ (i : Int) + 1 := by omega
  have hi3 : ((i : Int) + 1).toNat = i + 1 := by omega
  have hw1 : IntKind.i64.wrap ((i : Int) + 1) = (i : Int) + 1 := by rw [IntKind.wrap_i64]; omega
  go_region_law (refine step_copy_known rfl (.tmp 73) (.tmp 76) 26 26 rfl 68 2 Tryz.underlying26 (by kernel_rfl) (some ⟨g, (i + 1) * 2, none⟩) (some ⟨g, i * 2, none⟩) (n - i) (cap - (i + 1)) (n + 1 - i) (cap - i) (by simp [Act.eval, Act.put]) (by simp [Act.eval, Act.put]) g ((i + 1) * 2) cur 68 hkd.out (n - i) (Nat.min_eq_right (by omega)) news HX1.out (fun _ => ⟨rfl, _, rfl, hsrc.out⟩) HX2.out hk1.out g w ((Below.refl _ w).drew) (Nat.le_refl _) ?_; intro w1 hrow hb1 ho1)
  clear hw1 hi3 hi2
  have hvw1 : Hid (∀ j u, [c, d][j]? = some u → w1.cell? ((⟨vb, 0, none⟩ : Addr).add j) = some u) := by
    intro j u hj
    have h := HV.out.cell j
    rw [Addr.add_lit, Nat.zero_add, World.cell?_of_block (w := w) (a := ⟨vb, j, none⟩) (ho1.out vb hvb), h]; exact hj
  have q2 : Hid (∀ u ∈ [c, d], u.oneCell' = true) := by
    intro u hu
    simp at hu
    rcases hu with rfl | rfl
    · exact HC.out.1
    · exact HC.out.2
  have hfit : Hid (i * 2 + [c, d].length ≤ (splice cur ((i + 1) * 2) news).length) := by
    unfold Hid; rw [length_splice _ _ _ HX2.out, HCL.out]; simp; omega
  have hmin : Nat.min 1 (n + 1 - i) = 1 := Nat.min_eq_left (by omega)
  have HMN := Lib.hid hmin
  clear hmin hov
  go_wp2_with (refine wpList_copy_known rfl _ _ 26 26 rfl 68 2 Tryz.underlying26 (by kernel_rfl) (some ⟨g, i * 2, none⟩) (some ⟨vb, 0, none⟩) (n + 1 - i) (cap - i) 1 1 rfl rfl g (i * 2) _ 68 hrow.out 1 HMN.out [c, d] rfl (fun _ => ⟨rfl, _, rfl, hvw1.out⟩) hfit.out q2.out g w hb1 (Nat.le_refl _) ?_; intro w2 hrow2 hb2 _)
  go_ret
  refine ⟨_, rfl, ⟨hrow2.out, by omega, by unfold maxLen; omega, ?_, ?_⟩, hb2⟩
  · rw [length_splice _ _ _ hfit.out, length_splice _ _ _ HX2.out, HCL.out]
  · rw [← HN.out]
    exact splice_two cur xs n i c d HI.out HK.out.take (by rw [HCL.out]; omega)
end Go.Proofs.YtkmpbkhlcapbgaaGreatDoor
