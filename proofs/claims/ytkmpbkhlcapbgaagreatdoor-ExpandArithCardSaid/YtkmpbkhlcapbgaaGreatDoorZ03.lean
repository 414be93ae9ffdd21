/-
  DERIVED. The walk of slices.Insert of one variable ahead of others, in a row of the call's own that has room. The walk of slices.Insert of one variable ahead of others, in a row of the call's own that is full. The walks of slices.Clone at any row of variables, and of env's Unset. The walk of env's Flag.
-/
import Derived.Test.YtkmpbkhlcapbgaaGreatDoorZ02
import Derived.Outline
import Derived.Lib.SlBytesConst
namespace Go.Proofs.YtkmpbkhlcapbgaaGreatDoor
open Go Go.RowKit
theorem splice_two {α : Type} (L xs : List α) (n i : Nat) (c d : α) (hi : i < n) (hx : L.take (n * 2) = xs) (hl : (n + 1) * 2 ≤ L.length) :
    (splice (splice L ((i + 1) * 2) (xs.drop (i * 2))) (i * 2) [c, d]).take ((n + 1) * 2) = xs.take (i * 2) ++ c :: d :: xs.drop (i * 2) := by
  have hxl : xs.length = n * 2 := by rw [← hx, List.length_take]; omega
  have e1 : ((i + 1) * 2) + (xs.drop (i * 2)).length = (n + 1) * 2 := by rw [List.length_drop, hxl]; omega
  have l1 : (splice L ((i + 1) * 2) (xs.drop (i * 2))).length = L.length := length_splice _ _ _ (by omega)
  obtain ⟨M, hM⟩ : ∃ M, splice L ((i + 1) * 2) (xs.drop (i * 2)) = M := ⟨_, rfl⟩
  rw [hM] at l1 ⊢
  have t1 : M.take ((n + 1) * 2) = L.take ((i + 1) * 2) ++ xs.drop (i * 2) := by rw [← hM]; exact splice_take _ _ _ (by omega) _ e1.symm
  unfold splice
  have e2 : M.drop (i * 2 + [c, d].length) = M.drop ((i + 1) * 2) := by congr 1; simp; omega
  rw [e2]
  have lt : (M.take (i * 2)).length = i * 2 := by rw [List.length_take]; omega
  rw [List.take_append, lt, List.take_of_length_le (by rw [lt]; omega)]
  have a1 : M.take (i * 2) = xs.take (i * 2) := by
    have h1 : (M.take ((n + 1) * 2)).take (i * 2) = M.take (i * 2) := by rw [List.take_take, Nat.min_eq_left (by omega)]
    rw [← h1, t1, List.take_append_of_le_length (by rw [List.length_take]; omega), List.take_take, Nat.min_eq_left (by omega), ← hx, List.take_take, Nat.min_eq_left (by omega)]
  rw [a1]
  congr 1
  have e3 : (n + 1) * 2 - i * 2 = (n * 2 - i * 2) + 2 := by omega
  rw [e3]
  simp only [List.cons_append, List.nil_append, List.take_succ_cons]
  congr 2
  have h2 : (M.take ((n + 1) * 2)).drop ((i + 1) * 2) = xs.drop (i * 2) := by
    rw [t1, List.drop_append, List.length_take, Nat.min_eq_left (by omega), List.drop_of_length_le (by rw [List.length_take]; omega)]
    simp
  rw [← h2, List.drop_take]
  congr 1
  omega
set_option maxRecDepth 100000 in
set_option maxHeartbeats 8000000 in
theorem insert_room (g cap i n vb : Nat) (cur xs : List Value) (c d : Value) (hn : n ≤ 1000000000) (hi : i < n) (hr : n + 1 ≤ cap) (w : World) (hk : Known w 68 2 g cap cur n xs) (h1 : ∀ u ∈ xs, u.oneCell' = true) (hv : RowIs w vb 68 [c, d]) (hvb : vb ≠ g) (hc : c.oneCell' = true ∧ d.oneCell' = true) :
    Calls Tryz.prog 27 #[.slice (some ⟨g, 0, none⟩) n cap, .int .i64 i, .slice (some ⟨vb, 0, none⟩) 1 1] w fun e w' =>
      ∃ cur', e = .returned (.slice (some ⟨g, 0, none⟩) (n + 1) cap) ∧ Known w' 68 2 g cap cur' (n + 1) (xs.take (i * 2) ++ c :: d :: xs.drop (i * 2)) ∧ Below g w w' := by
  have hlen : xs.length = n * 2 := by
    rw [← hk.take, List.length_take, hk.len]
    exact Nat.min_eq_left (Nat.mul_le_mul_right _ hk.le)
  have hov : ∀ lb cb, (callFunc 56 #[.slice (some ⟨vb, 0, none⟩) 1 1, .slice (some ⟨g, (i + 1) * 2, none⟩) lb cb]).run Tryz.prog w = .ok (.value (.bool false)) w := fun lb cb => by
    have hvh : w.heap[vb]? = some (.cells [c, d].toArray 68 (0, 0)) := hv
    have hkh := hk.row
    rw [run_callFunc_extern Tryz.func56 (by kernel_rfl) (by kernel_rfl) (by kernel_rfl) (e := Extern.SlicesOverlaps.overlaps #[26, 26] #[4]) (by kernel_rfl),
      Lib.run_overlaps_apart w 26 4 68 Tryz.underlying26 2 Tryz.sizeOf68 ⟨vb, 0, none⟩ ⟨g, (i + 1) * 2, none⟩ 1 1 lb cb hvb 68 68 2 cur.length (by simp [World.shape?, hvh]) (by simp [World.shape?, hkh]) (by have := hk.len; omega) (hv.free 0) (hv.free 2)]
    rfl
  have hcurl := hk.len
  have hbig := hk.big
  unfold maxLen at hbig
  have hz2 : ((i : Int) == (n : Int)) = false := by simp; omega
  have hb2 : ¬ (cap = i + 1) := by omega
  have hb4 : ¬ (cap = i) := by omega
  have hb3 : (i : Int) ≤ (n : Int) := by omega
  have hb5 : (n : Int) ≤ (cap : Int) := by omega
  have hb6 : (n : Int) + 1 ≤ (cap : Int) := by omega
  have hb7 : (i : Int) + 1 ≤ (n : Int) + 1 := by omega
  have hb8 : (i : Int) ≤ (n : Int) + 1 := by omega
  have hin : i ≤ n := by omega
  have hnb : (n : Int) ≤ 1000000000 := by omega
  have HX1 : Hid ((xs.drop (i * 2)).length = (n - i) * 2) := by unfold Hid; rw [List.length_drop, hlen]; omega
  have HX2 : Hid ((i + 1) * 2 + (xs.drop (i * 2)).length ≤ cur.length) := by unfold Hid; rw [HX1.out, hcurl]; omega
  have hk1 : Hid (∀ u ∈ xs.drop (i * 2), u.oneCell' = true) := fun u hu => h1 u (List.mem_of_mem_drop hu)
  have hsrc : Hid (∀ j u, (xs.drop (i * 2))[j]? = some u → w.drew.cell? ((⟨g, i * 2, none⟩ : Addr).add j) = some u) := by
    intro j u hu
    rw [Addr.add_lit]
    rw [List.getElem?_drop] at hu
    exact hk.cell _ _ hu
  have hkd : Hid (w.drew.heap[g]? = some (.cells cur.toArray 68 (0, 0))) := hk.row
  have hvc : Hid (∀ (W : World), Below g w W ∨ vb < g → True) := fun _ _ => trivial
  obtain ⟨news, hnews⟩ : ∃ news, xs.drop (i * 2) = news := ⟨_, rfl⟩
  rw [hnews] at HX1 HX2 hk1 hsrc
  have HN := Lib.hid hnews
  have HK := Lib.hid hk
  have HV := Lib.hid hv
  have HC := Lib.hid hc
  have HCL := Lib.hid hcurl
  have HI := Lib.hid hi
  clear hk hv hc h1 hlen hcurl hnews hvc
  go_enter Tryz.func27, Tryz.ntmps27
  go_wp2_with (simp only [hov])
  have hi2 : (0 : Int) ≤ (i : Int) + 1 := by omega
  have hi3 : ((i : Int) + 1).toNat = i + 1 := by omega
  have hw1 : IntKind.i64.wrap ((i : Int) + 1) = (i : Int) + 1 := by rw [IntKind.wrap_i64]; omega
  go_region_law (refine step_copy_known rfl (.tmp 73) (.tmp 76) 26 26 rfl 68 2 Tryz.underlying26 (by kernel_rfl) (some ⟨g, (i + 1) * 2, none⟩) (some ⟨g, i * 2, none⟩) (n - i) (cap - (i + 1)) (n + 1 - i) (cap - i) (by simp [Act.eval, Act.put]) (by simp [Act.eval, Act.put]) g ((i + 1) * 2) cur 68 hkd.out (n - i) (Nat.min_eq_right (by omega)) news HX1.out (fun _ => ⟨rfl, _, rfl, hsrc.out⟩) HX2.out hk1.out g w ((Below.refl _ w).drew) (Nat.le_refl _) ?_; intro w1 hrow hb1 ho1)
  clear hw1 hi3 hi2
  have hvw1 : Hid (∀ j u, [c, d][j]? = some u → w1.cell? ((⟨vb, 0, none⟩ : Addr).add j) = some u) := by
    intro j u hj
    have h := HV.out.cell j
    rw [Addr.add_lit, Nat.zero_add, World.cell?_of_block (w := w) (a := ⟨vb, j, none⟩) (ho1.out vb hvb), h]; exact hj
  have q2 : Hid (∀ u ∈ [c, d], u.oneCell' = true) := by
    intro u hu
    simp at hu
    rcases hu with rfl | rfl
    · exact HC.out.1
    · exact HC.out.2
  have hfit : Hid (i * 2 + [c, d].length ≤ (splice cur ((i + 1) * 2) news).length) := by
    unfold Hid; rw [length_splice _ _ _ HX2.out, HCL.out]; simp; omega
  have hmin : Nat.min 1 (n + 1 - i) = 1 := Nat.min_eq_left (by omega)
  have HMN := Lib.hid hmin
  clear hmin hov
  go_wp2_with (refine wpList_copy_known rfl _ _ 26 26 rfl 68 2 Tryz.underlying26 (by kernel_rfl) (some ⟨g, i * 2, none⟩) (some ⟨vb, 0, none⟩) (n + 1 - i) (cap - i) 1 1 rfl rfl g (i * 2) _ 68 hrow.out 1 HMN.out [c, d] rfl (fun _ => ⟨rfl, _, rfl, hvw1.out⟩) hfit.out q2.out g w hb1 (Nat.le_refl _) ?_; intro w2 hrow2 hb2 _)
  go_ret
  refine ⟨_, rfl, ⟨hrow2.out, by omega, by unfold maxLen; omega, ?_, ?_⟩, hb2⟩
  · rw [length_splice _ _ _ hfit.out, length_splice _ _ _ HX2.out, HCL.out]
  · rw [← HN.out]
    exact splice_two cur xs n i c d HI.out HK.out.take (by rw [HCL.out]; omega)
end Go.Proofs.YtkmpbkhlcapbgaaGreatDoor
namespace Go.Proofs.YtkmpbkhlcapbgaaGreatDoor
open Go Go.RowKit
theorem splice_three {α : Type} (L xs : List α) (n i : Nat) (c d : α) (hi : i < n) (hxl : xs.length = n * 2) (hx : L.take (i * 2) = xs.take (i * 2)) (hl : (n + 1) * 2 ≤ L.length) :
    (splice (splice L (i * 2) [c, d]) ((i + 1) * 2) (xs.drop (i * 2))).take ((n + 1) * 2) = xs.take (i * 2) ++ c :: d :: xs.drop (i * 2) := by
  have l0 : i * 2 + [c, d].length ≤ L.length := by simp; omega
  have l1 : (splice L (i * 2) [c, d]).length = L.length := length_splice _ _ _ l0
  have l2 : (i + 1) * 2 + (xs.drop (i * 2)).length = (n + 1) * 2 := by rw [List.length_drop, hxl]; omega
  rw [splice_take _ _ _ (by omega) _ l2.symm, splice_take L (i * 2) [c, d] l0 ((i + 1) * 2) (by simp; omega), hx]
  simp
set_option maxRecDepth 100000 in
set_option maxHeartbeats 8000000 in
theorem insert_grow (g cap i n vb : Nat) (cur xs : List Value) (c d : Value) (hn : n ≤ 1000000000) (hi : i < n) (hr : cap < n + 1) (w : World) (hk : Known w 68 2 g cap cur n xs) (h1 : ∀ u ∈ xs, u.oneCell' = true) (hv : RowIs w vb 68 [c, d]) (hc : c.oneCell' = true ∧ d.oneCell' = true) :
    Calls Tryz.prog 27 #[.slice (some ⟨g, 0, none⟩) n cap, .int .i64 i, .slice (some ⟨vb, 0, none⟩) 1 1] w fun e w' =>
      ∃ v', e = .returned v' ∧ w'.ownsRow w.heap.size 68 2 v' (n + 1) (xs.take (i * 2) ++ c :: d :: xs.drop (i * 2)) ∧ Below w.heap.size w w' := by
  obtain rfl : n = cap := by have := hk.le; omega
  have hlen : xs.length = n * 2 := by
    rw [← hk.take, List.length_take, hk.len, Nat.min_self]
  obtain ⟨i0, hi0, hz0, hz1, hz2⟩ := info_parts varInfo
  have hgw : g < w.heap.size := lt_of_block hk.row
  have hvw : vb < w.heap.size := hv.lt
  have hold : (Builtin.firstCells i0.size i (.slice (some ⟨g, 0, none⟩) i n)).run Tryz.prog w.drew = .ok (xs.take (i * 2)).toArray w.drew := by
    rw [hz1]
    refine run_firstCells_some w.drew 2 i ⟨g, 0, none⟩ i n (xs.take (i * 2)) (by rw [List.length_take, hlen]; omega) (fun j v hj => ?_)
    rw [Addr.add_lit, Nat.zero_add]
    rw [List.getElem?_take] at hj
    split at hj
    · exact hk.cell _ _ hj
    · cases hj
  obtain ⟨G, hG⟩ : ∃ G, G = grownCap w (n + 1) n 68 := ⟨_, rfl⟩
  have hGn : n + 1 ≤ G := by rw [hG]; exact grownCap_ge w _ _ _
  have hGm : G ≤ maxLen := by rw [hG]; exact grownCap_le_maxLen w (n + 1) n _ (by unfold maxLen; omega)
  obtain ⟨ROW, hROW⟩ : ∃ ROW : Array Value, ROW = (xs.take (i * 2)).toArray ++ Builtin.zeroCells (Value.agg #[.string ⟨#[]⟩, .string ⟨#[]⟩]).cells (n + 1 - i) ++ Builtin.zeroCells (Value.agg #[.string ⟨#[]⟩, .string ⟨#[]⟩]).cells (G - (n + 1)) := ⟨_, rfl⟩
  have hRl : ROW.toList.length = G * 2 := by
    have hz : (Value.agg #[.string ⟨#[]⟩, .string ⟨#[]⟩]).cells.size = 2 := rfl
    rw [Array.length_toList, hROW, Array.size_append, Array.size_append, size_zeroCells, size_zeroCells, hz, List.size_toArray, List.length_take, hlen]
    omega
  have hRt : ROW.toList.take (i * 2) = xs.take (i * 2) := by
    rw [hROW]
    simp only [Array.toList_append, List.append_assoc]
    rw [List.take_append_of_le_length (by rw [List.length_take, hlen]; omega), List.take_take, Nat.min_self]
  have hrz : ∀ ty, (Builtin.append_ #[26, 3] ty #[.slice (some ⟨g, 0, none⟩) i n, .int .i64 ((n : Int) + 1 - (i : Int))]).run Tryz.prog w =
      .ok (.slice (some ⟨w.heap.size, 0, none⟩) (n + 1) G) (w.drew.alloc (.cells ROW 68)) := fun ty => by
    have hik : i + (n + 1 - i) = n + 1 := by omega
    have hkk : (n : Int) + 1 - (i : Int) = ((n + 1 - i : Nat) : Int) := by omega
    have h := Lib.run_append_grow_zeros (P := Tryz.prog) w 26 3 ty 68 i0 _ .i64 .i64 Tryz.underlying26 Tryz.underlying3 hi0 hz0 (some ⟨g, 0, none⟩) i n (xs.take (i * 2)) hold (n + 1 - i) (by omega) (by omega) (by omega) (by omega) (by rw [hz2]; omega) (by rw [hz2, hik]; exact growslice_fits (by omega) (by omega))
    rw [hik] at h
    rw [hkk, hROW, hG]
    exact h
  have hz2 : ((i : Int) == (n : Int)) = false := by simp; omega
  have hb2 : ¬ (G = i + 1) := by omega
  have hb4 : ¬ (G = i) := by omega
  have hbi : ¬ (n = i) := by omega
  have hb3 : (i : Int) ≤ (n : Int) := by omega
  have hb5 : (n : Int) ≤ (G : Int) := by omega
  have hb6 : (n : Int) + 1 ≤ (G : Int) := by omega
  have hb7 : (i : Int) + 1 ≤ (n : Int) + 1 := by omega
  have hb8 : (i : Int) ≤ (n : Int) + 1 := by omega
  have hin : i ≤ n := by omega
  have hnb : (n : Int) ≤ 1000000000 := by omega
  have HX1 : Hid ((xs.drop (i * 2)).length = (n - i) * 2) := by unfold Hid; rw [List.length_drop, hlen]; omega
  have hk1 : Hid (∀ u ∈ xs.drop (i * 2), u.oneCell' = true) := fun u hu => h1 u (List.mem_of_mem_drop hu)
  have hsrc : Hid (∀ j u, (xs.drop (i * 2))[j]? = some u → w.cell? ((⟨g, i * 2, none⟩ : Addr).add j) = some u) := by
    intro j u hu
    rw [Addr.add_lit]
    rw [List.getElem?_drop] at hu
    exact hk.cell _ _ hu
  have hvc : Hid (∀ j u, [c, d][j]? = some u → w.cell? ((⟨vb, 0, none⟩ : Addr).add j) = some u) := by
    intro j u hj
    have h := hv.cell j
    rw [Addr.add_lit, Nat.zero_add, h]; exact hj
  have q2 : Hid (∀ u ∈ [c, d], u.oneCell' = true) := by
    intro u hu
    simp at hu
    rcases hu with rfl | rfl
    · exact hc.1
    · exact hc.2
  have HRT := Lib.hid hRt
  have HRL := Lib.hid hRl
  obtain ⟨news, hnews⟩ : ∃ news, xs.drop (i * 2) = news := ⟨_, rfl⟩
  rw [hnews] at HX1 hk1 hsrc
  have HN := Lib.hid hnews
  have HLEN := Lib.hid hlen
  have HI := Lib.hid hi
  have HGM := Lib.hid hGm
  unfold maxLen at hGm
  obtain ⟨W1, hW1⟩ : ∃ W1, W1 = w.drew.alloc (.cells ROW 68) := ⟨_, rfl⟩
  have hr1 : Hid (W1.heap[w.heap.size]? = some (.cells ROW.toList.toArray 68 (0, 0))) := by
    rw [hW1]; show (w.heap.push _)[w.heap.size]? = _; simp
  have ho1 : Hid (∀ k, k < w.heap.size → W1.heap[k]? = w.heap[k]?) := by
    rw [hW1]; intro k hk; show (w.heap.push _)[k]? = _; rw [Array.getElem?_push, if_neg (by omega)]
  have hb1 : Below w.heap.size w W1 := by rw [hW1]; exact ((Below.refl _ w).drew).alloc (Nat.le_refl _) _
  rw [← hW1] at hrz
  clear hk hv hc h1 hlen hnews hold hROW hRt hRl hG hW1
  go_enter Tryz.func27, Tryz.ntmps27
  have hsv1 : Hid (∀ j u, [c, d][j]? = some u → W1.cell? ((⟨vb, 0, none⟩ : Addr).add j) = some u) := by
    intro j u hj
    have h := hvc.out j u hj
    rw [Addr.add_lit] at h ⊢
    rw [World.cell?_of_block (w := w) (a := ⟨vb, 0 + j, none⟩) (ho1.out vb hvw)]; exact h
  have hfit : Hid (i * 2 + [c, d].length ≤ ROW.toList.length) := by unfold Hid; rw [HRL.out]; simp; omega
  have hmin : Nat.min 1 (n + 1 - i) = 1 := Nat.min_eq_left (by omega)
  have HMN := Lib.hid hmin
  clear hmin
  go_wp2_with (first
    | (at_builtin; refine Lib.wpList_append_run _ rfl _ _ _ _ rfl _ _ rfl rfl _ _ (hrz _) ?_)
    | (refine wpList_copy_known rfl _ _ 26 26 rfl 68 2 Tryz.underlying26 (by kernel_rfl) (some ⟨w.heap.size, i * 2, none⟩) (some ⟨vb, 0, none⟩) (n + 1 - i) (G - i) 1 1 rfl rfl w.heap.size (i * 2) _ 68 hr1.out 1 HMN.out [c, d] rfl (fun _ => ⟨rfl, _, rfl, hsv1.out⟩) hfit.out q2.out w.heap.size w hb1 (Nat.le_refl _) ?_; intro w2 hrow2 hb2 ho2))
  have hd2 : Hid (w2.drew.heap[w.heap.size]? = some (.cells (splice ROW.toList (i * 2) [c, d]).toArray 68 (0, 0))) := hrow2.out
  have hsv2 : Hid (∀ j u, news[j]? = some u → w2.drew.cell? ((⟨g, i * 2, none⟩ : Addr).add j) = some u) := by
    intro j u hj
    have h := hsrc.out j u hj
    rw [Addr.add_lit] at h ⊢
    rw [World.cell?_of_block (w := w) (w' := w2.drew) (a := ⟨g, i * 2 + j, none⟩) ((ho2.out g (by omega)).trans (ho1.out g hgw))]; exact h
  have hfit2 : Hid ((i + 1) * 2 + news.length ≤ (splice ROW.toList (i * 2) [c, d]).length) := by
    unfold Hid; rw [length_splice _ _ _ hfit.out, HRL.out, HX1.out]; omega
  have hmin2 : Nat.min (n - i) (n - i) = n - i := Nat.min_self _
  have HM2 := Lib.hid hmin2
  have hi2 : (0 : Int) ≤ (i : Int) + 1 := by omega
  have hi3 : ((i : Int) + 1).toNat = i + 1 := by omega
  have hw1 : IntKind.i64.wrap ((i : Int) + 1) = (i : Int) + 1 := by rw [IntKind.wrap_i64]; omega
  clear hmin2
  go_region_law (refine step_copy_known rfl (.tmp 50) (.tmp 53) 26 26 rfl 68 2 Tryz.underlying26 (by kernel_rfl) (some ⟨w.heap.size, (i + 1) * 2, none⟩) (some ⟨g, i * 2, none⟩) (n - i) (G - (i + 1)) (n - i) (n - i) (by simp [Act.eval, Act.put]) (by simp [Act.eval, Act.put]) w.heap.size ((i + 1) * 2) _ 68 hd2.out (n - i) HM2.out news HX1.out (fun _ => ⟨rfl, _, rfl, hsv2.out⟩) hfit2.out hk1.out w.heap.size w hb2.drew (Nat.le_refl _) ?_; intro w3 hrow3 hb3' ho3)
  clear hw1 hi3 hi2
  go_wp2
  go_ret
  refine ⟨_, rfl, Known.own (cap := G) (cur := splice (splice ROW.toList (i * 2) [c, d]) ((i + 1) * 2) news) ⟨hrow3.out, hGn, HGM.out, ?_, ?_⟩ (Nat.le_refl _), hb3'⟩
  · rw [length_splice _ _ _ hfit2.out, length_splice _ _ _ hfit.out, HRL.out]
  · rw [← HN.out]
    exact splice_three ROW.toList xs n i c d HI.out HLEN.out HRT.out (by rw [HRL.out]; omega)
end Go.Proofs.YtkmpbkhlcapbgaaGreatDoor
namespace Go.Proofs.YtkmpbkhlcapbgaaGreatDoor
open Go Go.RowKit
theorem clone_row (l : List (ByteArray × ByteArray)) (v : Value) (w : World) (hv : RowV w v l) :
    Calls Tryz.prog 34 #[v] w fun e w' => ∃ v', e = .returned v' ∧ OwnV w.heap.size w' v' l ∧ Below w.heap.size w w' := by
  obtain ⟨a, cap, rfl, h1, h2, h3⟩ := hv
  rcases h3 with ⟨rfl, rfl⟩ | ⟨b, off, rfl, hc⟩
  · refine (clone_nil _ _ w).mono ?_
    rintro e w' ⟨rfl, rfl⟩
    exact ⟨_, rfl, ⟨World.ownsRow_nil _ _ _ _, by simp⟩, Below.refl _ _⟩
  · refine (clone_any l b off cap h2 w hc).mono ?_
    rintro e w' ⟨v', rfl, ho, _, hb⟩
    exact ⟨v', rfl, ⟨ho, h2⟩, hb⟩
theorem four_facts {W : World} {b e : Nat} {x0 x1 x2 x3 : Value} (r : RowIs W b e [x0, x1, x2, x3]) :
    W.cell? ⟨b, 0, none⟩ = some x0 ∧ W.cell? ⟨b, 1, none⟩ = some x1 ∧ W.cell? ⟨b, 2, none⟩ = some x2 ∧ W.cell? ⟨b, 3, none⟩ = some x3 ∧
    W.frozen? ⟨b, 0, none⟩ = false ∧ W.frozen? ⟨b, 1, none⟩ = false ∧ W.frozen? ⟨b, 2, none⟩ = false ∧ W.frozen? ⟨b, 3, none⟩ = false ∧ b < W.heap.size :=
  ⟨by rw [r.cell]; rfl, by rw [r.cell]; rfl, by rw [r.cell]; rfl, by rw [r.cell]; rfl, r.free _, r.free _, r.free _, r.free _, r.lt⟩
theorem RowIs.under {w w' : World} {b e B : Nat} {l : List Value} (h : RowIs w b e l) (hb : Below B w w') (hlt : b < B) : RowIs w' b e l := by
  unfold RowIs; rw [hb.block b hlt]; exact h
theorem own_other {w : World} {b e s n : Nat} {v : Value} {xs : List Value} (h : w.ownsRow b e s v n xs) {a : Addr} (ha : a.block < b) (u : Value) : (w.setCell a u).ownsRow b e s v n xs := by
  refine ⟨h.1, ?_⟩
  rcases h.2 with h2 | ⟨g, c, cur, hv, hg, hh, r⟩
  · exact .inl h2
  · exact .inr ⟨g, c, cur, hv, hg, by rw [Below.heap_setCell _ _ _ _ (by omega)]; exact hh, r⟩
/-- A variable taken out of a row of the call's own. -/
theorem delete_row (l : List (ByteArray × ByteArray)) (base i : Nat) (hi : i < l.length) (v : Value) (w : World) (ho : OwnV base w v l) :
    Calls Tryz.prog 35 #[v, .int .i64 i, .int .i64 ((i : Int) + 1)] w fun e w' => ∃ v', e = .returned v' ∧ OwnV base w' v' (l.take i ++ l.drop (i + 1)) ∧ Below base w w' := by
  obtain ⟨h1, h2⟩ := ho
  rcases known_of_own h1 with ⟨rfl, h0⟩ | ⟨g, cap, cur, rfl, hg, hk⟩
  · omega
  · refine (delete_own g cap i l.length cur (cellsL l) h2 hi w hk (cellsL_one l)).mono ?_
    rintro e w' ⟨rfl, ⟨cur', hk'⟩, hb'⟩
    have e1 : (cellsL l).take (i * 2) ++ (cellsL l).drop ((i + 1) * 2) = cellsL (l.take i ++ l.drop (i + 1)) := by
      rw [cellsL_append, cellsL_take, cellsL_drop]
    have e2 : l.length - 1 = (l.take i ++ l.drop (i + 1)).length := by simp; omega
    rw [e1, e2] at hk'
    exact ⟨_, rfl, ⟨by rw [e2]; exact hk'.own hg, by simp; omega⟩, hb'.mono hg⟩
set_option maxRecDepth 100000 in
set_option maxHeartbeats 8000000 in
theorem unset_none (s : ByteArray) (l : List (ByteArray × ByteArray)) (cnt : Nat) (hl : LowAt l s cnt false) (v : Value) (aa : Option Addr) (na ca : Nat) (st : Int) (fl : ByteArray) (w : World) (hv : RowV w v l) :
    Calls Tryz.prog 18 #[.agg #[v, .slice aa na ca, .int .i64 st, .string fl], .string s] w fun e w' => ∃ v', e = .returned (.agg #[v', .slice aa na ca, .int .i64 st, .string fl]) ∧ OwnV w.heap.size w' v' l ∧ Below w.heap.size w w' := by
  have HF := Lib.hid (fun (W : World) (hW : RowV W v l) => find_any s l cnt false hl v (.slice aa na ca) (.int .i64 st) (.string fl) W hW)
  have HCL := Lib.hid (fun (W : World) (hW : RowV W v l) => clone_row l v W hW)
  have HV := Lib.hid hv
  clear hv hl
  go_enter Tryz.func18, Tryz.ntmps18
  go_wp2_with fail
  have b0 := ((Below.refl w.heap.size w).alloc (Nat.le_refl _) (.cells #[v, .slice aa na ca, .int .i64 st, .string fl] 28)).alloc (by simp) (.cells #[.slice none 0 0, .slice none 0 0, .int .i64 0, .string ⟨#[]⟩] 28)
  refine (HF.out _ (HV.out.below b0)).mono ?_; rintro e w1 ⟨rfl, k1⟩
  have r1 := ((RowIs.new w 28 [v, .slice aa na ca, .int .i64 st, .string fl]).alloc (.cells #[.slice none 0 0, .slice none 0 0, .int .i64 0, .string ⟨#[]⟩] 28)).below k1
  have r2 := (RowIs.new (w.alloc (.cells #[v, .slice aa na ca, .int .i64 st, .string fl] 28)) 28 [.slice none 0 0, .slice none 0 0, .int .i64 0, .string ⟨#[]⟩]).below k1
  have b1 := below_call k1 b0
  simp only [World.size_alloc] at r2
  obtain ⟨c0, c1, c2, c3, f0, f1, f2, f3, lt1⟩ := four_facts r1
  have lt2 : w.heap.size + 1 < w1.heap.size := r2.lt
  have HR1 := Lib.hid r1
  have HR2 := Lib.hid r2
  have HB1 := Lib.hid b1
  clear k1 b0 r1 r2 b1
  go_wp2_with fail
  refine (HCL.out _ (HV.out.below HB1.out)).mono ?_; rintro e w2 ⟨v', rfl, ho, k2⟩
  obtain ⟨a2, cp2, rfl⟩ := own_slice ho.1
  have R1 := Lib.hid (HR1.out.below k2)
  have R2 := Lib.hid (HR2.out.below k2)
  have B2 := Lib.hid (HB1.out.trans (k2.mono HB1.out.size))
  have HO := Lib.hid ho
  obtain ⟨p0, p1, p2, p3, g0, g1, g2, g3, _⟩ := four_facts R1.out
  obtain ⟨y0, y1, y2, y3, z0, z1, z2, z3, _⟩ := four_facts R2.out
  clear k2 ho c0 c1 c2 c3 f0 f1 f2 f3
  go_wp2_with fail
  have hb : w.heap.size < w1.heap.size := lt1
  have F2 := ((((R2.out.other (a := ⟨w.heap.size, 0, none⟩) (by simp) (.slice a2 l.length cp2)).set 0 (.slice a2 l.length cp2)).set 1 (.slice aa na ca)).set 2 (.int .i64 st)).set 3 (.string fl)
  obtain ⟨q0, q1, q2, q3, _⟩ := four_facts F2
  exact bodyPost_ret (v := .agg #[.slice a2 l.length cp2, .slice aa na ca, .int .i64 st, .string fl]) (by simp [results, Tryz.results18, go_sem, q0, q1, q2, q3]) rfl
    ⟨_, rfl, ⟨own_base (own_other (own_other (own_other (own_other (own_other HO.out.1 (a := ⟨w.heap.size, 0, none⟩) lt1 _) (a := ⟨w.heap.size + 1, 0, none⟩) lt2 _) (a := ⟨w.heap.size + 1, 1, none⟩) lt2 _) (a := ⟨w.heap.size + 1, 2, none⟩) lt2 _) (a := ⟨w.heap.size + 1, 3, none⟩) lt2 _) (by omega), HO.out.2⟩,
    ((((B2.out.setCell (p := ⟨w.heap.size, 0, none⟩) (Nat.le_refl _) _).setCell (p := ⟨w.heap.size + 1, 0, none⟩) (by simp) _).setCell (p := ⟨w.heap.size + 1, 1, none⟩) (by simp) _).setCell (p := ⟨w.heap.size + 1, 2, none⟩) (by simp) _).setCell (p := ⟨w.heap.size + 1, 3, none⟩) (by simp) _⟩
set_option maxRecDepth 100000 in
set_option maxHeartbeats 8000000 in
theorem unset_some (s : ByteArray) (l : List (ByteArray × ByteArray)) (cnt : Nat) (hl : LowAt l s cnt true) (hcn : cnt < l.length) (v : Value) (aa : Option Addr) (na ca : Nat) (st : Int) (fl : ByteArray) (w : World) (hv : RowV w v l) :
    Calls Tryz.prog 18 #[.agg #[v, .slice aa na ca, .int .i64 st, .string fl], .string s] w fun e w' => ∃ v', e = .returned (.agg #[v', .slice aa na ca, .int .i64 st, .string fl]) ∧ OwnV w.heap.size w' v' (l.take cnt ++ l.drop (cnt + 1)) ∧ Below w.heap.size w w' := by
  have HF := Lib.hid (fun (W : World) (hW : RowV W v l) => find_any s l cnt true hl v (.slice aa na ca) (.int .i64 st) (.string fl) W hW)
  have HCL := Lib.hid (fun (W : World) (hW : RowV W v l) => clone_row l v W hW)
  have HV := Lib.hid hv
  have HDL := Lib.hid (fun (v' : Value) (base : Nat) (W : World) (hW : OwnV base W v' l) => delete_row l base cnt hcn v' W hW)
  have hcb : (cnt : Int) ≤ 1000000000 := by obtain ⟨_, _, _, _, h, _⟩ := hv; omega
  clear hv hl
  go_enter Tryz.func18, Tryz.ntmps18
  go_wp2_with fail
  have b0 := ((Below.refl w.heap.size w).alloc (Nat.le_refl _) (.cells #[v, .slice aa na ca, .int .i64 st, .string fl] 28)).alloc (by simp) (.cells #[.slice none 0 0, .slice none 0 0, .int .i64 0, .string ⟨#[]⟩] 28)
  refine (HF.out _ (HV.out.below b0)).mono ?_; rintro e w1 ⟨rfl, k1⟩
  have r1 := ((RowIs.new w 28 [v, .slice aa na ca, .int .i64 st, .string fl]).alloc (.cells #[.slice none 0 0, .slice none 0 0, .int .i64 0, .string ⟨#[]⟩] 28)).below k1
  have r2 := (RowIs.new (w.alloc (.cells #[v, .slice aa na ca, .int .i64 st, .string fl] 28)) 28 [.slice none 0 0, .slice none 0 0, .int .i64 0, .string ⟨#[]⟩]).below k1
  have b1 := below_call k1 b0
  simp only [World.size_alloc] at r2
  obtain ⟨c0, c1, c2, c3, f0, f1, f2, f3, lt1⟩ := four_facts r1
  have lt2 : w.heap.size + 1 < w1.heap.size := r2.lt
  have HR1 := Lib.hid r1
  have HR2 := Lib.hid r2
  have HB1 := Lib.hid b1
  clear k1 b0 r1 r2 b1
  go_wp2_with fail
  refine (HCL.out _ (HV.out.below HB1.out)).mono ?_; rintro e w2 ⟨v', rfl, ho, k2⟩
  obtain ⟨a2, cp2, rfl⟩ := own_slice ho.1
  have R1 := Lib.hid ((HR1.out.below k2).set 0 (.slice a2 l.length cp2))
  have R2 := Lib.hid ((HR2.out.below k2).other (a := ⟨w.heap.size, 0, none⟩) (by simp) (.slice a2 l.length cp2))
  have B2 := Lib.hid ((HB1.out.trans (k2.mono HB1.out.size)).setCell (p := ⟨w.heap.size, 0, none⟩) (Nat.le_refl _) (.slice a2 l.length cp2))
  have HO : Hid (OwnV w1.heap.size (w2.setCell ⟨w.heap.size, 0, none⟩ (.slice a2 l.length cp2)) (.slice a2 l.length cp2) l) := ⟨own_other ho.1 (a := ⟨w.heap.size, 0, none⟩) lt1 _, ho.2⟩
  have hsz : Hid (w1.heap.size ≤ (w2.setCell ⟨w.heap.size, 0, none⟩ (.slice a2 l.length cp2)).heap.size) := by unfold Hid; rw [World.size_setCell]; exact k2.size
  obtain ⟨p0, p1, p2, p3, g0, g1, g2, g3, _⟩ := four_facts (HR1.out.below k2)
  clear k2 ho c0 c1 c2 c3 f0 f1 f2 f3
  go_wp2_with fail
  refine (HDL.out _ _ _ HO.out).mono ?_; rintro e w3 ⟨v3, rfl, ho3, k3⟩
  obtain ⟨a3, cp3, rfl⟩ := own_slice ho3.1
  have R13 := Lib.hid (R1.out.under k3 lt1)
  have R23 := Lib.hid (R2.out.under k3 lt2)
  have B3 := Lib.hid (B2.out.trans (k3.mono (by omega)))
  have HO3 := Lib.hid ho3
  obtain ⟨p0, p1, p2, p3, g0, g1, g2, g3, lt3⟩ := four_facts R13.out
  obtain ⟨y0, y1, y2, y3, z0, z1, z2, z3, lt4⟩ := four_facts R23.out
  obtain ⟨N, hN⟩ : ∃ N, (l.take cnt ++ l.drop (cnt + 1)).length = N := ⟨_, rfl⟩
  rw [hN] at HO3
  rw [hN]
  clear k3 ho3 hN
  go_wp2_with fail
  have F2 := ((((R23.out.other (a := ⟨w.heap.size, 0, none⟩) (by simp) (.slice a3 N cp3)).set 0 (.slice a3 N cp3)).set 1 (.slice aa na ca)).set 2 (.int .i64 st)).set 3 (.string fl)
  obtain ⟨q0, q1, q2, q3, _⟩ := four_facts F2
  exact bodyPost_ret (v := .agg #[.slice a3 N cp3, .slice aa na ca, .int .i64 st, .string fl]) (by simp [results, Tryz.results18, go_sem, q0, q1, q2, q3]) rfl
    ⟨_, rfl, ⟨own_base (own_other (own_other (own_other (own_other (own_other HO3.out.1 (a := ⟨w.heap.size, 0, none⟩) lt1 _) (a := ⟨w.heap.size + 1, 0, none⟩) lt2 _) (a := ⟨w.heap.size + 1, 1, none⟩) lt2 _) (a := ⟨w.heap.size + 1, 2, none⟩) lt2 _) (a := ⟨w.heap.size + 1, 3, none⟩) lt2 _) (by omega), HO3.out.2⟩,
    ((((B3.out.setCell (p := ⟨w.heap.size, 0, none⟩) (Nat.le_refl _) _).setCell (p := ⟨w.heap.size + 1, 0, none⟩) (by simp) _).setCell (p := ⟨w.heap.size + 1, 1, none⟩) (by simp) _).setCell (p := ⟨w.heap.size + 1, 2, none⟩) (by simp) _).setCell (p := ⟨w.heap.size + 1, 3, none⟩) (by simp) _⟩
end Go.Proofs.YtkmpbkhlcapbgaaGreatDoor
namespace Go.Proofs.YtkmpbkhlcapbgaaGreatDoor
open Go Go.RowKit
theorem cell_mark (W : World) (b : Nat) (hb : b = W.heap.size) (C : Array Value) (e : Nat) (m : Nat × Nat) (j : Nat) : (W.alloc (.cells C e m)).cell? ⟨b, j, none⟩ = C[j]? := by
  subst hb
  unfold World.cell?
  have : (W.alloc (.cells C e m)).heap[W.heap.size]? = some (.cells C e m) := by show (W.heap.push _)[W.heap.size]? = _; simp
  rw [this]
  simp
def hasB (fl : ByteArray) (c : UInt8) : Bool := decide (0 ≤ Lib.indexByte fl.data.toList c)
/-- Whether a flag is on behind it. -/
def keepB (fl : ByteArray) (c : UInt8) (on : Bool) (f : UInt8) : Bool := (f == c && on) || (f != c && hasB fl f)
def efuxL : List UInt8 := [101, 102, 117, 120]
def onesL (fl : ByteArray) (c : UInt8) (on : Bool) (i : Nat) : ByteArray := ⟨((efuxL.take i).filter (keepB fl c on)).toArray⟩
theorem onesL_next (fl : ByteArray) (c : UInt8) (on : Bool) (i : Nat) (h : i < efuxL.length) : onesL fl c on (i + 1) = if keepB fl c on efuxL[i] then onesL fl c on i ++ ⟨#[efuxL[i]]⟩ else onesL fl c on i := by
  unfold onesL
  rw [List.take_succ_eq_append_getElem h, List.filter_append]
  cases hk : keepB fl c on efuxL[i] <;> simp [hk]
  apply ByteArray.ext
  simp
theorem onesL_size (fl : ByteArray) (c : UInt8) (on : Bool) (i : Nat) : (onesL fl c on i).size ≤ 4 := by
  unfold onesL
  have h := List.length_filter_le (keepB fl c on) (efuxL.take i)
  have h2 := List.length_take_le' i efuxL
  have h3 : efuxL.length = 4 := rfl
  show ((efuxL.take i).filter (keepB fl c on)).length ≤ 4
  omega
set_option maxRecDepth 100000 in
set_option maxHeartbeats 16000000 in
theorem flag_any (av : Option Addr) (nv cv : Nat) (aa : Option Addr) (na ca : Nat) (st : Int) (fl : ByteArray) (c : UInt8) (on : Bool) (w : World) :
    Calls Tryz.prog 20 #[.agg #[(.slice av nv cv), .slice aa na ca, .int .i64 st, .string fl], .int .u8 (c.toNat : Int), .bool on] w fun e w' => e = .returned (.agg #[(.slice av nv cv), .slice aa na ca, .int .i64 st, .string (onesL fl c on 4)]) ∧ Below w.heap.size w w' := by
  have hst := fun (w : World) (b cap : Nat) (x : Int) => run_str1 (P := Tryz.prog) Tryz.underlying73 Tryz.underlying5 Tryz.underlying9 w b cap x
  have kc := fun (C : Array Value) (n c : Nat) => Lib.run_convert_bytes_const (P := Tryz.prog) ((w.alloc (.cells #[(.slice av nv cv), .slice aa na ca, .int .i64 st, .string fl] 28)).alloc (.cells #[.slice none 0 0, .slice none 0 0, .int .i64 0, .string ⟨#[]⟩] 28)) 73 5 C n c Tryz.underlying73 Tryz.underlying5
  simp only [World.size_alloc] at kc
  have HH := Lib.hid (fun (c : Int) (W : World) => has_any (.slice av nv cv) (.slice aa na ca) (.int .i64 st) fl c W)
  go_enter Tryz.func20, Tryz.ntmps20
  go_wp2_with fail
  clear kc
  have hLl : efuxL.length = 4 := rfl
  have HLL := Lib.hid hLl
  clear hLl
  go_loopg [7, 13] 4 (fun gk s7 s13 wx => Below w.heap.size w wx ∧ RowIs wx w.heap.size 28 [(.slice av nv cv), .slice aa na ca, .int .i64 st, .string fl] ∧ RowIs wx (w.heap.size + 1) 28 [.slice none 0 0, .slice none 0 0, .int .i64 0, .string ⟨#[]⟩] ∧ Hid (∀ j (h : j < efuxL.length), wx.cell? ⟨w.heap.size + 1 + 1, j, none⟩ = some (.int .u8 (efuxL[j].toNat : Int))) ∧ ∃ i : Nat, i + gk = 4 ∧ s13 = .int .i64 i ∧ s7 = .string (onesL fl c on i))
  case atStart =>
    refine ⟨(((Below.refl _ _).alloc (Nat.le_refl _) _).alloc (by simp) _).alloc (by simp; omega) _, (((RowIs.new w _ _).alloc _).alloc _), ?_, ?_, 0, by omega, rfl, rfl⟩
    · have h := (RowIs.new (w.alloc (.cells #[(.slice av nv cv), .slice aa na ca, .int .i64 st, .string fl] 28)) 28 [.slice none 0 0, .slice none 0 0, .int .i64 0, .string ⟨#[]⟩]).alloc (.cells #[.int .u8 101, .int .u8 102, .int .u8 117, .int .u8 120] 5 (4, 5))
      simpa using h
    · intro j hj
      have hj4 : j < 4 := hj
      rw [cell_mark _ _ (by simp)]
      rcases (show j = 0 ∨ j = 1 ∨ j = 2 ∨ j = 3 by omega) with rfl | rfl | rfl | rfl <;> rfl
  case round =>
    obtain ⟨hB, hR1, hR2, hC, i, hik, rfl, rfl⟩ := hrel
    cases gk with
    | zero =>
      obtain rfl : i = 4 := by omega
      obtain ⟨c0, c1, c2, c3, f0, f1, f2, f3, lt1⟩ := four_facts hR1
      obtain ⟨y0, y1, y2, y3, z0, z1, z2, z3, lt2⟩ := four_facts hR2
      have HB := Lib.hid hB
      have HR2 := Lib.hid hR2
      clear hB hR1 hR2 hC
      go_wp2_with fail
      have F2 := ((((HR2.out.other (a := ⟨w.heap.size, 3, none⟩) (by simp) (.string (onesL fl c on 4))).set 0 (.slice av nv cv)).set 1 (.slice aa na ca)).set 2 (.int .i64 st)).set 3 (.string (onesL fl c on 4))
      obtain ⟨q0, q1, q2, q3, _⟩ := four_facts F2
      exact bodyPost_ret (v := .agg #[(.slice av nv cv), .slice aa na ca, .int .i64 st, .string (onesL fl c on 4)]) (by simp [results, Tryz.results20, go_sem, q0, q1, q2, q3]) rfl
        ⟨rfl, ((((HB.out.setCell (p := ⟨w.heap.size, 3, none⟩) (Nat.le_refl _) _).setCell (p := ⟨w.heap.size + 1, 0, none⟩) (by simp) _).setCell (p := ⟨w.heap.size + 1, 1, none⟩) (by simp) _).setCell (p := ⟨w.heap.size + 1, 2, none⟩) (by simp) _).setCell (p := ⟨w.heap.size + 1, 3, none⟩) (by simp) _⟩
    | succ gk =>
      have hi4 : i < efuxL.length := by rw [HLL.out]; omega
      obtain ⟨f, hf⟩ : ∃ f, efuxL[i] = f := ⟨_, rfl⟩
      have hcf := hC.out i hi4
      have hnx := onesL_next fl c on i hi4
      rw [hf] at hcf hnx
      have hsz : (onesL fl c on i).size ≤ 4 := onesL_size fl c on i
      have hi3 : (i : Int) < 4 := by omega
      have hi5 : i < 4 := by omega
      have hmx : (onesL fl c on i).size + 1 ≤ 4611686018427387904 := by omega
      obtain ⟨c0, c1, c2, c3, f0, f1, f2, f3, lt1⟩ := four_facts hR1
      have HB := Lib.hid hB
      have HR1 := Lib.hid hR1
      have HR2 := Lib.hid hR2
      have HNX := Lib.hid hnx
      clear hB hR1 hR2 hf hnx
      have hcb : Hid (∀ (x : ByteArray) (W : World), (onesL fl c on (i + 1) = x) → Below wr.heap.size wr W → Below w.heap.size w W ∧ RowIs W w.heap.size 28 [.slice av nv cv, .slice aa na ca, .int .i64 st, .string fl] ∧ RowIs W (w.heap.size + 1) 28 [.slice none 0 0, .slice none 0 0, .int .i64 0, .string ⟨#[]⟩] ∧ Hid (∀ j (h : j < efuxL.length), W.cell? ⟨w.heap.size + 1 + 1, j, none⟩ = some (.int .u8 (efuxL[j].toNat : Int))) ∧ ∃ i2 : Nat, i2 + gk = 4 ∧ Value.int .i64 ((i : Int) + 1) = .int .i64 i2 ∧ Value.string x = .string (onesL fl c on i2)) := by
        intro x W hx hW
        refine ⟨HB.out.trans (hW.mono HB.out.size), HR1.out.below hW, HR2.out.below hW, ?_, i + 1, by omega, by go_num, by rw [hx]⟩
        intro j hj
        exact (hW.cell (block_lt_of_cell (hC.out j hj))).trans (hC.out j hj)
      clear hC
      by_cases hfc : f = c
      · subst hfc
        cases on
        · have hnx2 : Hid (onesL fl f false (i + 1) = onesL fl f false i) := by rw [HNX.out]; simp [Hid, keepB]
          clear HNX
          go_wp2_with fail
          go_roundg gk
          case measure => omega
          case rel => exact hcb.out _ _ hnx2.out (Below.refl _ _)
        · have hnx2 : Hid (onesL fl f true (i + 1) = onesL fl f true i ++ ⟨#[f]⟩) := by rw [HNX.out]; simp [Hid, keepB]
          clear HNX
          go_wp2_with fail
          go_roundg gk
          case measure => omega
          case rel => exact hcb.out _ _ hnx2.out ((Below.refl _ _).alloc (Nat.le_refl _) _)
      · have hq : ((f.toNat : Int) == (c.toNat : Int)) = false := by
          simp; intro e; exact hfc (UInt8.toNat_inj.1 (by omega))
        have hq2 : ((f.toNat : Int) != (c.toNat : Int)) = true := by
          simp; intro e; exact hfc (UInt8.toNat_inj.1 (by omega))
        have hfb : (f == c) = false := by simpa using hfc
        have hfb2 : (f != c) = true := by simpa using hfc
        have HH2 := HH.out (f.toNat : Int)
        obtain ⟨bb, hbb⟩ : ∃ b : Bool, hasB fl f = b := ⟨_, rfl⟩
        have hbe : decide (0 ≤ Lib.indexByte fl.data.toList (f.toNat : Int).toNat.toUInt8) = bb := by rw [← hbb]; simp [hasB]
        rw [hbe] at HH2
        have HHH := Lib.hid HH2
        cases bb
        · have hnx2 : Hid (onesL fl c on (i + 1) = onesL fl c on i) := by rw [HNX.out]; simp [Hid, keepB, hfb, hfb2, hbb]
          clear HNX hbb hbe HH2 hfb hfb2 hfc
          go_wp2_with fail
          refine (HHH.out wr).mono ?_; rintro e w1 ⟨rfl, k1⟩
          go_wp2_with fail
          go_roundg gk
          case measure => omega
          case rel => exact hcb.out _ _ hnx2.out k1
        · have hnx2 : Hid (onesL fl c on (i + 1) = onesL fl c on i ++ ⟨#[f]⟩) := by rw [HNX.out]; simp [Hid, keepB, hfb, hfb2, hbb]
          clear HNX hbb hbe HH2 hfb hfb2 hfc
          go_wp2_with fail
          refine (HHH.out wr).mono ?_; rintro e w1 ⟨rfl, k1⟩
          go_wp2_with fail
          go_roundg gk
          case measure => omega
          case rel => exact hcb.out _ _ hnx2.out (k1.alloc k1.size _)
end Go.Proofs.YtkmpbkhlcapbgaaGreatDoor
