/-
  DERIVED. The walk of glob's Cut: a text without a pattern's text at its beginning, or its end.
-/
import Derived.Test.YtmcaphmgjhkgfaaDoorGe
import Derived.Lib.Strings
namespace Go.Proofs.YtmcaphmgjhkgfaaDoor
open Go.RowKit Gl
/-- The n bytes at the beginning, or the end. -/
def partF (S : List Int) (fin : Bool) (n : Nat) : List Int := if fin then S.drop (S.length - n) else S.take n
/-- How many bytes may be cut off. -/
def sizesF (t m : ByteArray) (S : List Int) (fin : Bool) (k : Nat) : List Nat := (List.range k).filter fun n => matchF t m (partF S fin n)
/-- How many bytes are cut off. -/
def cutN (t m : ByteArray) (S : List Int) (fin longest : Bool) : Nat :=
  let l := sizesF t m S fin (S.length + 1)
  if longest then l.getLastD 0 else l.headD 0
def cutF (t m s : ByteArray) (fin longest : Bool) : ByteArray :=
  if fin then s.extract 0 (s.size - cutN t m (bl s) fin longest) else s.extract (cutN t m (bl s) fin longest) s.size
theorem bl_extract (s : ByteArray) (a b : Nat) : bl (s.extract a b) = ((bl s).drop a).take (b - a) := by
  unfold bl; rw [Lib.extract_data, List.map_take, List.map_drop]
theorem info3 : (Tryd.prog.info? 3).map (fun i => (i.zero, i.size, i.bytes)) = some (some (.int .i64 0), 1, 8) := by kernel_rfl
theorem sizesF_succ (t m : ByteArray) (S : List Int) (fin : Bool) (k : Nat) : sizesF t m S fin (k + 1) = sizesF t m S fin k ++ (if matchF t m (partF S fin k) then [k] else []) := by
  unfold sizesF; rw [List.range_succ, List.filter_append]; congr 1
  by_cases h : matchF t m (partF S fin k) = true <;> simp [List.filter_cons, h]
theorem sizes_mem {t m : ByteArray} {S : List Int} {fin : Bool} {k x : Nat} (h : x ∈ sizesF t m S fin k) : x < k := by
  unfold sizesF at h; exact List.mem_range.1 (List.mem_filter.1 h).1
theorem extract_all (s : ByteArray) : s.extract 0 s.size = s := by
  rw [Lib.extract_eq, List.drop_zero, Nat.sub_zero, List.take_of_length_le (by rw [← Lib.size_eq]; exact Nat.le_refl _), Lib.mk_data]
/-- What the end of Cut reads of the sizes. -/
theorem sizes_cells {w : World} {b e : Nat} {v : Value} {l : List Nat} (h : w.ownsRow b e 1 v l.length (l.map fun x : Nat => Value.int .i64 (x : Int))) (hl : l ≠ []) :
    ∃ g cap, v = .slice (some ⟨g, 0, none⟩) l.length cap ∧ w.cell? ⟨g, 0, none⟩ = some (.int .i64 (l.headD 0 : Nat)) ∧ w.cell? ⟨g, l.length - 1, none⟩ = some (.int .i64 (l.getLastD 0 : Nat)) := by
  have hp : 0 < l.length := List.length_pos_iff.2 hl
  obtain ⟨g, cap, hv, _, _, _, hc⟩ := own_cells h hp
  refine ⟨g, cap, hv, ?_, ?_⟩
  · rw [hc 0 (by omega)]
    cases l with
    | nil => exact absurd rfl hl
    | cons x r => rfl
  · rw [hc _ (by omega), List.getElem?_map, List.getElem?_eq_getElem (by omega)]
    simp only [Option.map_some, Option.some.injEq, Value.int.injEq, true_and]
    rw [List.getLastD_eq_getLast?, List.getLast?_eq_getElem?, List.getElem?_eq_getElem (by omega)]
    rfl
def CutRel (t m : ByteArray) (S : List Int) (N : Nat) (fin : Bool) (w : World) (g : Nat) (v k : Value) (wr : World) : Prop :=
  ∃ n : Nat, k = .int .i64 n ∧ n ≤ N + 1 ∧ RowIs wr w.heap.size 31 [.string t, .string m] ∧
    wr.ownsRow w.heap.size 3 1 v (sizesF t m S fin n).length ((sizesF t m S fin n).map fun x : Nat => Value.int .i64 (x : Int)) ∧ Below w.heap.size w wr ∧ n + g = N + 1
theorem match_at (t m s : ByteArray) (ht : t.size ≤ 1000000000) (hs : s.size ≤ 1000000000) (b : Bool) (h : matchF t m (bl s) = b) (w : World) :
    Calls Tryd.prog 23 #[.agg #[.string t, .string m], .string s] w fun e w' => e = .returned (.bool b) ∧ Below w.heap.size w w' := by
  subst h; exact match_any t m s ht hs w
theorem cut_skip {t m : ByteArray} {S : List Int} {N n g : Nat} {fin : Bool} {w wr w2 : World} {v : Value} (hn : n ≤ N) (r0 : RowIs wr w.heap.size 31 [.string t, .string m])
    (hown : wr.ownsRow w.heap.size 3 1 v (sizesF t m S fin n).length ((sizesF t m S fin n).map fun x : Nat => Value.int .i64 (x : Int))) (hbel : Below w.heap.size w wr) (hk : Below wr.heap.size wr w2)
    (h : matchF t m (partF S fin n) = false) (hg : n + 1 + g = N + 1) : CutRel t m S N fin w g v (.int .i64 ((n + 1 : Nat) : Int)) w2 := by
  have e : sizesF t m S fin (n + 1) = sizesF t m S fin n := by rw [sizesF_succ, h]; simp
  exact ⟨n + 1, rfl, by omega, r0.below hk, by rw [e]; exact own_below hown hk, hbel.trans (hk.mono hbel.size), hg⟩
theorem cut_push {t m : ByteArray} {S : List Int} {N n g q : Nat} {fin : Bool} {w wr w2 w5 : World} {v v' : Value} (hn : n ≤ N) (r0 : RowIs wr w.heap.size 31 [.string t, .string m])
    (hown : wr.ownsRow w.heap.size 3 1 v (sizesF t m S fin n).length ((sizesF t m S fin n).map fun x : Nat => Value.int .i64 (x : Int))) (hbel : Below w.heap.size w wr) (hk : Below wr.heap.size wr w2)
    (h : matchF t m (partF S fin n) = true) (hg5 : (w2.alloc (.cells #[.int .i64 (n : Int)] 3)).grownBy w5 v.ownBlock)
    (ho : w5.ownsRow w.heap.size 3 1 v' q ((sizesF t m S fin n).map (fun x : Nat => Value.int .i64 (x : Int)) ++ [.int .i64 (n : Int)])) (hq : q = (sizesF t m S fin n).length + 1) (hg : n + 1 + g = N + 1) : CutRel t m S N fin w g v' (.int .i64 ((n + 1 : Nat) : Int)) w5 := by
  have e : sizesF t m S fin (n + 1) = sizesF t m S fin n ++ [n] := by rw [sizesF_succ, h]; simp
  have hv := (own_below hown hk).alloc (.cells #[.int .i64 (n : Int)] 3)
  have hk1 := hk.alloc hk.size (.cells #[.int .i64 (n : Int)] 3)
  subst hq
  refine ⟨n + 1, rfl, by omega, ?_, by rw [e]; simpa using ho, ?_, hg⟩
  · have h1 := r0.below hk1
    unfold RowIs
    rw [hg5.block _ h1.lt (fun e => own_not_row hv h1 (by decide) e.symm)]; exact h1
  · have h1 : Below w.heap.size w (w2.alloc (.cells #[.int .i64 (n : Int)] 3)) := hbel.trans (hk1.mono hbel.size)
    exact h1.grown hg5 h1.size (fun k hk' => (hv.lt k hk').1)
set_option maxRecDepth 100000 in
set_option maxHeartbeats 4000000 in
theorem cut_any (s t m : ByteArray) (fin longest : Bool) (ht : t.size ≤ 1000000000) (hs : s.size ≤ 1000000000) (w : World) :
    Calls Tryd.prog 18 #[.string s, .agg #[.string t, .string m], .bool fin, .bool longest] w fun e w' => e = .returned (.string (cutF t m s fin longest)) ∧ Below w.heap.size w w' := by
  cases fin
  · go_enter Tryd.func18, Tryd.ntmps18
    go_wp2_with fail
    have hst : Hid (CutRel t m (bl s) s.size false w (s.size + 1) (.slice none 0 0) (.int .i64 ((0 : Nat) : Int)) (w.alloc (.cells #[.string t, .string m] 31))) :=
      ⟨0, rfl, Nat.zero_le _, RowIs.new _ _ _, World.ownsRow_nil _ _ _ _, (Below.refl _ _).alloc (Nat.le_refl _) _, by omega⟩
    go_loopg [9, 16] (s.size + 1) (fun g v k wr => CutRel t m (bl s) s.size false w g v k wr)
    case atStart => exact hst.out
    case round =>
      clear hst
      obtain ⟨n, rfl, hn, r0, hown, hbel, hg⟩ := hrel
      have HG := Lib.hid hg; clear hg
      obtain ⟨c0, c1, l0⟩ := pat_facts r0
      obtain ⟨ao, cap, rfl⟩ := own_slice hown
      have HOWN := Lib.hid hown; clear hown
      by_cases hl : n < s.size + 1
      · have hci : (n : Int) < (s.size : Int) + 1 := by omega
        have hlen : (sizesF t m (bl s) false n).length ≤ n := by unfold sizesF; exact Nat.le_trans (List.length_filter_le _ _) (by simp)
        obtain ⟨b, hb⟩ : ∃ b, matchF t m (partF (bl s) false n) = b := ⟨_, rfl⟩
        have HB := Lib.hid hb; clear hb
        go_wp2_with fail
        refine (match_at t m _ ht (by rw [ByteArray.size_extract]; omega) b (by rw [← HB.out, bl_extract]; simp [partF]) _).mono ?_
        rintro e w2 ⟨rfl, hk⟩
        have hbs : w.heap.size ≤ w2.heap.size := Nat.le_trans hbel.size hk.size
        have HO := own_below HOWN.out hk
        have hG := HG.out
        cases b
        · go_wp2_with fail
          go_roundg (s.size - n)
          case measure => omega
          case rel => exact cut_skip (by omega) r0 HOWN.out hbel hk HB.out (by omega)
        · go_wp2_with (at_builtin; refine wpList_push rfl _ _ _ rfl w.heap.size 3 _ 8 Tryd.underlying41 info3 rfl _ _ _ rfl HO _ _ rfl (by simp) rfl (by unfold maxLen; omega) hbs ?_; intro v' w5 ho5 hg5; obtain ⟨ao', cap', rfl⟩ := own_slice ho5)
          go_roundg (s.size - n)
          case measure => omega
          case rel => exact cut_push (by omega) r0 HOWN.out hbel hk HB.out hg5 ho5 rfl (by omega)
      · obtain rfl : n = s.size + 1 := by omega
        have hci : ¬ ((s.size : Int) + 1) < (s.size : Int) + 1 := by omega
        obtain ⟨l, hl0⟩ : ∃ l, l = sizesF t m (bl s) false (s.size + 1) := ⟨_, rfl⟩
        have hH : Hid (cutN t m (bl s) false longest = if longest then l.getLastD 0 else l.headD 0) := by unfold Hid cutN; rw [bl_length, hl0]
        have hmem : Hid (∀ x ∈ l, x ≤ s.size) := fun x hx => by rw [hl0] at hx; have := sizes_mem hx; omega
        have hlen2 : l.length ≤ s.size + 1 := by rw [hl0]; unfold sizesF; exact Nat.le_trans (List.length_filter_le _ _) (by simp)
        rw [← hl0] at HOWN
        rw [← hl0]
        clear hl0 HG
        by_cases hnil : l = []
        · subst hnil
          go_wp2_with fail
          go_ret
          exact ⟨by rw [show cutF t m s false longest = s from by unfold cutF; rw [hH.out]; cases longest <;> simp [extract_all]]; rfl, hbel⟩
        · obtain ⟨gq, cq, hv, q0, q1⟩ := sizes_cells HOWN.out hnil
          have hv2 : ao = some ⟨gq, 0, none⟩ := by simp only [Value.slice.injEq] at hv; exact hv.1
          subst hv2; clear hv
          have hpos : 0 < l.length := List.length_pos_iff.2 hnil
          have hd1 : l.headD 0 ≤ s.size := by
            refine hmem.out _ ?_
            cases l with
            | nil => exact absurd rfl hnil
            | cons x r => simp
          have hd2 : l.getLastD 0 ≤ s.size := by
            refine hmem.out _ ?_
            rw [List.getLastD_eq_getLast?, List.getLast?_eq_some_getLast hnil]
            exact List.getLast_mem hnil
          obtain ⟨x1, hx1⟩ : ∃ x1, x1 = l.headD 0 := ⟨_, rfl⟩
          obtain ⟨x2, hx2⟩ : ∃ x2, x2 = l.getLastD 0 := ⟨_, rfl⟩
          rw [← hx1] at q0 hd1 hH; rw [← hx2] at q1 hd2 hH
          obtain ⟨L, hL⟩ : ∃ L, L = l.length := ⟨_, rfl⟩
          rw [← hL] at q1 hpos hlen2; rw [← hL]
          clear hx1 hx2 hmem HOWN hL hnil
          obtain ⟨L', rfl⟩ : ∃ L', L = L' + 1 := ⟨L - 1, by omega⟩
          rw [Nat.add_sub_cancel] at q1
          have hL0 : ((L' : Int) + 1 == 0) = false := by simp; omega
          cases longest
          · go_wp2_with fail
            go_ret
            exact ⟨by rw [show cutF t m s false false = s.extract x1 s.size from by unfold cutF; rw [hH.out]; rfl]; rfl, hbel⟩
          · go_wp2_with fail
            go_ret
            exact ⟨by rw [show cutF t m s false true = s.extract x2 s.size from by unfold cutF; rw [hH.out]; rfl]; rfl, hbel⟩
  · go_enter Tryd.func18, Tryd.ntmps18
    go_wp2_with fail
    have hst : Hid (CutRel t m (bl s) s.size true w (s.size + 1) (.slice none 0 0) (.int .i64 ((0 : Nat) : Int)) (w.alloc (.cells #[.string t, .string m] 31))) :=
      ⟨0, rfl, Nat.zero_le _, RowIs.new _ _ _, World.ownsRow_nil _ _ _ _, (Below.refl _ _).alloc (Nat.le_refl _) _, by omega⟩
    go_loopg [9, 16] (s.size + 1) (fun g v k wr => CutRel t m (bl s) s.size true w g v k wr)
    case atStart => exact hst.out
    case round =>
      clear hst
      obtain ⟨n, rfl, hn, r0, hown, hbel, hg⟩ := hrel
      have HG := Lib.hid hg; clear hg
      obtain ⟨c0, c1, l0⟩ := pat_facts r0
      obtain ⟨ao, cap, rfl⟩ := own_slice hown
      have HOWN := Lib.hid hown; clear hown
      by_cases hl : n < s.size + 1
      · have hci : (n : Int) < (s.size : Int) + 1 := by omega
        have hlen : (sizesF t m (bl s) true n).length ≤ n := by unfold sizesF; exact Nat.le_trans (List.length_filter_le _ _) (by simp)
        obtain ⟨b, hb⟩ : ∃ b, matchF t m (partF (bl s) true n) = b := ⟨_, rfl⟩
        have HB := Lib.hid hb; clear hb
        go_wp2_with fail
        refine (match_at t m _ ht (by rw [ByteArray.size_extract]; omega) b (by rw [← HB.out, bl_extract]; simp only [partF, if_true, bl_length]; rw [List.take_of_length_le (by rw [List.length_drop, bl_length]; exact Nat.le_refl _)]) _).mono ?_
        rintro e w2 ⟨rfl, hk⟩
        have hbs : w.heap.size ≤ w2.heap.size := Nat.le_trans hbel.size hk.size
        have HO := own_below HOWN.out hk
        have hG := HG.out
        cases b
        · go_wp2_with fail
          go_roundg (s.size - n)
          case measure => omega
          case rel => exact cut_skip (by omega) r0 HOWN.out hbel hk HB.out (by omega)
        · go_wp2_with (at_builtin; refine wpList_push rfl _ _ _ rfl w.heap.size 3 _ 8 Tryd.underlying41 info3 rfl _ _ _ rfl HO _ _ rfl (by simp) rfl (by unfold maxLen; omega) hbs ?_; intro v' w5 ho5 hg5; obtain ⟨ao', cap', rfl⟩ := own_slice ho5)
          go_roundg (s.size - n)
          case measure => omega
          case rel => exact cut_push (by omega) r0 HOWN.out hbel hk HB.out hg5 ho5 rfl (by omega)
      · obtain rfl : n = s.size + 1 := by omega
        have hci : ¬ ((s.size : Int) + 1) < (s.size : Int) + 1 := by omega
        obtain ⟨l, hl0⟩ : ∃ l, l = sizesF t m (bl s) true (s.size + 1) := ⟨_, rfl⟩
        have hH : Hid (cutN t m (bl s) true longest = if longest then l.getLastD 0 else l.headD 0) := by unfold Hid cutN; rw [bl_length, hl0]
        have hmem : Hid (∀ x ∈ l, x ≤ s.size) := fun x hx => by rw [hl0] at hx; have := sizes_mem hx; omega
        have hlen2 : l.length ≤ s.size + 1 := by rw [hl0]; unfold sizesF; exact Nat.le_trans (List.length_filter_le _ _) (by simp)
        rw [← hl0] at HOWN
        rw [← hl0]
        clear hl0 HG
        by_cases hnil : l = []
        · subst hnil
          go_wp2_with fail
          go_ret
          exact ⟨by rw [show cutF t m s true longest = s from by unfold cutF; rw [hH.out]; cases longest <;> simp [extract_all]]; rfl, hbel⟩
        · obtain ⟨gq, cq, hv, q0, q1⟩ := sizes_cells HOWN.out hnil
          have hv2 : ao = some ⟨gq, 0, none⟩ := by simp only [Value.slice.injEq] at hv; exact hv.1
          subst hv2; clear hv
          have hpos : 0 < l.length := List.length_pos_iff.2 hnil
          have hd1 : l.headD 0 ≤ s.size := by
            refine hmem.out _ ?_
            cases l with
            | nil => exact absurd rfl hnil
            | cons x r => simp
          have hd2 : l.getLastD 0 ≤ s.size := by
            refine hmem.out _ ?_
            rw [List.getLastD_eq_getLast?, List.getLast?_eq_some_getLast hnil]
            exact List.getLast_mem hnil
          obtain ⟨x1, hx1⟩ : ∃ x1, x1 = l.headD 0 := ⟨_, rfl⟩
          obtain ⟨x2, hx2⟩ : ∃ x2, x2 = l.getLastD 0 := ⟨_, rfl⟩
          rw [← hx1] at q0 hd1 hH; rw [← hx2] at q1 hd2 hH
          obtain ⟨L, hL⟩ : ∃ L, L = l.length := ⟨_, rfl⟩
          rw [← hL] at q1 hpos hlen2; rw [← hL]
          clear hx1 hx2 hmem HOWN hL hnil
          obtain ⟨L', rfl⟩ : ∃ L', L = L' + 1 := ⟨L - 1, by omega⟩
          rw [Nat.add_sub_cancel] at q1
          have hL0 : ((L' : Int) + 1 == 0) = false := by simp; omega
          cases longest
          · go_wp2_with fail
            go_ret
            exact ⟨by rw [show cutF t m s true false = s.extract 0 (s.size - x1) from by unfold cutF; rw [hH.out]; rfl]; rfl, hbel⟩
          · go_wp2_with fail
            go_ret
            exact ⟨by rw [show cutF t m s true true = s.extract 0 (s.size - x2) from by unfold cutF; rw [hH.out]; rfl]; rfl, hbel⟩
end Go.Proofs.YtmcaphmgjhkgfaaDoor
