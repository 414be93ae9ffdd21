/-
  DERIVED. The walk of glob's Cut: a text without a pattern's text at its beginning, or its end. The plain law of quoting: a text, quoted, matches itself alone; with a star behind what begins with it; with two stars about it what has it. No program in sight. The walks of param's trims, Trim. Plain: what is cut off by a quoted text, and by a star. No program in sight. The plain side of the library's ParseUint at base 0: what is gathered below the greatest number of 64 bits without a sign; a letter made small. No program in sight.
-/
import Derived.Test.YtkmpbkhlcapbgaaGreatDoorZ32
import Derived.Lib.Strings
import Derived.Test.YtkmpbkhlcapbgaaGreatDoorZ20
import Derived.WalkKit
import Derived.WalkSpells
import Derived.WalkLawsBesides
import Derived.Handy
import Derived.BigQuiet
import Derived.Deep.QuietTactic
import Derived.Test.YtkmpbkhlcapbgaaGreatDoorZ01
import Derived.Laws.Closers25b
namespace Go.Proofs.YtkmpbkhlcapbgaaGreatDoor.Gb
open Go.RowKit
/-- The n bytes at the beginning, or the end. -/
def partF (S : List Int) (fin : Bool) (n : Nat) : List Int := if fin then S.drop (S.length - n) else S.take n
/-- How many bytes may be cut off. -/
def sizesF (t m : ByteArray) (S : List Int) (fin : Bool) (k : Nat) : List Nat := (List.range k).filter fun n => matchF t m (partF S fin n)
/-- How many bytes are cut off. -/
def cutN (t m : ByteArray) (S : List Int) (fin longest : Bool) : Nat :=
  let l := sizesF t m S fin (S.length + 1)
  if longest then l.getLastD 0 else l.headD 0
def cutF (t m s : ByteArray) (fin longest : Bool) : ByteArray :=
  if fin then s.extract 0 (s.size - cutN t m (bl s) fin longest) else s.extract (cutN t m (bl s) fin longest) s.size
theorem bl_extract (s : ByteArray) (a b : Nat) : bl (s.extract a b) = ((bl s).drop a).take (b - a) := by
  unfold bl; rw [Lib.extract_data, List.map_take, List.map_drop]
theorem info3 : (Tryz.prog.info? 3).map (fun i => (i.zero, i.size, i.bytes)) = some (some (.int .i64 0), 1, 8) := by kernel_rfl
theorem sizesF_succ (t m : ByteArray) (S : List Int) (fin : Bool) (k : Nat) : sizesF t m S fin (k + 1) = sizesF t m S fin k ++ (if matchF t m (partF S fin k) then [k] else []) := by
  unfold sizesF; rw [List.range_succ, List.filter_append]; congr 1
  by_cases h : matchF t m (partF S fin k) = true <;> simp [h]
theorem sizes_mem {t m : ByteArray} {S : List Int} {fin : Bool} {k x : Nat} (h : x ∈ sizesF t m S fin k) : x < k := by
  unfold sizesF at h; exact List.mem_range.1 (List.mem_filter.1 h).1
theorem extract_all (s : ByteArray) : s.extract 0 s.size = s := by
  rw [Lib.extract_eq, List.drop_zero, Nat.sub_zero, List.take_of_length_le (by rw [← Lib.size_eq]; exact Nat.le_refl _), Lib.mk_data]
/-- What the end of Cut reads of the sizes. -/
theorem sizes_cells {w : World} {b e : Nat} {v : Value} {l : List Nat} (h : w.ownsRow b e 1 v l.length (l.map fun x : Nat => Value.int .i64 (x : Int))) (hl : l ≠ []) :
    ∃ g cap, v = .slice (some ⟨g, 0, none⟩) l.length cap ∧ w.cell? ⟨g, 0, none⟩ = some (.int .i64 (l.headD 0 : Nat)) ∧ w.cell? ⟨g, l.length - 1, none⟩ = some (.int .i64 (l.getLastD 0 : Nat)) := by
  have hp : 0 < l.length := List.length_pos_iff.2 hl
  obtain ⟨g, cap, hv, _, _, _, hc⟩ := own_cells h hp
  refine ⟨g, cap, hv, ?_, ?_⟩
  · rw [hc 0 (by omega)]
    cases l with
    | nil => exact absurd rfl hl
    | cons x r => rfl
  · rw [hc _ (by omega), List.getElem?_map, List.getElem?_eq_getElem (by omega)]
    simp only [Option.map_some, Option.some.injEq, Value.int.injEq, true_and]
    rw [List.getLastD_eq_getLast?, List.getLast?_eq_getElem?, List.getElem?_eq_getElem (by omega)]
    rfl
def CutRel (t m : ByteArray) (S : List Int) (N : Nat) (fin : Bool) (w : World) (g : Nat) (v k : Value) (wr : World) : Prop :=
  ∃ n : Nat, k = .int .i64 n ∧ n ≤ N + 1 ∧ RowIs wr w.heap.size 135 [.string t, .string m] ∧
    wr.ownsRow w.heap.size 3 1 v (sizesF t m S fin n).length ((sizesF t m S fin n).map fun x : Nat => Value.int .i64 (x : Int)) ∧ Below w.heap.size w wr ∧ n + g = N + 1
theorem match_at (t m s : ByteArray) (ht : t.size ≤ 1000000000) (hs : s.size ≤ 1000000000) (b : Bool) (h : matchF t m (bl s) = b) (w : World) :
    Calls Tryz.prog 149 #[.agg #[.string t, .string m], .string s] w fun e w' => e = .returned (.bool b) ∧ Below w.heap.size w w' := by
  subst h; exact match_any t m s ht hs w
theorem cut_skip {t m : ByteArray} {S : List Int} {N n g : Nat} {fin : Bool} {w wr w2 : World} {v : Value} (hn : n ≤ N) (r0 : RowIs wr w.heap.size 135 [.string t, .string m])
    (hown : wr.ownsRow w.heap.size 3 1 v (sizesF t m S fin n).length ((sizesF t m S fin n).map fun x : Nat => Value.int .i64 (x : Int))) (hbel : Below w.heap.size w wr) (hk : Below wr.heap.size wr w2)
    (h : matchF t m (partF S fin n) = false) (hg : n + 1 + g = N + 1) : CutRel t m S N fin w g v (.int .i64 ((n + 1 : Nat) : Int)) w2 := by
  have e : sizesF t m S fin (n + 1) = sizesF t m S fin n := by rw [sizesF_succ, h]; simp
  exact ⟨n + 1, rfl, by omega, r0.below hk, by rw [e]; exact own_below hown hk, hbel.trans (hk.mono hbel.size), hg⟩
theorem cut_push {t m : ByteArray} {S : List Int} {N n g q : Nat} {fin : Bool} {w wr w2 w5 : World} {v v' : Value} (hn : n ≤ N) (r0 : RowIs wr w.heap.size 135 [.string t, .string m])
    (hown : wr.ownsRow w.heap.size 3 1 v (sizesF t m S fin n).length ((sizesF t m S fin n).map fun x : Nat => Value.int .i64 (x : Int))) (hbel : Below w.heap.size w wr) (hk : Below wr.heap.size wr w2)
    (h : matchF t m (partF S fin n) = true) (hg5 : (w2.alloc (.cells #[.int .i64 (n : Int)] 3)).grownBy w5 v.ownBlock)
    (ho : w5.ownsRow w.heap.size 3 1 v' q ((sizesF t m S fin n).map (fun x : Nat => Value.int .i64 (x : Int)) ++ [.int .i64 (n : Int)])) (hq : q = (sizesF t m S fin n).length + 1) (hg : n + 1 + g = N + 1) : CutRel t m S N fin w g v' (.int .i64 ((n + 1 : Nat) : Int)) w5 := by
  have e : sizesF t m S fin (n + 1) = sizesF t m S fin n ++ [n] := by rw [sizesF_succ, h]; simp
  have hv := (own_below hown hk).alloc (.cells #[.int .i64 (n : Int)] 3)
  have hk1 := hk.alloc hk.size (.cells #[.int .i64 (n : Int)] 3)
  subst hq
  refine ⟨n + 1, rfl, by omega, ?_, by rw [e]; simpa using ho, ?_, hg⟩
  · have h1 := r0.below hk1
    unfold RowIs
    rw [hg5.block _ h1.lt (fun e => own_not_row hv h1 (by decide) e.symm)]; exact h1
  · have h1 : Below w.heap.size w (w2.alloc (.cells #[.int .i64 (n : Int)] 3)) := hbel.trans (hk1.mono hbel.size)
    exact h1.grown hg5 h1.size (fun k hk' => (hv.lt k hk').1)
set_option maxRecDepth 100000 in
set_option maxHeartbeats 4000000 in
theorem cut_any (s t m : ByteArray) (fin longest : Bool) (ht : t.size ≤ 1000000000) (hs : s.size ≤ 1000000000) (w : World) :
    Calls Tryz.prog 125 #[.string s, .agg #[.string t, .string m], .bool fin, .bool longest] w fun e w' => e = .returned (.string (cutF t m s fin longest)) ∧ Below w.heap.size w w' := by
  cases fin
  · go_enter Tryz.func125, Tryz.ntmps125
    go_wp2_with fail
    have hst : Hid (CutRel t m (bl s) s.size false w (s.size + 1) (.slice none 0 0) (.int .i64 ((0 : Nat) : Int)) (w.alloc (.cells #[.string t, .string m] 135))) :=
      ⟨0, rfl, Nat.zero_le _, RowIs.new _ _ _, World.ownsRow_nil _ _ _ _, (Below.refl _ _).alloc (Nat.le_refl _) _, by omega⟩
    go_loopg [9, 16] (s.size + 1) (fun g v k wr => CutRel t m (bl s) s.size false w g v k wr)
    case atStart => exact hst.out
    case round =>
      clear hst
      obtain ⟨n, rfl, hn, r0, hown, hbel, hg⟩ := hrel
      have HG := Lib.hid hg; clear hg
      obtain ⟨c0, c1, l0⟩ := pat_facts r0
      obtain ⟨ao, cap, rfl⟩ := own_slice hown
      have HOWN := Lib.hid hown; clear hown
      by_cases hl : n < s.size + 1
      · have hci : (n : Int) < (s.size : Int) + 1 := by omega
        have hlen : (sizesF t m (bl s) false n).length ≤ n := by unfold sizesF; exact Nat.le_trans (List.length_filter_le _ _) (by simp)
        obtain ⟨b, hb⟩ : ∃ b, matchF t m (partF (bl s) false n) = b := ⟨_, rfl⟩
        have HB := Lib.hid hb; clear hb
        go_wp2_with fail
        refine (match_at t m _ ht (by rw [ByteArray.size_extract]; omega) b (by rw [← HB.out, bl_extract]; simp [partF]) _).mono ?_
        rintro e w2 ⟨rfl, hk⟩
        have hbs : w.heap.size ≤ w2.heap.size := Nat.le_trans hbel.size hk.size
        have HO := own_below HOWN.out hk
        have hG := HG.out
        cases b
        · go_wp2_with fail
          go_roundg (s.size - n)
          case measure => omega
          case rel => exact cut_skip (by omega) r0 HOWN.out hbel hk HB.out (by omega)
        · go_wp2_with (at_builtin; refine wpList_push rfl _ _ _ rfl w.heap.size 3 _ 8 Tryz.underlying58 info3 rfl _ _ _ rfl HO _ _ rfl (by simp) rfl (by unfold maxLen; omega) hbs ?_; intro v' w5 ho5 hg5; obtain ⟨ao', cap', rfl⟩ := own_slice ho5)
          go_roundg (s.size - n)
          case measure => omega
          case rel => exact cut_push (by omega) r0 HOWN.out hbel hk HB.out hg5 ho5 rfl (by omega)
      · obtain rfl : n = s.size + 1 := by omega
        have hci : ¬ ((s.size : Int) + 1) < (s.size : Int) + 1 := by omega
        obtain ⟨l, hl0⟩ : ∃ l, l = sizesF t m (bl s) false (s.size + 1) := ⟨_, rfl⟩
        have hH : Hid (cutN t m (bl s) false longest = if longest then l.getLastD 0 else l.headD 0) := by unfold Hid cutN; rw [bl_length, hl0]
        have hmem : Hid (∀ x ∈ l, x ≤ s.size) := fun x hx => by rw [hl0] at hx; have := sizes_mem hx; omega
        have hlen2 : l.length ≤ s.size + 1 := by rw [hl0]; unfold sizesF; exact Nat.le_trans (List.length_filter_le _ _) (by simp)
        rw [← hl0] at HOWN
        rw [← hl0]
        clear hl0 HG
        by_cases hnil : l = []
        · subst hnil
          go_wp2_with fail
          go_ret
          exact ⟨by rw [show cutF t m s false longest = s from by unfold cutF; rw [hH.out]; cases longest <;> simp]; rfl, hbel⟩
        · obtain ⟨gq, cq, hv, q0, q1⟩ := sizes_cells HOWN.out hnil
          have hv2 : ao = some ⟨gq, 0, none⟩ := by simp only [Value.slice.injEq] at hv; exact hv.1
          subst hv2; clear hv
          have hpos : 0 < l.length := List.length_pos_iff.2 hnil
          have hd1 : l.headD 0 ≤ s.size := by
            refine hmem.out _ ?_
            cases l with
            | nil => exact absurd rfl hnil
            | cons x r => simp
          have hd2 : l.getLastD 0 ≤ s.size := by
            refine hmem.out _ ?_
            rw [List.getLastD_eq_getLast?, List.getLast?_eq_some_getLast hnil]
            exact List.getLast_mem hnil
          obtain ⟨x1, hx1⟩ : ∃ x1, x1 = l.headD 0 := ⟨_, rfl⟩
          obtain ⟨x2, hx2⟩ : ∃ x2, x2 = l.getLastD 0 := ⟨_, rfl⟩
          rw [← hx1] at q0 hd1 hH; rw [← hx2] at q1 hd2 hH
          obtain ⟨L, hL⟩ : ∃ L, L = l.length := ⟨_, rfl⟩
          rw [← hL] at q1 hpos hlen2; rw [← hL]
          clear hx1 hx2 hmem HOWN hL hnil
          obtain ⟨L', rfl⟩ : ∃ L', L = L' + 1 := ⟨L - 1, by omega⟩
          rw [Nat.add_sub_cancel] at q1
          have hL0 : ((L' : Int) + 1 == 0) = false := by simp; omega
          cases longest
          · go_wp2_with fail
            go_ret
            exact ⟨by rw [show cutF t m s false false = s.extract x1 s.size from by unfold cutF; rw [hH.out]; rfl]; rfl, hbel⟩
          · go_wp2_with fail
            go_ret
            exact ⟨by rw [show cutF t m s false true = s.extract x2 s.size from by unfold cutF; rw [hH.out]; rfl]; rfl, hbel⟩
  · go_enter Tryz.func125, Tryz.ntmps125
    go_wp2_with fail
    have hst : Hid (CutRel t m (bl s) s.size true w (s.size + 1) (.slice none 0 0) (.int .i64 ((0 : Nat) : Int)) (w.alloc (.cells #[.string t, .string m] 135))) :=
      ⟨0, rfl, Nat.zero_le _, RowIs.new _ _ _, World.ownsRow_nil _ _ _ _, (Below.refl _ _).alloc (Nat.le_refl _) _, by omega⟩
    go_loopg [9, 16] (s.size + 1) (fun g v k wr => CutRel t m (bl s) s.size true w g v k wr)
    case atStart => exact hst.out
    case round =>
      clear hst
      obtain ⟨n, rfl, hn, r0, hown, hbel, hg⟩ := hrel
      have HG := Lib.hid hg; clear hg
      obtain ⟨c0, c1, l0⟩ := pat_facts r0
      obtain ⟨ao, cap, rfl⟩ := own_slice hown
      have HOWN := Lib.hid hown; clear hown
      by_cases hl : n < s.size + 1
      · have hci : (n : Int) < (s.size : Int) + 1 := by omega
        have hlen : (sizesF t m (bl s) true n).length ≤ n := by unfold sizesF; exact Nat.le_trans (List.length_filter_le _ _) (by simp)
        obtain ⟨b, hb⟩ : ∃ b, matchF t m (partF (bl s) true n) = b := ⟨_, rfl⟩
        have HB := Lib.hid hb; clear hb
        go_wp2_with fail
        refine (match_at t m _ ht (by rw [ByteArray.size_extract]; omega) b (by rw [← HB.out, bl_extract]; simp only [partF, if_true, bl_length]; rw [List.take_of_length_le (by rw [List.length_drop, bl_length]; exact Nat.le_refl _)]) _).mono ?_
        rintro e w2 ⟨rfl, hk⟩
        have hbs : w.heap.size ≤ w2.heap.size := Nat.le_trans hbel.size hk.size
        have HO := own_below HOWN.out hk
        have hG := HG.out
        cases b
        · go_wp2_with fail
          go_roundg (s.size - n)
          case measure => omega
          case rel => exact cut_skip (by omega) r0 HOWN.out hbel hk HB.out (by omega)
        · go_wp2_with (at_builtin; refine wpList_push rfl _ _ _ rfl w.heap.size 3 _ 8 Tryz.underlying58 info3 rfl _ _ _ rfl HO _ _ rfl (by simp) rfl (by unfold maxLen; omega) hbs ?_; intro v' w5 ho5 hg5; obtain ⟨ao', cap', rfl⟩ := own_slice ho5)
          go_roundg (s.size - n)
          case measure => omega
          case rel => exact cut_push (by omega) r0 HOWN.out hbel hk HB.out hg5 ho5 rfl (by omega)
      · obtain rfl : n = s.size + 1 := by omega
        have hci : ¬ ((s.size : Int) + 1) < (s.size : Int) + 1 := by omega
        obtain ⟨l, hl0⟩ : ∃ l, l = sizesF t m (bl s) true (s.size + 1) := ⟨_, rfl⟩
        have hH : Hid (cutN t m (bl s) true longest = if longest then l.getLastD 0 else l.headD 0) := by unfold Hid cutN; rw [bl_length, hl0]
        have hmem : Hid (∀ x ∈ l, x ≤ s.size) := fun x hx => by rw [hl0] at hx; have := sizes_mem hx; omega
        have hlen2 : l.length ≤ s.size + 1 := by rw [hl0]; unfold sizesF; exact Nat.le_trans (List.length_filter_le _ _) (by simp)
        rw [← hl0] at HOWN
        rw [← hl0]
        clear hl0 HG
        by_cases hnil : l = []
        · subst hnil
          go_wp2_with fail
          go_ret
          exact ⟨by rw [show cutF t m s true longest = s from by unfold cutF; rw [hH.out]; cases longest <;> simp]; rfl, hbel⟩
        · obtain ⟨gq, cq, hv, q0, q1⟩ := sizes_cells HOWN.out hnil
          have hv2 : ao = some ⟨gq, 0, none⟩ := by simp only [Value.slice.injEq] at hv; exact hv.1
          subst hv2; clear hv
          have hpos : 0 < l.length := List.length_pos_iff.2 hnil
          have hd1 : l.headD 0 ≤ s.size := by
            refine hmem.out _ ?_
            cases l with
            | nil => exact absurd rfl hnil
            | cons x r => simp
          have hd2 : l.getLastD 0 ≤ s.size := by
            refine hmem.out _ ?_
            rw [List.getLastD_eq_getLast?, List.getLast?_eq_some_getLast hnil]
            exact List.getLast_mem hnil
          obtain ⟨x1, hx1⟩ : ∃ x1, x1 = l.headD 0 := ⟨_, rfl⟩
          obtain ⟨x2, hx2⟩ : ∃ x2, x2 = l.getLastD 0 := ⟨_, rfl⟩
          rw [← hx1] at q0 hd1 hH; rw [← hx2] at q1 hd2 hH
          obtain ⟨L, hL⟩ : ∃ L, L = l.length := ⟨_, rfl⟩
          rw [← hL] at q1 hpos hlen2; rw [← hL]
          clear hx1 hx2 hmem HOWN hL hnil
          obtain ⟨L', rfl⟩ : ∃ L', L = L' + 1 := ⟨L - 1, by omega⟩
          rw [Nat.add_sub_cancel] at q1
          have hL0 : ((L' : Int) + 1 == 0) = false := by simp; omega
          cases longest
          · go_wp2_with fail
            go_ret
            exact ⟨by rw [show cutF t m s true false = s.extract 0 (s.size - x1) from by unfold cutF; rw [hH.out]; rfl]; rfl, hbel⟩
          · go_wp2_with fail
            go_ret
            exact ⟨by rw [show cutF t m s true true = s.extract 0 (s.size - x2) from by unfold cutF; rw [hH.out]; rfl]; rfl, hbel⟩
end Go.Proofs.YtkmpbkhlcapbgaaGreatDoor.Gb
namespace Go.Proofs.YtkmpbkhlcapbgaaGreatDoor.Gb
open Go
def selfS (c : Int) : Sg := ⟨0, c, false, []⟩
def starS : Sg := ⟨2, 0, false, []⟩
theorem bl_append (a b : ByteArray) : bl (a ++ b) = bl a ++ bl b := by simp [bl]
theorem bl_inj {a b : ByteArray} (h : bl a = bl b) : a = b := by
  have h2 : a.data.toList = b.data.toList := by
    unfold bl at h
    refine (List.map_inj_right ?_).1 h
    intro x y hxy
    have : x.toNat = y.toNat := by omega
    exact UInt8.toNat_inj.1 this
  rw [← Lib.mk_data a, ← Lib.mk_data b, h2]
theorem toList_eq (a b : ByteArray) : (a.toList == b.toList) = decide (bl a = bl b) := by
  rw [Bool.eq_iff_iff, beq_iff_eq, decide_eq_true_eq, Lib.toList_data, Lib.toList_data]
  constructor
  · intro h; unfold bl; rw [h]
  · intro h; rw [bl_inj h]
theorem bt_at (x : ByteArray) (l : List Int) (h : bl x = l) (k : Nat) (hk : k < l.length) : bt x k = l[k] := by
  subst h
  have : k < x.size := by rw [bl_length] at hk; exact hk
  rw [bl_get x k this]
theorem isB_quoted {t m : ByteArray} {i : Nat} (h : quotedB m i = true) (c : Int) : isB t m i c = false := by simp [isB, h]
/-- Over what is quoted each byte is a sign of its own. -/
theorem signs_run (t m : ByteArray) : ∀ (d i : Nat), i + d ≤ t.size → (∀ k, i ≤ k → k < i + d → quotedB m k = true) → signsFrom t m i = (((bl t).drop i).take d).map selfS ++ signsFrom t m (i + d) := by
  intro d
  induction d with
  | zero => intro i _ _; simp
  | succ d ih =>
    intro i hi hq
    have h0 := hq i (Nat.le_refl _) (by omega)
    have hlt : i < t.size := by omega
    rw [signs_self hlt (isB_quoted h0 _) (isB_quoted h0 _) (isB_quoted h0 _), ih (i + 1) (by omega) (fun k h1 h2 => hq k (by omega) (by omega))]
    have e : ((bl t).drop i).take (d + 1) = bt t i :: ((bl t).drop (i + 1)).take d := by
      rw [List.drop_eq_getElem_cons (by rw [bl_length]; exact hlt), List.take_succ_cons, bl_get t i hlt]
    rw [e, List.map_cons, List.cons_append, show i + (d + 1) = i + 1 + d from by omega]
    rfl
theorem M_selfs (l x : List Int) : M (l.map selfS) x = true ↔ x = l := by
  induction l generalizing x with
  | nil => simp [M]
  | cons c l ih =>
    rw [List.map_cons, M_cons_one (by show (0 : Nat) ≠ 2; decide)]
    constructor
    · rintro ⟨c', x', rfl, hc, hx⟩
      have : c = c' := by simpa [selfS, Sg.has] using hc
      rw [this, (ih x').1 hx]
    · rintro rfl
      exact ⟨c, l, rfl, by simp [selfS, Sg.has], (ih l).2 rfl⟩
/-- The mask that quotes n bytes. -/
def qm (n : Nat) : ByteArray := ⟨(List.replicate n 113).toArray⟩
theorem qm_size (n : Nat) : (qm n).size = n := by simp [qm, ByteArray.size]
theorem qm_succ (n : Nat) : qm n ++ ⟨#[113]⟩ = qm (n + 1) := by
  unfold qm
  rw [mk_append (List.replicate n 113) [113], ← List.replicate_succ']
theorem bl_qm (n : Nat) : bl (qm n) = List.replicate n 113 := by simp [bl, qm]
theorem qm_quoted {n i : Nat} (h : i < n) : quotedB (qm n) i = true := by
  unfold quotedB
  rw [qm_size, bt_at _ _ (bl_qm n) i (by simpa using h)]
  simp [h]
theorem signs_q (s : ByteArray) : signsFrom s (qm s.size) 0 = (bl s).map selfS := by
  rw [signs_run s (qm s.size) s.size 0 (by omega) (fun k _ h => qm_quoted (by omega)), signs_end (by omega), List.drop_zero, List.take_of_length_le (by rw [bl_length]; exact Nat.le_refl _), List.append_nil]
theorem size_append (a b : ByteArray) : (a ++ b).size = a.size + b.size := by simp
theorem signs_qs (s : ByteArray) : signsFrom (s ++ ⟨#[42]⟩) (qm s.size) 0 = (bl s).map selfS ++ [starS] := by
  have hsz : (s ++ (⟨#[42]⟩ : ByteArray)).size = s.size + 1 := by rw [size_append]; rfl
  have hbl : bl (s ++ (⟨#[42]⟩ : ByteArray)) = bl s ++ [42] := by rw [bl_append]; rfl
  rw [signs_run _ (qm s.size) s.size 0 (by omega) (fun k _ h => qm_quoted (by omega)), hbl, List.drop_zero, List.take_append_of_le_length (by rw [bl_length]; exact Nat.le_refl _), List.take_of_length_le (by rw [bl_length]; exact Nat.le_refl _), Nat.zero_add]
  congr 1
  have h1 : isB (s ++ ⟨#[42]⟩) (qm s.size) s.size 42 = true := by
    simp only [isB, quotedB, Bool.and_eq_true, decide_eq_true_eq, beq_iff_eq, Bool.not_eq_true', Bool.and_eq_false_iff, decide_eq_false_iff_not]
    refine ⟨⟨by omega, ?_⟩, .inl (by rw [qm_size]; omega)⟩
    rw [bt_at _ _ hbl s.size (by simp [bl_length])]
    rw [List.getElem_append_right (by rw [bl_length]; exact Nat.le_refl _)]; simp
  rw [signs_star (by omega) h1, signs_end (by omega)]
  rfl
theorem signs_sqs (s : ByteArray) : signsFrom (⟨#[42]⟩ ++ s ++ ⟨#[42]⟩) (⟨#[108]⟩ ++ qm s.size) 0 = starS :: ((bl s).map selfS ++ [starS]) := by
  have hsz : ((⟨#[42]⟩ : ByteArray) ++ s ++ (⟨#[42]⟩ : ByteArray)).size = s.size + 2 := by rw [size_append, size_append]; show 1 + s.size + 1 = _; omega
  have hbl : bl ((⟨#[42]⟩ : ByteArray) ++ s ++ (⟨#[42]⟩ : ByteArray)) = 42 :: (bl s ++ [42]) := by rw [bl_append, bl_append]; rfl
  have hmsz : ((⟨#[108]⟩ : ByteArray) ++ qm s.size).size = s.size + 1 := by rw [size_append, qm_size]; show 1 + s.size = _; omega
  have hmbl : bl ((⟨#[108]⟩ : ByteArray) ++ qm s.size) = 108 :: List.replicate s.size 113 := by rw [bl_append, bl_qm]; rfl
  have h0 : isB (⟨#[42]⟩ ++ s ++ ⟨#[42]⟩) (⟨#[108]⟩ ++ qm s.size) 0 42 = true := by
    simp only [isB, quotedB, Bool.and_eq_true, decide_eq_true_eq, beq_iff_eq, Bool.not_eq_true', Bool.and_eq_false_iff, decide_eq_false_iff_not]
    refine ⟨⟨by omega, ?_⟩, .inr ?_⟩
    · rw [bt_at _ _ hbl 0 (by simp)]; rfl
    · rw [bt_at _ _ hmbl 0 (by simp)]; rfl
  rw [signs_star (by omega) h0]
  congr 1
  rw [signs_run _ _ s.size 1 (by omega) (fun k h1 h2 => by
    unfold quotedB
    rw [hmsz, bt_at _ _ hmbl k (by simp; omega)]
    obtain ⟨k', rfl⟩ : ∃ k', k = k' + 1 := ⟨k - 1, by omega⟩
    simp; omega), hbl]
  rw [List.drop_succ_cons, List.drop_zero, List.take_append_of_le_length (by rw [bl_length]; exact Nat.le_refl _), List.take_of_length_le (by rw [bl_length]; exact Nat.le_refl _)]
  congr 1
  have h1 : isB (⟨#[42]⟩ ++ s ++ ⟨#[42]⟩) (⟨#[108]⟩ ++ qm s.size) (1 + s.size) 42 = true := by
    simp only [isB, quotedB, Bool.and_eq_true, decide_eq_true_eq, beq_iff_eq, Bool.not_eq_true', Bool.and_eq_false_iff, decide_eq_false_iff_not]
    refine ⟨⟨by omega, ?_⟩, .inl (by rw [hmsz]; omega)⟩
    rw [bt_at _ _ hbl (1 + s.size) (by simp [bl_length]; omega)]
    simp only [show 1 + s.size = s.size + 1 from by omega, List.getElem_cons_succ]
    rw [List.getElem_append_right (by rw [bl_length]; exact Nat.le_refl _)]; simp
  rw [signs_star (by omega) h1, signs_end (by omega)]
  rfl
/-! ### What they match -/
theorem plain_q (s : ByteArray) : plainF s (qm s.size) = true := by
  unfold plainF; rw [signs_q, List.all_map, List.all_eq_true]; intro x _; rfl
theorem match_q (s t : ByteArray) : (s.toList == t.toList) = matchF s (qm s.size) (bl t) := by
  rw [toList_eq, Bool.eq_iff_iff, decide_eq_true_eq]; unfold matchF; rw [signs_q, M_selfs]
  exact eq_comm
theorem match_qs {s t : ByteArray} : (decide (s.size ≤ t.size) && ((t.extract 0 s.size).toList == s.toList)) = matchF (s ++ ⟨#[42]⟩) (qm s.size) (bl t) := by
  rw [toList_eq, Bool.eq_iff_iff]; unfold matchF; rw [signs_qs, M_append, Bool.and_eq_true, decide_eq_true_eq, decide_eq_true_eq, bl_extract, List.drop_zero, Nat.sub_zero]
  constructor
  · rintro ⟨_, h⟩
    exact ⟨bl s, (bl t).drop s.size, by rw [← h, List.take_append_drop], (M_selfs _ _).2 rfl, M_single_any rfl _⟩
  · rintro ⟨a, b, e, ha, _⟩
    rw [(M_selfs _ _).1 ha] at e
    have hl := congrArg List.length e
    rw [List.length_append, bl_length, bl_length] at hl
    refine ⟨by omega, ?_⟩
    rw [e, List.take_append_of_le_length (by rw [bl_length]; exact Nat.le_refl _), List.take_of_length_le (by rw [bl_length]; exact Nat.le_refl _)]
/-- Does a text lie in another one, below a place? -/
def hasN (s t : ByteArray) (n : Nat) : Bool := (List.range n).any fun i => (t.extract i (i + s.size)).toList == s.toList
theorem hasN_succ (s t : ByteArray) (n : Nat) : hasN s t (n + 1) = (hasN s t n || ((t.extract n (n + s.size)).toList == s.toList)) := by
  unfold hasN; rw [List.range_succ, List.any_append]; simp
theorem match_sqs {s t : ByteArray} {n : Nat} (hn : ¬ n + s.size ≤ t.size) (hn2 : n = 0 ∨ n + s.size ≤ t.size + 1) : hasN s t n = matchF (⟨#[42]⟩ ++ s ++ ⟨#[42]⟩) (⟨#[108]⟩ ++ qm s.size) (bl t) := by
  rw [Bool.eq_iff_iff]; unfold matchF hasN; rw [signs_sqs, M_cons_any rfl, List.any_eq_true]
  constructor
  · rintro ⟨i, hi, h⟩
    have hi' := List.mem_range.1 hi
    rw [toList_eq, decide_eq_true_eq, bl_extract, show i + s.size - i = s.size from by omega] at h
    refine ⟨i, by rw [bl_length]; omega, ?_⟩
    rw [M_append]
    exact ⟨bl s, ((bl t).drop i).drop s.size, by rw [← h, List.take_append_drop], (M_selfs _ _).2 rfl, M_single_any rfl _⟩
  · rintro ⟨i, hi, h⟩
    rw [M_append] at h
    obtain ⟨a, b, e, ha, _⟩ := h
    rw [(M_selfs _ _).1 ha] at e
    have hl := congrArg List.length e
    rw [List.length_append, List.length_drop, bl_length, bl_length] at hl
    rw [bl_length] at hi
    refine ⟨i, List.mem_range.2 (by omega), ?_⟩
    rw [toList_eq, decide_eq_true_eq, bl_extract, show i + s.size - i = s.size from by omega, e, List.take_append_of_le_length (by rw [bl_length]; exact Nat.le_refl _), List.take_of_length_le (by rw [bl_length]; exact Nat.le_refl _)]
end Go.Proofs.YtkmpbkhlcapbgaaGreatDoor.Gb
namespace Go.Proofs.YtkmpbkhlcapbgaaGreatDoor.Gb
open Go Go.RowKit
theorem trims_any (s : ByteArray) (w : World) :
    Calls Tryz.prog 124 #[.string s] w fun e w' => e = .returned (.tuple #[.bool (trimsF s.data.toList).1, .bool (trimsF s.data.toList).2.1, .bool (trimsF s.data.toList).2.2]) ∧ Below w.heap.size w w' := by
  have fin : ∀ {r : Ending}, (Calls Tryz.prog 124 #[.string s] w fun e w' => e = r ∧ ∃ n, w' = w.drewN n) →
      Calls Tryz.prog 124 #[.string s] w fun e w' => e = r ∧ Below w.heap.size w w' := fun h => h.mono fun e w' ⟨he, n, hw⟩ => ⟨he, by rw [hw]; exact below_drewN (Below.refl _ _) n⟩
  have back : ∀ l : List UInt8, s.data.toList = l → s = ⟨l.toArray⟩ := fun l h => by rw [← h, Lib.mk_data]
  refine fin ?_
  unfold trimsF
  by_cases h1 : s.data.toList = [37, 37]
  · rw [h1]; obtain rfl := back _ h1; exact trims_c w
  by_cases h2 : s.data.toList = [35, 35]
  · rw [h2]; obtain rfl := back _ h2; exact trims_d w
  by_cases h3 : s.data.toList = [37]
  · rw [h3]; obtain rfl := back _ h3; exact trims_a w
  by_cases h4 : s.data.toList = [35]
  · rw [h4]; obtain rfl := back _ h4; exact trims_b w
  have f1 : (s.data.toList == [37, 37]) = false := by simpa using h1
  have f2 : (s.data.toList == [35, 35]) = false := by simpa using h2
  have f3 : (s.data.toList == [37]) = false := by simpa using h3
  have f4 : (s.data.toList == [35]) = false := by simpa using h4
  simp only [f1, f2, f3, f4]
  rw [← Lib.toList_data] at f1 f2 f3 f4
  exact trims_no s w f1 f2 f3 f4
/-- A value without what an operation cuts off. -/
def trimF (op value t m : ByteArray) : ByteArray :=
  if (trimsF op.data.toList).1 then cutF t m value (trimsF op.data.toList).2.1 (trimsF op.data.toList).2.2 else value
set_option maxHeartbeats 4000000 in
theorem trim_any (op value t m : ByteArray) (ht : t.size ≤ 1000000000) (hv : value.size ≤ 1000000000) (r : ByteArray) (hr : trimF op value t m = r) (w : World) :
    Calls Tryz.prog 92 #[.string op, .string value, .agg #[.string t, .string m]] w fun e w' => e = .returned (.string r) ∧ Below w.heap.size w w' := by
  have HR : Hid ((if (trimsF op.data.toList).1 then cutF t m value (trimsF op.data.toList).2.1 (trimsF op.data.toList).2.2 else value) = r) := hr
  clear hr
  have HT := Lib.hid (trims_any op)
  obtain ⟨q, hq⟩ : ∃ q, q = trimsF op.data.toList := ⟨_, rfl⟩
  rw [← hq] at HR HT
  clear hq
  obtain ⟨q1, q2, q3⟩ := q
  have hb0 := (Below.refl w.heap.size w).alloc (Nat.le_refl _) (.cells #[.string t, .string m] 135)
  have r0 := RowIs.new w 135 [.string t, .string m]
  cases q1
  · go_enter Tryz.func92, Tryz.ntmps92
    go_wp2_with fail
    refine (HT.out _).mono ?_; rintro e w1 ⟨rfl, hb⟩
    go_wp2_with fail
    go_ret
    exact ⟨by rw [← HR.out]; rfl, hb0.trans (hb.mono (by simp))⟩
  · go_enter Tryz.func92, Tryz.ntmps92
    go_wp2_with fail
    refine (HT.out _).mono ?_; rintro e w1 ⟨rfl, hb⟩
    obtain ⟨c0, c1, l0⟩ := pat_facts (r0.below hb)
    go_wp2_with fail
    refine (cut_any value t m q2 q3 ht hv _).mono ?_; rintro e w2 ⟨rfl, hb2⟩
    have B1 := hb0.trans (hb.mono (by simp))
    go_wp2_with fail
    go_ret
    exact ⟨by rw [← HR.out]; rfl, B1.trans (hb2.mono B1.size)⟩
end Go.Proofs.YtkmpbkhlcapbgaaGreatDoor.Gb
namespace Go.Proofs.YtkmpbkhlcapbgaaGreatDoor.Gb
open Go
theorem mem_sizes {t m : ByteArray} {S : List Int} {fin : Bool} {k x : Nat} : x ∈ sizesF t m S fin k ↔ x < k ∧ matchF t m (partF S fin x) = true := by
  unfold sizesF; rw [List.mem_filter, List.mem_range]
theorem all_one (l : List Nat) (k : Nat) (h : ∀ x ∈ l, x = k) : l.headD 0 = if k ∈ l then k else 0 := by
  cases l with
  | nil => simp
  | cons a l =>
    have := h a (by simp)
    subst this
    simp
theorem bl_drop (v : ByteArray) (k : Nat) : (bl v).drop k = bl (v.extract k v.size) := by
  rw [bl_extract, List.take_of_length_le (by rw [List.length_drop, bl_length]; exact Nat.le_refl _)]
theorem bl_take (v : ByteArray) (k : Nat) : (bl v).take k = bl (v.extract 0 k) := by
  rw [bl_extract, List.drop_zero, Nat.sub_zero]
theorem match_qd (w x : ByteArray) : matchF w (qm w.size) (bl x) = decide (x = w) := by
  rw [← match_q, Bool.eq_iff_iff, beq_iff_eq, decide_eq_true_eq, Lib.toList_data, Lib.toList_data]
  constructor
  · intro h
    rw [← Lib.mk_data x, ← Lib.mk_data w, h]
  · rintro rfl; rfl
theorem size_ex (v : ByteArray) (a b : Nat) (h : b ≤ v.size) : (v.extract a b).size = b - a := by simp; omega
/-- A quoted text, cut off at the end. -/
theorem cut_q_end (v w : ByteArray) : cutF w (qm w.size) v true false = if w.size ≤ v.size ∧ v.extract (v.size - w.size) v.size = w then v.extract 0 (v.size - w.size) else v := by
  unfold cutF cutN
  rw [if_pos rfl]
  have hm : ∀ x, x ∈ sizesF w (qm w.size) (bl v) true ((bl v).length + 1) ↔ x ≤ v.size ∧ v.extract (v.size - x) v.size = w := by
    intro x
    rw [mem_sizes]
    unfold partF
    rw [if_pos rfl, bl_length, bl_drop, match_qd, decide_eq_true_eq]
    constructor
    · rintro ⟨a, b⟩; exact ⟨by omega, b⟩
    · rintro ⟨a, b⟩; exact ⟨by omega, b⟩
  have h1 : ∀ x ∈ sizesF w (qm w.size) (bl v) true ((bl v).length + 1), x = w.size := by
    intro x hx
    obtain ⟨a, b⟩ := (hm x).1 hx
    rw [← b, size_ex _ _ _ (Nat.le_refl _)]; omega
  simp only [Bool.false_eq_true, if_false]
  rw [all_one _ _ h1]
  by_cases h : w.size ≤ v.size ∧ v.extract (v.size - w.size) v.size = w
  · rw [if_pos ((hm _).2 h), if_pos h]
  · rw [if_neg (fun h2 => h ((hm _).1 h2)), if_neg h, Nat.sub_zero, extract_all]
/-- A quoted text, cut off at the beginning. -/
theorem cut_q_begin (v w : ByteArray) : cutF w (qm w.size) v false false = if w.size ≤ v.size ∧ v.extract 0 w.size = w then v.extract w.size v.size else v := by
  unfold cutF cutN
  rw [if_neg (by decide)]
  have hm : ∀ x, x ∈ sizesF w (qm w.size) (bl v) false ((bl v).length + 1) ↔ x ≤ v.size ∧ v.extract 0 x = w := by
    intro x
    rw [mem_sizes]
    unfold partF
    rw [if_neg (by decide), bl_length, bl_take, match_qd, decide_eq_true_eq]
    constructor
    · rintro ⟨a, b⟩; exact ⟨by omega, b⟩
    · rintro ⟨a, b⟩; exact ⟨by omega, b⟩
  have h1 : ∀ x ∈ sizesF w (qm w.size) (bl v) false ((bl v).length + 1), x = w.size := by
    intro x hx
    obtain ⟨a, b⟩ := (hm x).1 hx
    rw [← b, size_ex _ _ _ a]; omega
  simp only [Bool.false_eq_true, if_false]
  rw [all_one _ _ h1]
  by_cases h : w.size ≤ v.size ∧ v.extract 0 w.size = w
  · rw [if_pos ((hm _).2 h), if_pos h]
  · rw [if_neg (fun h2 => h ((hm _).1 h2)), if_neg h, extract_all]
theorem star_signs : signsFrom ⟨#[42]⟩ ⟨#[108]⟩ 0 = [⟨2, 0, false, []⟩] := by
  rw [signs_star (by decide) (by decide), signs_end (by decide)]
theorem star_any (S : List Int) : matchF ⟨#[42]⟩ ⟨#[108]⟩ S = true := by
  unfold matchF
  rw [star_signs]
  exact M_single_any rfl _
theorem star_sizes (S : List Int) (fin : Bool) (k : Nat) : sizesF ⟨#[42]⟩ ⟨#[108]⟩ S fin k = List.range k := by
  unfold sizesF
  rw [List.filter_eq_self]
  intro x _
  exact star_any _
/-- A star, all at the beginning. -/
theorem cut_star_begin (v : ByteArray) : cutF ⟨#[42]⟩ ⟨#[108]⟩ v false true = v.extract v.size v.size := by
  unfold cutF cutN
  rw [if_neg (by decide), star_sizes, bl_length]
  simp only [if_true]
  congr 1
  rw [List.range_succ]
  simp
/-- A star, as little as may be at the end. -/
theorem cut_star_end (v : ByteArray) : cutF ⟨#[42]⟩ ⟨#[108]⟩ v true false = v := by
  unfold cutF cutN
  rw [if_pos rfl, star_sizes, bl_length]
  simp only [Bool.false_eq_true, if_false]
  rw [show (List.range (v.size + 1)).headD 0 = 0 from by rw [List.range_succ_eq_map]; rfl, Nat.sub_zero, extract_all]
theorem qm_is (w : ByteArray) : qm w.size = ⟨(List.replicate w.data.toList.length (113 : UInt8)).toArray⟩ := by
  unfold qm
  simp
end Go.Proofs.YtkmpbkhlcapbgaaGreatDoor.Gb
namespace Go.Proofs.YtkmpbkhlcapbgaaGreatDoor
open Go
def capGo (cap base : Int) : List Int → Int → Option Int
  | [], n => some n
  | c :: r, n => if base ≤ digitV c ∨ cap < n * base + digitV c then none else capGo cap base r (n * base + digitV c)
def maxU : Int := 18446744073709551615
theorem maxU_eq : maxU = 18446744073709551615 := rfl
theorem capGo_ge (cap base : Int) (hb : 1 ≤ base) : ∀ (l : List Int) (n v : Int), 0 ≤ n → capGo cap base l n = some v → n ≤ v := by
  intro l
  induction l with
  | nil => intro n v h0 h; cases h; exact Int.le_refl _
  | cons c l ih =>
    intro n v h0 h
    simp only [capGo] at h
    split at h
    · cases h
    · have hd := digitV_range c
      have h1 : n ≤ n * base := by
        have := Int.mul_le_mul_of_nonneg_left hb h0
        rw [Int.mul_one] at this; exact this
      have := ih _ v (by omega) h
      omega
theorem digGo_cap (base : Int) (hb : base = 8 ∨ base = 10 ∨ base = 16) : ∀ (l : List Int) (n : Int), 0 ≤ n → n ≤ maxI →
    digGo base l n = (capGo maxU base l n).bind fun v => if v ≤ maxI then some v else none := by
  intro l
  induction l with
  | nil => intro n h0 h1; simp [digGo, capGo, h1]
  | cons c l ih =>
    intro n h0 h1
    have hd := digitV_range c
    simp only [digGo, capGo]
    by_cases h2 : base ≤ digitV c
    · rw [if_pos (.inl h2), if_pos (.inl h2)]; rfl
    · by_cases h3 : maxI < n * base + digitV c
      · rw [if_pos (.inr (by rw [maxI_eq] at *; rcases hb with rfl | rfl | rfl <;> omega))]
        split
        · rfl
        · cases hc : capGo maxU base l (n * base + digitV c) with
          | none => rfl
          | some v =>
            have := capGo_ge _ _ (by rcases hb with rfl | rfl | rfl <;> omega) l _ v (by rw [maxI_eq] at h3; omega) hc
            simp; omega
      · rw [if_neg (by rw [maxI_eq] at *; rintro (h | h); exact h2 h; rcases hb with rfl | rfl | rfl <;> omega), if_neg (by rw [maxU_eq, maxI_eq] at *; rintro (h | h); exact h2 h; omega)]
        exact ih _ (by rcases hb with rfl | rfl | rfl <;> omega) (by omega)
theorem low_all : ∀ k : Fin 256, (97 ≤ bits .or .u8 ((k.val : Nat) : Int) 32 ∧ bits .or .u8 ((k.val : Nat) : Int) 32 ≤ 122 ∧ bits .or .u8 ((k.val : Nat) : Int) 32 - 97 + 10 = digitV ((k.val : Nat) : Int) ∧ digitV ((k.val : Nat) : Int) ≤ 15) ∨ k.val ∈ List.range' 48 10 ∨
    (digitV ((k.val : Nat) : Int) = 16 ∧ (¬ 97 ≤ bits .or .u8 ((k.val : Nat) : Int) 32 ∨ ¬ bits .or .u8 ((k.val : Nat) : Int) 32 ≤ 122 ∨ 16 ≤ bits .or .u8 ((k.val : Nat) : Int) 32 - 97 + 10)) := by decide +kernel
/-- A byte that is no digit, made small: a letter up to f, or nothing that a base up to 16 takes. -/
theorem low_cases (c : Int) (h0 : 0 ≤ c) (h1 : c ≤ 255) (hn : ¬ (48 ≤ c ∧ c ≤ 57)) :
    (97 ≤ bits .or .u8 c 32 ∧ bits .or .u8 c 32 ≤ 122 ∧ bits .or .u8 c 32 - 97 + 10 = digitV c ∧ digitV c ≤ 15) ∨
    (digitV c = 16 ∧ (¬ 97 ≤ bits .or .u8 c 32 ∨ ¬ bits .or .u8 c 32 ≤ 122 ∨ 16 ≤ bits .or .u8 c 32 - 97 + 10)) := by
  obtain ⟨n, rfl⟩ := Int.eq_ofNat_of_zero_le h0
  rcases low_all ⟨n, by omega⟩ with h | h | h
  · exact .inl h
  · simp only [List.mem_range'_1] at h; omega
  · exact .inr h
theorem low_is_all : ∀ k : Fin 256, (bits .or .u8 ((k.val : Nat) : Int) 32 = 98 → k.val = 98 ∨ k.val = 66) ∧ (bits .or .u8 ((k.val : Nat) : Int) 32 = 111 → k.val = 111 ∨ k.val = 79) ∧ (bits .or .u8 ((k.val : Nat) : Int) 32 = 120 → k.val = 120 ∨ k.val = 88) := by decide +kernel
theorem low_is (c : Int) (h0 : 0 ≤ c) (h1 : c ≤ 255) : (bits .or .u8 c 32 = 98 → c = 98 ∨ c = 66) ∧ (bits .or .u8 c 32 = 111 → c = 111 ∨ c = 79) ∧ (bits .or .u8 c 32 = 120 → c = 120 ∨ c = 88) := by
  obtain ⟨n, rfl⟩ := Int.eq_ofNat_of_zero_le h0
  have := low_is_all ⟨n, by omega⟩
  simp only at this
  exact ⟨fun h => by have := this.1 h; omega, fun h => by have := this.2.1 h; omega, fun h => by have := this.2.2 h; omega⟩
theorem low_x : bits .or .u8 120 32 = 120 ∧ bits .or .u8 88 32 = 120 := by decide
theorem digitV_dec {c : Int} (h : 48 ≤ c ∧ c ≤ 57) : digitV c = c - 48 := by unfold digitV; rw [if_pos h]
end Go.Proofs.YtkmpbkhlcapbgaaGreatDoor
