/-
  DERIVED. The walk of glob's Pick: the names of some that a pattern matches, rising, each once.
-/
import Derived.Test.YtmcaphmgjhkgfaaGg
import Derived.Test.YtmcaphmgjhkgfaaShelf
import Derived.Test.YtmcaphmgjhkgfaaRp
import Derived.Sort.OwnSorted
namespace Go.Proofs.Ytmcaphmgjhkgfaa
open Go.RowKit Go.Sort Gl
/-- A slice of strings that lies in memory: its elements. -/
def StrsAt (w : World) (v : Value) (ss : List ByteArray) : Prop :=
  ∃ (a : Option Addr) (cap : Nat), v = .slice a ss.length cap ∧ (ss = [] ∨ ∃ b off, a = some ⟨b, off, none⟩ ∧ ∀ i (h : i < ss.length), w.cell? ⟨b, off + i, none⟩ = some (.string ss[i]))
theorem StrsAt.below {w w' : World} {v : Value} {ss : List ByteArray} (h : StrsAt w v ss) (hb : Below w.heap.size w w') : StrsAt w' v ss := by
  obtain ⟨a, cap, hv, h⟩ := h
  refine ⟨a, cap, hv, ?_⟩
  rcases h with h | ⟨b, off, ha, hc⟩
  · exact .inl h
  · exact .inr ⟨b, off, ha, fun i hi => (hb.cell (block_lt_of_cell (hc i hi))).trans (hc i hi)⟩
theorem info9 : (Try.prog.info? 9).map (fun i => (i.zero, i.size, i.bytes)) = some (some (.string ⟨#[]⟩), 1, 16) := by kernel_rfl
/-- Is a name taken? -/
def keepF (t m x : ByteArray) : Bool := !x.data.toList.isEmpty && !(Lib.hasPrefix x.data.toList [46] && !Lib.hasPrefix t.data.toList [46]) && matchF t m (bl x)
def namesF (t m : ByteArray) (ss : List ByteArray) : List Bs := (ss.filter (keepF t m)).map fun x => x.data.toList
def pickF (t m : ByteArray) (ss : List ByteArray) : List Bs := sortC (namesF t m ss)
def PickRel (t m : ByteArray) (ss : List ByteArray) (w : World) (g : Nat) (v k : Value) (wr : World) : Prop :=
  ∃ n : Nat, k = .int .i64 n ∧ n ≤ ss.length ∧ RowIs wr w.heap.size 23 [.string t, .string m] ∧
    wr.ownsRow w.heap.size 9 1 v ((ss.take n).filter (keepF t m)).length (((ss.take n).filter (keepF t m)).map Value.string) ∧ Below w.heap.size w wr ∧ n + g = ss.length
theorem take_keep {t m : ByteArray} {ss : List ByteArray} {n : Nat} (h : n < ss.length) : (ss.take (n + 1)).filter (keepF t m) = (ss.take n).filter (keepF t m) ++ (if keepF t m ss[n] then [ss[n]] else []) := by
  rw [List.take_succ_eq_append_getElem h, List.filter_append]; congr 1
  by_cases h2 : keepF t m ss[n] = true <;> simp [h2]
theorem pick_skip {t m : ByteArray} {ss : List ByteArray} {n g : Nat} {w wr w2 : World} {v : Value} (hn : n < ss.length) (r0 : RowIs wr w.heap.size 23 [.string t, .string m])
    (hown : wr.ownsRow w.heap.size 9 1 v ((ss.take n).filter (keepF t m)).length (((ss.take n).filter (keepF t m)).map Value.string)) (hbel : Below w.heap.size w wr) (hk : Below wr.heap.size wr w2)
    (h : keepF t m ss[n] = false) (hg : n + 1 + g = ss.length) : PickRel t m ss w g v (.int .i64 ((n + 1 : Nat) : Int)) w2 := by
  have e : (ss.take (n + 1)).filter (keepF t m) = (ss.take n).filter (keepF t m) := by rw [take_keep hn, h]; simp
  exact ⟨n + 1, rfl, by omega, r0.below hk, by rw [e]; exact own_below hown hk, hbel.trans (hk.mono hbel.size), hg⟩
theorem pick_push {t m : ByteArray} {ss : List ByteArray} {n g q : Nat} {w wr w2 w5 : World} {v v' : Value} (hn : n < ss.length) (r0 : RowIs wr w.heap.size 23 [.string t, .string m])
    (hown : wr.ownsRow w.heap.size 9 1 v ((ss.take n).filter (keepF t m)).length (((ss.take n).filter (keepF t m)).map Value.string)) (hbel : Below w.heap.size w wr) (hk : Below wr.heap.size wr w2)
    (h : keepF t m ss[n] = true) (hg5 : (w2.alloc (.cells #[.string ss[n]] 9)).grownBy w5 v.ownBlock)
    (ho : w5.ownsRow w.heap.size 9 1 v' q (((ss.take n).filter (keepF t m)).map Value.string ++ [.string ss[n]])) (hq : q = ((ss.take n).filter (keepF t m)).length + 1) (hg : n + 1 + g = ss.length) : PickRel t m ss w g v' (.int .i64 ((n + 1 : Nat) : Int)) w5 := by
  have e : (ss.take (n + 1)).filter (keepF t m) = (ss.take n).filter (keepF t m) ++ [ss[n]] := by rw [take_keep hn, h]; simp
  have hv := (own_below hown hk).alloc (.cells #[.string ss[n]] 9)
  have hk1 := hk.alloc hk.size (.cells #[.string ss[n]] 9)
  subst hq
  refine ⟨n + 1, rfl, by omega, ?_, by rw [e]; simpa using ho, ?_, hg⟩
  · have h1 := r0.below hk1
    unfold RowIs
    rw [hg5.block _ h1.lt (fun e => own_not_row hv h1 (by decide) e.symm)]; exact h1
  · have h1 : Below w.heap.size w (w2.alloc (.cells #[.string ss[n]] 9)) := hbel.trans (hk1.mono hbel.size)
    exact h1.grown hg5 h1.size (fun k hk' => (hv.lt k hk').1)
theorem names_enc (t m : ByteArray) (ss : List ByteArray) : (ss.filter (keepF t m)).map Value.string = (namesF t m ss).map encStr := by
  unfold namesF; rw [List.map_map]
  refine List.map_congr_left fun x _ => ?_
  simp [encStr]
theorem own_short {w : World} {b e n m : Nat} {a : Option Addr} {c : Nat} {xs : List Value} (h : w.ownsRow b e 1 (.slice a n c) n xs) (hm : m ≤ n) : w.ownsRow b e 1 (.slice a m c) m (xs.take m) := by
  obtain ⟨h0, h⟩ := h
  refine ⟨by simp at h0 ⊢; omega, ?_⟩
  rcases h with ⟨h1, h2⟩ | ⟨g, cap, cur, h1, hg, hh, h2, h3, h4, h5⟩
  · simp only [Value.slice.injEq] at h1
    obtain ⟨rfl, rfl, rfl⟩ := h1
    obtain rfl : m = 0 := by omega
    exact .inl ⟨rfl, rfl⟩
  · simp only [Value.slice.injEq] at h1
    obtain ⟨rfl, _, rfl⟩ := h1
    exact .inr ⟨g, c, cur, rfl, hg, hh, by omega, h3, h4, by rw [← h5, List.take_take]; congr 1; omega⟩
/-- What the walk of Pick comes to. -/
def PickPost (res : List Bs) (w : World) (e : Ending) (w' : World) : Prop :=
  ∃ v, e = .returned v ∧ w'.ownsRow w.heap.size 9 1 v res.length (res.map encStr) ∧ Below w.heap.size w w'
theorem sortC_nil : sortC [] = [] := by simp [sortC, Lib.compact, Lib.compactUpTo]
theorem compact_length (zs : List Bs) : (Lib.compact zs).length ≤ zs.length := by
  unfold Lib.compact Lib.compactUpTo
  rw [List.length_map]
  exact Nat.le_trans (List.length_filter_le _ _) (by simp)
theorem pick_end {w wr : World} {g cap n q : Nat} {os : Array Obj} {cur : Array Value} {ns : List Bs} (hbel : Below w.heap.size w wr) (hbase : w.heap.size ≤ g) (hb : wr.heap[g]? = some (.cells cur 9 (0, 0)))
    (h1 : ns.length ≤ cap) (h2 : cap ≤ maxLen) (h3 : cur.size = cap * 1) :
    PickPost (sortC ns) w (.returned (.slice (some ⟨g, 0, none⟩) (sortC ns).length cap))
      (putRow encStr (Sort.ahead (grow (putRow encStr (Sort.ahead wr n) g 0 (ns.mergeSort fun x y => decide (x ≤ y)).toArray) os) q) g 0 (sortC ns ++ List.replicate (ns.length - (sortC ns).length) []).toArray) := by
  have hle : (sortC ns).length ≤ ns.length := Nat.le_trans (compact_length _) (by simp)
  have hb2 := heap_sorted (os := os) (n := n) (ns.mergeSort fun x y => decide (x ≤ y)).toArray hb
  have ho := ownsRow_sorted (os := #[]) (n := q) (ss := ns) (ts := sortC ns ++ List.replicate (ns.length - (sortC ns).length) []) (by simp; omega) hbase hb2 h1 h2 (by simp [putCells, h3])
  rw [grow_empty] at ho
  have hs := own_short ho hle
  rw [List.map_append, List.take_append_of_le_length (by simp), List.take_of_length_le (by simp)] at hs
  refine ⟨_, rfl, hs, ?_⟩
  have g1 := grownBy_sorted (w := wr) (g := g) (n := n) (os := os) (ns.mergeSort fun x y => decide (x ≤ y)).toArray
  have b1 := hbel.grown g1 hbel.size (fun k hk => by cases hk; exact hbase)
  have g2 := grownBy_sorted (w := (grow (putRow encStr (Sort.ahead wr n) g 0 (ns.mergeSort fun x y => decide (x ≤ y)).toArray) os)) (g := g) (n := q) (os := #[]) (sortC ns ++ List.replicate (ns.length - (sortC ns).length) []).toArray
  rw [grow_empty] at g2
  exact b1.grown g2 b1.size (fun k hk => by cases hk; exact hbase)
theorem pick_holds {wr : World} {g n : Nat} {os : Array Obj} {cur : Array Value} {e : Nat} {ns : List Bs} (hb : wr.heap[g]? = some (.cells cur e (0, 0))) (h1 : ns.length ≤ cur.size) :
    Holds encStr (grow (putRow encStr (Sort.ahead wr n) g 0 (ns.mergeSort fun x y => decide (x ≤ y)).toArray) os) g 0 (ns.mergeSort fun x y => decide (x ≤ y)).toArray := by
  refine holds_of_block (heap_sorted _ hb) ?_
  exact take_putCells cur _ (by simpa using h1)
theorem prefix_at (s p : ByteArray) (b : Bool) (h : Lib.hasPrefix s.data.toList p.data.toList = b) (w : World) :
    Calls Try.prog 23 #[.string s, .string p] w fun e w' => e = .returned (.bool b) ∧ w = w' := by
  subst h; exact (Try.strings_HasPrefix s p w).mono fun e w' ⟨he, hw⟩ => ⟨he, hw.symm⟩
set_option maxRecDepth 100000 in
set_option maxHeartbeats 4000000 in
theorem pick_any (t m : ByteArray) (ss : List ByteArray) (ht : t.size ≤ 1000000000) (hss : ss.length ≤ 1000000000) (hsz : ∀ x ∈ ss, x.size ≤ 1000000000) (v : Value) (w : World) (hv : StrsAt w v ss) :
    Calls Try.prog 16 #[.agg #[.string t, .string m], v] w (PickPost (pickF t m ss) w) := by
  obtain ⟨a, cap, rfl, hcells⟩ := hv
  have HC := Lib.hid hcells; have HSZ := Lib.hid hsz
  clear hcells hsz
  go_enter Try.func16, Try.ntmps16
  go_wp2_with fail
  have hst : Hid (PickRel t m ss w ss.length (.slice none 0 0) (.int .i64 ((0 : Nat) : Int)) (w.alloc (.cells #[.string t, .string m] 23))) :=
    ⟨0, rfl, Nat.zero_le _, RowIs.new _ _ _, World.ownsRow_nil _ _ _ _, (Below.refl _ _).alloc (Nat.le_refl _) _, by omega⟩
  go_loopg [5, 11] ss.length (fun g v k wr => PickRel t m ss w g v k wr)
  case atStart => exact hst.out
  case round =>
    clear hst
    obtain ⟨n, rfl, hn, r0, hown, hbel, hg⟩ := hrel
    have HG := Lib.hid hg; clear hg
    obtain ⟨c0, c1, l0⟩ := pat_facts r0
    obtain ⟨ao, oc, rfl⟩ := own_slice hown
    have HOWN := Lib.hid hown; clear hown
    by_cases hl : n < ss.length
    · have hx : ∃ b off, a = some ⟨b, off, none⟩ ∧ wr.cell? ⟨b, off + n, none⟩ = some (.string ss[n]) := by
        rcases HC.out with h | ⟨b, off, ha, hc⟩
        · rw [h] at hl; simp at hl
        · exact ⟨b, off, ha, (hbel.cell (block_lt_of_cell (hc n hl))).trans (hc n hl)⟩
      obtain ⟨b, off, rfl, hx⟩ := hx
      have hxs := HSZ.out _ (List.getElem_mem hl)
      have hskip := fun (g : Nat) (w2 : World) (hk : Below wr.heap.size wr w2) (h : keepF t m ss[n] = false) (hg : n + 1 + g = ss.length) => pick_skip hl r0 HOWN.out hbel hk h hg
      have hpush := fun (g q : Nat) (v' : Value) (w2 w5 : World) (hk : Below wr.heap.size wr w2) (h : keepF t m ss[n] = true) hg5 ho hq (hg : n + 1 + g = ss.length) => pick_push (v' := v') (w5 := w5) (q := q) hl r0 HOWN.out hbel hk h hg5 ho hq hg
      have HSKIP := Lib.hid hskip; have HPUSH := Lib.hid hpush
      clear hskip hpush
      obtain ⟨x, hxx⟩ : ∃ x, x = ss[n] := ⟨_, rfl⟩
      rw [← hxx] at hx hxs HSKIP HPUSH
      clear hxx
      obtain ⟨h1, hh1⟩ : ∃ h1, Lib.hasPrefix x.data.toList [46] = h1 := ⟨_, rfl⟩
      obtain ⟨h2, hh2⟩ : ∃ h2, Lib.hasPrefix t.data.toList [46] = h2 := ⟨_, rfl⟩
      obtain ⟨bm, hbm⟩ : ∃ bm, matchF t m (bl x) = bm := ⟨_, rfl⟩
      obtain ⟨em, hem⟩ : ∃ em, x.toList.isEmpty = em := ⟨_, rfl⟩
      have hkeep : Hid (keepF t m x = (!em && !(h1 && !h2) && bm)) := by unfold Hid keepF; rw [hh1, hh2, hbm, ← Lib.toList_data, hem]
      have H1 := Lib.hid hh1; have H2 := Lib.hid hh2; have HB := Lib.hid hbm; have HE := Lib.hid hem
      clear hh1 hh2 hbm hem
      go_upto_region 5 with fail
      go_cut [8] (fun s8 wx => s8 = .bool (h1 && !h2) ∧ wr = wx)
      case first =>
        cases h1
        · go_wp2_with fail
          refine (prefix_at x _ false H1.out _).mono ?_; rintro e w2 ⟨rfl, rfl⟩
          go_wp2_with fail
          go_meet
          exact ⟨rfl, rfl⟩
        · go_wp2_with fail
          refine (prefix_at x _ true H1.out _).mono ?_; rintro e w2 ⟨rfl, rfl⟩
          go_wp2_with fail
          refine (prefix_at t _ h2 H2.out _).mono ?_; rintro e w2 ⟨rfl, rfl⟩
          go_wp2_with fail
          go_meet
          exact ⟨by simp, rfl⟩
      case rest =>
        obtain ⟨rfl, rfl⟩ := hcut
        obtain ⟨hi, hhi⟩ : ∃ hi, hi = (h1 && !h2) := ⟨_, rfl⟩
        rw [← hhi] at hkeep
        rw [← hhi]
        clear hhi H1 H2
        go_upto_region 6 with fail
        go_cut [33] (fun s33 wx => s33 = .bool (!em && !hi && bm) ∧ Below wr.heap.size wr wx)
        case first =>
          have he := HE.out
          cases em
          · cases hi
            · go_wp2_with fail
              refine (match_at t m x ht hxs bm HB.out _).mono ?_; rintro e w2 ⟨rfl, hk⟩
              go_wp2_with fail
              go_meet
              exact ⟨by simp, hk⟩
            · go_wp2_with fail
              go_meet
              exact ⟨rfl, Below.refl _ _⟩
          · go_wp2_with fail
            go_meet
            exact ⟨rfl, Below.refl _ _⟩
        case rest =>
          obtain ⟨rfl, hk⟩ := hcut
          rw [← hkeep.out]
          have hG := HG.out
          have hbs : w.heap.size ≤ wc.heap.size := Nat.le_trans hbel.size hk.size
          have HO := own_below HOWN.out hk
          have hlen : ((ss.take n).filter (keepF t m)).length ≤ n := Nat.le_trans (List.length_filter_le _ _) (by simp; omega)
          cases hkf : keepF t m x
          · have HKF := Lib.hid hkf; clear hkf
            go_wp2_with fail
            go_roundg (ss.length - (n + 1))
            case measure => omega
            case rel => exact HSKIP.out _ _ hk HKF.out (by omega)
          · have HKF := Lib.hid hkf; clear hkf
            go_wp2_with (at_builtin; refine wpList_push rfl _ _ _ rfl w.heap.size 9 _ 16 Try.underlying29 info9 rfl _ _ _ rfl HO _ _ rfl (by simp) rfl (by unfold maxLen; omega) hbs ?_; intro v' w5 ho5 hg5; obtain ⟨ao', cap', rfl⟩ := own_slice ho5)
            go_roundg (ss.length - (n + 1))
            case measure => omega
            case rel => exact HPUSH.out _ _ _ _ _ hk HKF.out hg5 ho5 rfl (by omega)
    · obtain rfl : n = ss.length := by omega
      have HO := HOWN.out
      rw [List.take_length] at HO
      have hlen : (ss.filter (keepF t m)).length ≤ ss.length := List.length_filter_le _ _
      rw [names_enc] at HO
      have hnl : (ss.filter (keepF t m)).length = (namesF t m ss).length := by unfold namesF; simp
      rw [hnl] at HO hlen
      rw [List.take_length, hnl]
      have HPF : Hid (pickF t m ss = sortC (namesF t m ss)) := rfl
      obtain ⟨ns, hns⟩ : ∃ ns, ns = namesF t m ss := ⟨_, rfl⟩
      rw [← hns] at HO hlen HPF
      rw [← hns]
      clear hns hnl HOWN
      have HOO := Lib.hid HO
      rcases HO.2 with ⟨hnil, h0⟩ | ⟨gq, cq, cur, hv, hbase, hb, h1, h2, h3, h4⟩
      · have hn0 : ns = [] := by
          cases ns with
          | nil => rfl
          | cons x r => simp at h0
        subst hn0
        clear HO hnil h0
        go_wp2_with fail
        refine (Try.slices_Sort_string_none _ _ _).mono ?_; rintro e w2 ⟨rfl, rfl⟩
        go_wp2_with fail
        refine (Try.slices_Compact_string_empty _ _ _).mono ?_; rintro e w2 ⟨rfl, rfl⟩
        go_wp2_with fail
        go_ret
        rw [HPF.out, sortC_nil]
        exact ⟨_, rfl, HOO.out, hbel⟩
      · simp only [Value.slice.injEq] at hv
        obtain ⟨rfl, _, rfl⟩ := hv
        have HH := Lib.hid (holds_of_block hb (by simpa using h4))
        have hgl : gq < wr.heap.size := (Array.getElem?_eq_some_iff.1 hb).1
        have HE := fun n q os => pick_end (n := n) (q := q) (os := os) (ns := ns) hbel hbase hb h1 h2 h3
        have HE2 := Lib.hid HE
        have HH2 := Lib.hid (fun n os => pick_holds (n := n) (os := os) (ns := ns) hb (by omega))
        clear HO hb h4 HE
        go_wp2_with fail
        refine (Try.slices_Sort_string gq 0 oc ns _ HH.out hgl (by omega)).mono ?_; rintro e w2 ⟨rfl, nn, os, rfl⟩
        obtain ⟨w3, hw3⟩ : ∃ w3, w3 = grow (putRow encStr (Sort.ahead wr nn) gq 0 (ns.mergeSort fun x y => decide (x ≤ y)).toArray) os := ⟨_, rfl⟩
        rw [← hw3]
        have hh3 := HH2.out nn os
        have he3 := fun q => HE2.out nn q os
        rw [← hw3] at hh3
        rw [← hw3] at he3
        have HH3 := Lib.hid hh3; have HE3 := Lib.hid he3
        clear hw3 hh3 he3 HH2 HE2
        obtain ⟨zs, hzs⟩ : ∃ zs, zs = ns.mergeSort fun x y => decide (x ≤ y) := ⟨_, rfl⟩
        have hzl : ns.length = zs.length := by rw [hzs]; simp
        have hzc : Hid (Lib.compact zs = sortC ns) := by unfold Hid; rw [hzs]; rfl
        rw [← hzs] at HH3
        rw [hzl]
        rw [hzl] at HE3 h1
        clear hzs hzl
        go_wp2_with fail
        refine (Try.slices_Compact_string gq 0 oc zs _ HH3.out (by unfold maxLen at h2; omega) h1).mono ?_; rintro e w4 ⟨rfl, q, rfl⟩
        rw [hzc.out]
        go_wp2_with fail
        go_ret
        rw [HPF.out]
        exact HE3.out q
end Go.Proofs.Ytmcaphmgjhkgfaa
