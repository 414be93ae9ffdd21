/-
  DERIVED. The walk of the document's Pick: each name is put in at its place.
-/
import Derived.Test.YtmcaphmgjhkgfaaGh
import Derived.Test.YtmcaphmgjhkgfaaRe
import Derived.Test.YtmcaphmgjhkgfaaSrc
import Derived.Sort.Walk0
namespace Go.Proofs.Ytmcaphmgjhkgfaa
open Go.RowKit Go.Sort Gl
theorem empty_iff (x : ByteArray) : x.toList.isEmpty = !decide (0 < x.size) := by
  rw [Lib.toList_data, Lib.size_eq]; cases x.data.toList <;> simp
theorem hp_dot (x : ByteArray) (h : 0 < x.size) : Lib.hasPrefix x.data.toList [46] = (bt x 0 == 46) := by
  have hb := bl_get x 0 h
  have hl : 0 < x.data.toList.length := by rw [← Lib.size_eq]; exact h
  cases hx : x.data.toList with
  | nil => rw [hx] at hl; simp at hl
  | cons c r =>
    simp only [bl, hx, List.map_cons, List.getElem_cons_zero] at hb
    rw [← hb]
    simp only [Lib.hasPrefix, List.isPrefixOf, Bool.and_true]
    rw [Bool.eq_iff_iff]
    simp only [beq_iff_eq]
    constructor
    · intro h; rw [← h]; rfl
    · intro h
      have : c.toNat = 46 := by omega
      exact (UInt8.toNat_inj.1 (by rw [this]; rfl)).symm
theorem hp_none (x : ByteArray) (h : ¬ 0 < x.size) : Lib.hasPrefix x.data.toList [46] = false := by
  have : x.data.toList = [] := List.length_eq_zero_iff.1 (by rw [← Lib.size_eq]; omega)
  rw [this]; rfl
theorem namesF_take {t m : ByteArray} {ss : List ByteArray} {n : Nat} (h : n < ss.length) : namesF t m (ss.take (n + 1)) = namesF t m (ss.take n) ++ (if keepF t m ss[n] then [ss[n].data.toList] else []) := by
  unfold namesF; rw [take_keep h, List.map_append]; congr 1; split <;> rfl
def RPickRel (t m : ByteArray) (ss : List ByteArray) (w : World) (g : Nat) (v k : Value) (wr : World) : Prop :=
  ∃ n : Nat, k = .int .i64 n ∧ n ≤ ss.length ∧ wr.ownsRow w.heap.size 9 1 v (insAll (namesF t m (ss.take n))).length ((insAll (namesF t m (ss.take n))).map encStr) ∧ Below w.heap.size w wr ∧ n + g = ss.length
theorem rpick_skip {t m : ByteArray} {ss : List ByteArray} {n g : Nat} {w wr w2 : World} {v : Value} (hn : n < ss.length)
    (hown : wr.ownsRow w.heap.size 9 1 v (insAll (namesF t m (ss.take n))).length ((insAll (namesF t m (ss.take n))).map encStr)) (hbel : Below w.heap.size w wr) (hk : Below wr.heap.size wr w2)
    (h : keepF t m ss[n] = false) (hg : n + 1 + g = ss.length) : RPickRel t m ss w g v (.int .i64 ((n + 1 : Nat) : Int)) w2 := by
  have e : namesF t m (ss.take (n + 1)) = namesF t m (ss.take n) := by rw [namesF_take hn, h]; simp
  exact ⟨n + 1, rfl, by omega, by rw [e]; exact own_below hown hk, hbel.trans (hk.mono hbel.size), hg⟩
theorem rpick_there {t m : ByteArray} {ss : List ByteArray} {n g : Nat} {w wr w2 : World} {v : Value} (hn : n < ss.length)
    (hown : wr.ownsRow w.heap.size 9 1 v (insAll (namesF t m (ss.take n))).length ((insAll (namesF t m (ss.take n))).map encStr)) (hbel : Below w.heap.size w wr) (hk : Below wr.heap.size wr w2)
    (h : keepF t m ss[n] = true) (hi : (insAll (namesF t m (ss.take n)))[insAt ss[n].data.toList (insAll (namesF t m (ss.take n)))]? = some ss[n].data.toList) (hg : n + 1 + g = ss.length) : RPickRel t m ss w g v (.int .i64 ((n + 1 : Nat) : Int)) w2 := by
  have e : insAll (namesF t m (ss.take (n + 1))) = insAll (namesF t m (ss.take n)) := by rw [namesF_take hn, h]; simp only [if_true]; rw [insAll_snoc]; unfold insF; rw [if_pos hi]
  exact ⟨n + 1, rfl, by omega, by rw [e]; exact own_below hown hk, hbel.trans (hk.mono hbel.size), hg⟩
theorem rpick_new {t m : ByteArray} {ss : List ByteArray} {n g q : Nat} {w wr w5 : World} {v' : Value} {ys : List Value} (hn : n < ss.length)
    (hbel : Below w.heap.size w wr) (hk : Below wr.heap.size wr w5)
    (h : keepF t m ss[n] = true) (hi : (insAll (namesF t m (ss.take n)))[insAt ss[n].data.toList (insAll (namesF t m (ss.take n)))]? ≠ some ss[n].data.toList)
    (ho : w5.ownsRow wr.heap.size 9 1 v' q ys)
    (hy : ys = ((insAll (namesF t m (ss.take n))).take (insAt ss[n].data.toList (insAll (namesF t m (ss.take n))))).map encStr ++ [.string ss[n]] ++ ((insAll (namesF t m (ss.take n))).drop (insAt ss[n].data.toList (insAll (namesF t m (ss.take n))))).map encStr) (hg : n + 1 + g = ss.length) : RPickRel t m ss w g v' (.int .i64 ((n + 1 : Nat) : Int)) w5 := by
  have e : insAll (namesF t m (ss.take (n + 1))) = insF ss[n].data.toList (insAll (namesF t m (ss.take n))) := by rw [namesF_take hn, h]; simp only [if_true]; rw [insAll_snoc]
  have ey : ys = (insF ss[n].data.toList (insAll (namesF t m (ss.take n)))).map encStr := by
    unfold insF; rw [if_neg hi, hy]; simp [encStr]
  have hq : q = (insF ss[n].data.toList (insAll (namesF t m (ss.take n)))).length := by
    have := ho.1; rw [ey] at this; simpa using this.symm
  subst hq ey
  exact ⟨n + 1, rfl, by omega, by rw [e]; exact own_base ho hbel.size, hbel.trans (hk.mono hbel.size), hg⟩
theorem enc_one (l : List Bs) (j : Nat) : ∀ u ∈ (l.map encStr).take j, u.oneCell' = true := fun u hu => by
  obtain ⟨x, _, rfl⟩ := List.mem_map.1 (List.mem_of_mem_take hu)
  rfl
theorem enc_one' (l : List Bs) (j : Nat) : ∀ u ∈ (l.map encStr).drop j, u.oneCell' = true := fun u hu => by
  obtain ⟨x, _, rfl⟩ := List.mem_map.1 (List.mem_of_mem_drop hu)
  rfl
/-- What the loop for a name's place says. -/
def PlaceRel (l : List Bs) (x : Bs) (wr : World) (g : Nat) (k : Value) (wx : World) : Prop :=
  ∃ j : Nat, k = .int .i64 j ∧ j ≤ l.length ∧ Hid (∀ i (h : i < l.length), i < j → l[i] < x) ∧ wr = wx ∧ j + g = l.length
theorem out_cell {wr : World} {base : Nat} {ao : Option Addr} {oc : Nat} {l : List Bs} (h : wr.ownsRow base 9 1 (.slice ao l.length oc) l.length (l.map encStr)) (j : Nat) (hj : j < l.length) :
    ∃ g y, ao = some ⟨g, 0, none⟩ ∧ wr.cell? ⟨g, j, none⟩ = some (.string y) ∧ y.toList = l[j] := by
  obtain ⟨g, cap, hv, _, _, _, hc⟩ := own_cells h (by omega)
  simp only [Value.slice.injEq] at hv
  refine ⟨g, ⟨l[j].toArray⟩, hv.1, ?_, ?_⟩
  · rw [hc j (by omega), List.getElem?_map, List.getElem?_eq_getElem hj]; rfl
  · rw [Lib.toList_data]
set_option maxRecDepth 100000 in
set_option maxHeartbeats 8000000 in
theorem rpick_any (t m : ByteArray) (ss : List ByteArray) (ht : t.size ≤ 1000000000) (hss : ss.length ≤ 1000000000) (hsz : ∀ x ∈ ss, x.size ≤ 1000000000) (v : Value) (w : World) (hv : StrsAt w v ss) :
    Calls Try.prog 17 #[.string t, .string m, v] w (PickPost (pickF t m ss) w) := by
  obtain ⟨a, cap, rfl, hcells⟩ := hv
  have HC := Lib.hid hcells; have HSZ := Lib.hid hsz
  clear hcells hsz
  go_enter Try.func17, Try.ntmps17
  go_wp2_with fail
  have hst : Hid (RPickRel t m ss w ss.length (.slice none 0 0) (.int .i64 ((0 : Nat) : Int)) w) :=
    ⟨0, rfl, Nat.zero_le _, World.ownsRow_nil _ _ _ _, Below.refl _ _, by omega⟩
  go_loopg [7, 8] ss.length (fun g v k wr => RPickRel t m ss w g v k wr)
  case atStart => exact hst.out
  case round =>
    clear hst
    obtain ⟨n, rfl, hn, hown, hbel, hg⟩ := hrel
    have HG := Lib.hid hg; clear hg
    obtain ⟨ao, oc, rfl⟩ := own_slice hown
    have HOWN := Lib.hid hown; clear hown
    by_cases hl : n < ss.length
    · have hx : ∃ b off, a = some ⟨b, off, none⟩ ∧ wr.cell? ⟨b, off + n, none⟩ = some (.string ss[n]) := by
        rcases HC.out with h | ⟨b, off, ha, hc⟩
        · rw [h] at hl; simp at hl
        · exact ⟨b, off, ha, (hbel.cell (block_lt_of_cell (hc n hl))).trans (hc n hl)⟩
      obtain ⟨b, off, rfl, hx⟩ := hx
      have hxs := HSZ.out _ (List.getElem_mem hl)
      have hskip := fun (g : Nat) (w2 : World) (hk : Below wr.heap.size wr w2) (h : keepF t m ss[n] = false) (hg : n + 1 + g = ss.length) => rpick_skip hl HOWN.out hbel hk h hg
      have hthere := fun (g : Nat) (w2 : World) (hk : Below wr.heap.size wr w2) (h : keepF t m ss[n] = true) hi (hg : n + 1 + g = ss.length) => rpick_there hl HOWN.out hbel hk h hi hg
      have hnew := fun (wr' : World) (hb' : Below w.heap.size w wr') (g q : Nat) (v' : Value) (w5 : World) (ys : List Value) (hk : Below wr'.heap.size wr' w5) (h : keepF t m ss[n] = true) hi (ho : w5.ownsRow wr'.heap.size 9 1 v' q ys) hy (hg : n + 1 + g = ss.length) => rpick_new hl hb' hk h hi ho hy hg
      have HSKIP := Lib.hid hskip; have HTHERE := Lib.hid hthere; have HNEW := Lib.hid hnew
      have hll : (insAll (namesF t m (ss.take n))).length ≤ n := Nat.le_trans (insAll_length _) (by unfold namesF; rw [List.length_map]; exact Nat.le_trans (List.length_filter_le _ _) (by simp; omega))
      clear hskip hthere hnew
      obtain ⟨x, hxx⟩ : ∃ x, x = ss[n] := ⟨_, rfl⟩
      rw [← hxx] at hx hxs HSKIP HTHERE HNEW
      clear hxx
      obtain ⟨l, hl0⟩ : ∃ l, l = insAll (namesF t m (ss.take n)) := ⟨_, rfl⟩
      rw [← hl0] at HOWN hll HTHERE HNEW HSKIP
      rw [← hl0]
      clear hl0
      have hgx := get_bt x; have hgt := get_bt t
      obtain ⟨em, hem⟩ : ∃ em, x.toList.isEmpty = em := ⟨_, rfl⟩
      obtain ⟨tm, htm⟩ : ∃ tm, t.toList.isEmpty = tm := ⟨_, rfl⟩
      obtain ⟨h1, hh1⟩ : ∃ h1, (bt x 0 == 46) = h1 := ⟨_, rfl⟩
      obtain ⟨h2, hh2⟩ : ∃ h2, (bt t 0 == 46) = h2 := ⟨_, rfl⟩
      obtain ⟨bm, hbm⟩ : ∃ bm, matchF t m (bl x) = bm := ⟨_, rfl⟩
      have hem2 : em = false → 0 < x.size := fun h => by have := empty_iff x; rw [hem, h] at this; simpa using this.symm
      have htm2 : tm = false → 0 < t.size := fun h => by have := empty_iff t; rw [htm, h] at this; simpa using this.symm
      have hkeep : Hid (keepF t m x = (!(em || (h1 && (tm || !h2))) && bm)) := by
        unfold Hid keepF; rw [hbm, ← Lib.toList_data, hem]
        cases em
        · rw [Lib.toList_data, hp_dot x (hem2 rfl), hh1]
          cases tm
          · rw [hp_dot t (htm2 rfl), hh2]; simp
          · rw [hp_none t (by have := empty_iff t; rw [htm] at this; simpa using this.symm)]; simp
        · simp
      have HB := Lib.hid hbm; have HEM := Lib.hid hem; have HTM := Lib.hid htm; have HH1 := Lib.hid hh1; have HH2 := Lib.hid hh2; have HX := Lib.hid hem2; have HT := Lib.hid htm2
      clear hem htm hh1 hh2 hbm hem2 htm2
      go_upto_region 6 with fail
      go_cut [38] (fun s38 wx => s38 = .bool (em || (h1 && (tm || !h2))) ∧ wr = wx)
      case first =>
        have e1 := HEM.out
        cases em
        · have e2 := HX.out rfl
          have e3 := HH1.out
          have e5 := HTM.out
          cases h1
          · go_wp2_with fail
            go_meet
            exact ⟨by simp, rfl⟩
          · cases tm
            · have e6 := HT.out rfl
              have e7 := HH2.out
              have e8 : (bt t 0 != 46) = !h2 := by rw [← e7]; rfl
              cases h2
              all_goals
                go_wp2_with fail
                go_meet
                exact ⟨by simp, rfl⟩
            · go_wp2_with fail
              go_meet
              exact ⟨by simp, rfl⟩
        · go_wp2_with fail
          go_meet
          exact ⟨by simp, rfl⟩
      case rest =>
        obtain ⟨rfl, rfl⟩ := hcut
        obtain ⟨sk, hsk⟩ : ∃ sk, sk = (em || (h1 && (tm || !h2))) := ⟨_, rfl⟩
        rw [← hsk] at hkeep
        rw [← hsk]
        clear hsk HX HT
        have HGX := Lib.hid hgx; have HGT := Lib.hid hgt
        clear hgx hgt
        cases sk
        · go_wp2_with fail
          refine (rmatch_at t m x ht hxs bm HB.out _).mono ?_; rintro e w2 ⟨rfl, hk⟩
          have HO := own_below HOWN.out hk
          cases bm
          · go_wp2_with fail
            go_roundg (ss.length - (n + 1))
            case measure => have := HG.out; omega
            case rel => exact HSKIP.out (ss.length - (n + 1)) _ hk (by rw [hkeep.out]; rfl) (by have := HG.out; omega)
          · go_wp2_with fail
            have hst2 : Hid (PlaceRel l x.data.toList w2 l.length (.int .i64 ((0 : Nat) : Int)) w2) := ⟨0, rfl, Nat.zero_le _, fun i _ h => by omega, rfl, by omega⟩
            go_loopg [11] l.length (fun g k wx => PlaceRel l x.data.toList w2 g k wx)
            case atStart => exact hst2.out
            case round =>
              clear hst2
              obtain ⟨j, rfl, hj, HLOW, rfl, hg2⟩ := hrel
              have HG2 := Lib.hid hg2; clear hg2
              by_cases hjl0 : j < l.length
              · obtain ⟨g, y, hao, yc, yl⟩ := out_cell HO j hjl0
                have HY := Lib.hid yl
                clear yl
                subst hao
                cases hb : Op.bytesLess y.toList x.toList
                · have hnl : Hid (¬ l[j] < x.data.toList) := by unfold Hid; rw [bytesLess_eq, HY.out, Lib.toList_data] at hb; simpa using hb
                  have HJ := Lib.hid (insAt_of x.data.toList l j hj HLOW.out (fun _ => hnl.out))
                  cases hq : (y.toList == x.toList)
                  · have HNE : Hid (l[j]? ≠ some x.data.toList) := by
                      unfold Hid; rw [List.getElem?_eq_getElem hjl0, ← HY.out, ← Lib.toList_data]
                      intro e
                      rw [Option.some.inj e] at hq
                      simp at hq
                    have hs1 := srcOf_own HO
                    obtain ⟨y1, ey1, sy1, _⟩ := hs1.1.to (P := Try.prog) hs1.2 29 (by kernel_rfl) (fun w' => by kernel_rfl) j hj _ rfl
                    obtain ⟨y2, ey2, sy2, _⟩ := hs1.1.from (P := Try.prog) hs1.2 29 (by kernel_rfl) (fun w' => by kernel_rfl) j hj _ rfl
                    have HS1 := Lib.hid sy1; have HS2 := Lib.hid sy2
                    clear hs1 sy1 sy2
                    have hsl : l.length ≤ 1000000000 := by omega
                    have hjl : (l.take j).length ≤ j := by simp; omega
                    go_wp2_with (first | (at_builtin; refine wpList_append_src rfl (.tmp 71) (.tmp 74) _ rfl w2.heap.size 9 _ 16 Try.underlying29 info9 rfl _ 0 [] rfl (World.ownsRow_nil _ _ _ _) y1 j ((l.map encStr).take j) rfl HS1.out (enc_one _ j) (by unfold maxLen; omega) (Nat.le_refl _) ?_; intro v1 w3 ho3 hg3; simp only [Nat.zero_add, List.nil_append] at ho3; obtain ⟨a1, p1, rfl⟩ := own_slice ho3; have hb3 := (Below.refl w2.heap.size w2).grown hg3 (Nat.le_refl _) (fun k h => by cases h); have HO3 := Lib.hid ho3; have HB3 := Lib.hid hb3; clear ho3 hg3 hb3) | (at_builtin; refine wpList_push rfl (.tmp 76) (.tmp 78) _ rfl w2.heap.size 9 _ 16 Try.underlying29 info9 rfl _ _ _ rfl HO3.out _ _ rfl (by simp) rfl (by unfold maxLen; omega) HB3.out.size ?_; intro v2 w4 ho4 hg4; obtain ⟨a2, p2, rfl⟩ := own_slice ho4; have hb4 := (HB3.out.alloc HB3.out.size _).grown hg4 (by simp; have := HB3.out.size; omega) (fun k h => (HO3.out.lt k h).1); have HO4 := Lib.hid ho4; have HB4 := Lib.hid hb4; clear ho4 hg4 hb4) | (at_builtin; refine wpList_append_src rfl (.tmp 80) (.tmp 83) _ rfl w2.heap.size 9 _ 16 Try.underlying29 info9 rfl _ _ _ rfl HO4.out y2 (l.length - j) ((l.map encStr).drop j) rfl (HS2.out.below HB4.out) (enc_one' _ j) (by unfold maxLen; omega) HB4.out.size ?_; intro v3 w5 ho5 hg5; obtain ⟨a3, p3, rfl⟩ := own_slice ho5; have hb5 := HB4.out.grown hg5 HB4.out.size (fun k h => (HO4.out.lt k h).1); have HO5 := Lib.hid ho5; have HB5 := Lib.hid hb5; clear ho5 hg5 hb5))
                    go_roundg (ss.length - (n + 1))
                    case measure => have := HG.out; omega
                    case rel => exact HNEW.out w2 (hbel.trans (hk.mono hbel.size)) (ss.length - (n + 1)) _ _ _ _ HB5.out (by rw [hkeep.out]; rfl) (by rw [← HJ.out]; exact HNE.out) HO5.out (by rw [← HJ.out, List.map_take, List.map_drop]) (by have := HG.out; omega)
                  · have HTH : Hid (l[insAt x.data.toList l]? = some x.data.toList) := by
                      unfold Hid; rw [← HJ.out, List.getElem?_eq_getElem hjl0, ← HY.out, beq_iff_eq.1 hq, Lib.toList_data]
                    go_wp2_with fail
                    go_roundg (ss.length - (n + 1))
                    case measure => have := HG.out; omega
                    case rel => exact HTHERE.out (ss.length - (n + 1)) _ hk (by rw [hkeep.out]; rfl) HTH.out (by have := HG.out; omega)
                · have hlt : Hid (l[j] < x.data.toList) := by unfold Hid; rw [bytesLess_eq, HY.out, Lib.toList_data] at hb; simpa using hb
                  go_wp2_with fail
                  go_roundg (l.length - (j + 1))
                  case measure => have := HG2.out; omega
                  case rel =>
                    refine ⟨j + 1, by go_num, by omega, fun i h hi => ?_, rfl, by omega⟩
                    by_cases e : i = j
                    · subst e; exact hlt.out
                    · exact HLOW.out i h (by omega)
              · have hje : j = l.length := by omega
                have HJ := Lib.hid (insAt_of x.data.toList l j hj HLOW.out (fun h => absurd h hjl0))
                have HNE : Hid (l[j]? ≠ some x.data.toList) := by unfold Hid; rw [List.getElem?_eq_none (by omega)]; simp
                clear hje
                have hs1 := srcOf_own HO
                obtain ⟨y1, ey1, sy1, _⟩ := hs1.1.to (P := Try.prog) hs1.2 29 (by kernel_rfl) (fun w' => by kernel_rfl) j hj _ rfl
                obtain ⟨y2, ey2, sy2, _⟩ := hs1.1.from (P := Try.prog) hs1.2 29 (by kernel_rfl) (fun w' => by kernel_rfl) j hj _ rfl
                have HS1 := Lib.hid sy1; have HS2 := Lib.hid sy2
                clear hs1 sy1 sy2
                have hsl : l.length ≤ 1000000000 := by omega
                have hjl : (l.take j).length ≤ j := by simp; omega
                go_wp2_with (first | (at_builtin; refine wpList_append_src rfl (.tmp 71) (.tmp 74) _ rfl w2.heap.size 9 _ 16 Try.underlying29 info9 rfl _ 0 [] rfl (World.ownsRow_nil _ _ _ _) y1 j ((l.map encStr).take j) rfl HS1.out (enc_one _ j) (by unfold maxLen; omega) (Nat.le_refl _) ?_; intro v1 w3 ho3 hg3; simp only [Nat.zero_add, List.nil_append] at ho3; obtain ⟨a1, p1, rfl⟩ := own_slice ho3; have hb3 := (Below.refl w2.heap.size w2).grown hg3 (Nat.le_refl _) (fun k h => by cases h); have HO3 := Lib.hid ho3; have HB3 := Lib.hid hb3; clear ho3 hg3 hb3) | (at_builtin; refine wpList_push rfl (.tmp 76) (.tmp 78) _ rfl w2.heap.size 9 _ 16 Try.underlying29 info9 rfl _ _ _ rfl HO3.out _ _ rfl (by simp) rfl (by unfold maxLen; omega) HB3.out.size ?_; intro v2 w4 ho4 hg4; obtain ⟨a2, p2, rfl⟩ := own_slice ho4; have hb4 := (HB3.out.alloc HB3.out.size _).grown hg4 (by simp; have := HB3.out.size; omega) (fun k h => (HO3.out.lt k h).1); have HO4 := Lib.hid ho4; have HB4 := Lib.hid hb4; clear ho4 hg4 hb4) | (at_builtin; refine wpList_append_src rfl (.tmp 80) (.tmp 83) _ rfl w2.heap.size 9 _ 16 Try.underlying29 info9 rfl _ _ _ rfl HO4.out y2 (l.length - j) ((l.map encStr).drop j) rfl (HS2.out.below HB4.out) (enc_one' _ j) (by unfold maxLen; omega) HB4.out.size ?_; intro v3 w5 ho5 hg5; obtain ⟨a3, p3, rfl⟩ := own_slice ho5; have hb5 := HB4.out.grown hg5 HB4.out.size (fun k h => (HO4.out.lt k h).1); have HO5 := Lib.hid ho5; have HB5 := Lib.hid hb5; clear ho5 hg5 hb5))
                go_roundg (ss.length - (n + 1))
                case measure => have := HG.out; omega
                case rel => exact HNEW.out w2 (hbel.trans (hk.mono hbel.size)) (ss.length - (n + 1)) _ _ _ _ HB5.out (by rw [hkeep.out]; rfl) (by rw [← HJ.out]; exact HNE.out) HO5.out (by rw [← HJ.out, List.map_take, List.map_drop]) (by have := HG.out; omega)
        · go_wp2_with fail
          go_roundg (ss.length - (n + 1))
          case measure => have := HG.out; omega
          case rel => exact HSKIP.out (ss.length - (n + 1)) _ (Below.refl _ _) (by rw [hkeep.out]; rfl) (by have := HG.out; omega)
    · obtain rfl : n = ss.length := by omega
      have HO := HOWN.out
      rw [List.take_length, insAll_eq] at HO
      have HPF : Hid (pickF t m ss = sortC (namesF t m ss)) := rfl
      have HOO := Lib.hid HO
      clear HO HOWN
      rw [List.take_length, insAll_eq]
      go_wp2_with fail
      go_ret
      rw [HPF.out]
      exact ⟨_, rfl, HOO.out, hbel⟩
end Go.Proofs.Ytmcaphmgjhkgfaa
