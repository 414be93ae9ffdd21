/-
  DERIVED. The walk of glob's ends, and of Match: which beginnings of a text have been matched, sign by sign.
-/
import Derived.Test.YtkmpbkhlcapbgaaGreatDoorZ31
import Derived.BigQuiet
import Derived.Deep.QuietTactic
import Derived.Deep.RegionWith
import Derived.StillTailTactics
namespace Go.Proofs.YtkmpbkhlcapbgaaGreatDoor.Gb
open Go.RowKit
theorem info4 : (Tryz.prog.info? 4).map (fun i => (i.zero, i.size, i.bytes)) = some (some (.bool false), 1, 1) := by kernel_rfl
/-- Which beginnings of a text signs match. -/
def rowOf (hs : List Sg) (s : List Int) : List Value := (List.range (s.length + 1)).map fun i => Value.bool (M hs (s.take i))
/-- The same, as far as a round has come; what is behind is false. -/
def partOf (hs : List Sg) (s : List Int) (k : Nat) : List Value := (List.range (s.length + 1)).map fun i => Value.bool (if i < k then M hs (s.take i) else false)
theorem rowOf_at (hs : List Sg) (s : List Int) (i : Nat) (h : i ≤ s.length) : (rowOf hs s)[i]? = some (.bool (M hs (s.take i))) := by
  simp [rowOf, List.getElem?_map, List.getElem?_range (show i < s.length + 1 by omega)]
theorem partOf_at (hs : List Sg) (s : List Int) (k i : Nat) (h : i ≤ s.length) : (partOf hs s k)[i]? = some (.bool (if i < k then M hs (s.take i) else false)) := by
  simp [partOf, List.getElem?_map, List.getElem?_range (show i < s.length + 1 by omega)]
theorem partOf_end (hs : List Sg) (s : List Int) (k : Nat) (h : s.length + 1 ≤ k) : partOf hs s k = rowOf hs s := by
  unfold partOf rowOf
  refine List.map_congr_left fun i hi => ?_
  have := List.mem_range.1 hi
  rw [if_pos (by omega)]
theorem partOf_zero (hs : List Sg) (s : List Int) : partOf hs s 0 = List.replicate (s.length + 1) (.bool false) := by
  unfold partOf
  apply List.ext_getElem?
  intro i
  by_cases h : i < s.length + 1
  · simp [h]
  · simp [h]
theorem partOf_one {hs : List Sg} (s : List Int) (h0 : M hs [] = false) : partOf hs s 1 = List.replicate (s.length + 1) (.bool false) := by
  rw [← partOf_zero hs s]
  unfold partOf
  refine List.map_congr_left fun i hi => ?_
  by_cases h : i = 0
  · subst h; simp [h0]
  · rw [if_neg (by omega), if_neg (by omega)]
theorem partOf_set (hs : List Sg) (s : List Int) (k : Nat) (h : k ≤ s.length) (b : Bool) (hb : M hs (s.take k) = b) : (partOf hs s k).set k (.bool b) = partOf hs s (k + 1) := by
  subst hb
  apply List.ext_getElem?
  intro i
  rw [List.getElem?_set]
  by_cases hi : i ≤ s.length
  · rw [partOf_at _ _ _ _ hi, partOf_at _ _ _ _ hi]
    by_cases e : k = i
    · subst e
      rw [if_pos rfl, if_pos (by simp [partOf]; omega), if_pos (by omega)]
    · rw [if_neg e]
      by_cases h2 : i < k
      · rw [if_pos h2, if_pos (by omega)]
      · rw [if_neg h2, if_neg (by omega)]
  · have l1 : (partOf hs s k).length ≤ i := by simp [partOf]; omega
    have l2 : (partOf hs s (k + 1)).length ≤ i := by simp [partOf]; omega
    rw [List.getElem?_eq_none l1, List.getElem?_eq_none l2]
    split
    · rw [if_neg (by omega)]
    · rfl
theorem partOf_skip (hs : List Sg) (s : List Int) (k : Nat) (hb : k ≤ s.length → M hs (s.take k) = false) : partOf hs s k = partOf hs s (k + 1) := by
  unfold partOf
  refine List.map_congr_left fun i hi => ?_
  have := List.mem_range.1 hi
  by_cases e : i = k
  · subst e; rw [if_neg (by omega), if_pos (by omega), hb (by omega)]
  · by_cases h2 : i < k
    · rw [if_pos h2, if_pos (by omega)]
    · rw [if_neg h2, if_neg (by omega)]
theorem rowOf_nil (s : List Int) : rowOf [] s = (List.replicate (s.length + 1) (Value.bool false)).set 0 (.bool true) := by
  rw [← partOf_zero [] s, partOf_set [] s 0 (Nat.zero_le _) true (by simp [M])]
  rw [← partOf_end [] s (s.length + 1) (Nat.le_refl _)]
  unfold partOf
  refine List.map_congr_left fun i hi => ?_
  have := List.mem_range.1 hi
  rw [if_pos (by omega)]
  by_cases e : i = 0
  · subst e; simp
  · rw [if_neg (by omega)]
    congr 1
    simp only [M, List.isEmpty_eq_false_iff]
    intro h
    have h2 : (s.take i).length = 0 := by rw [h]; rfl
    rw [List.length_take] at h2; omega
/-- The text of the sign slice's cells. -/
theorem sign_at {w w' : World} {base : Nat} {v : Value} {xs : List Value} {gs : List Sg} (hown : w.ownsRow base 235 1 v xs.length xs) (hall : AllRep w base xs gs) (hb : Below w.heap.size w w') (j : Nat) (hj : j < gs.length) :
    ∃ g cap x, v = .slice (some ⟨g, 0, none⟩) gs.length cap ∧ w'.cell? ⟨g, j, none⟩ = some x ∧ SignRep w' base x gs[j] := by
  have hl := hall.1
  obtain ⟨g, cap, hv, _, _, _, hc⟩ := own_cells (own_below hown hb) (by omega)
  have hj' : j < xs.length := by omega
  refine ⟨g, cap, xs[j], by rw [hv, hl], (hc j (by omega)).trans (List.getElem?_eq_getElem hj'), ?_⟩
  exact (hall.2 j _ _ (List.getElem?_eq_getElem hj') (List.getElem?_eq_getElem hj)).below hb
/-- At the head of a round of ends. -/
def EndsRel (gs : List Sg) (S : List Int) (N : Nat) (Ws : World) (g : Nat) (now k : Value) (wr : World) : Prop :=
  ∃ (j B : Nat), k = .int .i64 j ∧ j ≤ gs.length ∧ now = .slice (some ⟨B, 0, none⟩) (N + 1) (N + 1) ∧ RowIs wr B 4 (rowOf (gs.take j) S) ∧ Below Ws.heap.size Ws wr ∧ j + g = gs.length
/-- At the head of a round within a round: c is 0 for the star, else 1. -/
def InRel (hs : List Sg) (S : List Int) (N c Bn : Nat) (wr : World) (g : Nat) (k : Value) (wx : World) : Prop :=
  ∃ k0 : Nat, k = .int .i64 k0 ∧ k0 ≤ N + 1 ∧ RowIs wx Bn 4 (partOf hs S (k0 + c)) ∧ Below wr.heap.size wr wx ∧ k0 + g = N + 1
/-- What the walk of ends comes to. -/
def EndsPost (t m : ByteArray) (S : List Int) (N : Nat) (w : World) (e : Ending) (w' : World) : Prop :=
  ∃ B, e = .returned (.slice (some ⟨B, 0, none⟩) (N + 1) (N + 1)) ∧ RowIs w' B 4 (rowOf (signsFrom t m 0) S) ∧ Below w.heap.size w w'
theorem own_len {w : World} {b e n : Nat} {v : Value} {xs : List Value} (h : w.ownsRow b e 2 v n xs) : n ≤ 9223372036854775807 := by
  rcases h.2 with ⟨_, h2⟩ | ⟨_, cap, _, _, _, _, h3, h4, _⟩
  · omega
  · unfold maxLen at h4; omega
theorem own_drew {w : World} {b e s n : Nat} {v : Value} {xs : List Value} (h : w.ownsRow b e s v n xs) : w.drew.ownsRow b e s v n xs := h
theorem self_at (c x : Int) (b : Bool) (h : (c == x) = b) (w : World) :
    Calls Tryz.prog 260 #[.int .u8 c, .int .u8 x] w fun e w' => e = .returned (.bool b) ∧ Below w.heap.size w w' := by
  subst h; exact self_has c x w
theorem one_at (x : Int) (b : Bool) (h : true = b) (w : World) :
    Calls Tryz.prog 255 #[.agg #[], .int .u8 x] w fun e w' => e = .returned (.bool b) ∧ Below w.heap.size w w' := by
  subst h; exact one_has x w
theorem set_at (neg : Bool) (sp : List (Int × Int)) (hs : sp.length ≤ 9223372036854775807) (sv : Value) (x : Int) (base : Nat) (b : Bool) (h : ((sp.any (inPair x)) != neg) = b) (w : World) (hown : w.ownsRow base 100 2 sv sp.length (pairCells sp)) :
    Calls Tryz.prog 256 #[.agg #[.bool neg, sv], .int .u8 x] w fun e w' => e = .returned (.bool b) ∧ Below w.heap.size w w' := by
  subst h; exact set_has neg sp hs sv x base w hown
theorem nil_self (c : Int) (w : World) (n : Nat) : Sem.run Tryz.prog (nilAhead (n + 1) 249 (.int .u8 c) "kinetoscope/glob.has") w = .ok (some false) w := by kernel_rfl
theorem nil_one (w : World) (n : Nat) : Sem.run Tryz.prog (nilAhead (n + 1) 243 (.agg #[]) "kinetoscope/glob.has") w = .ok (some false) w := by kernel_rfl
theorem nil_set (neg : Bool) (sv : Value) (w : World) (n : Nat) : Sem.run Tryz.prog (nilAhead (n + 1) 246 (.agg #[.bool neg, sv]) "kinetoscope/glob.has") w = .ok (some false) w := by kernel_rfl
theorem ta_self (c : Int) (w : World) : Sem.run Tryz.prog (Instr.typeAssert (.iface 249 (.int .u8 c)) 235 237 true) w = .ok (.tuple #[.agg #[], .bool false]) w := by kernel_rfl
theorem ta_one (w : World) : Sem.run Tryz.prog (Instr.typeAssert (.iface 243 (.agg #[])) 235 237 true) w = .ok (.tuple #[.agg #[], .bool false]) w := by kernel_rfl
theorem ta_any (w : World) : Sem.run Tryz.prog (Instr.typeAssert (.iface 237 (.agg #[])) 235 237 true) w = .ok (.tuple #[.agg #[], .bool true]) w := by kernel_rfl
theorem ta_set (neg : Bool) (sv : Value) (w : World) : Sem.run Tryz.prog (Instr.typeAssert (.iface 246 (.agg #[.bool neg, sv])) 235 237 true) w = .ok (.tuple #[.agg #[], .bool false]) w := by kernel_rfl
set_option maxRecDepth 100000 in
set_option maxHeartbeats 8000000 in
theorem ends_any (t m s : ByteArray) (ht : t.size ≤ 1000000000) (hs : s.size ≤ 1000000000) (w : World) :
    Calls Tryz.prog 175 #[.agg #[.string t, .string m], .string s] w (EndsPost t m (bl s) s.size w) := by
  obtain ⟨S, hS⟩ : ∃ S, S = bl s := ⟨_, rfl⟩
  have hsl : S.length = s.size := by rw [hS, bl_length]
  have HSL := Lib.hid hsl; have HS := Lib.hid hS
  rw [← hS]
  clear hsl hS
  go_enter Tryz.func175, Tryz.ntmps175
  go_wp2_with (at_make; refine wpList_mkrow _ rfl _ _ 217 rfl 4 _ 1 Tryz.underlying217 info4 rfl _ _ _ _ (s.size + 1) rfl rfl (by omega) (by omega) ⟨by omega, by unfold maxLen; omega⟩ (w.heap.size + 1) (by simp) ?_; intro w1 r1 hb1 hlt1; have g0 := r1.free 0; have g1 : w1.cell? ⟨w.heap.size + 1, 0, none⟩ = some (.bool false) := by { rw [r1.cell]; simp }; have r0 := (RowIs.new w 135 [.string t, .string m]).below hb1; have c0 : w1.cell? ⟨w.heap.size, 0, none⟩ = some (.string t) := by { rw [r0.cell]; rfl }; have c1 : w1.cell? ⟨w.heap.size, 1, none⟩ = some (.string m) := by { rw [r0.cell]; rfl })
  -- GEN
  have hrow0 : RowIs (w1.setCell ⟨w.heap.size + 1, 0, none⟩ (.bool true)) (w.heap.size + 1) 4 (rowOf ([] : List Sg) S) := by
    rw [rowOf_nil, HSL.out]; exact r1.set 0 _
  have hbw : Below w.heap.size w (w1.setCell ⟨w.heap.size + 1, 0, none⟩ (.bool true)) := by
    refine Below.setCell ?_ (by simp) _
    exact ((Below.refl w.heap.size w).alloc (Nat.le_refl _) _).trans (hb1.mono (by simp))
  clear g0 g1 r0 c0 c1
  refine (signs_any t m ht _).mono ?_
  rintro e ws ⟨v, xs, rfl, hown, hall, hbs⟩
  replace hrow0 := hrow0.below hbs
  replace hbw := below_call hbs hbw
  clear hbs r1 hb1 hlt1
  obtain ⟨gs, hgs⟩ : ∃ gs, gs = signsFrom t m 0 := ⟨_, rfl⟩
  rw [← hgs] at hall
  have HGS := Lib.hid hgs; clear hgs
  obtain ⟨base, hbase⟩ : ∃ base, base = (w1.setCell ⟨w.heap.size + 1, 0, none⟩ (.bool true)).heap.size := ⟨_, rfl⟩
  rw [← hbase] at hown hall
  clear hbase
  obtain ⟨ao, cap, rfl⟩ := own_slice hown
  have hxl := hall.1
  have hgl : gs.length ≤ 1000000000 := by rw [HGS.out]; exact Nat.le_trans (signs_length t m _ 0 (Nat.le_refl _)) (by omega)
  have HOWN := Lib.hid hown; have HALL := Lib.hid hall; have HROW := Lib.hid hrow0
  rw [hxl]
  clear hown hall hrow0
  have HXL := Lib.hid hxl; clear hxl
  go_wp2_with fail
  go_loopg [5, 22] gs.length (fun g now k wr => EndsRel gs S s.size ws g now k wr)
  case atStart => exact ⟨0, w.heap.size + 1, rfl, Nat.zero_le _, rfl, by simpa using HROW.out, Below.refl _ _, by omega⟩
  case round =>
    clear HROW
    obtain ⟨j, B, rfl, hj, rfl, hrow, hbel, hg⟩ := hrel
    have HG := Lib.hid hg; clear hg
    by_cases hjl : j < gs.length
    · obtain ⟨gb, cap2, x, hv, hx, hrep⟩ := sign_at HOWN.out HALL.out hbel j hjl
      have hv2 : ao = some ⟨gb, 0, none⟩ := by simp only [Value.slice.injEq] at hv; exact hv.1
      subst hv2
      clear hv
      obtain ⟨G, hG⟩ : ∃ G, G = gs[j] := ⟨_, rfl⟩
      rw [← hG] at hrep
      have HT : Hid (gs.take (j + 1) = gs.take j ++ [G]) := by unfold Hid; rw [hG]; exact List.take_succ_eq_append_getElem hjl
      clear hG
      obtain ⟨hs0, hhs0⟩ : ∃ hs0, hs0 = gs.take j := ⟨_, rfl⟩
      rw [← hhs0] at hrow HT
      clear hhs0
      have hgb := block_lt_of_cell hx
      rcases hrep with ⟨hk, rfl⟩ | ⟨hk, rfl⟩ | ⟨hk, rfl⟩ | ⟨hk, sv, rfl, hsv⟩
      · have HK := Lib.hid hk; clear hk
        have hta := ta_self G.c
        go_wp2_with (at_make; refine wpList_mkrow _ rfl _ _ 217 rfl 4 _ 1 Tryz.underlying217 info4 rfl _ _ _ _ (s.size + 1) rfl rfl (by omega) (by omega) ⟨by omega, by unfold maxLen; omega⟩ wr.heap.size rfl ?_; intro wn rn hbn hltn)
        obtain ⟨wo, rfl⟩ : ∃ wo : World, wo = wr := ⟨_, rfl⟩
        obtain ⟨gq, rfl⟩ : ∃ gq : Nat, gq = gk := ⟨_, rfl⟩
        clear hta
        have HIN : Hid (InRel (hs0 ++ [G]) S s.size 1 wo.heap.size wo (s.size + 1) (.int .i64 ((0 : Nat) : Int)) (wn.alloc (.cells #[] 237))) := ⟨0, rfl, Nat.zero_le _, by rw [Nat.zero_add, partOf_one S (snoc_one_zero (by rw [HK.out]; decide) hs0), HSL.out]; exact rn.alloc _, hbn.alloc hbn.size _, by omega⟩
        clear rn hbn hltn
        go_loopg [37] (s.size + 1) (fun g k wx => InRel (hs0 ++ [G]) S s.size 1 wo.heap.size wo g k wx)
        case atStart => exact HIN.out
        case round =>
          clear HIN
          obtain ⟨k, rfl, hk0, hpart, hbx, hg2⟩ := hrel
          have HG2 := Lib.hid hg2; clear hg2
          have hlo := hpart.lt
          have hlb := (hrow.below hbx).lt
          by_cases hkl : k < s.size + 1
          · have hkS : k ≤ S.length := by rw [HSL.out]; omega
            have hci : (k : Int) < (s.size : Int) + 1 := by omega
            have ca : wr.cell? ⟨B, k, none⟩ = some (.bool (M hs0 (S.take k))) := by rw [(hrow.below hbx).cell, rowOf_at _ _ _ hkS]
            obtain ⟨a, ha⟩ : ∃ a, M hs0 (S.take k) = a := ⟨_, rfl⟩
            rw [ha] at ca; have HA := Lib.hid ha; clear ha
            have hG2 := HG2.out
            have HPART := Lib.hid hpart; clear hpart
            cases a
            · have hskip : Hid (partOf (hs0 ++ [G]) S (k + 1) = partOf (hs0 ++ [G]) S (k + 1 + 1)) := partOf_skip _ _ _ fun h => by rw [snoc_one (by rw [HK.out]; decide) hs0 S k (by omega), HA.out]; rfl
              go_wp2_with fail
              go_quiet (fail)
              go_wp2_with fail
              go_roundg (s.size + 1 - (k + 1))
              case measure => omega
              case rel => exact ⟨k + 1, by go_num, by omega, by have := HPART.out; rw [hskip.out] at this; exact this, below_drewN hbx _, by omega⟩
            · by_cases hkn : k < s.size
              · have hkn2 : (k : Int) < (s.size : Int) := by omega
                have hb0 := get_bt s
                obtain ⟨h, hh⟩ : ∃ h, G.has (bt s k) = h := ⟨_, rfl⟩
                have HH := Lib.hid hh; clear hh
                have hM : Hid (M (hs0 ++ [G]) (S.take (k + 1)) = h) := by unfold Hid; rw [snoc_one (by rw [HK.out]; decide) hs0 S k (by rw [HSL.out]; omega), HA.out, ← HH.out]; simp only [Bool.true_and, HS.out, bl_get s k hkn]
                go_wp2_with fail
                have hnil := nil_self G.c
                go_still_tail 15, (by kernel_rfl)
                change wpList _ _ _ _ _ wr.drew
                go_wp2_with fail
                refine (self_at G.c (bt s k) h (by rw [← HH.out]; simp [Sg.has, HK.out]) _).mono ?_
                rintro e wy ⟨rfl, hby⟩
                have hp2 : RowIs wy wo.heap.size 4 (partOf (hs0 ++ [G]) S (k + 1)) := RowIs.below (w := wr.drew) HPART.out hby
                have hbx2 : Below wo.heap.size wo wy := (hbx.drew).trans (hby.mono hbx.size)
                have cn : wy.cell? ⟨wo.heap.size, k + 1, none⟩ = some (.bool false) := by rw [hp2.cell, partOf_at _ _ _ _ (by rw [HSL.out]; omega)]; simp
                have fn := hp2.free (k + 1)
                have hl2 := hp2.lt
                have HP2 := Lib.hid hp2; clear hp2 hnil hb0 hby
                cases h
                · have hskip : Hid (partOf (hs0 ++ [G]) S (k + 1) = partOf (hs0 ++ [G]) S (k + 1 + 1)) := partOf_skip _ _ _ fun _ => hM.out
                  go_wp2_with fail
                  go_roundg (s.size + 1 - (k + 1))
                  case measure => omega
                  case rel => exact ⟨k + 1, by go_num, by omega, by have := HP2.out; rw [hskip.out] at this; exact this, hbx2, by omega⟩
                · go_wp2_with fail
                  go_roundg (s.size + 1 - (k + 1))
                  case measure => omega
                  case rel => exact ⟨k + 1, by go_num, by omega, by have := HP2.out.set (k + 1) (.bool true); rw [partOf_set _ _ _ (by rw [HSL.out]; omega) true hM.out] at this; exact this, hbx2.setCell (p := ⟨wo.heap.size, k + 1, none⟩) (Nat.le_refl _) _, by omega⟩
              · have hkn2 : ¬ (k : Int) < (s.size : Int) := by omega
                have hskip : Hid (partOf (hs0 ++ [G]) S (k + 1) = partOf (hs0 ++ [G]) S (k + 1 + 1)) := partOf_skip _ _ _ fun h => by have := HSL.out; omega
                go_wp2_with fail
                go_quiet (fail)
                go_wp2_with fail
                go_roundg (s.size + 1 - (k + 1))
                case measure => omega
                case rel => exact ⟨k + 1, by go_num, by omega, by have := HPART.out; rw [hskip.out] at this; exact this, below_drewN hbx _, by omega⟩
          · have hfin : Hid (RowIs wr wo.heap.size 4 (rowOf (gs.take (j + 1)) S)) := by unfold Hid; rw [HT.out]; rw [partOf_end _ _ _ (by rw [HSL.out]; omega)] at hpart; exact hpart
            have hG := HG.out
            clear hpart
            go_wp2_with fail
            go_roundg (gq - 1)
            case measure => omega
            case rel => exact ⟨j + 1, wo.heap.size, by go_num, by omega, rfl, hfin.out, hbel.trans (hbx.mono hbel.size), by omega⟩
      · have HK := Lib.hid hk; clear hk
        have hta := ta_one
        go_wp2_with (at_make; refine wpList_mkrow _ rfl _ _ 217 rfl 4 _ 1 Tryz.underlying217 info4 rfl _ _ _ _ (s.size + 1) rfl rfl (by omega) (by omega) ⟨by omega, by unfold maxLen; omega⟩ wr.heap.size rfl ?_; intro wn rn hbn hltn)
        obtain ⟨wo, rfl⟩ : ∃ wo : World, wo = wr := ⟨_, rfl⟩
        obtain ⟨gq, rfl⟩ : ∃ gq : Nat, gq = gk := ⟨_, rfl⟩
        clear hta
        have HIN : Hid (InRel (hs0 ++ [G]) S s.size 1 wo.heap.size wo (s.size + 1) (.int .i64 ((0 : Nat) : Int)) (wn.alloc (.cells #[] 237))) := ⟨0, rfl, Nat.zero_le _, by rw [Nat.zero_add, partOf_one S (snoc_one_zero (by rw [HK.out]; decide) hs0), HSL.out]; exact rn.alloc _, hbn.alloc hbn.size _, by omega⟩
        clear rn hbn hltn
        go_loopg [37] (s.size + 1) (fun g k wx => InRel (hs0 ++ [G]) S s.size 1 wo.heap.size wo g k wx)
        case atStart => exact HIN.out
        case round =>
          clear HIN
          obtain ⟨k, rfl, hk0, hpart, hbx, hg2⟩ := hrel
          have HG2 := Lib.hid hg2; clear hg2
          have hlo := hpart.lt
          have hlb := (hrow.below hbx).lt
          by_cases hkl : k < s.size + 1
          · have hkS : k ≤ S.length := by rw [HSL.out]; omega
            have hci : (k : Int) < (s.size : Int) + 1 := by omega
            have ca : wr.cell? ⟨B, k, none⟩ = some (.bool (M hs0 (S.take k))) := by rw [(hrow.below hbx).cell, rowOf_at _ _ _ hkS]
            obtain ⟨a, ha⟩ : ∃ a, M hs0 (S.take k) = a := ⟨_, rfl⟩
            rw [ha] at ca; have HA := Lib.hid ha; clear ha
            have hG2 := HG2.out
            have HPART := Lib.hid hpart; clear hpart
            cases a
            · have hskip : Hid (partOf (hs0 ++ [G]) S (k + 1) = partOf (hs0 ++ [G]) S (k + 1 + 1)) := partOf_skip _ _ _ fun h => by rw [snoc_one (by rw [HK.out]; decide) hs0 S k (by omega), HA.out]; rfl
              go_wp2_with fail
              go_quiet (fail)
              go_wp2_with fail
              go_roundg (s.size + 1 - (k + 1))
              case measure => omega
              case rel => exact ⟨k + 1, by go_num, by omega, by have := HPART.out; rw [hskip.out] at this; exact this, below_drewN hbx _, by omega⟩
            · by_cases hkn : k < s.size
              · have hkn2 : (k : Int) < (s.size : Int) := by omega
                have hb0 := get_bt s
                obtain ⟨h, hh⟩ : ∃ h, G.has (bt s k) = h := ⟨_, rfl⟩
                have HH := Lib.hid hh; clear hh
                have hM : Hid (M (hs0 ++ [G]) (S.take (k + 1)) = h) := by unfold Hid; rw [snoc_one (by rw [HK.out]; decide) hs0 S k (by rw [HSL.out]; omega), HA.out, ← HH.out]; simp only [Bool.true_and, HS.out, bl_get s k hkn]
                go_wp2_with fail
                have hnil := nil_one
                go_still_tail 15, (by kernel_rfl)
                change wpList _ _ _ _ _ wr.drew
                go_wp2_with fail
                refine (one_at (bt s k) h (by rw [← HH.out]; simp [Sg.has, HK.out]) _).mono ?_
                rintro e wy ⟨rfl, hby⟩
                have hp2 : RowIs wy wo.heap.size 4 (partOf (hs0 ++ [G]) S (k + 1)) := RowIs.below (w := wr.drew) HPART.out hby
                have hbx2 : Below wo.heap.size wo wy := (hbx.drew).trans (hby.mono hbx.size)
                have cn : wy.cell? ⟨wo.heap.size, k + 1, none⟩ = some (.bool false) := by rw [hp2.cell, partOf_at _ _ _ _ (by rw [HSL.out]; omega)]; simp
                have fn := hp2.free (k + 1)
                have hl2 := hp2.lt
                have HP2 := Lib.hid hp2; clear hp2 hnil hb0 hby
                cases h
                · have hskip : Hid (partOf (hs0 ++ [G]) S (k + 1) = partOf (hs0 ++ [G]) S (k + 1 + 1)) := partOf_skip _ _ _ fun _ => hM.out
                  go_wp2_with fail
                  go_roundg (s.size + 1 - (k + 1))
                  case measure => omega
                  case rel => exact ⟨k + 1, by go_num, by omega, by have := HP2.out; rw [hskip.out] at this; exact this, hbx2, by omega⟩
                · go_wp2_with fail
                  go_roundg (s.size + 1 - (k + 1))
                  case measure => omega
                  case rel => exact ⟨k + 1, by go_num, by omega, by have := HP2.out.set (k + 1) (.bool true); rw [partOf_set _ _ _ (by rw [HSL.out]; omega) true hM.out] at this; exact this, hbx2.setCell (p := ⟨wo.heap.size, k + 1, none⟩) (Nat.le_refl _) _, by omega⟩
              · have hkn2 : ¬ (k : Int) < (s.size : Int) := by omega
                have hskip : Hid (partOf (hs0 ++ [G]) S (k + 1) = partOf (hs0 ++ [G]) S (k + 1 + 1)) := partOf_skip _ _ _ fun h => by have := HSL.out; omega
                go_wp2_with fail
                go_quiet (fail)
                go_wp2_with fail
                go_roundg (s.size + 1 - (k + 1))
                case measure => omega
                case rel => exact ⟨k + 1, by go_num, by omega, by have := HPART.out; rw [hskip.out] at this; exact this, below_drewN hbx _, by omega⟩
          · have hfin : Hid (RowIs wr wo.heap.size 4 (rowOf (gs.take (j + 1)) S)) := by unfold Hid; rw [HT.out]; rw [partOf_end _ _ _ (by rw [HSL.out]; omega)] at hpart; exact hpart
            have hG := HG.out
            clear hpart
            go_wp2_with fail
            go_roundg (gq - 1)
            case measure => omega
            case rel => exact ⟨j + 1, wo.heap.size, by go_num, by omega, rfl, hfin.out, hbel.trans (hbx.mono hbel.size), by omega⟩
      · have HK := Lib.hid hk; clear hk
        have hta := ta_any
        go_wp2_with (at_make; refine wpList_mkrow _ rfl _ _ 217 rfl 4 _ 1 Tryz.underlying217 info4 rfl _ _ _ _ (s.size + 1) rfl rfl (by omega) (by omega) ⟨by omega, by unfold maxLen; omega⟩ wr.heap.size rfl ?_; intro wn rn hbn hltn)
        obtain ⟨wo, rfl⟩ : ∃ wo : World, wo = wr := ⟨_, rfl⟩
        obtain ⟨gq, rfl⟩ : ∃ gq : Nat, gq = gk := ⟨_, rfl⟩
        clear hta
        have HIN : Hid (InRel (hs0 ++ [G]) S s.size 0 wo.heap.size wo (s.size + 1) (.int .i64 ((0 : Nat) : Int)) (wn.alloc (.cells #[] 237))) := ⟨0, rfl, Nat.zero_le _, by rw [Nat.zero_add, partOf_zero, HSL.out]; exact rn.alloc _, hbn.alloc hbn.size _, by omega⟩
        clear rn hbn hltn
        go_loopg [37] (s.size + 1) (fun g k wx => InRel (hs0 ++ [G]) S s.size 0 wo.heap.size wo g k wx)
        case atStart => exact HIN.out
        case round =>
          clear HIN
          obtain ⟨k, rfl, hk0, hpart, hbx, hg2⟩ := hrel
          have HG2 := Lib.hid hg2; clear hg2
          have hlo := hpart.lt
          have hlb := (hrow.below hbx).lt
          by_cases hkl : k < s.size + 1
          · have hkS : k ≤ S.length := by rw [HSL.out]; omega
            have hci : (k : Int) < (s.size : Int) + 1 := by omega
            have ca : wr.cell? ⟨B, k, none⟩ = some (.bool (M hs0 (S.take k))) := by rw [(hrow.below hbx).cell, rowOf_at _ _ _ hkS]
            obtain ⟨a, ha⟩ : ∃ a, M hs0 (S.take k) = a := ⟨_, rfl⟩
            rw [ha] at ca; have HA := Lib.hid ha; clear ha
            have cn : wr.cell? ⟨wo.heap.size, k, none⟩ = some (.bool false) := by rw [hpart.cell, Nat.add_zero, partOf_at _ _ _ _ hkS]; simp
            have fn := hpart.free k
            obtain ⟨b, hb⟩ : ∃ b, M (hs0 ++ [G]) (S.take k) = b := ⟨_, rfl⟩
            have hnext : InRel (hs0 ++ [G]) S s.size 0 wo.heap.size wo (s.size + 1 - (k + 1)) (.int .i64 ((k + 1 : Nat) : Int)) (wr.setCell ⟨wo.heap.size, k, none⟩ (.bool b)) := ⟨k + 1, rfl, by omega, by have := hpart.set k (.bool b); rw [Nat.add_zero, partOf_set _ _ _ hkS b hb] at this; simpa using this, hbx.setCell (p := ⟨wo.heap.size, k, none⟩) (Nat.le_refl _) _, by omega⟩
            have HNX := Lib.hid hnext; have HB := Lib.hid hb; clear hnext hb
            have HPART := Lib.hid hpart; clear hpart
            have hG2 := HG2.out
            by_cases hk1 : 1 ≤ k
            · have cp : wr.cell? ⟨wo.heap.size, k - 1, none⟩ = some (.bool (M (hs0 ++ [G]) (S.take (k - 1)))) := by rw [HPART.out.cell, Nat.add_zero, partOf_at _ _ _ _ (by omega), if_pos (by omega)]
              obtain ⟨b1, hb1⟩ : ∃ b1, M (hs0 ++ [G]) (S.take (k - 1)) = b1 := ⟨_, rfl⟩
              rw [hb1] at cp
              have hbb : b = (a || b1) := by rw [← HB.out, ← HA.out, ← hb1]; have := snoc_any HK.out hs0 S (k - 1) (by omega); rw [show k - 1 + 1 = k by omega] at this; exact this
              have HBB := Lib.hid hbb; clear hb1 hbb
              cases a
              · go_wp2_with fail
                go_roundg (s.size + 1 - (k + 1))
                case measure => omega
                case rel => have := HNX.out; rw [HBB.out] at this; simpa using this
              · go_wp2_with fail
                go_roundg (s.size + 1 - (k + 1))
                case measure => omega
                case rel => have := HNX.out; rw [HBB.out] at this; simpa using this
            · have hkz : ¬ (0 : Int) < (k : Int) := by omega
              have hbb : b = a := by rw [← HB.out, ← HA.out, show k = 0 by omega]; exact snoc_any_zero HK.out hs0
              have HBB := Lib.hid hbb; clear hbb
              cases a
              · go_wp2_with fail
                go_roundg (s.size + 1 - (k + 1))
                case measure => omega
                case rel => have := HNX.out; rw [HBB.out] at this; simpa using this
              · go_wp2_with fail
                go_roundg (s.size + 1 - (k + 1))
                case measure => omega
                case rel => have := HNX.out; rw [HBB.out] at this; simpa using this
          · have hfin : Hid (RowIs wr wo.heap.size 4 (rowOf (gs.take (j + 1)) S)) := by unfold Hid; rw [HT.out]; rw [partOf_end _ _ _ (by rw [HSL.out]; omega)] at hpart; exact hpart
            have hG := HG.out
            clear hpart
            go_wp2_with fail
            go_roundg (gq - 1)
            case measure => omega
            case rel => exact ⟨j + 1, wo.heap.size, by go_num, by omega, rfl, hfin.out, hbel.trans (hbx.mono hbel.size), by omega⟩
      · have HK := Lib.hid hk; clear hk
        obtain ⟨sa, sc, rfl⟩ := own_slice hsv
        have HSV := Lib.hid hsv; have HSPL : Hid (G.span.length ≤ 9223372036854775807) := own_len hsv; clear hsv
        have hta := ta_set G.neg (.slice sa G.span.length sc)
        go_wp2_with (at_make; refine wpList_mkrow _ rfl _ _ 217 rfl 4 _ 1 Tryz.underlying217 info4 rfl _ _ _ _ (s.size + 1) rfl rfl (by omega) (by omega) ⟨by omega, by unfold maxLen; omega⟩ wr.heap.size rfl ?_; intro wn rn hbn hltn)
        obtain ⟨wo, rfl⟩ : ∃ wo : World, wo = wr := ⟨_, rfl⟩
        obtain ⟨gq, rfl⟩ : ∃ gq : Nat, gq = gk := ⟨_, rfl⟩
        clear hta
        have HIN : Hid (InRel (hs0 ++ [G]) S s.size 1 wo.heap.size wo (s.size + 1) (.int .i64 ((0 : Nat) : Int)) (wn.alloc (.cells #[] 237))) := ⟨0, rfl, Nat.zero_le _, by rw [Nat.zero_add, partOf_one S (snoc_one_zero (by rw [HK.out]; decide) hs0), HSL.out]; exact rn.alloc _, hbn.alloc hbn.size _, by omega⟩
        clear rn hbn hltn
        go_loopg [37] (s.size + 1) (fun g k wx => InRel (hs0 ++ [G]) S s.size 1 wo.heap.size wo g k wx)
        case atStart => exact HIN.out
        case round =>
          clear HIN
          obtain ⟨k, rfl, hk0, hpart, hbx, hg2⟩ := hrel
          have HG2 := Lib.hid hg2; clear hg2
          have hlo := hpart.lt
          have hlb := (hrow.below hbx).lt
          by_cases hkl : k < s.size + 1
          · have hkS : k ≤ S.length := by rw [HSL.out]; omega
            have hci : (k : Int) < (s.size : Int) + 1 := by omega
            have ca : wr.cell? ⟨B, k, none⟩ = some (.bool (M hs0 (S.take k))) := by rw [(hrow.below hbx).cell, rowOf_at _ _ _ hkS]
            obtain ⟨a, ha⟩ : ∃ a, M hs0 (S.take k) = a := ⟨_, rfl⟩
            rw [ha] at ca; have HA := Lib.hid ha; clear ha
            have hG2 := HG2.out
            have HPART := Lib.hid hpart; clear hpart
            cases a
            · have hskip : Hid (partOf (hs0 ++ [G]) S (k + 1) = partOf (hs0 ++ [G]) S (k + 1 + 1)) := partOf_skip _ _ _ fun h => by rw [snoc_one (by rw [HK.out]; decide) hs0 S k (by omega), HA.out]; rfl
              go_wp2_with fail
              go_quiet (fail)
              go_wp2_with fail
              go_roundg (s.size + 1 - (k + 1))
              case measure => omega
              case rel => exact ⟨k + 1, by go_num, by omega, by have := HPART.out; rw [hskip.out] at this; exact this, below_drewN hbx _, by omega⟩
            · by_cases hkn : k < s.size
              · have hkn2 : (k : Int) < (s.size : Int) := by omega
                have hb0 := get_bt s
                obtain ⟨h, hh⟩ : ∃ h, G.has (bt s k) = h := ⟨_, rfl⟩
                have HH := Lib.hid hh; clear hh
                have hM : Hid (M (hs0 ++ [G]) (S.take (k + 1)) = h) := by unfold Hid; rw [snoc_one (by rw [HK.out]; decide) hs0 S k (by rw [HSL.out]; omega), HA.out, ← HH.out]; simp only [Bool.true_and, HS.out, bl_get s k hkn]
                go_wp2_with fail
                have hnil := nil_set G.neg (.slice sa G.span.length sc)
                go_still_tail 15, (by kernel_rfl)
                change wpList _ _ _ _ _ wr.drew
                go_wp2_with fail
                refine (set_at G.neg G.span (HSPL.out) _ (bt s k) base h (by rw [← HH.out]; unfold Sg.has; rw [HK.out]; rfl) _ (own_drew (own_below HSV.out hbx))).mono ?_
                rintro e wy ⟨rfl, hby⟩
                have hp2 : RowIs wy wo.heap.size 4 (partOf (hs0 ++ [G]) S (k + 1)) := RowIs.below (w := wr.drew) HPART.out hby
                have hbx2 : Below wo.heap.size wo wy := (hbx.drew).trans (hby.mono hbx.size)
                have cn : wy.cell? ⟨wo.heap.size, k + 1, none⟩ = some (.bool false) := by rw [hp2.cell, partOf_at _ _ _ _ (by rw [HSL.out]; omega)]; simp
                have fn := hp2.free (k + 1)
                have hl2 := hp2.lt
                have HP2 := Lib.hid hp2; clear hp2 hnil hb0 hby
                cases h
                · have hskip : Hid (partOf (hs0 ++ [G]) S (k + 1) = partOf (hs0 ++ [G]) S (k + 1 + 1)) := partOf_skip _ _ _ fun _ => hM.out
                  go_wp2_with fail
                  go_roundg (s.size + 1 - (k + 1))
                  case measure => omega
                  case rel => exact ⟨k + 1, by go_num, by omega, by have := HP2.out; rw [hskip.out] at this; exact this, hbx2, by omega⟩
                · go_wp2_with fail
                  go_roundg (s.size + 1 - (k + 1))
                  case measure => omega
                  case rel => exact ⟨k + 1, by go_num, by omega, by have := HP2.out.set (k + 1) (.bool true); rw [partOf_set _ _ _ (by rw [HSL.out]; omega) true hM.out] at this; exact this, hbx2.setCell (p := ⟨wo.heap.size, k + 1, none⟩) (Nat.le_refl _) _, by omega⟩
              · have hkn2 : ¬ (k : Int) < (s.size : Int) := by omega
                have hskip : Hid (partOf (hs0 ++ [G]) S (k + 1) = partOf (hs0 ++ [G]) S (k + 1 + 1)) := partOf_skip _ _ _ fun h => by have := HSL.out; omega
                go_wp2_with fail
                go_quiet (fail)
                go_wp2_with fail
                go_roundg (s.size + 1 - (k + 1))
                case measure => omega
                case rel => exact ⟨k + 1, by go_num, by omega, by have := HPART.out; rw [hskip.out] at this; exact this, below_drewN hbx _, by omega⟩
          · have hfin : Hid (RowIs wr wo.heap.size 4 (rowOf (gs.take (j + 1)) S)) := by unfold Hid; rw [HT.out]; rw [partOf_end _ _ _ (by rw [HSL.out]; omega)] at hpart; exact hpart
            have hG := HG.out
            clear hpart
            go_wp2_with fail
            go_roundg (gq - 1)
            case measure => omega
            case rel => exact ⟨j + 1, wo.heap.size, by go_num, by omega, rfl, hfin.out, hbel.trans (hbx.mono hbel.size), by omega⟩
    · go_wp2_with fail
      go_ret
      refine ⟨B, rfl, ?_, hbw.trans (hbel.mono hbw.size)⟩
      rw [List.take_of_length_le (by omega)] at hrow
      rw [← HGS.out]; exact hrow
set_option maxHeartbeats 1000000 in
theorem match_any (t m s : ByteArray) (ht : t.size ≤ 1000000000) (hs : s.size ≤ 1000000000) (w : World) :
    Calls Tryz.prog 149 #[.agg #[.string t, .string m], .string s] w fun e w' => e = .returned (.bool (matchF t m (bl s))) ∧ Below w.heap.size w w' := by
  obtain ⟨S, hS⟩ : ∃ S, S = bl s := ⟨_, rfl⟩
  have HSL : Hid (S.length = s.size) := by unfold Hid; rw [hS, bl_length]
  have HE := Lib.hid (ends_any t m s ht hs)
  rw [← hS]; rw [← hS] at HE
  clear hS
  go_enter Tryz.func149, Tryz.ntmps149
  go_wp2_with fail
  refine (HE.out _).mono ?_
  rintro e w1 ⟨B, rfl, hrow, hb⟩
  have c : w1.cell? ⟨B, s.size, none⟩ = some (.bool (matchF t m S)) := by
    rw [hrow.cell, rowOf_at _ _ _ (by rw [HSL.out]; exact Nat.le_refl _), List.take_of_length_le (by rw [HSL.out]; exact Nat.le_refl _)]; rfl
  have hb2 := below_call hb ((Below.refl w.heap.size w).alloc (Nat.le_refl _) _)
  clear hrow hb
  go_wp2_with fail
  go_ret
  exact ⟨rfl, hb2⟩
end Go.Proofs.YtkmpbkhlcapbgaaGreatDoor.Gb
