/-
  DERIVED. The walk of the law GlobCuts: for every text, pattern and names it returns true and leaves what was there.
-/
import Derived.Test.YtmcaphmgjhkgfaaWb
import Derived.Test.YtmcaphmgjhkgfaaLiftS
namespace Go.Proofs.Ytmcaphmgjhkgfaa
open Go.RowKit Go.Sort Gl
theorem rcut_at (s t m : ByteArray) (fin longest : Bool) (ht : t.size ≤ 1000000000) (hs : s.size ≤ 1000000000) (r : ByteArray) (h : cutF t m s fin longest = r) (w : World) :
    Calls Try.prog 15 #[.string s, .string t, .string m, .bool fin, .bool longest] w fun e w' => e = .returned (.string r) ∧ Below w.heap.size w w' := by
  subst h; exact rcut_any s t m fin longest ht hs w
theorem rpick_at (t m : ByteArray) (ss : List ByteArray) (ht : t.size ≤ 1000000000) (hss : ss.length ≤ 1000000000) (hsz : ∀ x ∈ ss, x.size ≤ 1000000000) (l : List Bs) (h : pickF t m ss = l) (v : Value) (w : World) (hv : StrsAt w v ss) :
    Calls Try.prog 17 #[.string t, .string m, v] w (PickPost l w) := by
  subst h; exact rpick_any t m ss ht hss hsz v w hv
def CutsRel1 (ss : List ByteArray) (t m : ByteArray) (w : World) (g : Nat) (k : Value) (wr : World) : Prop :=
  ∃ n : Nat, k = .int .i64 n ∧ n ≤ ss.length ∧ Hid (∀ i (h : i < ss.length), i < n → ss[i].size ≤ 16) ∧ LawS w t m wr ∧ n + g = ss.length
def CutsRel2 (t m : ByteArray) (w : World) (g : Nat) (k : Value) (wr : World) : Prop :=
  ∃ n : Nat, k = .int .i64 n ∧ n ≤ 4 ∧ LawS w t m wr ∧ n + g = 4
def CutsRel3 (L : List Bs) (w0 : World) (g : Nat) (k : Value) (wr : World) : Prop :=
  ∃ n : Nat, k = .int .i64 n ∧ n ≤ L.length ∧ Below w0.heap.size w0 wr ∧ n + g = L.length
theorem strs_cell {w wr : World} {a : Option Addr} {len cap : Nat} {ss : List ByteArray} (h : StrsAt w (.slice a len cap) ss) (hb : Below w.heap.size w wr) (n : Nat) (hl : n < ss.length) :
    ∃ b off, a = some ⟨b, off, none⟩ ∧ wr.cell? ⟨b, off + n, none⟩ = some (.string ss[n]) := by
  obtain ⟨a', cap', hv, hc⟩ := h
  simp only [Value.slice.injEq] at hv
  obtain ⟨rfl, rfl, rfl⟩ := hv
  rcases hc with h | ⟨b, off, ha, hc⟩
  · rw [h] at hl; simp at hl
  · exact ⟨b, off, ha, (hb.cell (block_lt_of_cell (hc n hl))).trans (hc n hl)⟩
set_option maxRecDepth 100000 in
set_option maxHeartbeats 16000000 in
theorem law_cuts (s : ByteArray) (hs : s.size ≤ maxLen) (t m : ByteArray) (ht : t.size ≤ maxLen) (_hm : m.size ≤ maxLen) (a : Option Addr) (len cap : Nat) (ss : List ByteArray) (w : World) (hv : IsStrs w a len cap ss) :
    Calls Try.prog 4 #[.string s, .agg #[.string t, .string m], .slice a len cap] w fun e w' => e = .returned (.bool true) ∧ Below w.heap.size w w' := by
  have hs' := hs
  unfold maxLen at hs'
  obtain ⟨hstr, hl0, _⟩ := hv
  unfold maxLen at hl0
  have hlen : len = ss.length := by obtain ⟨a', cap', hv, _⟩ := hstr; simp only [Value.slice.injEq] at hv; exact hv.2.1
  subst hlen
  have HSTR := Lib.hid hstr; clear hstr
  have S0 := LawS.start w t m
  obtain ⟨fb, hfb⟩ : ∃ fb, fewB t = fb := ⟨_, rfl⟩
  have HF := Lib.hid hfb
  clear hfb
  go_enter Try.func4, Try.ntmps4
  go_wp2_with fail
  refine (awake_any _).mono ?_; rintro e w1 ⟨rfl, hb⟩
  have S1 := S0.next hb; clear S0 hb
  obtain ⟨c0, c1, l0⟩ := S1.facts
  go_wp2_with fail
  refine (few_at t m ht fb HF.out _).mono ?_; rintro e w2 ⟨rfl, hb⟩
  have S2 := S1.next hb; clear S1 hb c0 c1 l0
  cases fb
  · go_wp2_with fail
    go_ret
    exact ⟨rfl, S2.2⟩
  · have ht2 : t.size ≤ 1000000000 := by have := few_size HF.out; omega
    by_cases hsz : s.size ≤ 16
    · have hs2 : s.size ≤ 1000000000 := by omega
      have hsz' : ¬ (16 : Int) < (s.size : Int) := by omega
      by_cases hln : ss.length ≤ 20
      · have hln' : ¬ (20 : Int) < (ss.length : Int) := by omega
        go_wp2_with fail
        have hst : Hid (CutsRel1 ss t m w ss.length (.int .i64 ((0 : Nat) : Int)) w2) := ⟨0, rfl, Nat.zero_le _, fun i _ h => by omega, S2, by omega⟩
        clear S2
        go_loopg [9] ss.length (fun g k wr => CutsRel1 ss t m w g k wr)
        case atStart => exact hst.out
        case round =>
          clear hst
          obtain ⟨n, rfl, hn, HLOW, S3, hg⟩ := hrel
          have HG := Lib.hid hg; clear hg
          by_cases hl : n < ss.length
          · obtain ⟨b, off, rfl, hx⟩ := strs_cell HSTR.out S3.2 n hl
            obtain ⟨x, hxx⟩ : ∃ x, x = ss[n] := ⟨_, rfl⟩
            rw [← hxx] at hx
            have HXX := Lib.hid hxx; clear hxx
            by_cases hx16 : x.size ≤ 16
            · have hx16' : ¬ (16 : Int) < (x.size : Int) := by omega
              go_wp2_with fail
              go_roundg (ss.length - (n + 1))
              case measure => have := HG.out; omega
              case rel =>
                refine ⟨n + 1, by go_num, by omega, fun i h hi => ?_, S3, by omega⟩
                by_cases e : i = n
                · subst e; rw [← HXX.out]; exact hx16
                · exact HLOW.out i h (by omega)
            · have hx16' : (16 : Int) < (x.size : Int) := by omega
              go_wp2_with fail
              go_ret
              exact ⟨rfl, S3.2⟩
          · obtain rfl : n = ss.length := by omega
            have hall : Hid (∀ x ∈ ss, x.size ≤ 1000000000) := fun x hx => by
              obtain ⟨i, hi, rfl⟩ := List.getElem_of_mem hx
              have := HLOW.out i hi hi; omega
            clear HLOW HG
            go_wp2_with fail
            have hst : Hid (CutsRel2 t m w 4 (.int .i64 ((0 : Nat) : Int)) wr) := ⟨0, rfl, by omega, S3, by omega⟩
            clear S3 hl
            obtain ⟨wo, hwo⟩ : ∃ wo, wo = wr := ⟨_, rfl⟩
            rw [← hwo] at hst
            rw [← hwo]
            clear hwo
            go_loopg [10, 11, 12] 4 (fun g k _ _ wr => CutsRel2 t m w g k wr)
            case atStart => exact hst.out
            case round =>
              clear hst
              obtain ⟨n, rfl, hn, S4, hg⟩ := hrel
              have HG := Lib.hid hg; clear hg
              obtain ⟨c0, c1, l0⟩ := S4.facts
              rcases (show n = 0 ∨ n = 1 ∨ n = 2 ∨ n = 3 ∨ n = 4 by omega) with rfl | rfl | rfl | rfl | rfl
              · obtain ⟨r, hr⟩ : ∃ r, cutF t m s false false = r := ⟨_, rfl⟩
                have HR := Lib.hid hr; clear hr
                have S5 := S4.drew
                go_wp2_with fail
                go_region_held3 (fun wx => wx.cell? ⟨w.heap.size, 0, none⟩ = some (.string t) ∧ wx.cell? ⟨w.heap.size, 1, none⟩ = some (.string m) ∧ LawS w t m wx) (exact LawS.all (by assumption))
                  (first | (go_at_call 14; refine (cut_at s t m false false ht2 hs2 r HR.out _).mono ?_; rintro e wn ⟨rfl, hb⟩; have hn := LawS.next (by assumption) hb) | (go_at_call 15; refine (rcut_at s t m false false ht2 hs2 r HR.out _).mono ?_; rintro e wn ⟨rfl, hb⟩; have hn := LawS.next (by assumption) hb))
                all_goals
                  go_wp2_with fail
                  go_roundg 3
                  case measure => have := HG.out; omega
                  case rel => exact ⟨1, rfl, by omega, hn, by omega⟩
              · obtain ⟨r, hr⟩ : ∃ r, cutF t m s true false = r := ⟨_, rfl⟩
                have HR := Lib.hid hr; clear hr
                have S5 := S4.drew
                go_wp2_with fail
                go_region_held3 (fun wx => wx.cell? ⟨w.heap.size, 0, none⟩ = some (.string t) ∧ wx.cell? ⟨w.heap.size, 1, none⟩ = some (.string m) ∧ LawS w t m wx) (exact LawS.all (by assumption))
                  (first | (go_at_call 14; refine (cut_at s t m true false ht2 hs2 r HR.out _).mono ?_; rintro e wn ⟨rfl, hb⟩; have hn := LawS.next (by assumption) hb) | (go_at_call 15; refine (rcut_at s t m true false ht2 hs2 r HR.out _).mono ?_; rintro e wn ⟨rfl, hb⟩; have hn := LawS.next (by assumption) hb))
                all_goals
                  go_wp2_with fail
                  go_roundg 2
                  case measure => have := HG.out; omega
                  case rel => exact ⟨2, rfl, by omega, hn, by omega⟩
              · obtain ⟨r, hr⟩ : ∃ r, cutF t m s false true = r := ⟨_, rfl⟩
                have HR := Lib.hid hr; clear hr
                have S5 := S4.drew
                go_wp2_with fail
                go_region_held3 (fun wx => wx.cell? ⟨w.heap.size, 0, none⟩ = some (.string t) ∧ wx.cell? ⟨w.heap.size, 1, none⟩ = some (.string m) ∧ LawS w t m wx) (exact LawS.all (by assumption))
                  (first | (go_at_call 14; refine (cut_at s t m false true ht2 hs2 r HR.out _).mono ?_; rintro e wn ⟨rfl, hb⟩; have hn := LawS.next (by assumption) hb) | (go_at_call 15; refine (rcut_at s t m false true ht2 hs2 r HR.out _).mono ?_; rintro e wn ⟨rfl, hb⟩; have hn := LawS.next (by assumption) hb))
                all_goals
                  go_wp2_with fail
                  go_roundg 1
                  case measure => have := HG.out; omega
                  case rel => exact ⟨3, rfl, by omega, hn, by omega⟩
              · obtain ⟨r, hr⟩ : ∃ r, cutF t m s true true = r := ⟨_, rfl⟩
                have HR := Lib.hid hr; clear hr
                have S5 := S4.drew
                go_wp2_with fail
                go_region_held3 (fun wx => wx.cell? ⟨w.heap.size, 0, none⟩ = some (.string t) ∧ wx.cell? ⟨w.heap.size, 1, none⟩ = some (.string m) ∧ LawS w t m wx) (exact LawS.all (by assumption))
                  (first | (go_at_call 14; refine (cut_at s t m true true ht2 hs2 r HR.out _).mono ?_; rintro e wn ⟨rfl, hb⟩; have hn := LawS.next (by assumption) hb) | (go_at_call 15; refine (rcut_at s t m true true ht2 hs2 r HR.out _).mono ?_; rintro e wn ⟨rfl, hb⟩; have hn := LawS.next (by assumption) hb))
                all_goals
                  go_wp2_with fail
                  go_roundg 0
                  case measure => have := HG.out; omega
                  case rel => exact ⟨4, rfl, by omega, hn, by omega⟩
              · obtain ⟨L, hL⟩ : ∃ L, pickF t m ss = L := ⟨_, rfl⟩
                have hLl : L.length ≤ 1000000000 := by
                  rw [← hL]
                  exact Nat.le_trans (compact_length _) (by rw [List.length_mergeSort]; unfold namesF; rw [List.length_map]; exact Nat.le_trans (List.length_filter_le _ _) (by omega))
                have HL := Lib.hid hL; clear hL
                go_wp2_with fail
                refine (pick_at t m ss ht2 (by omega) hall.out L HL.out _ _ (HSTR.out.below S4.2)).mono ?_; rintro e w3 ⟨v1, rfl, ho1, hb1⟩
                obtain ⟨a1, p1, rfl⟩ := own_slice ho1
                have S5 := S4.next hb1
                obtain ⟨d0, d1, m0⟩ := S5.facts
                have HO1 := Lib.hid ho1; clear ho1 hb1 c0 c1 l0 S4
                go_wp2_with fail
                refine (rpick_at t m ss ht2 (by omega) hall.out L HL.out _ _ (HSTR.out.below S5.2)).mono ?_; rintro e w4 ⟨v2, rfl, ho2, hb2⟩
                obtain ⟨a2, p2, rfl⟩ := own_slice ho2
                have S6 := S5.next hb2
                have HO1' := Lib.hid (own_below HO1.out hb2)
                have HO2 := Lib.hid ho2; clear ho2 hb2 d0 d1 m0 S5 HO1
                go_wp2_with fail
                have hst : Hid (CutsRel3 L w4 L.length (.int .i64 ((0 : Nat) : Int)) w4) := ⟨0, rfl, Nat.zero_le _, Below.refl _ _, by omega⟩
                go_loopg [15] L.length (fun g k wr => CutsRel3 L w4 g k wr)
                case atStart => exact hst.out
                case round =>
                  clear hst
                  obtain ⟨n, rfl, hn, hbl, hg⟩ := hrel
                  have HG3 := Lib.hid hg; clear hg
                  by_cases hl : n < L.length
                  · obtain ⟨g1, y1, hao1, yc1, yl1⟩ := out_cell (own_below HO1'.out hbl) n hl
                    obtain ⟨g2, y2, hao2, yc2, yl2⟩ := out_cell (own_below HO2.out hbl) n hl
                    obtain rfl : y1 = y2 := by rw [← Lib.mk_data y1, ← Lib.mk_data y2, ← Lib.toList_data, ← Lib.toList_data, yl1, yl2]
                    subst hao1 hao2
                    clear yl1 yl2
                    have hi0 : (0 : Int) ≤ (n : Int) := by omega
                    have hi1 : (n : Int) < (L.length : Int) := by omega
                    go_wp2_with fail
                    go_region
                    go_wp2_with fail
                    go_roundg (L.length - (n + 1))
                    case measure => have := HG3.out; omega
                    case rel => exact ⟨n + 1, by go_num, by omega, hbl.drew, by omega⟩
                  · go_wp2_with fail
                    go_ret
                    exact ⟨rfl, S6.2.trans (hbl.mono S6.2.size)⟩
      · have hln' : (20 : Int) < (ss.length : Int) := by omega
        go_wp2_with fail
        go_ret
        exact ⟨rfl, S2.2⟩
    · have hsz' : (16 : Int) < (s.size : Int) := by omega
      go_wp2_with fail
      go_ret
      exact ⟨rfl, S2.2⟩
end Go.Proofs.Ytmcaphmgjhkgfaa
