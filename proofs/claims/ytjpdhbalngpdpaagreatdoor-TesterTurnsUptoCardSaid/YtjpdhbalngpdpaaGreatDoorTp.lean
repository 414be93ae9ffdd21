/-
  DERIVED. The walk of the law TesterTurns.
-/
import Derived.Test.YtjpdhbalngpdpaaGreatDoorTo
import Derived.Test.YtjpdhbalngpdpaaGreatDoorSrc
import Derived.Deep.DeepCutAuto
namespace Go.Proofs.YtjpdhbalngpdpaaGreatDoor
open Go.RowKit
theorem info9 : (Tryz.prog.info? 9).map (fun i => (i.zero, i.size, i.bytes)) = some (some (.string ⟨#[]⟩), 1, 16) := by kernel_rfl
theorem srcOf_strs {w : World} {a : Option Addr} {n cap : Nat} {ss : List ByteArray} (h : StrsAt w (.slice a n cap) ss) (hne : 0 < ss.length) : SrcAt w (.slice a n cap) n (ss.map Value.string) := by
  obtain ⟨a', cap', hv, hcap, hc⟩ := h
  cases hv
  rcases hc with hc | ⟨b, off, rfl, hc⟩
  · rw [hc] at hne; simp at hne
  · refine ⟨_, cap, rfl, by simp, (fun e => by cases e), fun ad e => ?_⟩
    cases e
    refine ⟨rfl, fun j u hu => ?_⟩
    rw [List.getElem?_map] at hu
    obtain ⟨s, hs, rfl⟩ := Option.map_eq_some_iff.1 hu
    obtain ⟨hj, rfl⟩ := List.getElem?_eq_some_iff.1 hs
    rw [show (⟨b, off, none⟩ : Addr).add j = ⟨b, off + j, none⟩ from by unfold Addr.add; split <;> simp_all]
    exact hc j hj
theorem strs_of_own {w : World} {base e n : Nat} {v : Value} {ss : List ByteArray} (h : w.ownsRow base e 1 v n (ss.map Value.string)) (hne : 0 < ss.length) : StrsAt w v ss := by
  have hl := h.1
  simp only [List.length_map, Nat.mul_one] at hl
  obtain ⟨g, cap, rfl, _, hcap, _, hc⟩ := own_cells h (by omega)
  refine ⟨_, cap, by rw [hl], by omega, .inr ⟨g, 0, rfl, fun i hi => ?_⟩⟩
  rw [Nat.zero_add, hc i (by omega), List.getElem?_map, List.getElem?_eq_getElem hi]
  rfl
theorem strs_one (ss : List ByteArray) : ∀ u ∈ ss.map Value.string, u.oneCell' = true := fun u hu => by
  obtain ⟨s, _, rfl⟩ := List.mem_map.1 hu
  rfl
theorem dec_cmp (a op b : ByteArray) (hok : DecOk [a, op, b]) (x : Int) (hx : decF [a, op, b] = ⟨x, AskT.none, false⟩) (v : Value) (w : World) (hv : StrsAt w v [a, op, b]) (hE : Env w) :
    Calls Tryz.prog 11 #[v] w fun e w' => e = .returned (.tuple #[.int .i64 x, .agg #[.bool false, .string ⟨#[]⟩, .string ⟨#[]⟩], .bool false]) ∧ Below w.heap.size w w' :=
  dec_any [a, op, b] hok _ hx v w hv hE
set_option maxRecDepth 100000 in
set_option maxHeartbeats 8000000 in
theorem law_turns_main (ss : List ByteArray) (h1 : 0 < ss.length) (h3 : ss.length ≤ 3) (hs : ∀ s ∈ ss, s.size ≤ 1000000000) (a b : ByteArray) (ha : a.size ≤ 60) (hb : b.size ≤ 60) (v : Value) (w : World) (hv : StrsAt w v ss) (hE : Env w) :
    Calls Tryz.prog 5 #[v, .string a, .string b] w fun e w' => e = .returned (.bool true) ∧ Below w.heap.size w w' := by
  have HV := Lib.hid hv
  have HA := Lib.hid (awake_any w hE)
  have HE := Lib.hid hE
  obtain ⟨d, hd⟩ : ∃ d, decF ss = d := ⟨_, rfl⟩
  obtain ⟨r, hr⟩ : ∃ r, decF (bang :: ss) = r := ⟨_, rfl⟩
  have HT : Hid ((∀ op b, ss = [op, b] → ¬ isOp op.data.toList) → r = turnedF d) := fun h => by rw [← hd, ← hr]; exact turns_dec ss h1 h3 h
  have HN : Hid (In02 d) := by unfold Hid; rw [← hd]; exact in02_dec ss
  have ok3 : ∀ op : ByteArray, DecOk [a, op, b] := fun op => cmpOk_of (by omega) (by omega)
  obtain ⟨x, hx⟩ : ∃ x, truthF (decide (bl a = bl b)) = x := ⟨_, rfl⟩
  obtain ⟨y, hy⟩ : ∃ y, truthF (!decide (bl a = bl b)) = y := ⟨_, rfl⟩
  have HXY : Hid (x + y = 1) := by unfold Hid; rw [← hx, ← hy]; exact truth_sum _
  have HX := Lib.hid (dec_cmp a ⟨#[61]⟩ b (ok3 _) x (by rw [← hx]; rfl))
  have HY := Lib.hid (dec_cmp a ⟨#[33, 61]⟩ b (ok3 _) y (by rw [← hy]; rfl))
  obtain ⟨l, g, hl, hg, hlg⟩ : ∃ l g, decF [a, ⟨#[45, 108, 116]⟩, b] = ⟨l, AskT.none, false⟩ ∧ decF [a, ⟨#[45, 103, 101]⟩, b] = ⟨g, AskT.none, false⟩ ∧ ((l = 2 ∧ g = 2) ∨ (l ≠ 2 ∧ l + g = 1)) := by
    rcases dec_less a b with ⟨e1, e2⟩ | ⟨t, e1, e2⟩
    · exact ⟨2, 2, e1, e2, .inl ⟨rfl, rfl⟩⟩
    · exact ⟨truthF t, truthF (!t), e1, e2, .inr ⟨by cases t <;> simp [truthF], truth_sum t⟩⟩
  have HG := Lib.hid (dec_cmp a ⟨#[45, 108, 116]⟩ b (ok3 _) l hl)
  have HH := Lib.hid (dec_cmp a ⟨#[45, 103, 101]⟩ b (ok3 _) g hg)
  have HLG := Lib.hid hlg
  have HD := Lib.hid (dec_any ss (decOk_of hs) d hd v)
  have HR := Lib.hid (dec_any (bang :: ss) (decOk_of (fun s h => by
    rcases List.mem_cons.1 h with rfl | h
    · decide
    · exact hs s h)) r hr)
  obtain ⟨ao, cap, rfl, hcap, hc⟩ := hv
  have HS := Lib.hid (srcOf_strs HV.out h1)
  obtain ⟨k, hk⟩ : ∃ k, ss.length = k := ⟨_, rfl⟩
  rw [hk] at h1 h3 HD HV HS ⊢
  have HK := Lib.hid hk
  have g1 : ¬ (3 : Int) < (k : Int) := by omega
  have g2 : ((k : Int) == 0) = false := by simp; omega
  have g3 : ¬ (60 : Int) < (a.size : Int) := by omega
  have g4 : ¬ (60 : Int) < (b.size : Int) := by omega
  have HC := Lib.hid (And.intro h1 h3)
  obtain ⟨dn, ⟨dneg, dop, dpath⟩, dasks⟩ := d
  obtain ⟨rn, ⟨rneg, rop, rpath⟩, rasks⟩ := r
  clear hc hcap hE hs hd hr hk h1 h3 hx hy hl hg hlg ok3
  go_enter Tryz.func5, Tryz.ntmps5
  go_wp2_with fail
  refine HA.out.mono ?_; rintro e w1 ⟨rfl, B1⟩
  go_wp2_with (first
    | (at_builtin; refine wpList_push rfl _ _ _ rfl w1.heap.size 9 _ 16 Tryz.underlying22 info9 rfl _ 0 [] rfl (World.ownsRow_nil _ _ _ _) _ _ rfl (by simp) rfl (by unfold maxLen; omega) (Nat.le_refl _) ?_; intro v2 w2 ho2 hg2; obtain ⟨g2, cap2, rfl, hge2, _, _, _⟩ := own_cells ho2 (by omega); have B2 := (B1.alloc B1.size (.cells #[.string ⟨#[33]⟩] 9)).grown hg2 (by have := B1.size; simp; omega) (fun k h => by cases h); have HO2 := Lib.hid ho2; have HG2 := Lib.hid hge2; have HZ2 := Lib.hid hg2.size; clear ho2 hg2 hge2)
    | (at_builtin; refine wpList_append_src rfl (.tmp 51) (.tmp 52) _ rfl w1.heap.size 9 _ 16 Tryz.underlying22 info9 rfl _ 1 [.string ⟨#[33]⟩] rfl HO2.out _ k (ss.map Value.string) rfl (HS.out.below B2) (strs_one ss) (by have := HC.out; unfold maxLen; omega) (by have := HZ2.out; simp at this; omega) ?_; intro v3 w3 ho3 hg3; have B3 := B2.grown hg3 B2.size (fun j h => by cases h; exact Nat.le_trans B1.size HG2.out); obtain ⟨g3, cap3, rfl, hge3, _, _, hc3⟩ := own_cells ho3 (by omega); have hl3 : StrsAt w3 (.slice (some ⟨g3, 0, none⟩) (1 + k) cap3) (bang :: ss) := strs_of_own (base := w1.heap.size) (e := 9) (ss := bang :: ss) ho3 (Nat.zero_lt_succ _); have HL := Lib.hid hl3; have HC3 := Lib.hid hc3; clear ho3 hg3 hge3 hc3 hl3))
  refine (HD.out _ (HV.out.below B3) (HE.out.keep B3)).mono ?_; rintro e w4 ⟨rfl, b4⟩
  have B4 := B3.trans (b4.mono B3.size)
  have r10 := RowIs.new w4 25 [.bool dneg, .string dop, .string dpath]
  have c4 := (Below.refl w4.heap.size w4).alloc (Nat.le_refl _) (.cells #[.bool dneg, .string dop, .string dpath] 25)
  have K4 := b4.trans (c4.mono b4.size)
  have B4' := B4.trans (c4.mono B4.size)
  clear b4 c4
  go_wp2_with fail
  refine (HR.out _ _ (HL.out.below K4) (HE.out.keep B4')).mono ?_; rintro e w5 ⟨rfl, b5⟩
  have B5 := B4'.trans (b5.mono B4'.size)
  have K5 := K4.trans (b5.mono K4.size)
  have s10 := (r10.below b5).alloc (.cells #[.bool rneg, .string rop, .string rpath] 25)
  have s13 := RowIs.new w5 25 [.bool rneg, .string rop, .string rpath]
  have C5 := B5.alloc B5.size (.cells #[.bool rneg, .string rop, .string rpath] 25)
  have L5 := K5.alloc K5.size (.cells #[.bool rneg, .string rop, .string rpath] 25)
  clear b5 B5 K5 r10 K4 B4'
  go_wp2_with fail
  have D6 := C5.alloc C5.size (.cells #[.string a, .string ⟨#[61]⟩, .string b] 9)
  have M6 := L5.alloc L5.size (.cells #[.string a, .string ⟨#[61]⟩, .string b] 9)
  refine (HX.out _ _ (new_strs3 _ _ _ _ _ _ (by simp)) (HE.out.keep D6)).mono ?_; rintro e w6 ⟨rfl, b6⟩
  have E6 := D6.trans (b6.mono D6.size)
  have N6 := M6.trans (b6.mono M6.size)
  have t10 := ((s10.alloc (.cells #[.string a, .string ⟨#[61]⟩, .string b] 9)).below b6).alloc (.cells #[.bool false, .string ⟨#[]⟩, .string ⟨#[]⟩] 25)
  have t13 := ((s13.alloc (.cells #[.string a, .string ⟨#[61]⟩, .string b] 9)).below b6).alloc (.cells #[.bool false, .string ⟨#[]⟩, .string ⟨#[]⟩] 25)
  clear s10 s13
  have s10 := t10
  have s13 := t13
  have C6 := E6.alloc E6.size (.cells #[.bool false, .string ⟨#[]⟩, .string ⟨#[]⟩] 25)
  have L6 := N6.alloc N6.size (.cells #[.bool false, .string ⟨#[]⟩, .string ⟨#[]⟩] 25)
  clear t10 t13 b6 D6 M6 E6 N6 C5 L5
  go_wp2_with fail
  have D7 := C6.alloc C6.size (.cells #[.string a, .string ⟨#[33, 61]⟩, .string b] 9)
  have M7 := L6.alloc L6.size (.cells #[.string a, .string ⟨#[33, 61]⟩, .string b] 9)
  refine (HY.out _ _ (new_strs3 _ _ _ _ _ _ (by simp)) (HE.out.keep D7)).mono ?_; rintro e w7 ⟨rfl, b7⟩
  have E7 := D7.trans (b7.mono D7.size)
  have N7 := M7.trans (b7.mono M7.size)
  have t10 := ((s10.alloc (.cells #[.string a, .string ⟨#[33, 61]⟩, .string b] 9)).below b7).alloc (.cells #[.bool false, .string ⟨#[]⟩, .string ⟨#[]⟩] 25)
  have t13 := ((s13.alloc (.cells #[.string a, .string ⟨#[33, 61]⟩, .string b] 9)).below b7).alloc (.cells #[.bool false, .string ⟨#[]⟩, .string ⟨#[]⟩] 25)
  clear s10 s13
  have s10 := t10
  have s13 := t13
  have C7 := E7.alloc E7.size (.cells #[.bool false, .string ⟨#[]⟩, .string ⟨#[]⟩] 25)
  have L7 := N7.alloc N7.size (.cells #[.bool false, .string ⟨#[]⟩, .string ⟨#[]⟩] 25)
  clear t10 t13 b7 D7 M7 E7 N7 C6 L6
  go_wp2_with fail
  have D8 := C7.alloc C7.size (.cells #[.string a, .string ⟨#[45, 108, 116]⟩, .string b] 9)
  have M8 := L7.alloc L7.size (.cells #[.string a, .string ⟨#[45, 108, 116]⟩, .string b] 9)
  refine (HG.out _ _ (new_strs3 _ _ _ _ _ _ (by simp)) (HE.out.keep D8)).mono ?_; rintro e w8 ⟨rfl, b8⟩
  have E8 := D8.trans (b8.mono D8.size)
  have N8 := M8.trans (b8.mono M8.size)
  have t10 := ((s10.alloc (.cells #[.string a, .string ⟨#[45, 108, 116]⟩, .string b] 9)).below b8).alloc (.cells #[.bool false, .string ⟨#[]⟩, .string ⟨#[]⟩] 25)
  have t13 := ((s13.alloc (.cells #[.string a, .string ⟨#[45, 108, 116]⟩, .string b] 9)).below b8).alloc (.cells #[.bool false, .string ⟨#[]⟩, .string ⟨#[]⟩] 25)
  clear s10 s13
  have s10 := t10
  have s13 := t13
  have C8 := E8.alloc E8.size (.cells #[.bool false, .string ⟨#[]⟩, .string ⟨#[]⟩] 25)
  have L8 := N8.alloc N8.size (.cells #[.bool false, .string ⟨#[]⟩, .string ⟨#[]⟩] 25)
  clear t10 t13 b8 D8 M8 E8 N8 C7 L7
  go_wp2_with fail
  have D9 := C8.alloc C8.size (.cells #[.string a, .string ⟨#[45, 103, 101]⟩, .string b] 9)
  have M9 := L8.alloc L8.size (.cells #[.string a, .string ⟨#[45, 103, 101]⟩, .string b] 9)
  refine (HH.out _ _ (new_strs3 _ _ _ _ _ _ (by simp)) (HE.out.keep D9)).mono ?_; rintro e w9 ⟨rfl, b9⟩
  have E9 := D9.trans (b9.mono D9.size)
  have N9 := M9.trans (b9.mono M9.size)
  have t10 := ((s10.alloc (.cells #[.string a, .string ⟨#[45, 103, 101]⟩, .string b] 9)).below b9).alloc (.cells #[.bool false, .string ⟨#[]⟩, .string ⟨#[]⟩] 25)
  have t13 := ((s13.alloc (.cells #[.string a, .string ⟨#[45, 103, 101]⟩, .string b] 9)).below b9).alloc (.cells #[.bool false, .string ⟨#[]⟩, .string ⟨#[]⟩] 25)
  clear s10 s13
  have s10 := t10
  have s13 := t13
  have C9 := E9.alloc E9.size (.cells #[.bool false, .string ⟨#[]⟩, .string ⟨#[]⟩] 25)
  have L9 := N9.alloc N9.size (.cells #[.bool false, .string ⟨#[]⟩, .string ⟨#[]⟩] 25)
  clear t10 t13 b9 D9 M9 E9 N9 C8 L8
  go_upto_region 15 with fail
  obtain ⟨k0, k1, k2, _, _, _, _⟩ := ask_facts s10
  obtain ⟨j0, j1, j2, _, _, _, _⟩ := ask_facts s13
  have HC9 := Lib.hid C9
  have HL9 := Lib.hid L9
  have hw : IntKind.i64.wrap (x + y) = 1 := by rw [HXY.out]; rfl
  have h0 : 0 ≤ dn := HN.out.1
  have h2 : dn ≤ 2 := HN.out.2
  clear s10 s13 C9 L9
  rcases HLG.out with ⟨rfl, rfl⟩ | ⟨hl2, hlg⟩
  · skip
    rcases (show k = 1 ∨ k = 3 ∨ k = 2 by have := HC.out; omega) with rfl | rfl | rfl
    · have hno : ∀ op b, ss = [op, b] → ¬ isOp op.data.toList := fun op b h => by have := HK.out; rw [h] at this; simp at this
      clear HK
      have e := HT.out (hno)
      cases dasks
      · rcases (show dn = 0 ∨ dn = 1 ∨ dn = 2 by omega) with rfl | rfl | rfl
        · have e' : (⟨rn, ⟨rneg, rop, rpath⟩, rasks⟩ : DecT) = ⟨1, ⟨dneg, dop, dpath⟩, false⟩ := e
          cases e'
          clear e HT HN HV HS HL
          go_wp2_with fail
          go_ret
          exact ⟨rfl, HC9.out⟩
        · have e' : (⟨rn, ⟨rneg, rop, rpath⟩, rasks⟩ : DecT) = ⟨0, ⟨dneg, dop, dpath⟩, false⟩ := e
          cases e'
          clear e HT HN HV HS HL
          go_wp2_with fail
          go_ret
          exact ⟨rfl, HC9.out⟩
        · have e' : (⟨rn, ⟨rneg, rop, rpath⟩, rasks⟩ : DecT) = ⟨2, ⟨dneg, dop, dpath⟩, false⟩ := e
          cases e'
          clear e HT HN HV HS HL
          go_wp2_with fail
          go_ret
          exact ⟨rfl, HC9.out⟩
      · have e' : (⟨rn, ⟨rneg, rop, rpath⟩, rasks⟩ : DecT) = ⟨dn, ⟨!dneg, dop, dpath⟩, true⟩ := e
        cases e'
        have qn : ((!dneg) != dneg) = true := by cases dneg <;> rfl
        clear e HT HN HV HS HL
        go_wp2_with fail
        go_ret
        exact ⟨rfl, HC9.out⟩
    · have hno : ∀ op b, ss = [op, b] → ¬ isOp op.data.toList := fun op b h => by have := HK.out; rw [h] at this; simp at this
      clear HK
      have e := HT.out (hno)
      cases dasks
      · rcases (show dn = 0 ∨ dn = 1 ∨ dn = 2 by omega) with rfl | rfl | rfl
        · have e' : (⟨rn, ⟨rneg, rop, rpath⟩, rasks⟩ : DecT) = ⟨1, ⟨dneg, dop, dpath⟩, false⟩ := e
          cases e'
          clear e HT HN HV HS HL
          go_wp2_with fail
          go_ret
          exact ⟨rfl, HC9.out⟩
        · have e' : (⟨rn, ⟨rneg, rop, rpath⟩, rasks⟩ : DecT) = ⟨0, ⟨dneg, dop, dpath⟩, false⟩ := e
          cases e'
          clear e HT HN HV HS HL
          go_wp2_with fail
          go_ret
          exact ⟨rfl, HC9.out⟩
        · have e' : (⟨rn, ⟨rneg, rop, rpath⟩, rasks⟩ : DecT) = ⟨2, ⟨dneg, dop, dpath⟩, false⟩ := e
          cases e'
          clear e HT HN HV HS HL
          go_wp2_with fail
          go_ret
          exact ⟨rfl, HC9.out⟩
      · have e' : (⟨rn, ⟨rneg, rop, rpath⟩, rasks⟩ : DecT) = ⟨dn, ⟨!dneg, dop, dpath⟩, true⟩ := e
        cases e'
        have qn : ((!dneg) != dneg) = true := by cases dneg <;> rfl
        clear e HT HN HV HS HL
        go_wp2_with fail
        go_ret
        exact ⟨rfl, HC9.out⟩
    · obtain ⟨op, p, rfl⟩ : ∃ op p, ss = [op, p] := by
        have h := HK.out
        match ss, h with
        | [op, p], _ => exact ⟨op, p, rfl⟩
      have hc1 : w3.cell? ⟨g3, 1, none⟩ = some (.string op) := by have := HC3.out 1 (by omega); simpa using this
      have hcl := (HL9.out.cell (p := ⟨g3, 1, none⟩) (block_lt_of_cell hc1)).trans hc1
      clear hc1
      by_cases hop : isOp op.data.toList
      · clear HT HN HV HS HL HK HC3
        rcases hop with h | h | h | h | h | h | h | h
        · obtain rfl : op = ⟨#[61]⟩ := by rw [← Lib.mk_data op, h]
          clear h
          go_wp2_with fail
          go_ret
          exact ⟨rfl, HC9.out⟩
        · obtain rfl : op = ⟨#[33, 61]⟩ := by rw [← Lib.mk_data op, h]
          clear h
          go_wp2_with fail
          go_ret
          exact ⟨rfl, HC9.out⟩
        · obtain rfl : op = ⟨#[45, 101, 113]⟩ := by rw [← Lib.mk_data op, h]
          clear h
          go_wp2_with fail
          go_ret
          exact ⟨rfl, HC9.out⟩
        · obtain rfl : op = ⟨#[45, 110, 101]⟩ := by rw [← Lib.mk_data op, h]
          clear h
          go_wp2_with fail
          go_ret
          exact ⟨rfl, HC9.out⟩
        · obtain rfl : op = ⟨#[45, 108, 116]⟩ := by rw [← Lib.mk_data op, h]
          clear h
          go_wp2_with fail
          go_ret
          exact ⟨rfl, HC9.out⟩
        · obtain rfl : op = ⟨#[45, 108, 101]⟩ := by rw [← Lib.mk_data op, h]
          clear h
          go_wp2_with fail
          go_ret
          exact ⟨rfl, HC9.out⟩
        · obtain rfl : op = ⟨#[45, 103, 116]⟩ := by rw [← Lib.mk_data op, h]
          clear h
          go_wp2_with fail
          go_ret
          exact ⟨rfl, HC9.out⟩
        · obtain rfl : op = ⟨#[45, 103, 101]⟩ := by rw [← Lib.mk_data op, h]
          clear h
          go_wp2_with fail
          go_ret
          exact ⟨rfl, HC9.out⟩
      · have hno : ∀ o b, [op, p] = [o, b] → ¬ isOp o.data.toList := fun o b h => by cases h; exact hop
        have u0 : (op.toList == [61]) = false := by rw [Lib.toList_data]; simp only [isOp, not_or] at hop; simpa using hop.1
        have u1 : (op.toList == [33, 61]) = false := by rw [Lib.toList_data]; simp only [isOp, not_or] at hop; simpa using hop.2.1
        have u2 : (op.toList == [45, 101, 113]) = false := by rw [Lib.toList_data]; simp only [isOp, not_or] at hop; simpa using hop.2.2.1
        have u3 : (op.toList == [45, 110, 101]) = false := by rw [Lib.toList_data]; simp only [isOp, not_or] at hop; simpa using hop.2.2.2.1
        have u4 : (op.toList == [45, 108, 116]) = false := by rw [Lib.toList_data]; simp only [isOp, not_or] at hop; simpa using hop.2.2.2.2.1
        have u5 : (op.toList == [45, 108, 101]) = false := by rw [Lib.toList_data]; simp only [isOp, not_or] at hop; simpa using hop.2.2.2.2.2.1
        have u6 : (op.toList == [45, 103, 116]) = false := by rw [Lib.toList_data]; simp only [isOp, not_or] at hop; simpa using hop.2.2.2.2.2.2.1
        have u7 : (op.toList == [45, 103, 101]) = false := by rw [Lib.toList_data]; simp only [isOp, not_or] at hop; simpa using hop.2.2.2.2.2.2.2
        clear hop HK
        have e := HT.out (hno)
        cases dasks
        · rcases (show dn = 0 ∨ dn = 1 ∨ dn = 2 by omega) with rfl | rfl | rfl
          · have e' : (⟨rn, ⟨rneg, rop, rpath⟩, rasks⟩ : DecT) = ⟨1, ⟨dneg, dop, dpath⟩, false⟩ := e
            cases e'
            clear e HT HN HV HS HL
            go_wp2_with fail
            go_ret
            exact ⟨rfl, HC9.out⟩
          · have e' : (⟨rn, ⟨rneg, rop, rpath⟩, rasks⟩ : DecT) = ⟨0, ⟨dneg, dop, dpath⟩, false⟩ := e
            cases e'
            clear e HT HN HV HS HL
            go_wp2_with fail
            go_ret
            exact ⟨rfl, HC9.out⟩
          · have e' : (⟨rn, ⟨rneg, rop, rpath⟩, rasks⟩ : DecT) = ⟨2, ⟨dneg, dop, dpath⟩, false⟩ := e
            cases e'
            clear e HT HN HV HS HL
            go_wp2_with fail
            go_ret
            exact ⟨rfl, HC9.out⟩
        · have e' : (⟨rn, ⟨rneg, rop, rpath⟩, rasks⟩ : DecT) = ⟨dn, ⟨!dneg, dop, dpath⟩, true⟩ := e
          cases e'
          have qn : ((!dneg) != dneg) = true := by cases dneg <;> rfl
          clear e HT HN HV HS HL
          go_wp2_with fail
          go_ret
          exact ⟨rfl, HC9.out⟩
  · have q1 : (l != 2) = true := by simpa using hl2
    have q2 : (l == 2) = false := by simpa using hl2
    have hw2 : IntKind.i64.wrap (l + g) = 1 := by rw [hlg]; rfl
    clear hl2 hlg
    rcases (show k = 1 ∨ k = 3 ∨ k = 2 by have := HC.out; omega) with rfl | rfl | rfl
    · have hno : ∀ op b, ss = [op, b] → ¬ isOp op.data.toList := fun op b h => by have := HK.out; rw [h] at this; simp at this
      clear HK
      have e := HT.out (hno)
      cases dasks
      · rcases (show dn = 0 ∨ dn = 1 ∨ dn = 2 by omega) with rfl | rfl | rfl
        · have e' : (⟨rn, ⟨rneg, rop, rpath⟩, rasks⟩ : DecT) = ⟨1, ⟨dneg, dop, dpath⟩, false⟩ := e
          cases e'
          clear e HT HN HV HS HL
          go_wp2_with fail
          go_ret
          exact ⟨rfl, HC9.out⟩
        · have e' : (⟨rn, ⟨rneg, rop, rpath⟩, rasks⟩ : DecT) = ⟨0, ⟨dneg, dop, dpath⟩, false⟩ := e
          cases e'
          clear e HT HN HV HS HL
          go_wp2_with fail
          go_ret
          exact ⟨rfl, HC9.out⟩
        · have e' : (⟨rn, ⟨rneg, rop, rpath⟩, rasks⟩ : DecT) = ⟨2, ⟨dneg, dop, dpath⟩, false⟩ := e
          cases e'
          clear e HT HN HV HS HL
          go_wp2_with fail
          go_ret
          exact ⟨rfl, HC9.out⟩
      · have e' : (⟨rn, ⟨rneg, rop, rpath⟩, rasks⟩ : DecT) = ⟨dn, ⟨!dneg, dop, dpath⟩, true⟩ := e
        cases e'
        have qn : ((!dneg) != dneg) = true := by cases dneg <;> rfl
        clear e HT HN HV HS HL
        go_wp2_with fail
        go_ret
        exact ⟨rfl, HC9.out⟩
    · have hno : ∀ op b, ss = [op, b] → ¬ isOp op.data.toList := fun op b h => by have := HK.out; rw [h] at this; simp at this
      clear HK
      have e := HT.out (hno)
      cases dasks
      · rcases (show dn = 0 ∨ dn = 1 ∨ dn = 2 by omega) with rfl | rfl | rfl
        · have e' : (⟨rn, ⟨rneg, rop, rpath⟩, rasks⟩ : DecT) = ⟨1, ⟨dneg, dop, dpath⟩, false⟩ := e
          cases e'
          clear e HT HN HV HS HL
          go_wp2_with fail
          go_ret
          exact ⟨rfl, HC9.out⟩
        · have e' : (⟨rn, ⟨rneg, rop, rpath⟩, rasks⟩ : DecT) = ⟨0, ⟨dneg, dop, dpath⟩, false⟩ := e
          cases e'
          clear e HT HN HV HS HL
          go_wp2_with fail
          go_ret
          exact ⟨rfl, HC9.out⟩
        · have e' : (⟨rn, ⟨rneg, rop, rpath⟩, rasks⟩ : DecT) = ⟨2, ⟨dneg, dop, dpath⟩, false⟩ := e
          cases e'
          clear e HT HN HV HS HL
          go_wp2_with fail
          go_ret
          exact ⟨rfl, HC9.out⟩
      · have e' : (⟨rn, ⟨rneg, rop, rpath⟩, rasks⟩ : DecT) = ⟨dn, ⟨!dneg, dop, dpath⟩, true⟩ := e
        cases e'
        have qn : ((!dneg) != dneg) = true := by cases dneg <;> rfl
        clear e HT HN HV HS HL
        go_wp2_with fail
        go_ret
        exact ⟨rfl, HC9.out⟩
    · obtain ⟨op, p, rfl⟩ : ∃ op p, ss = [op, p] := by
        have h := HK.out
        match ss, h with
        | [op, p], _ => exact ⟨op, p, rfl⟩
      have hc1 : w3.cell? ⟨g3, 1, none⟩ = some (.string op) := by have := HC3.out 1 (by omega); simpa using this
      have hcl := (HL9.out.cell (p := ⟨g3, 1, none⟩) (block_lt_of_cell hc1)).trans hc1
      clear hc1
      by_cases hop : isOp op.data.toList
      · clear HT HN HV HS HL HK HC3
        rcases hop with h | h | h | h | h | h | h | h
        · obtain rfl : op = ⟨#[61]⟩ := by rw [← Lib.mk_data op, h]
          clear h
          go_wp2_with fail
          go_ret
          exact ⟨rfl, HC9.out⟩
        · obtain rfl : op = ⟨#[33, 61]⟩ := by rw [← Lib.mk_data op, h]
          clear h
          go_wp2_with fail
          go_ret
          exact ⟨rfl, HC9.out⟩
        · obtain rfl : op = ⟨#[45, 101, 113]⟩ := by rw [← Lib.mk_data op, h]
          clear h
          go_wp2_with fail
          go_ret
          exact ⟨rfl, HC9.out⟩
        · obtain rfl : op = ⟨#[45, 110, 101]⟩ := by rw [← Lib.mk_data op, h]
          clear h
          go_wp2_with fail
          go_ret
          exact ⟨rfl, HC9.out⟩
        · obtain rfl : op = ⟨#[45, 108, 116]⟩ := by rw [← Lib.mk_data op, h]
          clear h
          go_wp2_with fail
          go_ret
          exact ⟨rfl, HC9.out⟩
        · obtain rfl : op = ⟨#[45, 108, 101]⟩ := by rw [← Lib.mk_data op, h]
          clear h
          go_wp2_with fail
          go_ret
          exact ⟨rfl, HC9.out⟩
        · obtain rfl : op = ⟨#[45, 103, 116]⟩ := by rw [← Lib.mk_data op, h]
          clear h
          go_wp2_with fail
          go_ret
          exact ⟨rfl, HC9.out⟩
        · obtain rfl : op = ⟨#[45, 103, 101]⟩ := by rw [← Lib.mk_data op, h]
          clear h
          go_wp2_with fail
          go_ret
          exact ⟨rfl, HC9.out⟩
      · have hno : ∀ o b, [op, p] = [o, b] → ¬ isOp o.data.toList := fun o b h => by cases h; exact hop
        have u0 : (op.toList == [61]) = false := by rw [Lib.toList_data]; simp only [isOp, not_or] at hop; simpa using hop.1
        have u1 : (op.toList == [33, 61]) = false := by rw [Lib.toList_data]; simp only [isOp, not_or] at hop; simpa using hop.2.1
        have u2 : (op.toList == [45, 101, 113]) = false := by rw [Lib.toList_data]; simp only [isOp, not_or] at hop; simpa using hop.2.2.1
        have u3 : (op.toList == [45, 110, 101]) = false := by rw [Lib.toList_data]; simp only [isOp, not_or] at hop; simpa using hop.2.2.2.1
        have u4 : (op.toList == [45, 108, 116]) = false := by rw [Lib.toList_data]; simp only [isOp, not_or] at hop; simpa using hop.2.2.2.2.1
        have u5 : (op.toList == [45, 108, 101]) = false := by rw [Lib.toList_data]; simp only [isOp, not_or] at hop; simpa using hop.2.2.2.2.2.1
        have u6 : (op.toList == [45, 103, 116]) = false := by rw [Lib.toList_data]; simp only [isOp, not_or] at hop; simpa using hop.2.2.2.2.2.2.1
        have u7 : (op.toList == [45, 103, 101]) = false := by rw [Lib.toList_data]; simp only [isOp, not_or] at hop; simpa using hop.2.2.2.2.2.2.2
        clear hop HK
        have e := HT.out (hno)
        cases dasks
        · rcases (show dn = 0 ∨ dn = 1 ∨ dn = 2 by omega) with rfl | rfl | rfl
          · have e' : (⟨rn, ⟨rneg, rop, rpath⟩, rasks⟩ : DecT) = ⟨1, ⟨dneg, dop, dpath⟩, false⟩ := e
            cases e'
            clear e HT HN HV HS HL
            go_wp2_with fail
            go_ret
            exact ⟨rfl, HC9.out⟩
          · have e' : (⟨rn, ⟨rneg, rop, rpath⟩, rasks⟩ : DecT) = ⟨0, ⟨dneg, dop, dpath⟩, false⟩ := e
            cases e'
            clear e HT HN HV HS HL
            go_wp2_with fail
            go_ret
            exact ⟨rfl, HC9.out⟩
          · have e' : (⟨rn, ⟨rneg, rop, rpath⟩, rasks⟩ : DecT) = ⟨2, ⟨dneg, dop, dpath⟩, false⟩ := e
            cases e'
            clear e HT HN HV HS HL
            go_wp2_with fail
            go_ret
            exact ⟨rfl, HC9.out⟩
        · have e' : (⟨rn, ⟨rneg, rop, rpath⟩, rasks⟩ : DecT) = ⟨dn, ⟨!dneg, dop, dpath⟩, true⟩ := e
          cases e'
          have qn : ((!dneg) != dneg) = true := by cases dneg <;> rfl
          clear e HT HN HV HS HL
          go_wp2_with fail
          go_ret
          exact ⟨rfl, HC9.out⟩
end Go.Proofs.YtjpdhbalngpdpaaGreatDoor
