/-
  DERIVED. The walk of ExpandQuoted (printed by gen_quoted.py). How an argument that is a slice of pairs of texts is opened. No walk here.
-/
import Derived.Test.YtkmpbkhlcapbgaaGreatDoorZUi
import Derived.Test.YtkmpbkhlcapbgaaGreatDoorZUks
import Derived.Test.YtkmpbkhlcapbgaaGreatDoorZ47
import Derived.Deep.Strs
namespace Go.Proofs.YtkmpbkhlcapbgaaGreatDoor
open Go Go.RowKit
theorem IsBinds.below {w w' : World} {a : Option Addr} {len cap : Nat} {L : List (ByteArray × ByteArray)} (h : IsBinds w a len cap L) (hb : Below w.heap.size w w') : IsBinds w' a len cap L :=
  ⟨h.len, h.cap, h.few, h.short, h.cells.imp id fun ⟨b, off, e, hc⟩ => ⟨b, off, e, hc.below hb⟩⟩
theorem IsStrs.below {w w' : World} {a : Option Addr} {len cap : Nat} {A : List ByteArray} (h : IsStrs w a len cap A) (hb : Below w.heap.size w w') : IsStrs w' a len cap A :=
  ⟨h.len, h.cap, h.few, h.short, h.cells.imp id fun ⟨b, off, e, hc⟩ => ⟨b, off, e, fun i hi => (hb.cell (show (⟨b, off + i, none⟩ : Addr).block < w.heap.size from block_lt_of_cell (hc i hi))).trans (hc i hi)⟩⟩
set_option maxRecDepth 100000 in
set_option maxHeartbeats 16000000 in
theorem law_quoted (a : Option Addr) (len cap : Nat) (L : List (ByteArray × ByteArray)) (a2 : Option Addr) (len2 cap2 : Nat) (A : List ByteArray) (fl : Int) (hf0 : 0 ≤ fl) (hf1 : fl ≤ 255) (s : ByteArray) (hsm : s.size ≤ maxLen) (w : World) (hL : IsBinds w a len cap L) (hA : IsStrs w a2 len2 cap2 A) (hT : Tab w) :
    Calls Tryz.prog 8 #[.slice a len cap, .slice a2 len2 cap2, .int .u8 fl, .string s] w fun e w' => e = .returned (.bool true) ∧ Below w.heap.size w w' := by
  have hss : s.size ≤ 9223372036854775807 := by unfold maxLen at hsm; omega
  have HAW := Lib.hid (awake_any w hT)
  have HT := Lib.hid hT
  have HF := Lib.hid hT.lt
  have HL := Lib.hid hL
  have HA := Lib.hid hA
  clear hT hL hA hsm
  go_enter Tryz.func8, Tryz.ntmps8
  go_wp2_with fail
  refine HAW.out.mono ?_; rintro e w1 ⟨rfl, hb1⟩
  have HFW := Lib.hid (few_any a len cap L a2 len2 cap2 A w1 (HL.out.below hb1) (HA.out.below hb1))
  have HB := Lib.hid hb1
  clear hb1 HAW
  go_wp2_with fail
  refine HFW.out.mono ?_; rintro e w2 ⟨b, rfl, hb, hw2⟩
  rw [hw2]
  clear hw2 HFW w2
  cases b
  · clear hb
    go_wp2_with fail
    go_ret
    exact ⟨rfl, HB.out⟩
  · have HK := Lib.hid (hb rfl)
    clear hb
    by_cases h1 : 100 < s.size
    · have h1' : (100 : Int) < (s.size : Int) := by omega
      clear h1
      go_wp2_with fail
      go_ret
      exact ⟨rfl, HB.out⟩
    · have h1' : ¬ (100 : Int) < (s.size : Int) := by omega
      have H1 : Hid (s.size ≤ 100) := Nat.le_of_not_lt h1
      clear h1
      go_wp2_with fail
      go_loopg [11] s.size (fun g s11 wx => wx = w1 ∧ ∃ i : Nat, i + g = s.size ∧ s11 = .int .i64 i ∧ Hid (∀ j (h : j < s.size), j < i → s[j] ≠ 39))
      case atStart => exact ⟨rfl, 0, by omega, rfl, fun j _ h => by omega⟩
      case round =>
        obtain ⟨rfl, i, hig, rfl, hrel⟩ := hrel
        cases gk with
        | succ g =>
          have hi : i < s.size := by omega
          by_cases hc : s[i] = 39
          · have hc2 : ((s[i].toNat : Int) == 39) = true := by rw [hc]; rfl
            clear hrel
            go_wp2_with fail
            go_ret
            exact ⟨rfl, HB.out⟩
          · have hc1 : s[i].toNat ≠ 39 := fun e => hc (UInt8.toNat_inj.1 (e.trans rfl))
            have hc2 : ((s[i].toNat : Int) == 39) = false := by simp; omega
            have HR := Lib.hid hrel.out
            have HC := Lib.hid hc
            clear hrel hc hc1
            go_wp2_with fail
            go_roundg g
            case measure => omega
            case rel => exact ⟨rfl, i + 1, by omega, rfl, fun j hj hji => by
              rcases Nat.lt_or_ge j i with q | q
              · exact HR.out j hj q
              · obtain rfl : j = i := by omega
                exact HC.out⟩
        | zero =>
          obtain rfl : i = s.size := by omega
          have hq : (39 : UInt8) ∉ s.data.toList := fun hm => by
            obtain ⟨j, hj, he⟩ := List.getElem_of_mem hm
            have hj' : j < s.size := by simpa using hj
            exact hrel.out j hj' hj' he
          have HQ := Lib.hid hq
          have hz : ¬ 9223372036854775807 < 1 + s.size ∧ 1 + s.size ≤ 9223372036854775807 ∧ ¬ 9223372036854775807 < 1 + s.size + 1 ∧ 1 + s.size + 1 ≤ 9223372036854775807 := by have := H1.out; omega
          have HMD := Lib.hid (made_any a len cap L a2 len2 cap2 A fl 0 hf0 hf1 (by omega) (by omega) wr (HL.out.below (HB.out)) (HA.out.below HB.out) HK.out)
          clear hrel hq
          go_wp2_with fail
          refine HMD.out.mono ?_; rintro x w2 ⟨va2, nv2, cv2, E, hEa, hEv, hEs, rfl, hE2, hb2⟩
          have HVL : Hid (E.vars.length ≤ 12) := by have := HK.out.l; unfold Hid; omega
          clear HMD hEa hEv hEs
          go_wp2_with fail
          obtain ⟨W2, hW2⟩ : ∃ W2, w2.alloc (.cells #[.slice va2 nv2 cv2, .slice a2 len2 cap2, .int .i64 E.status, .string ⟨E.flags.toArray⟩] 28) = W2 := ⟨_, rfl⟩
          have r2 : RowIs W2 w2.heap.size 28 [.slice va2 nv2 cv2, .slice a2 len2 cap2, .int .i64 E.status, .string ⟨E.flags.toArray⟩] := by rw [← hW2]; exact RowIs.new w2 _ _
          have B2 : Below w.heap.size w W2 := by rw [← hW2]; exact (HB.out.trans (hb2.mono HB.out.size)).alloc (HB.out.trans (hb2.mono HB.out.size)).size _
          have E2 : EnvA W2 (.slice va2 nv2 cv2) (.slice a2 len2 cap2) E := by rw [← hW2]; exact EnvA.below hE2 ((Below.refl _ _).alloc (Nat.le_refl _) _)
          rw [hW2]
          clear hW2 hE2 hb2
          have HQ1 := Lib.hid (q_single E s H1.out HQ.out (by have := HVL.out; omega) va2 nv2 cv2 a2 len2 cap2 W2 E2 (HT.out.below HF.out B2))
          have HR2 := Lib.hid r2
          have HB2 := Lib.hid B2
          have HE2 := Lib.hid E2
          clear r2 B2 E2
          refine HQ1.out.mono ?_; rintro x w3 ⟨q3, k3, va3, nv3, cv3, aa3, na3, ca3, rfl, cq3, hE3, hb3⟩
          obtain ⟨c0, c1, c2, c3, f0, f1, f2, f3, lt1⟩ := four_facts (HR2.out.below hb3)
          have hq3 : q3 < w3.heap.size := block_lt_of_cell cq3
          clear HQ1
          obtain ⟨W3, hW3⟩ : ∃ W3, (w3.alloc (.cells #[.slice va3 nv3 cv3, .slice aa3 na3 ca3, .int .i64 E.status, .string ⟨E.flags.toArray⟩] 28)).alloc (.cells #[.int .i64 0, .string ⟨#[]⟩] 33) = W3 := ⟨_, rfl⟩
          obtain ⟨re3, rf3, bb3⟩ := two_boxes [.slice va3 nv3 cv3, .slice aa3 na3 ca3, .int .i64 E.status, .string ⟨E.flags.toArray⟩] [.int .i64 0, .string ⟨#[]⟩] 28 33 hW3
          have b23 : Below W2.heap.size W2 W3 := hb3.trans (bb3.mono hb3.size)
          have r23 := HR2.out.below b23
          rw [← hW3] at r23 re3 rf3
          obtain ⟨d0, d1, d2, d3, g0, g1, g2, g3, lt2⟩ := four_facts r23
          obtain ⟨e0, e1, e2, e3, h0, h1, h2, h3, lt3⟩ := four_facts re3
          obtain ⟨i0, i1, i2, i3, i4⟩ := two_facts rf3
          have cq33 : ((w3.alloc (.cells #[.slice va3 nv3 cv3, .slice aa3 na3 ca3, .int .i64 E.status, .string ⟨E.flags.toArray⟩] 28)).alloc (.cells #[.int .i64 0, .string ⟨#[]⟩] 33)).cell? ⟨q3, 0, none⟩ = some (.string s) := by rw [hW3]; exact (bb3.cell (show q3 < w3.heap.size from hq3)).trans cq3
          have HSM := Lib.hid (same_any E va3 nv3 cv3 aa3 na3 ca3 va2 nv2 cv2 a2 len2 cap2 _ _ E.status ⟨E.flags.toArray⟩ W3 (hE3.below bb3) (HE2.out.below b23))
          have HX3 := Lib.hid b23
          have HW3 := Lib.hid hW3
          clear r23 re3 rf3 hW3 b23 hb3 bb3 hE3
          go_wp2_with fail
          rw [HW3.out]
          clear HW3 c0 c1 c2 c3 f0 f1 f2 f3 lt1 d0 d1 d2 d3 g0 g1 g2 g3 lt2 e0 e1 e2 e3 h0 h1 h2 h3 lt3 i0 i1 i2 i3 i4 cq33 cq3 hq3
          refine HSM.out.mono ?_; rintro x w4 ⟨rfl, hb4⟩
          have b24 := HX3.out.trans (hb4.mono HX3.out.size)
          obtain ⟨c0, c1, c2, c3, f0, f1, f2, f3, lt1⟩ := four_facts (HR2.out.below b24)
          have HST := Lib.hid (set_ok ⟨#[118]⟩ s (by decide) (by decide) E va2 nv2 cv2 a2 len2 cap2 w4 (HE2.out.below b24) (by have := set_length E (⟨#[118]⟩ : ByteArray).data.toList s.data.toList; have := HVL.out; omega))
          have HX4 := Lib.hid b24
          clear b24 hb4 HSM HX3
          go_wp2_with fail
          refine HST.out.mono ?_; rintro x w5 ⟨va5, nv5, cv5, rfl, hE5, hb5⟩
          clear HST c0 c1 c2 c3 f0 f1 f2 f3 lt1
          have hgv : (E.set [118] s.data.toList).get [118] = some s.data.toList := get_set HE2.out.up [118] s.data.toList (by decide)
          have hvl : (E.set [118] s.data.toList).vars.length ≤ 1000 := by have := set_length E [118] s.data.toList; have := HVL.out; omega
          obtain ⟨V, hV⟩ : ∃ V, E.set (⟨#[118]⟩ : ByteArray).data.toList s.data.toList = V := ⟨_, rfl⟩
          have hV2 : E.set [118] s.data.toList = V := hV
          rw [hV2] at hgv hvl
          rw [hV] at hE5 ⊢
          have HGV := Lib.hid hgv
          have HVV := Lib.hid hvl
          clear hV hV2 hgv hvl
          go_wp2_with fail
          obtain ⟨W5, hW5⟩ : ∃ W5, w5.alloc (.cells #[.slice va5 nv5 cv5, .slice a2 len2 cap2, .int .i64 V.status, .string ⟨V.flags.toArray⟩] 28) = W5 := ⟨_, rfl⟩
          have r5 : RowIs W5 w5.heap.size 28 [.slice va5 nv5 cv5, .slice a2 len2 cap2, .int .i64 V.status, .string ⟨V.flags.toArray⟩] := by rw [← hW5]; exact RowIs.new w5 _ _
          have b25 : Below W2.heap.size W2 W5 := by rw [← hW5]; exact (HX4.out.trans (hb5.mono HX4.out.size)).alloc (HX4.out.trans (hb5.mono HX4.out.size)).size _
          have E5 : EnvA W5 (.slice va5 nv5 cv5) (.slice a2 len2 cap2) V := by rw [← hW5]; exact hE5.below ((Below.refl _ _).alloc (Nat.le_refl _) _)
          rw [hW5]
          clear hW5 hE5 hb5
          have hbw5 := HB2.out.trans (b25.mono HB2.out.size)
          have HQ2 := Lib.hid (q_double V s H1.out HGV.out HVV.out va5 nv5 cv5 a2 len2 cap2 W5 E5 (HT.out.below HF.out hbw5))
          have HR5 := Lib.hid r5
          have HB5 := Lib.hid hbw5
          have HE5 := Lib.hid E5
          clear r5 b25 E5 hbw5 HX4 HR2 HE2 HB2
          refine HQ2.out.mono ?_; rintro x w6 ⟨q6, k6, va6, nv6, cv6, aa6, na6, ca6, rfl, cq6, hE6, hb6⟩
          obtain ⟨c0, c1, c2, c3, f0, f1, f2, f3, lt1⟩ := four_facts (HR5.out.below hb6)
          clear HQ2
          go_wp2_with fail
          obtain ⟨W6, hW6⟩ : ∃ W6, (w6.alloc (.cells #[.slice va6 nv6 cv6, .slice aa6 na6 ca6, .int .i64 V.status, .string ⟨V.flags.toArray⟩] 28)).alloc (.cells #[.int .i64 0, .string ⟨#[]⟩] 33) = W6 := ⟨_, rfl⟩
          obtain ⟨re6, rf6, bb6⟩ := two_boxes [.slice va6 nv6 cv6, .slice aa6 na6 ca6, .int .i64 V.status, .string ⟨V.flags.toArray⟩] [.int .i64 0, .string ⟨#[]⟩] 28 33 hW6
          rw [hW6]
          clear hW6
          have b56 : Below W5.heap.size W5 W6 := hb6.trans (bb6.mono hb6.size)
          have HQ3 := Lib.hid (q_one V s H1.out HGV.out HVV.out va5 nv5 cv5 a2 len2 cap2 W6 (HE5.out.below b56) (HT.out.below HF.out (HB5.out.trans (b56.mono HB5.out.size))))
          have cq66 : W6.cell? ⟨q6, 0, none⟩ = some (.string s) := (bb6.cell (show (⟨q6, 0, none⟩ : Addr).block < w6.heap.size from block_lt_of_cell cq6)).trans cq6
          have HX6 := Lib.hid (And.intro b56 (And.intro re6 (And.intro rf6 (And.intro cq66 (hE6.below bb6)))))
          clear b56 re6 rf6 bb6 hb6 hE6 cq6 cq66 c0 c1 c2 c3 f0 f1 f2 f3 lt1
          refine HQ3.out.mono ?_; rintro x w7 ⟨va7, nv7, cv7, aa7, na7, ca7, rfl, hb7⟩
          obtain ⟨c0, c1, c2, c3, f0, f1, f2, f3, lt1⟩ := four_facts ((HR5.out.below HX6.out.1).below hb7)
          clear HQ3
          obtain ⟨W7, hW7⟩ : ∃ W7, (w7.alloc (.cells #[.slice va7 nv7 cv7, .slice aa7 na7 ca7, .int .i64 V.status, .string ⟨V.flags.toArray⟩] 28)).alloc (.cells #[.int .i64 0, .string ⟨#[]⟩] 33) = W7 := ⟨_, rfl⟩
          obtain ⟨re7, rf7, bb7⟩ := two_boxes [.slice va7 nv7 cv7, .slice aa7 na7 ca7, .int .i64 V.status, .string ⟨V.flags.toArray⟩] [.int .i64 0, .string ⟨#[]⟩] 28 33 hW7
          have b67 : Below W6.heap.size W6 W7 := hb7.trans (bb7.mono hb7.size)
          have b57 := HX6.out.1.trans (b67.mono HX6.out.1.size)
          have r57 := HR5.out.below b57
          have r67 := HX6.out.2.1.below b67
          have s67 := HX6.out.2.2.1.below b67
          have c67 : W7.cell? ⟨q6, 0, none⟩ = some (.string s) := (b67.cell (show (⟨q6, 0, none⟩ : Addr).block < W6.heap.size from block_lt_of_cell HX6.out.2.2.2.1)).trans HX6.out.2.2.2.1
          have HSM := Lib.hid (same_any V va6 nv6 cv6 aa6 na6 ca6 va5 nv5 cv5 a2 len2 cap2 _ _ V.status ⟨V.flags.toArray⟩ W7 (HX6.out.2.2.2.2.below b67) (HE5.out.below b57))
          have HR7 := Lib.hid rf7
          have HB7 := Lib.hid (HB5.out.trans (b57.mono HB5.out.size))
          have hq7 : q6 < w7.heap.size := Nat.lt_of_lt_of_le (block_lt_of_cell HX6.out.2.2.2.1) hb7.size
          rw [← hW7] at r57 r67 s67 c67
          obtain ⟨d0, d1, d2, d3, g0, g1, g2, g3, lt2⟩ := four_facts r57
          obtain ⟨e0, e1, e2, e3, h0, h1, h2, h3, lt3⟩ := four_facts r67
          obtain ⟨i0, i1, i2, i3, i4⟩ := two_facts s67
          have HW7 := Lib.hid hW7
          clear r57 r67 s67 hW7 b67 b57 hb7 bb7 re7 rf7 HX6
          go_wp2_with fail
          rw [HW7.out]
          clear HW7 c0 c1 c2 c3 f0 f1 f2 f3 lt1 d0 d1 d2 d3 g0 g1 g2 g3 lt2 e0 e1 e2 e3 h0 h1 h2 h3 lt3 i0 i1 i2 i3 i4 c67 hq7
          refine HSM.out.mono ?_; rintro x w8 ⟨rfl, hb8⟩
          obtain ⟨i0, i1, i2, i3, i4⟩ := two_facts (HR7.out.below hb8)
          have HBF := Lib.hid (HB7.out.trans (hb8.mono HB7.out.size))
          clear hb8 HSM
          go_wp2_with fail
          go_ret
          exact ⟨rfl, HBF.out⟩
end Go.Proofs.YtkmpbkhlcapbgaaGreatDoor
namespace Go.Proofs.YtkmpbkhlcapbgaaGreatDoor
open Go.ChangeShapes Go.WideShapes Go.ChangeAt Go.RowKit Go.Deep
variable {H : Type} {enc : TypeId × Value → H}
theorem isBinds_of {P : Program} {W : World} {t e s : TypeId} {f0 f1 : Field} {base : Nat} {spare : Nat → Bool} {held : Bool} {a : Option Addr} {len cap : Nat} {d : DataW H} {p : List MemPlace} (ht : P.underlying t = some (.slice e)) (he : P.underlying e = some (.struct #[f0, f1])) (hs : P.underlying s = some .string)
    (h0 : f0.type = s ∧ f0.offset = 0) (h1 : f1.type = s ∧ f1.offset = 1) (hc : P.cellsOf e = 2) (hcs : P.cellsOf s = 1)
    (h : DataW.Trod enc P W base spare held t (.slice a len cap) d p) : ∃ L, IsBinds W a len cap L := by
  obtain ⟨fuel, hf⟩ := h
  rcases open_slice ht hf with ⟨hcs, _⟩ | ⟨ad, len', cap', m, n, D, Pl, hcs', _, hl, hm, hmm, _, hx⟩
  · simp [Value.cells] at hcs
    obtain ⟨rfl, rfl, rfl⟩ := hcs
    exact ⟨[], rfl, Nat.le_refl _, by simp, fun s hs => by simp at hs, .inl rfl⟩
  · simp [Value.cells] at hcs'
    obtain ⟨rfl, rfl, rfl⟩ := hcs'
    have hlm : len ≤ m := by rw [hmm]; split <;> omega
    have each : ∀ i, i < m → ∃ q : ByteArray × ByteArray, W.cell? (ad.add (i * 2)) = some (.string q.1) ∧ W.cell? ((ad.add (i * 2)).add 1) = some (.string q.2) ∧ q.1.size ≤ maxLen ∧ q.2.size ≤ maxLen := fun i hi => by
      obtain ⟨cs, k1, k2⟩ := hx i hi
      rw [hc] at k1
      obtain ⟨_, klen, kc⟩ := World.cells?_some k1
      obtain ⟨y0, y1, n', _, _, t0, t1⟩ := trod_struct2 he k2
      rw [h0.1, h0.2, hcs] at t0
      rw [h1.1, h1.2, hcs] at t1
      obtain ⟨x, e0, _, w0⟩ := DataW.trod_string hs t0
      obtain ⟨y, e1, _, w1⟩ := DataW.trod_string hs t1
      match cs, klen with
      | [u, v], _ =>
        have eu : u = .string x := by simpa using e0
        have ev : v = .string y := by simpa using e1
        have c0 := kc 0 (by omega)
        have c1 := kc 1 (by omega)
        refine ⟨(x, y), ?_, ?_, w0, w1⟩
        · rw [← eu]
          have e00 : (ad.add (i * 2)).add 0 = ad.add (i * 2) := by unfold Addr.add; split <;> simp_all
          rw [e00] at c0
          simpa using c0
        · rw [← ev]; simpa using c1
    obtain ⟨Q, hQ⟩ := choose_lt each
    refine ⟨(List.range len).map Q, by simp, by simpa using hl, by simp; omega, fun s hs => ?_, ?_⟩
    · obtain ⟨i, hi, rfl⟩ := List.mem_map.1 hs
      have := hQ i (by have := List.mem_range.1 hi; omega)
      exact ⟨this.2.2.1, this.2.2.2⟩
    · by_cases h0 : len = 0
      · left; simp [h0]
      · right
        have hsp := World.cell?_spot (hQ 0 (by omega)).1
        obtain ⟨b, o, sp⟩ := ad
        have h2 : sp = none := by simpa [Addr.add] using hsp
        subst h2
        refine ⟨b, o, rfl, fun i hi => ?_⟩
        have hi' : i < len := by simpa using hi
        have hq := hQ i (by omega)
        rw [Addr.add_lit, Addr.add_lit] at hq
        simp only [List.getElem_map, List.getElem_range]
        exact ⟨hq.1, hq.2.1⟩
end Go.Proofs.YtkmpbkhlcapbgaaGreatDoor
