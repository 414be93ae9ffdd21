/-
  DERIVED. The walk of ExpandQuoted (printed by gen_quoted.py). How an argument that is a slice of pairs of texts is opened. No walk here. ExpandArgs: what its calls come to. The walk of ExpandArgs (printed by gen_args.py).
-/
import Derived.Test.YtkmpbkhlcapbgaaGreatDoorZUi
import Derived.Test.YtkmpbkhlcapbgaaGreatDoorZUks
import Derived.Test.YtkmpbkhlcapbgaaGreatDoorZ47
import Derived.Deep.Strs
import Derived.BigQuiet
import Derived.Deep.QuietTactic
namespace Go.Proofs.YtkmpbkhlcapbgaaGreatDoor
open Go Go.RowKit
theorem IsBinds.below {w w' : World} {a : Option Addr} {len cap : Nat} {L : List (ByteArray × ByteArray)} (h : IsBinds w a len cap L) (hb : Below w.heap.size w w') : IsBinds w' a len cap L :=
  ⟨h.len, h.cap, h.few, h.short, h.cells.imp id fun ⟨b, off, e, hc⟩ => ⟨b, off, e, hc.below hb⟩⟩
theorem IsStrs.below {w w' : World} {a : Option Addr} {len cap : Nat} {A : List ByteArray} (h : IsStrs w a len cap A) (hb : Below w.heap.size w w') : IsStrs w' a len cap A :=
  ⟨h.len, h.cap, h.few, h.short, h.cells.imp id fun ⟨b, off, e, hc⟩ => ⟨b, off, e, fun i hi => (hb.cell (show (⟨b, off + i, none⟩ : Addr).block < w.heap.size from block_lt_of_cell (hc i hi))).trans (hc i hi)⟩⟩
set_option maxRecDepth 100000 in
set_option maxHeartbeats 16000000 in
theorem law_quoted (a : Option Addr) (len cap : Nat) (L : List (ByteArray × ByteArray)) (a2 : Option Addr) (len2 cap2 : Nat) (A : List ByteArray) (fl : Int) (hf0 : 0 ≤ fl) (hf1 : fl ≤ 255) (s : ByteArray) (hsm : s.size ≤ maxLen) (w : World) (hL : IsBinds w a len cap L) (hA : IsStrs w a2 len2 cap2 A) (hT : Tab w) :
    Calls Tryz.prog 8 #[.slice a len cap, .slice a2 len2 cap2, .int .u8 fl, .string s] w fun e w' => e = .returned (.bool true) ∧ Below w.heap.size w w' := by
  have hss : s.size ≤ 9223372036854775807 := by unfold maxLen at hsm; omega
  have HAW := Lib.hid (awake_any w hT)
  have HT := Lib.hid hT
  have HF := Lib.hid hT.lt
  have HL := Lib.hid hL
  have HA := Lib.hid hA
  clear hT hL hA hsm
  go_enter Tryz.func8, Tryz.ntmps8
  go_wp2_with fail
  refine HAW.out.mono ?_; rintro e w1 ⟨rfl, hb1⟩
  have HFW := Lib.hid (few_any a len cap L a2 len2 cap2 A w1 (HL.out.below hb1) (HA.out.below hb1))
  have HB := Lib.hid hb1
  clear hb1 HAW
  go_wp2_with fail
  refine HFW.out.mono ?_; rintro e w2 ⟨b, rfl, hb, hw2⟩
  rw [hw2]
  clear hw2 HFW w2
  cases b
  · clear hb
    go_wp2_with fail
    go_ret
    exact ⟨rfl, HB.out⟩
  · have HK := Lib.hid (hb rfl)
    clear hb
    by_cases h1 : 100 < s.size
    · have h1' : (100 : Int) < (s.size : Int) := by omega
      clear h1
      go_wp2_with fail
      go_ret
      exact ⟨rfl, HB.out⟩
    · have h1' : ¬ (100 : Int) < (s.size : Int) := by omega
      have H1 : Hid (s.size ≤ 100) := Nat.le_of_not_lt h1
      clear h1
      go_wp2_with fail
      go_loopg [11] s.size (fun g s11 wx => wx = w1 ∧ ∃ i : Nat, i + g = s.size ∧ s11 = .int .i64 i ∧ Hid (∀ j (h : j < s.size), j < i → s[j] ≠ 39))
      case atStart => exact ⟨rfl, 0, by omega, rfl, fun j _ h => by omega⟩
      case round =>
        obtain ⟨rfl, i, hig, rfl, hrel⟩ := hrel
        cases gk with
        | succ g =>
          have hi : i < s.size := by omega
          by_cases hc : s[i] = 39
          · have hc2 : ((s[i].toNat : Int) == 39) = true := by rw [hc]; rfl
            clear hrel
            go_wp2_with fail
            go_ret
            exact ⟨rfl, HB.out⟩
          · have hc1 : s[i].toNat ≠ 39 := fun e => hc (UInt8.toNat_inj.1 (e.trans rfl))
            have hc2 : ((s[i].toNat : Int) == 39) = false := by simp; omega
            have HR := Lib.hid hrel.out
            have HC := Lib.hid hc
            clear hrel hc hc1
            go_wp2_with fail
            go_roundg g
            case measure => omega
            case rel => exact ⟨rfl, i + 1, by omega, rfl, fun j hj hji => by
              rcases Nat.lt_or_ge j i with q | q
              · exact HR.out j hj q
              · obtain rfl : j = i := by omega
                exact HC.out⟩
        | zero =>
          obtain rfl : i = s.size := by omega
          have hq : (39 : UInt8) ∉ s.data.toList := fun hm => by
            obtain ⟨j, hj, he⟩ := List.getElem_of_mem hm
            have hj' : j < s.size := by simpa using hj
            exact hrel.out j hj' hj' he
          have HQ := Lib.hid hq
          have hz : ¬ 9223372036854775807 < 1 + s.size ∧ 1 + s.size ≤ 9223372036854775807 ∧ ¬ 9223372036854775807 < 1 + s.size + 1 ∧ 1 + s.size + 1 ≤ 9223372036854775807 := by have := H1.out; omega
          have HMD := Lib.hid (made_any a len cap L a2 len2 cap2 A fl 0 hf0 hf1 (by omega) (by omega) wr (HL.out.below (HB.out)) (HA.out.below HB.out) HK.out)
          clear hrel hq
          go_wp2_with fail
          refine HMD.out.mono ?_; rintro x w2 ⟨va2, nv2, cv2, E, hEa, hEv, hEs, rfl, hE2, hb2⟩
          have HVL : Hid (E.vars.length ≤ 12) := by have := HK.out.l; unfold Hid; omega
          clear HMD hEa hEv hEs
          go_wp2_with fail
          obtain ⟨W2, hW2⟩ : ∃ W2, w2.alloc (.cells #[.slice va2 nv2 cv2, .slice a2 len2 cap2, .int .i64 E.status, .string ⟨E.flags.toArray⟩] 28) = W2 := ⟨_, rfl⟩
          have r2 : RowIs W2 w2.heap.size 28 [.slice va2 nv2 cv2, .slice a2 len2 cap2, .int .i64 E.status, .string ⟨E.flags.toArray⟩] := by rw [← hW2]; exact RowIs.new w2 _ _
          have B2 : Below w.heap.size w W2 := by rw [← hW2]; exact (HB.out.trans (hb2.mono HB.out.size)).alloc (HB.out.trans (hb2.mono HB.out.size)).size _
          have E2 : EnvA W2 (.slice va2 nv2 cv2) (.slice a2 len2 cap2) E := by rw [← hW2]; exact EnvA.below hE2 ((Below.refl _ _).alloc (Nat.le_refl _) _)
          rw [hW2]
          clear hW2 hE2 hb2
          have HQ1 := Lib.hid (q_single E s H1.out HQ.out (by have := HVL.out; omega) va2 nv2 cv2 a2 len2 cap2 W2 E2 (HT.out.below HF.out B2))
          have HR2 := Lib.hid r2
          have HB2 := Lib.hid B2
          have HE2 := Lib.hid E2
          clear r2 B2 E2
          refine HQ1.out.mono ?_; rintro x w3 ⟨q3, k3, va3, nv3, cv3, aa3, na3, ca3, rfl, cq3, hE3, hb3⟩
          obtain ⟨c0, c1, c2, c3, f0, f1, f2, f3, lt1⟩ := four_facts (HR2.out.below hb3)
          have hq3 : q3 < w3.heap.size := block_lt_of_cell cq3
          clear HQ1
          obtain ⟨W3, hW3⟩ : ∃ W3, (w3.alloc (.cells #[.slice va3 nv3 cv3, .slice aa3 na3 ca3, .int .i64 E.status, .string ⟨E.flags.toArray⟩] 28)).alloc (.cells #[.int .i64 0, .string ⟨#[]⟩] 33) = W3 := ⟨_, rfl⟩
          obtain ⟨re3, rf3, bb3⟩ := two_boxes [.slice va3 nv3 cv3, .slice aa3 na3 ca3, .int .i64 E.status, .string ⟨E.flags.toArray⟩] [.int .i64 0, .string ⟨#[]⟩] 28 33 hW3
          have b23 : Below W2.heap.size W2 W3 := hb3.trans (bb3.mono hb3.size)
          have r23 := HR2.out.below b23
          rw [← hW3] at r23 re3 rf3
          obtain ⟨d0, d1, d2, d3, g0, g1, g2, g3, lt2⟩ := four_facts r23
          obtain ⟨e0, e1, e2, e3, h0, h1, h2, h3, lt3⟩ := four_facts re3
          obtain ⟨i0, i1, i2, i3, i4⟩ := two_facts rf3
          have cq33 : ((w3.alloc (.cells #[.slice va3 nv3 cv3, .slice aa3 na3 ca3, .int .i64 E.status, .string ⟨E.flags.toArray⟩] 28)).alloc (.cells #[.int .i64 0, .string ⟨#[]⟩] 33)).cell? ⟨q3, 0, none⟩ = some (.string s) := by rw [hW3]; exact (bb3.cell (show q3 < w3.heap.size from hq3)).trans cq3
          have HSM := Lib.hid (same_any E va3 nv3 cv3 aa3 na3 ca3 va2 nv2 cv2 a2 len2 cap2 _ _ E.status ⟨E.flags.toArray⟩ W3 (hE3.below bb3) (HE2.out.below b23))
          have HX3 := Lib.hid b23
          have HW3 := Lib.hid hW3
          clear r23 re3 rf3 hW3 b23 hb3 bb3 hE3
          go_wp2_with fail
          rw [HW3.out]
          clear HW3 c0 c1 c2 c3 f0 f1 f2 f3 lt1 d0 d1 d2 d3 g0 g1 g2 g3 lt2 e0 e1 e2 e3 h0 h1 h2 h3 lt3 i0 i1 i2 i3 i4 cq33 cq3 hq3
          refine HSM.out.mono ?_; rintro x w4 ⟨rfl, hb4⟩
          have b24 := HX3.out.trans (hb4.mono HX3.out.size)
          obtain ⟨c0, c1, c2, c3, f0, f1, f2, f3, lt1⟩ := four_facts (HR2.out.below b24)
          have HST := Lib.hid (set_ok ⟨#[118]⟩ s (by decide) (by decide) E va2 nv2 cv2 a2 len2 cap2 w4 (HE2.out.below b24) (by have := set_length E (⟨#[118]⟩ : ByteArray).data.toList s.data.toList; have := HVL.out; omega))
          have HX4 := Lib.hid b24
          clear b24 hb4 HSM HX3
          go_wp2_with fail
          refine HST.out.mono ?_; rintro x w5 ⟨va5, nv5, cv5, rfl, hE5, hb5⟩
          clear HST c0 c1 c2 c3 f0 f1 f2 f3 lt1
          have hgv : (E.set [118] s.data.toList).get [118] = some s.data.toList := get_set HE2.out.up [118] s.data.toList (by decide)
          have hvl : (E.set [118] s.data.toList).vars.length ≤ 1000 := by have := set_length E [118] s.data.toList; have := HVL.out; omega
          obtain ⟨V, hV⟩ : ∃ V, E.set (⟨#[118]⟩ : ByteArray).data.toList s.data.toList = V := ⟨_, rfl⟩
          have hV2 : E.set [118] s.data.toList = V := hV
          rw [hV2] at hgv hvl
          rw [hV] at hE5 ⊢
          have HGV := Lib.hid hgv
          have HVV := Lib.hid hvl
          clear hV hV2 hgv hvl
          go_wp2_with fail
          obtain ⟨W5, hW5⟩ : ∃ W5, w5.alloc (.cells #[.slice va5 nv5 cv5, .slice a2 len2 cap2, .int .i64 V.status, .string ⟨V.flags.toArray⟩] 28) = W5 := ⟨_, rfl⟩
          have r5 : RowIs W5 w5.heap.size 28 [.slice va5 nv5 cv5, .slice a2 len2 cap2, .int .i64 V.status, .string ⟨V.flags.toArray⟩] := by rw [← hW5]; exact RowIs.new w5 _ _
          have b25 : Below W2.heap.size W2 W5 := by rw [← hW5]; exact (HX4.out.trans (hb5.mono HX4.out.size)).alloc (HX4.out.trans (hb5.mono HX4.out.size)).size _
          have E5 : EnvA W5 (.slice va5 nv5 cv5) (.slice a2 len2 cap2) V := by rw [← hW5]; exact hE5.below ((Below.refl _ _).alloc (Nat.le_refl _) _)
          rw [hW5]
          clear hW5 hE5 hb5
          have hbw5 := HB2.out.trans (b25.mono HB2.out.size)
          have HQ2 := Lib.hid (q_double V s H1.out HGV.out HVV.out va5 nv5 cv5 a2 len2 cap2 W5 E5 (HT.out.below HF.out hbw5))
          have HR5 := Lib.hid r5
          have HB5 := Lib.hid hbw5
          have HE5 := Lib.hid E5
          clear r5 b25 E5 hbw5 HX4 HR2 HE2 HB2
          refine HQ2.out.mono ?_; rintro x w6 ⟨q6, k6, va6, nv6, cv6, aa6, na6, ca6, rfl, cq6, hE6, hb6⟩
          obtain ⟨c0, c1, c2, c3, f0, f1, f2, f3, lt1⟩ := four_facts (HR5.out.below hb6)
          clear HQ2
          go_wp2_with fail
          obtain ⟨W6, hW6⟩ : ∃ W6, (w6.alloc (.cells #[.slice va6 nv6 cv6, .slice aa6 na6 ca6, .int .i64 V.status, .string ⟨V.flags.toArray⟩] 28)).alloc (.cells #[.int .i64 0, .string ⟨#[]⟩] 33) = W6 := ⟨_, rfl⟩
          obtain ⟨re6, rf6, bb6⟩ := two_boxes [.slice va6 nv6 cv6, .slice aa6 na6 ca6, .int .i64 V.status, .string ⟨V.flags.toArray⟩] [.int .i64 0, .string ⟨#[]⟩] 28 33 hW6
          rw [hW6]
          clear hW6
          have b56 : Below W5.heap.size W5 W6 := hb6.trans (bb6.mono hb6.size)
          have HQ3 := Lib.hid (q_one V s H1.out HGV.out HVV.out va5 nv5 cv5 a2 len2 cap2 W6 (HE5.out.below b56) (HT.out.below HF.out (HB5.out.trans (b56.mono HB5.out.size))))
          have cq66 : W6.cell? ⟨q6, 0, none⟩ = some (.string s) := (bb6.cell (show (⟨q6, 0, none⟩ : Addr).block < w6.heap.size from block_lt_of_cell cq6)).trans cq6
          have HX6 := Lib.hid (And.intro b56 (And.intro re6 (And.intro rf6 (And.intro cq66 (hE6.below bb6)))))
          clear b56 re6 rf6 bb6 hb6 hE6 cq6 cq66 c0 c1 c2 c3 f0 f1 f2 f3 lt1
          refine HQ3.out.mono ?_; rintro x w7 ⟨va7, nv7, cv7, aa7, na7, ca7, rfl, hb7⟩
          obtain ⟨c0, c1, c2, c3, f0, f1, f2, f3, lt1⟩ := four_facts ((HR5.out.below HX6.out.1).below hb7)
          clear HQ3
          obtain ⟨W7, hW7⟩ : ∃ W7, (w7.alloc (.cells #[.slice va7 nv7 cv7, .slice aa7 na7 ca7, .int .i64 V.status, .string ⟨V.flags.toArray⟩] 28)).alloc (.cells #[.int .i64 0, .string ⟨#[]⟩] 33) = W7 := ⟨_, rfl⟩
          obtain ⟨re7, rf7, bb7⟩ := two_boxes [.slice va7 nv7 cv7, .slice aa7 na7 ca7, .int .i64 V.status, .string ⟨V.flags.toArray⟩] [.int .i64 0, .string ⟨#[]⟩] 28 33 hW7
          have b67 : Below W6.heap.size W6 W7 := hb7.trans (bb7.mono hb7.size)
          have b57 := HX6.out.1.trans (b67.mono HX6.out.1.size)
          have r57 := HR5.out.below b57
          have r67 := HX6.out.2.1.below b67
          have s67 := HX6.out.2.2.1.below b67
          have c67 : W7.cell? ⟨q6, 0, none⟩ = some (.string s) := (b67.cell (show (⟨q6, 0, none⟩ : Addr).block < W6.heap.size from block_lt_of_cell HX6.out.2.2.2.1)).trans HX6.out.2.2.2.1
          have HSM := Lib.hid (same_any V va6 nv6 cv6 aa6 na6 ca6 va5 nv5 cv5 a2 len2 cap2 _ _ V.status ⟨V.flags.toArray⟩ W7 (HX6.out.2.2.2.2.below b67) (HE5.out.below b57))
          have HR7 := Lib.hid rf7
          have HB7 := Lib.hid (HB5.out.trans (b57.mono HB5.out.size))
          have hq7 : q6 < w7.heap.size := Nat.lt_of_lt_of_le (block_lt_of_cell HX6.out.2.2.2.1) hb7.size
          rw [← hW7] at r57 r67 s67 c67
          obtain ⟨d0, d1, d2, d3, g0, g1, g2, g3, lt2⟩ := four_facts r57
          obtain ⟨e0, e1, e2, e3, h0, h1, h2, h3, lt3⟩ := four_facts r67
          obtain ⟨i0, i1, i2, i3, i4⟩ := two_facts s67
          have HW7 := Lib.hid hW7
          clear r57 r67 s67 hW7 b67 b57 hb7 bb7 re7 rf7 HX6
          go_wp2_with fail
          rw [HW7.out]
          clear HW7 c0 c1 c2 c3 f0 f1 f2 f3 lt1 d0 d1 d2 d3 g0 g1 g2 g3 lt2 e0 e1 e2 e3 h0 h1 h2 h3 lt3 i0 i1 i2 i3 i4 c67 hq7
          refine HSM.out.mono ?_; rintro x w8 ⟨rfl, hb8⟩
          obtain ⟨i0, i1, i2, i3, i4⟩ := two_facts (HR7.out.below hb8)
          have HBF := Lib.hid (HB7.out.trans (hb8.mono HB7.out.size))
          clear hb8 HSM
          go_wp2_with fail
          go_ret
          exact ⟨rfl, HBF.out⟩
end Go.Proofs.YtkmpbkhlcapbgaaGreatDoor
namespace Go.Proofs.YtkmpbkhlcapbgaaGreatDoor
open Go.ChangeShapes Go.WideShapes Go.ChangeAt Go.RowKit Go.Deep
variable {H : Type} {enc : TypeId × Value → H}
theorem isBinds_of {P : Program} {W : World} {t e s : TypeId} {f0 f1 : Field} {base : Nat} {spare : Nat → Bool} {held : Bool} {a : Option Addr} {len cap : Nat} {d : DataW H} {p : List MemPlace} (ht : P.underlying t = some (.slice e)) (he : P.underlying e = some (.struct #[f0, f1])) (hs : P.underlying s = some .string)
    (h0 : f0.type = s ∧ f0.offset = 0) (h1 : f1.type = s ∧ f1.offset = 1) (hc : P.cellsOf e = 2) (hcs : P.cellsOf s = 1)
    (h : DataW.Trod enc P W base spare held t (.slice a len cap) d p) : ∃ L, IsBinds W a len cap L := by
  obtain ⟨fuel, hf⟩ := h
  rcases open_slice ht hf with ⟨hcs, _⟩ | ⟨ad, len', cap', m, n, D, Pl, hcs', _, hl, hm, hmm, _, hx⟩
  · simp [Value.cells] at hcs
    obtain ⟨rfl, rfl, rfl⟩ := hcs
    exact ⟨[], rfl, Nat.le_refl _, by simp, fun s hs => by simp at hs, .inl rfl⟩
  · simp [Value.cells] at hcs'
    obtain ⟨rfl, rfl, rfl⟩ := hcs'
    have hlm : len ≤ m := by rw [hmm]; split <;> omega
    have each : ∀ i, i < m → ∃ q : ByteArray × ByteArray, W.cell? (ad.add (i * 2)) = some (.string q.1) ∧ W.cell? ((ad.add (i * 2)).add 1) = some (.string q.2) ∧ q.1.size ≤ maxLen ∧ q.2.size ≤ maxLen := fun i hi => by
      obtain ⟨cs, k1, k2⟩ := hx i hi
      rw [hc] at k1
      obtain ⟨_, klen, kc⟩ := World.cells?_some k1
      obtain ⟨y0, y1, n', _, _, t0, t1⟩ := trod_struct2 he k2
      rw [h0.1, h0.2, hcs] at t0
      rw [h1.1, h1.2, hcs] at t1
      obtain ⟨x, e0, _, w0⟩ := DataW.trod_string hs t0
      obtain ⟨y, e1, _, w1⟩ := DataW.trod_string hs t1
      match cs, klen with
      | [u, v], _ =>
        have eu : u = .string x := by simpa using e0
        have ev : v = .string y := by simpa using e1
        have c0 := kc 0 (by omega)
        have c1 := kc 1 (by omega)
        refine ⟨(x, y), ?_, ?_, w0, w1⟩
        · rw [← eu]
          have e00 : (ad.add (i * 2)).add 0 = ad.add (i * 2) := by unfold Addr.add; split <;> simp_all
          rw [e00] at c0
          simpa using c0
        · rw [← ev]; simpa using c1
    obtain ⟨Q, hQ⟩ := choose_lt each
    refine ⟨(List.range len).map Q, by simp, by simpa using hl, by simp; omega, fun s hs => ?_, ?_⟩
    · obtain ⟨i, hi, rfl⟩ := List.mem_map.1 hs
      have := hQ i (by have := List.mem_range.1 hi; omega)
      exact ⟨this.2.2.1, this.2.2.2⟩
    · by_cases h0 : len = 0
      · left; simp [h0]
      · right
        have hsp := World.cell?_spot (hQ 0 (by omega)).1
        obtain ⟨b, o, sp⟩ := ad
        have h2 : sp = none := by simpa [Addr.add] using hsp
        subst h2
        refine ⟨b, o, rfl, fun i hi => ?_⟩
        have hi' : i < len := by simpa using hi
        have hq := hQ i (by omega)
        rw [Addr.add_lit, Addr.add_lit] at hq
        simp only [List.getElem_map, List.getElem_range]
        exact ⟨hq.1, hq.2.1⟩
end Go.Proofs.YtkmpbkhlcapbgaaGreatDoor
namespace Go.Proofs.YtkmpbkhlcapbgaaGreatDoor
open Go Go.RowKit
/-- How many of the first ones have bytes. -/
def cntT (l : List (List UInt8)) (i : Nat) : Nat := ((l.take i).filter (· ≠ [])).length
theorem cntT_succ (l : List (List UInt8)) (i : Nat) (h : i < l.length) : (l[i] = [] → cntT l (i + 1) = cntT l i) ∧ (l[i] ≠ [] → cntT l (i + 1) = cntT l i + 1 ∧ (l.filter (· ≠ []))[cntT l i]? = some l[i]) := by
  have e : l.take (i + 1) = l.take i ++ [l[i]] := List.take_succ_eq_append_getElem h
  unfold cntT
  rw [e, List.filter_append]
  constructor
  · intro h0
    simp [h0]
  · intro h0
    refine ⟨by simp [h0], ?_⟩
    have e2 : l = l.take i ++ l[i] :: l.drop (i + 1) := by
      rw [← List.drop_eq_getElem_cons h, List.take_append_drop]
    have e3 : l.filter (· ≠ []) = (l.take i).filter (· ≠ []) ++ l[i] :: (l.drop (i + 1)).filter (· ≠ []) := by
      conv => lhs; rw [e2]
      rw [List.filter_append, List.filter_cons_of_pos (by simpa using h0)]
    rw [e3, List.getElem?_append_right (Nat.le_refl _)]
    simp
theorem cntT_all (l : List (List UInt8)) : cntT l l.length = (l.filter (· ≠ [])).length := by
  unfold cntT; rw [List.take_length]
def RowsRes (E : EnvT) (M : List RowT) (w : World) (x : Ending) (w' : World) : Prop :=
  ∃ a c va nv cv aa na ca, x = .returned (.tuple #[.slice a M.length c, envVal va nv cv aa na ca E, .agg #[.int .i64 0, .string ⟨#[]⟩]]) ∧ w'.ownsRow w.heap.size 38 2 (.slice a M.length c) M.length (cellsL (bvR M)) ∧ EnvA w' (.slice va nv cv) (.slice aa na ca) E ∧ Below w.heap.size w w'
theorem rows_res (fw : Nat) (s : ByteArray) (hs : s.size ≤ 1000000000) (l : List PartT) (hl : wordF fw s.data.toList = some l) (hsm : smallL l) (f : Nat) (hf : f ≤ 1000000) (E : EnvT) (r : RowT) (ho : partsE P0 f E ([], []) l = some (.ok E r))
    (va : Option Addr) (nv cv : Nat) (aa : Option Addr) (na ca : Nat) (w : World) (hE : EnvA w (.slice va nv cv) (.slice aa na ca) E) (hT : Tab w) :
    Calls Tryz.prog 12 #[envVal va nv cv aa na ca E, .string s] w (RowsRes E (splitR r E.ifs) w) := by
  refine (fields_ok fw s hs l hl hsm f hf E _ ho va nv cv aa na ca w hE hT).mono ?_
  rintro x w' ⟨lv, va2, nv2, cv2, aa2, na2, ca2, rfl, hown, hE2, hb⟩
  have hs2 : splitR (resOf E (.ok E r)).1 (resOf E (.ok E r)).2.1.ifs = splitR r E.ifs := rfl
  rw [hs2] at hown
  obtain ⟨a, c, rfl⟩ := own_slice hown
  exact ⟨a, c, va2, nv2, cv2, aa2, na2, ca2, rfl, hown, hE2, hb⟩
theorem args_small (E : EnvT) (q : Bool) (ha : ∀ x ∈ E.args, x.length ≤ 30) (hl : E.args.length ≤ 8) : (argsR ([], []) q E.args true).1.length ≤ 1000000 := by
  have h := argsR_length E.args ([], []) q true 30 ha
  have h2 : E.args.length * 33 ≤ 8 * 33 := Nat.mul_le_mul_right _ hl
  have h3 : (([], []) : RowT).1.length = 0 := rfl
  omega
/-- All arguments in double quotes. -/
theorem a_quoted (E : EnvT) (ha : ∀ x ∈ E.args, x.length ≤ 30) (hl : E.args.length ≤ 8) (hf : E.vars.length ≤ 1000) (va : Option Addr) (nv cv : Nat) (aa : Option Addr) (na ca : Nat) (w : World) (hE : EnvA w (.slice va nv cv) (.slice aa na ca) E) (hT : Tab w) :
    Calls Tryz.prog 12 #[envVal va nv cv aa na ca E, .string ⟨#[34, 36, 64, 34]⟩] w (RowsRes E (splitR (argsR ([], []) true E.args true) E.ifs) w) :=
  rows_res 9 _ (by decide) _ word_all (small_x [64] true (by decide)) 4 (by decide) E _ (parts_one P0 2 E ([], []) _ E _ (part_args P0 2 E ([], []) true [] (args_small E true ha hl) (by omega))) va nv cv aa na ca w hE hT
/-- All arguments, unquoted. -/
theorem a_bare (E : EnvT) (ha : ∀ x ∈ E.args, x.length ≤ 30) (hl : E.args.length ≤ 8) (hf : E.vars.length ≤ 1000) (va : Option Addr) (nv cv : Nat) (aa : Option Addr) (na ca : Nat) (w : World) (hE : EnvA w (.slice va nv cv) (.slice aa na ca) E) (hT : Tab w) :
    Calls Tryz.prog 12 #[envVal va nv cv aa na ca E, .string ⟨#[36, 64]⟩] w (RowsRes E (splitR (argsR ([], []) false E.args true) E.ifs) w) :=
  rows_res 9 _ (by decide) _ word_all2 (small_x [64] false (by decide)) 4 (by decide) E _ (parts_one P0 2 E ([], []) _ E _ (part_args P0 2 E ([], []) false [] (args_small E false ha hl) (by omega))) va nv cv aa na ca w hE hT
/-- No separators. -/
theorem set_ifs {E : EnvT} (h : Rising E.vars) : (E.set [73, 70, 83] []).ifs = [] := by
  unfold EnvT.ifs; rw [get_set h [73, 70, 83] [] (by decide)]; rfl
theorem rows_at {w : World} {b n : Nat} {a : Option Addr} {n' c : Nat} {M : List RowT} (h : w.ownsRow b 38 2 (.slice a n' c) n (cellsL (bvR M))) (i : Nat) (T : List UInt8) (ht : (M.map (·.1))[i]? = some T) :
    ∃ q, a = some ⟨q, 0, none⟩ ∧ w.cell? ⟨q, i * 2, none⟩ = some (.string ⟨T.toArray⟩) := by
  have hi : i < M.length := by
    have := (List.getElem?_eq_some_iff.1 ht).1
    simpa using this
  obtain ⟨q, e, h1, -⟩ := field_at h i hi
  have : M[i].1 = T := by
    have := (List.getElem?_eq_some_iff.1 ht).2
    simpa using this
  rw [this] at h1
  exact ⟨q, e, h1⟩
end Go.Proofs.YtkmpbkhlcapbgaaGreatDoor
namespace Go.Proofs.YtkmpbkhlcapbgaaGreatDoor
open Go Go.RowKit
theorem below_drewN {B : Nat} {w w' : World} (h : Below B w w') (n : Nat) : Below B w (w'.drewN n) := ⟨h.os, h.tape, h.output, h.size, h.block⟩
set_option maxRecDepth 100000 in
set_option maxHeartbeats 16000000 in
theorem law_args (a : Option Addr) (len cap : Nat) (L : List (ByteArray × ByteArray)) (a2 : Option Addr) (len2 cap2 : Nat) (A : List ByteArray) (w : World) (hL : IsBinds w a len cap L) (hA : IsStrs w a2 len2 cap2 A) (hT : Tab w) :
    Calls Tryz.prog 3 #[.slice a len cap, .slice a2 len2 cap2] w fun e w' => e = .returned (.bool true) ∧ Below w.heap.size w w' := by
  have hln : len2 = A.length := hA.len
  subst hln
  have HAW := Lib.hid (awake_any w hT)
  have HT := Lib.hid hT
  have HF := Lib.hid hT.lt
  have HL := Lib.hid hL
  have HA := Lib.hid hA
  clear hT hL hA
  go_enter Tryz.func3, Tryz.ntmps3
  go_wp2_with fail
  refine HAW.out.mono ?_; rintro e w1 ⟨rfl, hb1⟩
  have HFW := Lib.hid (few_any a len cap L a2 A.length cap2 A w1 (HL.out.below hb1) (HA.out.below hb1))
  have HB := Lib.hid hb1
  clear hb1 HAW
  go_wp2_with fail
  refine HFW.out.mono ?_; rintro e w2 ⟨b, rfl, hb, hw2⟩
  rw [hw2]
  clear hw2 HFW w2
  cases b
  · clear hb
    go_wp2_with fail
    go_ret
    exact ⟨rfl, HB.out⟩
  · have HK := Lib.hid (hb rfl)
    clear hb
    have HMD := Lib.hid (made_any a len cap L a2 A.length cap2 A 0 0 (by omega) (by omega) (by omega) (by omega) w1 (HL.out.below (HB.out)) (HA.out.below HB.out) HK.out)
    go_wp2_with fail
    refine HMD.out.mono ?_; rintro x w2 ⟨va2, nv2, cv2, E, hEa, hEv, hEs, rfl, hE2, hb2⟩
    have HVL : Hid (E.vars.length ≤ 12) := by have := HK.out.l; unfold Hid; omega
    have HEA := Lib.hid hEa
    have HA8 : Hid (A.length ≤ 8) := HK.out.a
    have HA30 : Hid (∀ x ∈ argsL A, x.length ≤ 30) := fun x hx => by
      obtain ⟨y, hy, rfl⟩ := List.mem_map.1 hx
      have := HK.out.args y hy
      simpa using this
    clear HMD hEa hEv hEs
    go_wp2_with fail
    obtain ⟨W2, hW2⟩ : ∃ W2, w2.alloc (.cells #[.slice va2 nv2 cv2, .slice a2 A.length cap2, .int .i64 E.status, .string ⟨E.flags.toArray⟩] 28) = W2 := ⟨_, rfl⟩
    have r2 : RowIs W2 w2.heap.size 28 [.slice va2 nv2 cv2, .slice a2 A.length cap2, .int .i64 E.status, .string ⟨E.flags.toArray⟩] := by rw [← hW2]; exact RowIs.new w2 _ _
    have B2 : Below w.heap.size w W2 := by rw [← hW2]; exact (HB.out.trans (hb2.mono HB.out.size)).alloc (HB.out.trans (hb2.mono HB.out.size)).size _
    have E2 : EnvA W2 (.slice va2 nv2 cv2) (.slice a2 A.length cap2) E := by rw [← hW2]; exact EnvA.below hE2 ((Below.refl _ _).alloc (Nat.le_refl _) _)
    rw [hW2]
    clear hW2 hE2 hb2
    have HQ1 := a_quoted E (by rw [HEA.out]; exact HA30.out) (by rw [HEA.out]; simpa [argsL] using HA8.out) (by have := HVL.out; omega) va2 nv2 cv2 a2 A.length cap2 W2 E2 (HT.out.below HF.out B2)
    rw [split_args, HEA.out] at HQ1
    obtain ⟨M, hM⟩ : ∃ M : List RowT, ((argsL A).map fun s => (s, List.replicate s.length (113 : UInt8))) = M := ⟨_, rfl⟩
    have hMl : M.length = A.length := by rw [← hM]; simp [argsL]
    have hMt : ∀ i (h : i < A.length), (M.map (·.1))[i]? = some A[i].data.toList := fun i h => by rw [← hM]; simp [argsL, h]
    rw [hM] at HQ1
    have HQ := Lib.hid HQ1
    have HMT := Lib.hid hMt
    have HML := Lib.hid hMl
    have HR2 := Lib.hid r2
    have HB2 := Lib.hid B2
    have HE2 := Lib.hid E2
    clear r2 B2 E2 HQ1 hM hMt hMl
    refine HQ.out.mono ?_; rintro x w3 ⟨a3, k3, va3, nv3, cv3, aa3, na3, ca3, rfl, ho3, hE3, hb3⟩
    obtain ⟨c0, c1, c2, c3, f0, f1, f2, f3, lt1⟩ := four_facts (HR2.out.below hb3)
    rw [HML.out] at ho3 ⊢
    clear HQ hE3
    go_wp2_with fail
    obtain ⟨W3, hW3⟩ : ∃ W3, (w3.alloc (.cells #[.slice va3 nv3 cv3, .slice aa3 na3 ca3, .int .i64 E.status, .string ⟨E.flags.toArray⟩] 28)).alloc (.cells #[.int .i64 0, .string ⟨#[]⟩] 33) = W3 := ⟨_, rfl⟩
    obtain ⟨re3, rf3, bb3⟩ := two_boxes [.slice va3 nv3 cv3, .slice aa3 na3 ca3, .int .i64 E.status, .string ⟨E.flags.toArray⟩] [.int .i64 0, .string ⟨#[]⟩] 28 33 hW3
    rw [hW3]
    clear hW3
    have b23 : Below W2.heap.size W2 W3 := hb3.trans (bb3.mono hb3.size)
    have HST := Lib.hid (set_ok ⟨#[73, 70, 83]⟩ ⟨#[]⟩ (by decide) (by decide) E va2 nv2 cv2 a2 A.length cap2 W3 (HE2.out.below b23) (by have := set_length E (⟨#[73, 70, 83]⟩ : ByteArray).data.toList (⟨#[]⟩ : ByteArray).data.toList; have := HVL.out; omega))
    have HX3 := Lib.hid (And.intro b23 (And.intro rf3 (own_below ho3 bb3)))
    clear b23 rf3 re3 bb3 hb3 ho3 c0 c1 c2 c3 f0 f1 f2 f3 lt1
    refine HST.out.mono ?_; rintro x w4 ⟨va4, nv4, cv4, rfl, hE4, hb4⟩
    have hvi : (E.set [73, 70, 83] []).ifs = [] := set_ifs HE2.out.up
    have hva : (E.set [73, 70, 83] []).args = argsL A := by rw [(set_status E _ _).2.2]; exact HEA.out
    have hvl : (E.set [73, 70, 83] []).vars.length ≤ 1000 := by have := set_length E [73, 70, 83] []; have := HVL.out; omega
    obtain ⟨V, hV⟩ : ∃ V, E.set (⟨#[73, 70, 83]⟩ : ByteArray).data.toList (⟨#[]⟩ : ByteArray).data.toList = V := ⟨_, rfl⟩
    have hV2 : E.set [73, 70, 83] [] = V := hV
    rw [hV2] at hvi hva hvl
    rw [hV] at hE4 ⊢
    have b24 := HX3.out.1.trans (hb4.mono HX3.out.1.size)
    have HQ2 := a_bare V (by rw [hva]; exact HA30.out) (by rw [hva]; simpa [argsL] using HA8.out) hvl va4 nv4 cv4 a2 A.length cap2 w4 hE4 (HT.out.below HF.out (HB2.out.trans (b24.mono HB2.out.size)))
    rw [hvi, hva] at HQ2
    have hsb := split_bare (argsL A)
    obtain ⟨N, hN⟩ : ∃ N : List RowT, splitR (argsR ([], []) false (argsL A) true) [] = N := ⟨_, rfl⟩
    rw [hN] at HQ2 hsb
    have HNL := Lib.hid hsb
    have HQ := Lib.hid HQ2
    clear HQ2 hsb hN hV hV2 hvi hva hvl hE4 b24 HST
    go_wp2_with fail
    refine HQ.out.mono ?_; rintro x w5 ⟨a5, k5, va5, nv5, cv5, aa5, na5, ca5, rfl, ho5, hE5, hb5⟩
    have hnl : N.length = ((argsL A).filter (· ≠ [])).length := by rw [← HNL.out]; simp
    have hnl8 : N.length ≤ 8 := by
      have h1 := List.length_filter_le (fun x : List UInt8 => decide (x ≠ [])) (argsL A)
      have h2 := HA8.out
      have h3 : (argsL A).length = A.length := by simp [argsL]
      omega
    have HNN := Lib.hid hnl
    have b35 := hb4.trans (hb5.mono hb4.size)
    have b25 := HX3.out.1.trans (b35.mono HX3.out.1.size)
    have bw5 := HB2.out.trans (b25.mono HB2.out.size)
    have bA : Below w5.heap.size w5 ((w5.alloc (.cells #[.slice va5 nv5 cv5, .slice aa5 na5 ca5, .int .i64 V.status, .string ⟨V.flags.toArray⟩] 28)).alloc (.cells #[.int .i64 0, .string ⟨#[]⟩] 33)) := below_two (Below.refl _ w5) (Nat.le_refl _) (.cells #[.slice va5 nv5 cv5, .slice aa5 na5 ca5, .int .i64 V.status, .string ⟨V.flags.toArray⟩] 28) (.cells #[.int .i64 0, .string ⟨#[]⟩] 33)
    obtain ⟨i0, i1, i2, i3, i4⟩ := two_facts (((HX3.out.2.1.below b35).alloc (.cells #[.slice va5 nv5 cv5, .slice aa5 na5 ca5, .int .i64 V.status, .string ⟨V.flags.toArray⟩] 28)).alloc (.cells #[.int .i64 0, .string ⟨#[]⟩] 33))
    have HBF : Hid (Below w.heap.size w ((w5.alloc (.cells #[.slice va5 nv5 cv5, .slice aa5 na5 ca5, .int .i64 V.status, .string ⟨V.flags.toArray⟩] 28)).alloc (.cells #[.int .i64 0, .string ⟨#[]⟩] 33))) := below_two bw5 bw5.size (.cells #[.slice va5 nv5 cv5, .slice aa5 na5 ca5, .int .i64 V.status, .string ⟨V.flags.toArray⟩] 28) (.cells #[.int .i64 0, .string ⟨#[]⟩] 33)
    have HM3 : Hid (∀ i (h : i < A.length), ∃ q, a3 = some ⟨q, 0, none⟩ ∧ ((w5.alloc (.cells #[.slice va5 nv5 cv5, .slice aa5 na5 ca5, .int .i64 V.status, .string ⟨V.flags.toArray⟩] 28)).alloc (.cells #[.int .i64 0, .string ⟨#[]⟩] 33)).cell? ⟨q, i * 2, none⟩ = some (.string A[i])) := fun i hi => by
      obtain ⟨q, e, h1⟩ := rows_at HX3.out.2.2 i _ (HMT.out i hi)
      exact ⟨q, e, ((b35.trans (bA.mono b35.size)).cell (show q < W3.heap.size from block_lt_of_cell h1)).trans h1⟩
    have HN5 : Hid (∀ k T, ((argsL A).filter (· ≠ []))[k]? = some T → ∃ q, a5 = some ⟨q, 0, none⟩ ∧ ((w5.alloc (.cells #[.slice va5 nv5 cv5, .slice aa5 na5 ca5, .int .i64 V.status, .string ⟨V.flags.toArray⟩] 28)).alloc (.cells #[.int .i64 0, .string ⟨#[]⟩] 33)).cell? ⟨q, k * 2, none⟩ = some (.string ⟨T.toArray⟩)) := fun k T hT => by
      obtain ⟨q, e, h1⟩ := rows_at ho5 k T (by rw [HNL.out]; exact hT)
      exact ⟨q, e, (bA.cell (show q < w5.heap.size from block_lt_of_cell h1)).trans h1⟩
    have HAT : Hid (IsStrs ((w5.alloc (.cells #[.slice va5 nv5 cv5, .slice aa5 na5 ca5, .int .i64 V.status, .string ⟨V.flags.toArray⟩] 28)).alloc (.cells #[.int .i64 0, .string ⟨#[]⟩] 33)) a2 A.length cap2 A) := ⟨rfl, HA.out.cap, HA.out.few, HA.out.short, HA.out.cells.imp id fun ⟨b, off, e, hc⟩ => ⟨b, off, e, fun i hi => (HBF.out.cell (show (⟨b, off + i, none⟩ : Addr).block < w.heap.size from block_lt_of_cell (hc i hi))).trans (hc i hi)⟩⟩
    have hal : A.length ≤ 8 := HA8.out
    clear hnl b35 b25 bw5 bA hE5 ho5 hb5 hb4 HX3 HQ HR2 HB2 HE2 HMT HNL
    go_wp2_with fail
    obtain ⟨WE, hWE⟩ : ∃ WE, ((w5.alloc (.cells #[.slice va5 nv5 cv5, .slice aa5 na5 ca5, .int .i64 V.status, .string ⟨V.flags.toArray⟩] 28)).alloc (.cells #[.int .i64 0, .string ⟨#[]⟩] 33)) = WE := ⟨_, rfl⟩
    rw [hWE] at HBF HM3 HN5 HAT ⊢
    clear hWE i0 i1 i2 i3 i4
    go_loopg [14, 15] A.length (fun g s14 s15 wx => Below WE.heap.size WE wx ∧ ∃ i : Nat, i + g = A.length ∧ s15 = .int .i64 i ∧ s14 = .int .i64 (cntT (argsL A) i : Nat))
    case atStart => exact ⟨Below.refl _ _, 0, by omega, rfl, rfl⟩
    case round =>
      obtain ⟨hbx, i, hig, rfl, rfl⟩ := hrel
      have HBX := Lib.hid hbx
      clear hbx
      cases gk with
      | zero =>
        obtain rfl : i = A.length := by omega
        have hca : cntT (argsL A) A.length = N.length := by
          have := cntT_all (argsL A)
          rw [show (argsL A).length = A.length by simp [argsL]] at this
          rw [this, HNN.out]
        rw [hca]
        clear hca
        go_wp2_with fail
        go_ret
        exact ⟨rfl, HBF.out.trans (HBX.out.mono HBF.out.size)⟩
      | succ g =>
        have hi : i < A.length := by omega
        have hi2 : i < (argsL A).length := by simpa [argsL] using hi
        have hai : (argsL A)[i] = A[i].data.toList := by simp [argsL]
        obtain ⟨s1, s2⟩ := cntT_succ (argsL A) i hi2
        rw [hai] at s1 s2
        obtain ⟨q3, rfl, hm3⟩ := HM3.out i hi
        obtain ⟨b, off, rfl, hat⟩ : ∃ b off, a2 = some ⟨b, off, none⟩ ∧ ∀ i (h : i < A.length), WE.cell? ⟨b, off + i, none⟩ = some (.string A[i]) := by
          rcases HAT.out.cells with h | h
          · rw [h] at hi; simp at hi
          · exact h
        have hat := hat i hi
        have e3 : wr.cell? ⟨q3, i * 2, none⟩ = some (.string A[i]) := (HBX.out.cell (show (⟨q3, i * 2, none⟩ : Addr).block < WE.heap.size from block_lt_of_cell hm3)).trans hm3
        have e4 : wr.cell? ⟨b, off + i, none⟩ = some (.string A[i]) := (HBX.out.cell (show (⟨b, off + i, none⟩ : Addr).block < WE.heap.size from block_lt_of_cell hat)).trans hat
        by_cases he : A[i].data.toList = []
        · have hc := s1 he
          have hs : A[i] = ⟨#[]⟩ := by apply ByteArray.ext; apply Array.ext'; simpa using he
          rw [hs] at e3 e4
          have HC := Lib.hid hc
          clear s1 s2 hai hm3 hat hs hc he
          go_wp2_with fail
          go_quiet (fail)
          go_wp2_with fail
          go_roundg g
          case measure => omega
          case rel => exact ⟨below_drewN HBX.out _, i + 1, by omega, by go_num, by rw [HC.out]⟩
        · obtain ⟨hc, hnk⟩ := s2 he
          obtain ⟨q5, rfl, hn5⟩ := HN5.out _ _ hnk
          have hkl : cntT (argsL A) i < N.length := by rw [HNN.out]; exact (List.getElem?_eq_some_iff.1 hnk).1
          have hn5' : WE.cell? ⟨q5, cntT (argsL A) i * 2, none⟩ = some (.string A[i]) := hn5
          have e6 : wr.cell? ⟨q5, cntT (argsL A) i * 2, none⟩ = some (.string A[i]) := (HBX.out.cell (show (⟨q5, cntT (argsL A) i * 2, none⟩ : Addr).block < WE.heap.size from block_lt_of_cell hn5')).trans hn5'
          have hv0 : (A[i].toList == []) = false := by rw [Lib.toList_data]; simpa using he
          have HC := Lib.hid hc
          obtain ⟨s, hs⟩ : ∃ s, A[i] = s := ⟨_, rfl⟩
          rw [hs] at e3 e4 e6 hv0
          obtain ⟨k, hk⟩ : ∃ k, cntT (argsL A) i = k := ⟨_, rfl⟩
          rw [hk] at e6 hkl ⊢
          have HKK := Lib.hid hk
          have hkl1 : ¬ (N.length : Int) ≤ (k : Int) := by omega
          have hv1 : (s.toList != []) = true := by simp [bne, hv0]
          clear s1 s2 hai hm3 hat hc he hn5 hn5' hnk hs hk
          go_wp2_with fail
          go_quiet (fail)
          go_wp2_with fail
          go_quiet (fail)
          go_wp2_with fail
          go_roundg g
          case measure => omega
          case rel => exact ⟨below_drewN HBX.out _, i + 1, by omega, by go_num, by rw [HC.out, HKK.out]; go_num⟩
end Go.Proofs.YtkmpbkhlcapbgaaGreatDoor
