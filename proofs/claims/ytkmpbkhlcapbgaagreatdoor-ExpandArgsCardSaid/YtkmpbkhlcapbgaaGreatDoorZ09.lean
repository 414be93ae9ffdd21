/-
  DERIVED. The walk of env's Flag. The walk of env's Set (lexer.Name's answer is handed in).
-/
import Derived.Test.YtkmpbkhlcapbgaaGreatDoorZ04
import Derived.Test.YtkmpbkhlcapbgaaGreatDoorZ08
import Derived.Lib.SlBytesConst
namespace Go.Proofs.YtkmpbkhlcapbgaaGreatDoor
open Go Go.RowKit
theorem cell_mark (W : World) (b : Nat) (hb : b = W.heap.size) (C : Array Value) (e : Nat) (m : Nat × Nat) (j : Nat) : (W.alloc (.cells C e m)).cell? ⟨b, j, none⟩ = C[j]? := by
  subst hb
  unfold World.cell?
  have : (W.alloc (.cells C e m)).heap[W.heap.size]? = some (.cells C e m) := by show (W.heap.push _)[W.heap.size]? = _; simp
  rw [this]
  simp
def hasB (fl : ByteArray) (c : UInt8) : Bool := decide (0 ≤ Lib.indexByte fl.data.toList c)
/-- Whether a flag is on behind it. -/
def keepB (fl : ByteArray) (c : UInt8) (on : Bool) (f : UInt8) : Bool := (f == c && on) || (f != c && hasB fl f)
def efuxL : List UInt8 := [101, 102, 117, 120]
def onesL (fl : ByteArray) (c : UInt8) (on : Bool) (i : Nat) : ByteArray := ⟨((efuxL.take i).filter (keepB fl c on)).toArray⟩
theorem onesL_next (fl : ByteArray) (c : UInt8) (on : Bool) (i : Nat) (h : i < efuxL.length) : onesL fl c on (i + 1) = if keepB fl c on efuxL[i] then onesL fl c on i ++ ⟨#[efuxL[i]]⟩ else onesL fl c on i := by
  unfold onesL
  rw [List.take_succ_eq_append_getElem h, List.filter_append]
  cases hk : keepB fl c on efuxL[i] <;> simp [hk]
  apply ByteArray.ext
  simp
theorem onesL_size (fl : ByteArray) (c : UInt8) (on : Bool) (i : Nat) : (onesL fl c on i).size ≤ 4 := by
  unfold onesL
  have h := List.length_filter_le (keepB fl c on) (efuxL.take i)
  have h2 := List.length_take_le' i efuxL
  have h3 : efuxL.length = 4 := rfl
  show ((efuxL.take i).filter (keepB fl c on)).length ≤ 4
  omega
set_option maxRecDepth 100000 in
set_option maxHeartbeats 16000000 in
theorem flag_any (av : Option Addr) (nv cv : Nat) (aa : Option Addr) (na ca : Nat) (st : Int) (fl : ByteArray) (c : UInt8) (on : Bool) (w : World) :
    Calls Tryz.prog 20 #[.agg #[(.slice av nv cv), .slice aa na ca, .int .i64 st, .string fl], .int .u8 (c.toNat : Int), .bool on] w fun e w' => e = .returned (.agg #[(.slice av nv cv), .slice aa na ca, .int .i64 st, .string (onesL fl c on 4)]) ∧ Below w.heap.size w w' := by
  have hst := fun (w : World) (b cap : Nat) (x : Int) => run_str1 (P := Tryz.prog) Tryz.underlying73 Tryz.underlying5 Tryz.underlying9 w b cap x
  have kc := fun (C : Array Value) (n c : Nat) => Lib.run_convert_bytes_const (P := Tryz.prog) ((w.alloc (.cells #[(.slice av nv cv), .slice aa na ca, .int .i64 st, .string fl] 28)).alloc (.cells #[.slice none 0 0, .slice none 0 0, .int .i64 0, .string ⟨#[]⟩] 28)) 73 5 C n c Tryz.underlying73 Tryz.underlying5
  simp only [World.size_alloc] at kc
  have HH := Lib.hid (fun (c : Int) (W : World) => has_any (.slice av nv cv) (.slice aa na ca) (.int .i64 st) fl c W)
  go_enter Tryz.func20, Tryz.ntmps20
  go_wp2_with fail
  clear kc
  have hLl : efuxL.length = 4 := rfl
  have HLL := Lib.hid hLl
  clear hLl
  go_loopg [7, 13] 4 (fun gk s7 s13 wx => Below w.heap.size w wx ∧ RowIs wx w.heap.size 28 [(.slice av nv cv), .slice aa na ca, .int .i64 st, .string fl] ∧ RowIs wx (w.heap.size + 1) 28 [.slice none 0 0, .slice none 0 0, .int .i64 0, .string ⟨#[]⟩] ∧ Hid (∀ j (h : j < efuxL.length), wx.cell? ⟨w.heap.size + 1 + 1, j, none⟩ = some (.int .u8 (efuxL[j].toNat : Int))) ∧ ∃ i : Nat, i + gk = 4 ∧ s13 = .int .i64 i ∧ s7 = .string (onesL fl c on i))
  case atStart =>
    refine ⟨(((Below.refl _ _).alloc (Nat.le_refl _) _).alloc (by simp) _).alloc (by simp; omega) _, (((RowIs.new w _ _).alloc _).alloc _), ?_, ?_, 0, by omega, rfl, rfl⟩
    · have h := (RowIs.new (w.alloc (.cells #[(.slice av nv cv), .slice aa na ca, .int .i64 st, .string fl] 28)) 28 [.slice none 0 0, .slice none 0 0, .int .i64 0, .string ⟨#[]⟩]).alloc (.cells #[.int .u8 101, .int .u8 102, .int .u8 117, .int .u8 120] 5 (4, 5))
      simpa using h
    · intro j hj
      have hj4 : j < 4 := hj
      rw [cell_mark _ _ (by simp)]
      rcases (show j = 0 ∨ j = 1 ∨ j = 2 ∨ j = 3 by omega) with rfl | rfl | rfl | rfl <;> rfl
  case round =>
    obtain ⟨hB, hR1, hR2, hC, i, hik, rfl, rfl⟩ := hrel
    cases gk with
    | zero =>
      obtain rfl : i = 4 := by omega
      obtain ⟨c0, c1, c2, c3, f0, f1, f2, f3, lt1⟩ := four_facts hR1
      obtain ⟨y0, y1, y2, y3, z0, z1, z2, z3, lt2⟩ := four_facts hR2
      have HB := Lib.hid hB
      have HR2 := Lib.hid hR2
      clear hB hR1 hR2 hC
      go_wp2_with fail
      have F2 := ((((HR2.out.other (a := ⟨w.heap.size, 3, none⟩) (by simp) (.string (onesL fl c on 4))).set 0 (.slice av nv cv)).set 1 (.slice aa na ca)).set 2 (.int .i64 st)).set 3 (.string (onesL fl c on 4))
      obtain ⟨q0, q1, q2, q3, _⟩ := four_facts F2
      exact bodyPost_ret (v := .agg #[(.slice av nv cv), .slice aa na ca, .int .i64 st, .string (onesL fl c on 4)]) (by simp [results, Tryz.results20, go_sem, q0, q1, q2, q3]) rfl
        ⟨rfl, ((((HB.out.setCell (p := ⟨w.heap.size, 3, none⟩) (Nat.le_refl _) _).setCell (p := ⟨w.heap.size + 1, 0, none⟩) (by simp) _).setCell (p := ⟨w.heap.size + 1, 1, none⟩) (by simp) _).setCell (p := ⟨w.heap.size + 1, 2, none⟩) (by simp) _).setCell (p := ⟨w.heap.size + 1, 3, none⟩) (by simp) _⟩
    | succ gk =>
      have hi4 : i < efuxL.length := by rw [HLL.out]; omega
      obtain ⟨f, hf⟩ : ∃ f, efuxL[i] = f := ⟨_, rfl⟩
      have hcf := hC.out i hi4
      have hnx := onesL_next fl c on i hi4
      rw [hf] at hcf hnx
      have hsz : (onesL fl c on i).size ≤ 4 := onesL_size fl c on i
      have hi3 : (i : Int) < 4 := by omega
      have hi5 : i < 4 := by omega
      have hmx : (onesL fl c on i).size + 1 ≤ 4611686018427387904 := by omega
      obtain ⟨c0, c1, c2, c3, f0, f1, f2, f3, lt1⟩ := four_facts hR1
      have HB := Lib.hid hB
      have HR1 := Lib.hid hR1
      have HR2 := Lib.hid hR2
      have HNX := Lib.hid hnx
      clear hB hR1 hR2 hf hnx
      have hcb : Hid (∀ (x : ByteArray) (W : World), (onesL fl c on (i + 1) = x) → Below wr.heap.size wr W → Below w.heap.size w W ∧ RowIs W w.heap.size 28 [.slice av nv cv, .slice aa na ca, .int .i64 st, .string fl] ∧ RowIs W (w.heap.size + 1) 28 [.slice none 0 0, .slice none 0 0, .int .i64 0, .string ⟨#[]⟩] ∧ Hid (∀ j (h : j < efuxL.length), W.cell? ⟨w.heap.size + 1 + 1, j, none⟩ = some (.int .u8 (efuxL[j].toNat : Int))) ∧ ∃ i2 : Nat, i2 + gk = 4 ∧ Value.int .i64 ((i : Int) + 1) = .int .i64 i2 ∧ Value.string x = .string (onesL fl c on i2)) := by
        intro x W hx hW
        refine ⟨HB.out.trans (hW.mono HB.out.size), HR1.out.below hW, HR2.out.below hW, ?_, i + 1, by omega, by go_num, by rw [hx]⟩
        intro j hj
        exact (hW.cell (block_lt_of_cell (hC.out j hj))).trans (hC.out j hj)
      clear hC
      by_cases hfc : f = c
      · subst hfc
        cases on
        · have hnx2 : Hid (onesL fl f false (i + 1) = onesL fl f false i) := by rw [HNX.out]; simp [Hid, keepB]
          clear HNX
          go_wp2_with fail
          go_roundg gk
          case measure => omega
          case rel => exact hcb.out _ _ hnx2.out (Below.refl _ _)
        · have hnx2 : Hid (onesL fl f true (i + 1) = onesL fl f true i ++ ⟨#[f]⟩) := by rw [HNX.out]; simp [Hid, keepB]
          clear HNX
          go_wp2_with fail
          go_roundg gk
          case measure => omega
          case rel => exact hcb.out _ _ hnx2.out ((Below.refl _ _).alloc (Nat.le_refl _) _)
      · have hq : ((f.toNat : Int) == (c.toNat : Int)) = false := by
          simp; intro e; exact hfc (UInt8.toNat_inj.1 (by omega))
        have hq2 : ((f.toNat : Int) != (c.toNat : Int)) = true := by
          simp; intro e; exact hfc (UInt8.toNat_inj.1 (by omega))
        have hfb : (f == c) = false := by simpa using hfc
        have hfb2 : (f != c) = true := by simpa using hfc
        have HH2 := HH.out (f.toNat : Int)
        obtain ⟨bb, hbb⟩ : ∃ b : Bool, hasB fl f = b := ⟨_, rfl⟩
        have hbe : decide (0 ≤ Lib.indexByte fl.data.toList (f.toNat : Int).toNat.toUInt8) = bb := by rw [← hbb]; simp [hasB]
        rw [hbe] at HH2
        have HHH := Lib.hid HH2
        cases bb
        · have hnx2 : Hid (onesL fl c on (i + 1) = onesL fl c on i) := by rw [HNX.out]; simp [Hid, keepB, hfb, hfb2, hbb]
          clear HNX hbb hbe HH2 hfb hfb2 hfc
          go_wp2_with fail
          refine (HHH.out wr).mono ?_; rintro e w1 ⟨rfl, k1⟩
          go_wp2_with fail
          go_roundg gk
          case measure => omega
          case rel => exact hcb.out _ _ hnx2.out k1
        · have hnx2 : Hid (onesL fl c on (i + 1) = onesL fl c on i ++ ⟨#[f]⟩) := by rw [HNX.out]; simp [Hid, keepB, hfb, hfb2, hbb]
          clear HNX hbb hbe HH2 hfb hfb2 hfc
          go_wp2_with fail
          refine (HHH.out wr).mono ?_; rintro e w1 ⟨rfl, k1⟩
          go_wp2_with fail
          go_roundg gk
          case measure => omega
          case rel => exact hcb.out _ _ hnx2.out (k1.alloc k1.size _)
end Go.Proofs.YtkmpbkhlcapbgaaGreatDoor
namespace Go.Proofs.YtkmpbkhlcapbgaaGreatDoor
open Go Go.RowKit
/-- A variable put into a row of the call's own. -/
theorem insert_row (l : List (ByteArray × ByteArray)) (base i vb : Nat) (hi : i ≤ l.length) (hn : l.length < 1000000000) (s x : ByteArray) (v : Value) (w : World) (ho : OwnV base w v l) (hb : base ≤ w.heap.size) (hv : RowIs w vb 68 [.string s, .string x]) (hvb : v.ownBlock ≠ some vb) :
    Calls Tryz.prog 27 #[v, .int .i64 i, .slice (some ⟨vb, 0, none⟩) 1 1] w fun e w' => ∃ v', e = .returned v' ∧ OwnV base w' v' (l.take i ++ (s, x) :: l.drop i) ∧ Below base w w' := by
  obtain ⟨h1, h2⟩ := ho
  have e0 : cellsL (l.take i ++ (s, x) :: l.drop i) = (cellsL l).take (i * 2) ++ .string s :: .string x :: (cellsL l).drop (i * 2) := by
    have e : cellsL ((s, x) :: l.drop i) = .string s :: .string x :: cellsL (l.drop i) := rfl
    rw [cellsL_append, cellsL_take, e, cellsL_drop]
  have e1 : (l.take i ++ (s, x) :: l.drop i).length = l.length + 1 := by simp; omega
  by_cases hil : i = l.length
  · subst hil
    refine (insert_end base l.length vb v (.string s) (.string x) (cellsL l) (by omega) w h1 hb hv ⟨rfl, rfl⟩).mono ?_
    rintro e w' ⟨v', rfl, ho, hb'⟩
    refine ⟨v', rfl, ⟨?_, by rw [e1]; omega⟩, hb'⟩
    rw [e0, e1, List.take_of_length_le (by rw [cellsL_length]; exact Nat.le_refl _), List.drop_of_length_le (by rw [cellsL_length]; exact Nat.le_refl _)]
    exact ho
  · rcases known_of_own h1 with ⟨rfl, h0⟩ | ⟨g, cap, cur, rfl, hg, hk⟩
    · omega
    · have hne : vb ≠ g := by
        intro e; exact hvb (by rw [e]; rfl)
      by_cases hr : l.length + 1 ≤ cap
      · refine (insert_room g cap i l.length vb cur (cellsL l) (.string s) (.string x) (by omega) (by omega) hr w hk (cellsL_one l) hv hne ⟨rfl, rfl⟩).mono ?_
        rintro e w' ⟨cur', rfl, hk', hb'⟩
        exact ⟨_, rfl, ⟨by rw [e0, e1]; exact hk'.own hg, by rw [e1]; omega⟩, hb'.mono hg⟩
      · refine (insert_grow g cap i l.length vb cur (cellsL l) (.string s) (.string x) (by omega) (by omega) (by omega) w hk (cellsL_one l) hv ⟨rfl, rfl⟩).mono ?_
        rintro e w' ⟨v', rfl, ho, hb'⟩
        exact ⟨_, rfl, ⟨by rw [e0, e1]; exact own_base ho hb, by rw [e1]; omega⟩, hb'.mono hb⟩
def cutV (l : List (ByteArray × ByteArray)) (cnt : Nat) (fnd : Bool) : List (ByteArray × ByteArray) := if fnd then l.take cnt ++ l.drop (cnt + 1) else l
theorem unset_any (s : ByteArray) (l : List (ByteArray × ByteArray)) (cnt : Nat) (fnd : Bool) (hl : LowAt l s cnt fnd) (v : Value) (aa : Option Addr) (na ca : Nat) (st : Int) (fl : ByteArray) (w : World) (hv : RowV w v l) :
    Calls Tryz.prog 18 #[.agg #[v, .slice aa na ca, .int .i64 st, .string fl], .string s] w fun e w' => ∃ v', e = .returned (.agg #[v', .slice aa na ca, .int .i64 st, .string fl]) ∧ OwnV w.heap.size w' v' (cutV l cnt fnd) ∧ Below w.heap.size w w' := by
  cases fnd
  · exact unset_none s l cnt hl v aa na ca st fl w hv
  · refine unset_some s l cnt hl ?_ v aa na ca st fl w hv
    rcases Nat.lt_or_ge cnt l.length with h | h
    · exact h
    · have := hl.no (Nat.le_antisymm hl.le h)
      cases this
set_option maxRecDepth 100000 in
set_option maxHeartbeats 8000000 in
theorem set_any (s x : ByteArray) (hN : ∀ W, Calls Tryz.prog 25 #[.string s] W fun e w' => e = .returned (.bool true) ∧ Below W.heap.size W w') (l : List (ByteArray × ByteArray)) (cnt cnt2 : Nat) (fnd fnd2 : Bool) (hl : LowAt l s cnt fnd) (hl2 : LowAt (cutV l cnt fnd) s cnt2 fnd2) (hln : (cutV l cnt fnd).length < 1000000000)
    (v : Value) (aa : Option Addr) (na ca : Nat) (st : Int) (fl : ByteArray) (w : World) (hv : RowV w v l) :
    Calls Tryz.prog 13 #[.agg #[v, .slice aa na ca, .int .i64 st, .string fl], .string s, .string x] w fun e w' => ∃ v', e = .returned (.agg #[v', .slice aa na ca, .int .i64 st, .string fl]) ∧ OwnV w.heap.size w' v' ((cutV l cnt fnd).take cnt2 ++ (s, x) :: (cutV l cnt fnd).drop cnt2) ∧ Below w.heap.size w w' := by
  obtain ⟨l2, hl2e⟩ : ∃ l2, cutV l cnt fnd = l2 := ⟨_, rfl⟩
  have HU := Lib.hid (fun (W : World) (hW : RowV W v l) => unset_any s l cnt fnd hl v aa na ca st fl W hW)
  rw [hl2e] at hl2 hln HU ⊢
  have HF := Lib.hid (fun (v2 : Value) (W : World) (hW : RowV W v2 l2) => find_any s l2 cnt2 fnd2 hl2 v2 (.slice aa na ca) (.int .i64 st) (.string fl) W hW)
  have HI := Lib.hid (fun (vb : Nat) (v2 : Value) (base : Nat) (W : World) (ho : OwnV base W v2 l2) (hb : base ≤ W.heap.size) (hv : RowIs W vb 68 [.string s, .string x]) (hvb : v2.ownBlock ≠ some vb) => insert_row l2 base cnt2 vb hl2.le hln s x v2 W ho hb hv hvb)
  have HV := Lib.hid hv
  have HN := Lib.hid hN
  have hcb : (cnt2 : Int) ≤ 1000000000 := by have := hl2.le; omega
  clear hv hl hl2 hN hl2e hln
  go_enter Tryz.func13, Tryz.ntmps13
  go_wp2_with fail
  have b0 := ((Below.refl w.heap.size w).alloc (Nat.le_refl _) (.cells #[v, .slice aa na ca, .int .i64 st, .string fl] 28)).alloc (by simp) (.cells #[.slice none 0 0, .slice none 0 0, .int .i64 0, .string ⟨#[]⟩] 28)
  refine (HN.out _).mono ?_; rintro e w1 ⟨rfl, k1⟩
  have r1 := ((RowIs.new w 28 [v, .slice aa na ca, .int .i64 st, .string fl]).alloc (.cells #[.slice none 0 0, .slice none 0 0, .int .i64 0, .string ⟨#[]⟩] 28)).below k1
  have r2 := (RowIs.new (w.alloc (.cells #[v, .slice aa na ca, .int .i64 st, .string fl] 28)) 28 [.slice none 0 0, .slice none 0 0, .int .i64 0, .string ⟨#[]⟩]).below k1
  have b1 := below_call k1 b0
  simp only [World.size_alloc] at r2
  obtain ⟨c0, c1, c2, c3, f0, f1, f2, f3, lt1⟩ := four_facts r1
  have lt2 : w.heap.size + 1 < w1.heap.size := r2.lt
  have HR1 := Lib.hid r1
  have HR2 := Lib.hid r2
  have HB1 := Lib.hid b1
  clear k1 b0 r1 r2 b1
  go_wp2_with fail
  refine (HU.out _ (HV.out.below HB1.out)).mono ?_; rintro e w2 ⟨v', rfl, ho, k2⟩
  obtain ⟨a2, cp2, rfl⟩ := own_slice ho.1
  obtain ⟨N2, hN2⟩ : ∃ N, l2.length = N := ⟨_, rfl⟩
  have RR := HR1.out.below k2
  have R1 := Lib.hid ((((RR.set 0 (.slice a2 l2.length cp2)).set 1 (.slice aa na ca)).set 2 (.int .i64 st)).set 3 (.string fl))
  have R2 := Lib.hid (((((HR2.out.below k2).other (a := ⟨w.heap.size, 0, none⟩) (by simp) (.slice a2 l2.length cp2)).other (a := ⟨w.heap.size, 1, none⟩) (by simp) (.slice aa na ca)).other (a := ⟨w.heap.size, 2, none⟩) (by simp) (.int .i64 st)).other (a := ⟨w.heap.size, 3, none⟩) (by simp) (.string fl))
  have B2 := Lib.hid (((((HB1.out.trans (k2.mono HB1.out.size)).setCell (p := ⟨w.heap.size, 0, none⟩) (Nat.le_refl _) (.slice a2 l2.length cp2)).setCell (p := ⟨w.heap.size, 1, none⟩) (Nat.le_refl _) (.slice aa na ca)).setCell (p := ⟨w.heap.size, 2, none⟩) (Nat.le_refl _) (.int .i64 st)).setCell (p := ⟨w.heap.size, 3, none⟩) (Nat.le_refl _) (.string fl))
  have HO : Hid (OwnV w1.heap.size ((((w2.setCell ⟨w.heap.size, 0, none⟩ (.slice a2 l2.length cp2)).setCell ⟨w.heap.size, 1, none⟩ (.slice aa na ca)).setCell ⟨w.heap.size, 2, none⟩ (.int .i64 st)).setCell ⟨w.heap.size, 3, none⟩ (.string fl)) (.slice a2 l2.length cp2) l2) :=
    ⟨own_other (own_other (own_other (own_other ho.1 (a := ⟨w.heap.size, 0, none⟩) lt1 _) (a := ⟨w.heap.size, 1, none⟩) lt1 _) (a := ⟨w.heap.size, 2, none⟩) lt1 _) (a := ⟨w.heap.size, 3, none⟩) lt1 _, ho.2⟩
  obtain ⟨p0, p1, p2, p3, g0, g1, g2, g3, lt3⟩ := four_facts RR
  have hs2 : Hid (w1.heap.size ≤ w2.heap.size) := k2.size
  rw [hN2] at R1 R2 B2 HO
  rw [hN2]
  have HN2 := Lib.hid hN2
  clear k2 ho c0 c1 c2 c3 f0 f1 f2 f3 RR hN2
  go_wp2_with fail
  refine (HF.out _ _ HO.out.row).mono ?_; rintro e w3 ⟨rfl, k3⟩
  have R13 := Lib.hid (R1.out.below k3)
  have R23 := Lib.hid (R2.out.below k3)
  have B3 := Lib.hid (B2.out.trans (k3.mono B2.out.size))
  have hs3 : Hid (w2.heap.size ≤ w3.heap.size) := by have := k3.size; unfold Hid; simpa using this
  have HO3 : Hid (OwnV w1.heap.size w3 (.slice a2 N2 cp2) l2) := ⟨own_below HO.out.1 k3, HO.out.2⟩
  obtain ⟨p0, p1, p2, p3, g0, g1, g2, g3, lt5⟩ := four_facts R13.out
  have lt4 : w.heap.size + 1 < w3.heap.size := R23.out.lt
  have hob : Hid ((Value.slice a2 N2 cp2).ownBlock ≠ some w3.heap.size) := by
    intro e
    have := (HO3.out.1.lt _ e).2
    omega
  clear k3
  go_wp2_with fail
  have rv := RowIs.new w3 68 [.string s, .string x]
  refine (HI.out w3.heap.size (.slice a2 N2 cp2) w1.heap.size _ ⟨HO3.out.1.alloc _, HO3.out.2⟩ (by have := hs2.out; have := hs3.out; simp; omega) rv hob.out).mono ?_
  rintro e w4 ⟨v4, rfl, ho4, k4⟩
  obtain ⟨a4, cp4, rfl⟩ := own_slice ho4.1
  have R14 := Lib.hid ((R13.out.alloc (.cells #[.string s, .string x] 68)).under k4 lt1)
  have R24 := Lib.hid ((R23.out.alloc (.cells #[.string s, .string x] 68)).under k4 lt2)
  have B4 := Lib.hid ((B3.out.alloc B3.out.size (.cells #[.string s, .string x] 68)).trans (k4.mono (by omega)))
  have HO4 := Lib.hid ho4
  obtain ⟨p0, p1, p2, p3, g0, g1, g2, g3, lt6⟩ := four_facts R14.out
  obtain ⟨y0, y1, y2, y3, z0, z1, z2, z3, lt7⟩ := four_facts R24.out
  obtain ⟨N, hN⟩ : ∃ N, (l2.take cnt2 ++ (s, x) :: l2.drop cnt2).length = N := ⟨_, rfl⟩
  rw [hN] at HO4
  rw [hN]
  clear k4 ho4 hN rv
  go_wp2_with fail
  have F2 := ((((R24.out.other (a := ⟨w.heap.size, 0, none⟩) (by simp) (.slice a4 N cp4)).set 0 (.slice a4 N cp4)).set 1 (.slice aa na ca)).set 2 (.int .i64 st)).set 3 (.string fl)
  obtain ⟨q0, q1, q2, q3, _⟩ := four_facts F2
  exact bodyPost_ret (v := .agg #[.slice a4 N cp4, .slice aa na ca, .int .i64 st, .string fl]) (by simp [results, Tryz.results13, go_sem, q0, q1, q2, q3]) rfl
    ⟨_, rfl, ⟨own_base (own_other (own_other (own_other (own_other (own_other HO4.out.1 (a := ⟨w.heap.size, 0, none⟩) lt1 _) (a := ⟨w.heap.size + 1, 0, none⟩) lt2 _) (a := ⟨w.heap.size + 1, 1, none⟩) lt2 _) (a := ⟨w.heap.size + 1, 2, none⟩) lt2 _) (a := ⟨w.heap.size + 1, 3, none⟩) lt2 _) (by omega), HO4.out.2⟩,
    ((((B4.out.setCell (p := ⟨w.heap.size, 0, none⟩) (Nat.le_refl _) _).setCell (p := ⟨w.heap.size + 1, 0, none⟩) (by simp) _).setCell (p := ⟨w.heap.size + 1, 1, none⟩) (by simp) _).setCell (p := ⟨w.heap.size + 1, 2, none⟩) (by simp) _).setCell (p := ⟨w.heap.size + 1, 3, none⟩) (by simp) _⟩
end Go.Proofs.YtkmpbkhlcapbgaaGreatDoor
