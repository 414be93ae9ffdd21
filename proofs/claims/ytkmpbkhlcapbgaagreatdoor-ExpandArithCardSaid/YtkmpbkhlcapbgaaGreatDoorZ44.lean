/-
  DERIVED. The walk of arith's row, given what row further on does. What arith's reader does is what the parser says, where it says anything.
-/
import Derived.Test.YtkmpbkhlcapbgaaGreatDoorZ40
import Derived.Test.YtkmpbkhlcapbgaaGreatDoorZ36
import Derived.Deep.RegionWith
import Derived.Test.YtkmpbkhlcapbgaaGreatDoorZ43
namespace Go.Proofs.YtkmpbkhlcapbgaaGreatDoor
open Go.RowKit
theorem signF_dropB (l : List UInt8) : dropB (dropB l) = dropB l := by
  unfold dropB
  induction l with
  | nil => rfl
  | cons c l ih =>
    cases hc : blankU c
    · rw [List.dropWhile_cons_of_neg (by simp [hc]), List.dropWhile_cons_of_neg (by simp [hc])]
    · rw [List.dropWhile_cons_of_pos hc]; exact ih
theorem sign_at {s u x : ByteArray} {d : Nat} {g : Nat} {w : World} (hu : u.data.toList = dropB s.data.toList) (hx : signF s.data.toList = x.data.toList) (hr : Rd g s d w) :
    Calls Tryz.prog 178 #[.pointer (some ⟨g, 0, none⟩)] w fun e w' => e = .returned (.string x) ∧ Rd g u d w' ∧ Kept g w w' := by
  have hl : u.data.toList.length ≤ s.data.toList.length := by rw [hu]; exact dropB_le _
  refine (sign_any g s u d hu x hx w hr.gs hr.row hr.signs).mono ?_
  rintro e w' ⟨rfl, r, k⟩
  exact ⟨rfl, hr.next k r (by have := hr.size; rw [Lib.size_eq] at this ⊢; exact Nat.le_trans hl this) hr.deep, k⟩
theorem has_row (i : Nat) (hi : i < 10) (x : ByteArray) (b : Bool) (hb : inRow i x.data.toList = b) (w : World) (hR : RowsAt w) :
    Calls Tryz.prog 122 #[.string ⟨(rowsL.getD i []).toArray⟩, .string ((⟨#[32]⟩ ++ x) ++ ⟨#[32]⟩)] w fun e w' => e = .returned (.bool b) ∧ w' = w := by
  obtain ⟨m, hm⟩ := hR.2
  have hsz : (⟨(rowsL.getD i []).toArray⟩ : ByteArray).size < 4294967281 := by
    rcases (show i = 0 ∨ i = 1 ∨ i = 2 ∨ i = 3 ∨ i = 4 ∨ i = 5 ∨ i = 6 ∨ i = 7 ∨ i = 8 ∨ i = 9 by omega) with rfl | rfl | rfl | rfl | rfl | rfl | rfl | rfl | rfl | rfl <;> decide
  have h := Tryz.strings_Contains ⟨(rowsL.getD i []).toArray⟩ ((⟨#[32]⟩ ++ x) ++ ⟨#[32]⟩) m w hsz hm
  have e : ((⟨#[32]⟩ ++ x) ++ ⟨#[32]⟩ : ByteArray).data.toList = [32] ++ x.data.toList ++ [32] := by simp
  rw [e] at h
  have e2 : Lib.contains (⟨(rowsL.getD i []).toArray⟩ : ByteArray).data.toList ([32] ++ x.data.toList ++ [32]) = b := hb
  rw [e2] at h
  exact h
theorem rowF_le : ∀ (f d i : Nat) (l : List UInt8) (r : Tree × List UInt8), rowF f d i l = some r → i ≤ 10
  | 0, _, _, _, _, h => by simp [rowF] at h
  | f + 1, d, i, l, r, h => by
    by_cases hi : i = 10
    · omega
    · unfold rowF at h
      rw [if_neg hi] at h
      split at h
      · cases h
      · rename_i a l1 h1
        have := rowF_le f d (i + 1) l _ h1
        omega
/-- What holds at each round of row's loop. -/
structure LawR (g ba d i : Nat) (t : Tree) (u : ByteArray) (f : Nat) (w wx : World) : Prop where
  st : ∃ (s : ByteArray) (ta : Tree) (o : ByteArray) (n : Int) (m : ByteArray) (p : Option Addr) (k : Nat), Rd g s d wx ∧ RowIs wx ba 177 (treeC o n m p k) ∧ TreeAt wx (fun b => w.heap.size < b ∧ b ≠ ba) o n m p k ta ∧ loopF f d i ta s.data.toList = some (t, u.data.toList)
  rz : RowIs wx w.heap.size 177 treeL
  kept : Kept g w wx
  gw : g < w.heap.size
  lb : w.heap.size < ba
/-- What holds while the region of row's loop draws. -/
structure LawL (g ba : Nat) (w wx : World) : Prop where
  ra : ∃ z0 z1 z2 z3, RowIs wx ba 177 [z0, z1, z2, z3]
  rz : RowIs wx w.heap.size 177 treeL
  kept : Kept g w wx
  gw : g < w.heap.size
  lb : w.heap.size < ba
section
variable {g ba : Nat} {w wx : World}
theorem LawL.next (h : LawL g ba w wx) {wy : World} (k : Kept g wx wy) : LawL g ba w wy := by
  obtain ⟨⟨z0, z1, z2, z3, ra⟩, rz, kept, gw, lb⟩ := h
  exact ⟨⟨z0, z1, z2, z3, k.row ra (by omega)⟩, k.row rz (by omega), kept.trans k, gw, lb⟩
theorem LawL.put1 (h : LawL g ba w wx) (j : Nat) (v : Value) : LawL g ba w (wx.setCell ⟨ba, j, none⟩ v) := by
  obtain ⟨⟨z0, z1, z2, z3, ra⟩, rz, kept, gw, lb⟩ := h
  obtain ⟨y0, y1, y2, y3, hy⟩ := set_four z0 z1 z2 z3 v j
  have ra2 := ra.set j v
  rw [hy] at ra2
  exact ⟨⟨y0, y1, y2, y3, ra2⟩, rz.other (Nat.ne_of_lt lb) _, kept.new (Nat.le_of_lt lb) j v, gw, lb⟩
theorem LawL.put (h : LawL g ba w wx) (v0 v1 v2 v3 : Value) : LawL g ba w ((((wx.setCell ⟨ba, 0, none⟩ v0).setCell ⟨ba, 1, none⟩ v1).setCell ⟨ba, 2, none⟩ v2).setCell ⟨ba, 3, none⟩ v3) :=
  (((h.put1 0 v0).put1 1 v1).put1 2 v2).put1 3 v3
theorem LawL.alloc (h : LawL g ba w wx) (o : Obj) : LawL g ba w (wx.alloc o) := h.next ((Kept.refl g wx).alloc o)
theorem LawL.facts (h : LawL g ba w wx) :
    (wx.cell? ⟨ba, 0, none⟩ = some (acellOf wx ⟨ba, 0, none⟩) ∧ wx.cell? ⟨ba, 1, none⟩ = some (acellOf wx ⟨ba, 1, none⟩) ∧ wx.cell? ⟨ba, 2, none⟩ = some (acellOf wx ⟨ba, 2, none⟩) ∧ wx.cell? ⟨ba, 3, none⟩ = some (acellOf wx ⟨ba, 3, none⟩) ∧
      wx.frozen? ⟨ba, 0, none⟩ = false ∧ wx.frozen? ⟨ba, 1, none⟩ = false ∧ wx.frozen? ⟨ba, 2, none⟩ = false ∧ wx.frozen? ⟨ba, 3, none⟩ = false ∧ ba < wx.heap.size) ∧ LawL g ba w wx := by
  have h0 := h
  obtain ⟨⟨z0, z1, z2, z3, ra⟩, _⟩ := h
  obtain ⟨x0, x1, x2, x3, f0, f1, f2, f3, l⟩ := tree_facts ra
  exact ⟨⟨acellOf_is x0, acellOf_is x1, acellOf_is x2, acellOf_is x3, f0, f1, f2, f3, l⟩, h0⟩
end
theorem LawL.fin {g ba : Nat} {w wn : World} (hn : LawL g ba w wn) {o : ByteArray} {n : Int} {m : ByteArray} {p : Option Addr} {k : Nat} {tb : Tree} (hra : RowIs wn ba 177 (treeC o n m p k)) (hta : TreeAt wn (fun b => w.heap.size < b ∧ b ≠ ba) o n m p k tb)
    {o3 : ByteArray} {n3 : Int} {m3 : ByteArray} {p3 : Option Addr} {k3 : Nat} {b : Tree} {l : Nat} (htb : TreeAt wn (fun x => l ≤ x) o3 n3 m3 p3 k3 b) (hl : ba < l) {s v3 : ByteArray} {d : Nat} (hR0 : Rd g s d w) (hr : RowIs wn g 174 [.string v3, .int .i64 (d : Int)]) (hsz : v3.size ≤ 1000000000)
    {x : ByteArray} {i f : Nat} {t : Tree} {u : ByteArray} (hlo : loopF f d i (.node x.data.toList [tb, b]) v3.data.toList = some (t, u.data.toList)) {c0 c1 c2 c3 : Value} (hc : c0 = .string o ∧ c1 = .int .i64 n ∧ c2 = .string m ∧ c3 = .slice p k k)
    {W : World} (hW : W = (((((wn.setCell ⟨ba, 0, none⟩ (.string x)).setCell ⟨ba, 1, none⟩ (.int .i64 0)).setCell ⟨ba, 2, none⟩ (.string ⟨#[]⟩)).setCell ⟨ba, 3, none⟩ (.slice (some ⟨wn.heap.size, 0, none⟩) 2 2)).alloc (.cells #[c0, c1, c2, c3, .string o3, .int .i64 n3, .string m3, .slice p3 k3 k3] 177))) : LawR g ba d i t u f w W := by
  obtain ⟨rfl, rfl, rfl, rfl⟩ := hc
  have hp := (hn.put (.string x) (.int .i64 0) (.string ⟨#[]⟩) (.slice (some ⟨wn.heap.size, 0, none⟩) 2 2)).alloc (.cells #[.string o, .int .i64 n, .string m, .slice p k k, .string o3, .int .i64 n3, .string m3, .slice p3 k3 k3] 177)
  rw [← hW] at hp
  have hlt := hra.lt
  have rn := RowIs.new ((((wn.setCell ⟨ba, 0, none⟩ (.string x)).setCell ⟨ba, 1, none⟩ (.int .i64 0)).setCell ⟨ba, 2, none⟩ (.string ⟨#[]⟩)).setCell ⟨ba, 3, none⟩ (.slice (some ⟨wn.heap.size, 0, none⟩) 2 2)) 177 [.string o, .int .i64 n, .string m, .slice p k k, .string o3, .int .i64 n3, .string m3, .slice p3 k3 k3]
  have es : ((((wn.setCell ⟨ba, 0, none⟩ (.string x)).setCell ⟨ba, 1, none⟩ (.int .i64 0)).setCell ⟨ba, 2, none⟩ (.string ⟨#[]⟩)).setCell ⟨ba, 3, none⟩ (.slice (some ⟨wn.heap.size, 0, none⟩) 2 2)).heap.size = wn.heap.size := by simp
  rw [es] at rn
  have hne : wn.heap.size ≠ ba := by omega
  have gw := hn.gw
  have lb := hn.lb
  have hng : g ≠ ba := by omega
  have ra2 := ((((hra.set 0 (.string x)).set 1 (.int .i64 0)).set 2 (.string ⟨#[]⟩)).set 3 (.slice (some ⟨wn.heap.size, 0, none⟩) 2 2)).alloc (.cells #[.string o, .int .i64 n, .string m, .slice p k k, .string o3, .int .i64 n3, .string m3, .slice p3 k3 k3] 177)
  have rg := ((((hr.other hng (.string x) (a := ⟨ba, 0, none⟩)).other hng (.int .i64 0) (a := ⟨ba, 1, none⟩)).other hng (.string ⟨#[]⟩) (a := ⟨ba, 2, none⟩)).other hng (.slice (some ⟨wn.heap.size, 0, none⟩) 2 2) (a := ⟨ba, 3, none⟩)).alloc (.cells #[.string o, .int .i64 n, .string m, .slice p k k, .string o3, .int .i64 n3, .string m3, .slice p3 k3 k3] 177)
  have na : ∀ b, (w.heap.size < b ∧ b ≠ ba) → b ≠ ba := fun b hb => hb.2
  have ta2 := ((((hta.set (a := ⟨ba, 0, none⟩) na (.string x)).set (a := ⟨ba, 1, none⟩) na (.int .i64 0)).set (a := ⟨ba, 2, none⟩) na (.string ⟨#[]⟩)).set (a := ⟨ba, 3, none⟩) na (.slice (some ⟨wn.heap.size, 0, none⟩) 2 2)).alloc (.cells #[.string o, .int .i64 n, .string m, .slice p k k, .string o3, .int .i64 n3, .string m3, .slice p3 k3 k3] 177)
  have htb2 := htb.base (S' := fun b => w.heap.size < b ∧ b ≠ ba) (fun b _ hb => ⟨by omega, by omega⟩)
  have tb2 := ((((htb2.set (a := ⟨ba, 0, none⟩) na (.string x)).set (a := ⟨ba, 1, none⟩) na (.int .i64 0)).set (a := ⟨ba, 2, none⟩) na (.string ⟨#[]⟩)).set (a := ⟨ba, 3, none⟩) na (.slice (some ⟨wn.heap.size, 0, none⟩) 2 2)).alloc (.cells #[.string o, .int .i64 n, .string m, .slice p k k, .string o3, .int .i64 n3, .string m3, .slice p3 k3 k3] 177)
  rw [← hW] at rn ra2 rg ta2 tb2
  exact ⟨⟨v3, _, x, 0, ⟨#[]⟩, _, 2, hR0.next hp.kept rg hsz hR0.deep, ra2, .two x wn.heap.size ⟨by omega, hne⟩ rn ta2 tb2, hlo⟩, hp.rz, hp.kept, gw, lb⟩
theorem cellOf_row {W : World} {b e : Nat} {x0 x1 x2 x3 : Value} (r : RowIs W b e [x0, x1, x2, x3]) : acellOf W ⟨b, 0, none⟩ = x0 ∧ acellOf W ⟨b, 1, none⟩ = x1 ∧ acellOf W ⟨b, 2, none⟩ = x2 ∧ acellOf W ⟨b, 3, none⟩ = x3 := by
  obtain ⟨a, b, c, d, _⟩ := tree_facts r
  exact ⟨by unfold acellOf; rw [a]; rfl, by unfold acellOf; rw [b]; rfl, by unfold acellOf; rw [c]; rfl, by unfold acellOf; rw [d]; rfl⟩
set_option maxRecDepth 100000 in
set_option maxHeartbeats 8000000 in
theorem row_loop (f : Nat) (hR : ∀ k, k ≤ f → RowOK k) (d i : Nat) (hi : i < 10) (s u1 u : ByteArray) (ta t : Tree) (h1 : rowF f d (i + 1) s.data.toList = some (ta, u1.data.toList)) (h2 : loopF f d i ta u1.data.toList = some (t, u.data.toList)) (g : Nat) (w : World) (hr : Rd g s d w) :
    Calls Tryz.prog 151 #[.pointer (some ⟨g, 0, none⟩), .int .i64 (i : Int)] w (TreePost g d t u (w.heap.size ≤ ·) w) := by
  have H1 := Lib.hid (hR f (Nat.le_refl _) d (i + 1) s u1 ta h1 g)
  have HSZ := Lib.hid (show u1.size ≤ 1000000000 by have h5 := (parse_le f).2.1 _ _ _ _ _ h1; have h6 := hr.size; rw [Lib.size_eq] at h6 ⊢; exact Nat.le_trans h5 h6)
  have HRK := Lib.hid hR
  have H2 := Lib.hid h2
  have lg := hr.row.lt
  have hi10 : ((i : Int) == 10) = false := by simp; omega
  have hw1 : IntKind.i64.wrap ((i : Int) + 1) = (i : Int) + 1 := wrap_small _ (by omega) (by omega)
  have hib : (i : Int) < 10 := by omega
  have hi0 : (0 : Int) ≤ (i : Int) := by omega
  have HR := Lib.hid hr
  clear h1 h2 hr hR
  go_enter Tryz.func151, Tryz.ntmps151
  go_wp2_with fail
  have k0 := (Kept.refl g w).alloc (.cells #[.string ⟨#[]⟩, .int .i64 0, .string ⟨#[]⟩, .slice none 0 0] 177)
  refine (H1.out _ (HR.out.kept k0 (HR.out.row.alloc _))).mono ?_
  rintro e w1 ⟨oA, nA, mA, pA, kA, rfl, t1, r1, kk1⟩
  have hne : w.heap.size ≠ g := by omega
  have K1 := k0.trans kk1
  have hs1 := kk1.size
  simp at hs1
  have rb1 := (kk1.row (RowIs.new w 177 treeL) hne).alloc (.cells #[.string oA, .int .i64 nA, .string mA, .slice pA kA kA] 177)
  have rn1 := RowIs.new w1 177 [.string oA, .int .i64 nA, .string mA, .slice pA kA kA]
  have R1 := HR.out.next (s' := u1) (d' := d) (K1.alloc (.cells #[.string oA, .int .i64 nA, .string mA, .slice pA kA kA] 177)) (r1.alloc _) HSZ.out HR.out.deep
  have L1 : LawR g w1.heap.size d i t u f w (w1.alloc (.cells #[.string oA, .int .i64 nA, .string mA, .slice pA kA kA] 177)) :=
    ⟨⟨u1, ta, oA, nA, mA, pA, kA, R1, rn1, (t1.base (S' := fun b => w.heap.size < b ∧ b ≠ w1.heap.size) (fun b hl hb => ⟨by simp at hb; omega, by omega⟩)).alloc _, H2.out⟩, rb1, K1.alloc _, lg, by omega⟩
  obtain ⟨ba, hba⟩ : ∃ ba, w1.heap.size = ba := ⟨_, rfl⟩
  rw [hba] at L1
  have HBA := Lib.hid hba
  clear k0 t1 r1 kk1 rb1 rn1 R1 K1 hba hs1
  go_wp2_with fail
  rw [HBA.out]
  go_loopg [6] f (fun gk _ wx => gk ≤ f ∧ LawR g ba d i t u gk w wx)
  case atStart => exact ⟨Nat.le_refl _, L1⟩
  case round =>
    obtain ⟨hgk, s', tb, o, n, m, p, k, R2, ra2, t2, hl⟩ := hrel.imp id (fun h => h.st)
    have HL0 := Lib.hid hrel.2
    clear hrel L1 HBA
    cases gk with
    | zero => simp [loopF] at hl
    | succ gk =>
      have gw := HL0.out.gw
      have lb := HL0.out.lb
      have hgb : g ≠ w.heap.size := by omega
      obtain ⟨x, hx⟩ : ∃ x : ByteArray, signF s'.data.toList = x.data.toList := ⟨⟨(signF s'.data.toList).toArray⟩, rfl⟩
      obtain ⟨v, hv⟩ : ∃ v : ByteArray, v.data.toList = dropB s'.data.toList := ⟨⟨(dropB s'.data.toList).toArray⟩, rfl⟩
      have SA := Lib.hid (sign_at hv hx R2)
      have hxs : x.size ≤ 1000000000 := by
        have h3 := sign_len hv hx
        have h4 := dropB_le s'.data.toList
        have h5 := R2.size
        rw [Lib.size_eq] at h5
        rw [Lib.size_eq v, hv] at h3
        omega
      have HRA := Lib.hid ra2
      have HT2 := Lib.hid t2
      have HLL := Lib.hid hl
      have HX := Lib.hid hx
      have HV := Lib.hid hv
      clear hl R2 ra2 t2 hx hv
      go_wp2_with fail
      refine SA.out.mono ?_
      rintro e w2 ⟨rfl, R3, kk2⟩
      have ra3 := kk2.row HRA.out (show ba ≠ g by omega)
      have rz3 := kk2.row HL0.out.rz (show w.heap.size ≠ g by omega)
      have HR3 := Lib.hid R3
      have HRA3 := Lib.hid ra3
      have HRZ := Lib.hid rz3
      have HT3 := Lib.hid (HT2.out.kept kk2 (fun b hb => by have := hb.1; omega))
      have HK3 := Lib.hid (HL0.out.kept.trans kk2)
      have HROW := Lib.hid R3.rows
      have lit : w2.cell? ⟨5, i, none⟩ = some (.string ⟨(rowsL.getD i []).toArray⟩) := R3.rows.1 i hi
      obtain ⟨rs, hrs⟩ : ∃ rs, rowsL.getD i [] = rs := ⟨_, rfl⟩
      rw [hrs] at lit
      obtain ⟨a0, a1, a2, a3, _, _, _, _, la⟩ := tree_facts ra3
      obtain ⟨z0, z1, z2, z3, f0, f1, f2, f3, lz⟩ := tree_facts rz3
      obtain ⟨ib, hib2⟩ : ∃ ib, inRow i x.data.toList = ib := ⟨_, rfl⟩
      have HC : Hid (∀ w, RowsAt w → Calls Tryz.prog 122 #[.string ⟨rs.toArray⟩, .string ((⟨#[32]⟩ ++ x) ++ ⟨#[32]⟩)] w fun e w' => e = .returned (.bool ib) ∧ w' = w) := hrs ▸ has_row i hi x ib hib2
      have HIB := Lib.hid hib2
      clear R3 kk2 ra3 rz3 SA hrs hib2 HT2 HRA
      by_cases hx0 : x.data.toList = []
      · have q0 : x.toList.isEmpty = true := by rw [Lib.toList_data, hx0]; rfl
        have q1 : x.toList = [] := by rw [Lib.toList_data, hx0]
        have hs0 : Hid (tb = t ∧ v = u) := by
          have h := HLL.out
          unfold loopF at h
          rw [HX.out, hx0, if_pos (.inl rfl)] at h
          simp only [Option.some.injEq, Prod.mk.injEq] at h
          exact ⟨h.1, by rw [← Lib.mk_data v, ← Lib.mk_data u, HV.out, h.2]⟩
        clear hx0 HLL HC
        obtain ⟨rfl, rfl⟩ := hs0.out
        go_wp2_with fail
        have hfin := (((HRZ.out.set 0 (.string o)).set 1 (.int .i64 n)).set 2 (.string m)).set 3 (.slice p k k)
        obtain ⟨j0, j1, j2, j3, _⟩ := tree_facts hfin
        have nb : ∀ b, (w.heap.size < b ∧ b ≠ ba) → b ≠ w.heap.size := fun b hb => Nat.ne_of_gt hb.1
        exact bodyPost_ret (v := .agg #[.string o, .int .i64 n, .string m, .slice p k k]) (by simp [results, Tryz.results151, go_sem, j0, j1, j2, j3]) rfl ⟨o, n, m, p, k, rfl,
          ((((HT3.out.set nb _).set nb _).set nb _).set nb _).base fun b _ hb => Nat.le_of_lt hb.1,
          (((HR3.out.row.other hgb _).other hgb _).other hgb _).other hgb _, (((HK3.out.new (Nat.le_refl _) 0 _).new (Nat.le_refl _) 1 _).new (Nat.le_refl _) 2 _).new (Nat.le_refl _) 3 _⟩
      · have q1 : ¬ x.toList = [] := by rw [Lib.toList_data]; exact hx0
        have q0 : x.toList.isEmpty = false := by rw [Lib.toList_data]; cases hh : x.data.toList with | nil => exact absurd hh hx0 | cons _ _ => rfl
        cases ib with
        | false =>
          have hs0 : Hid (tb = t ∧ v = u) := by
            have h := HLL.out
            unfold loopF at h
            rw [HX.out, HIB.out, if_pos (.inr rfl)] at h
            simp only [Option.some.injEq, Prod.mk.injEq] at h
            exact ⟨h.1, by rw [← Lib.mk_data v, ← Lib.mk_data u, HV.out, h.2]⟩
          clear hx0 HLL
          obtain ⟨rfl, rfl⟩ := hs0.out
          go_wp2_with fail
          refine (HC.out _ HROW.out).mono ?_; rintro e w3 ⟨rfl, hw⟩; subst hw
          go_wp2_with fail
          have hfin := (((HRZ.out.set 0 (.string o)).set 1 (.int .i64 n)).set 2 (.string m)).set 3 (.slice p k k)
          obtain ⟨j0, j1, j2, j3, _⟩ := tree_facts hfin
          have nb : ∀ b, (w.heap.size < b ∧ b ≠ ba) → b ≠ w.heap.size := fun b hb => Nat.ne_of_gt hb.1
          exact bodyPost_ret (v := .agg #[.string o, .int .i64 n, .string m, .slice p k k]) (by simp [results, Tryz.results151, go_sem, j0, j1, j2, j3]) rfl ⟨o, n, m, p, k, rfl,
            ((((HT3.out.set nb _).set nb _).set nb _).set nb _).base fun b _ hb => Nat.le_of_lt hb.1,
            (((HR3.out.row.other hgb _).other hgb _).other hgb _).other hgb _, (((HK3.out.new (Nat.le_refl _) 0 _).new (Nat.le_refl _) 1 _).new (Nat.le_refl _) 2 _).new (Nat.le_refl _) 3 _⟩
        | true =>
          obtain ⟨v2, hv2⟩ : ∃ v2 : ByteArray, v2.data.toList = (dropB s'.data.toList).drop x.data.toList.length := ⟨⟨((dropB s'.data.toList).drop x.data.toList.length).toArray⟩, rfl⟩
          have hp : passF x.data.toList v.data.toList = (true, v2.data.toList) := by
            unfold passF
            rw [if_pos (by rw [← HX.out]; unfold signF; rw [HV.out, signF_dropB]), HV.out, signF_dropB, hv2]
          have HP := Lib.hid (passT_at x (u := v2) hp HR3.out)
          obtain ⟨b, v3, hb, hl3⟩ : ∃ (b : Tree) (v3 : ByteArray), rowF gk d (i + 1) v2.data.toList = some (b, v3.data.toList) ∧ loopF gk d i (.node x.data.toList [tb, b]) v3.data.toList = some (t, u.data.toList) := by
            have h := HLL.out
            unfold loopF at h
            rw [HX.out, HIB.out, if_neg (by simp [hx0]), ← hv2] at h
            split at h
            · cases h
            · rename_i b l2 h2
              exact ⟨b, ⟨l2.toArray⟩, h2, h⟩
          have HB2 := Lib.hid (HRK.out gk (by omega) d (i + 1) v2 v3 b hb g)
          have HL3 := Lib.hid hl3
          have HSZ3 := Lib.hid ((parse_le gk).2.1 _ _ _ _ _ hb)
          clear hx0 HLL hv2 hp hb hl3
          go_wp2_with fail
          refine (HC.out _ HROW.out).mono ?_; rintro e w3 ⟨rfl, hw⟩; subst hw
          go_wp2_with fail
          refine HP.out.mono ?_
          rintro e w4 ⟨rfl, R4, kk4⟩
          have ra4 := kk4.row HRA3.out (show ba ≠ g by omega)
          have L4 : LawL g ba w w4.drew := LawL.next ⟨⟨_, _, _, _, ra4⟩, kk4.row HRZ.out (show w.heap.size ≠ g by omega), HK3.out.trans kk4, gw, lb⟩ (.of (Below.refl _ _).drew)
          have HR4 := Lib.hid R4.drew
          have HRA4 := Lib.hid (ra4.below (Below.refl _ _).drew)
          have HT4 := Lib.hid ((HT3.out.kept kk4 (fun b hb => by have := hb.1; omega)).under (Below.refl _ _).drew)
          have HBG := Lib.hid (show ba ≠ g by omega)
          have HLT := Lib.hid (show ba < w4.drew.heap.size from HRA4.out.lt)
          clear R4 kk4 ra4 HP a0 a1 a2 a3 z0 z1 z2 z3 f0 f1 f2 f3 la lz lit
          obtain ⟨a0, a1, a2, a3, b0, b1, b2, b3, la⟩ := tree_facts HRA4.out
          go_wp2_with fail
          go_region_with ((go_at_call 151; refine (HB2.out _ HR4.out).mono ?_; rintro e wn ⟨o3, n3, m3, p3, k3, rfl, t3, r3, kk3⟩; have hn := LawL.next L4 kk3; have HT5 := Lib.hid t3; have HK5 := Lib.hid kk3; have HR5 := Lib.hid r3; have ran := kk3.row HRA4.out HBG.out; obtain ⟨e0, e1, e2, e3, g0, g1, g2, g3, ln⟩ := tree_facts ran; clear t3 r3 kk3))
          all_goals
            have hv3 : v3.size ≤ 1000000000 := by have h1 := HSZ3.out; have h2 := HR4.out.size; rw [Lib.size_eq] at h2 ⊢; omega
            have hR := LawL.fin hn ran (HT4.out.kept HK5.out (fun b hb => by have := hb.1; omega)) HT5.out HLT.out HR.out HR5.out hv3 HL3.out ⟨rfl, rfl, rfl, rfl⟩ rfl
            go_wp2_with fail
            go_roundg gk
            case measure => omega
            case rel => exact ⟨by omega, hR⟩
set_option maxRecDepth 100000 in
set_option maxHeartbeats 4000000 in
theorem row_last (f : Nat) (hH : AheadOK f) (d : Nat) (s u : ByteArray) (t : Tree) (h1 : aheadF f d s.data.toList = some (t, u.data.toList)) (g : Nat) (w : World) (hr : Rd g s d w) :
    Calls Tryz.prog 151 #[.pointer (some ⟨g, 0, none⟩), .int .i64 10] w (TreePost g d t u (w.heap.size ≤ ·) w) := by
  have H1 := Lib.hid (hH d s u t h1 g)
  have lg := hr.row.lt
  have HR := Lib.hid hr
  clear h1 hr
  go_enter Tryz.func151, Tryz.ntmps151
  go_wp2_with fail
  have k0 := (Kept.refl g w).alloc (.cells #[.string ⟨#[]⟩, .int .i64 0, .string ⟨#[]⟩, .slice none 0 0] 177)
  refine (H1.out _ (HR.out.kept k0 (HR.out.row.alloc _))).mono ?_
  rintro e w1 ⟨o, n, m, p, k, rfl, t1, r1, kk1⟩
  have hne : w.heap.size ≠ g := by omega
  have HK1 := Lib.hid (k0.trans kk1)
  have rb1 := kk1.row (RowIs.new w 177 treeL) hne
  obtain ⟨z0, z1, z2, z3, f0, f1, f2, f3, lz⟩ := tree_facts rb1
  have HRB := Lib.hid rb1
  have HT1 := Lib.hid (t1.base (S' := fun b => w.heap.size < b) (fun b _ hb => by simp at hb; omega))
  have HR1 := Lib.hid r1
  clear k0 t1 r1 kk1 rb1
  go_wp2_with fail
  have hfin := (((HRB.out.set 0 (.string o)).set 1 (.int .i64 n)).set 2 (.string m)).set 3 (.slice p k k)
  obtain ⟨j0, j1, j2, j3, _⟩ := tree_facts hfin
  have hgb : g ≠ w.heap.size := Ne.symm hne
  have nb : ∀ b, (w.heap.size < b) → b ≠ w.heap.size := fun b hb => Nat.ne_of_gt hb
  exact bodyPost_ret (v := .agg #[.string o, .int .i64 n, .string m, .slice p k k]) (by simp [results, Tryz.results151, go_sem, j0, j1, j2, j3]) rfl ⟨o, n, m, p, k, rfl,
    ((((HT1.out.set nb _).set nb _).set nb _).set nb _).base fun b _ hb => Nat.le_of_lt hb,
    (((HR1.out.other hgb _).other hgb _).other hgb _).other hgb _, (((HK1.out.new (Nat.le_refl _) 0 _).new (Nat.le_refl _) 1 _).new (Nat.le_refl _) 2 _).new (Nat.le_refl _) 3 _⟩
theorem row_step (f : Nat) (hR : ∀ k, k ≤ f → RowOK k) (hH : AheadOK f) : RowOK (f + 1) := by
  intro d i s u t h g w hr
  have hi := rowF_le _ _ _ _ _ h
  unfold rowF at h
  split at h
  · rename_i hi10
    subst hi10
    exact row_last f hH d s u t h g w hr
  · rename_i hi10
    split at h
    · cases h
    · rename_i a l1 h1
      exact row_loop f hR d i (by omega) s ⟨l1.toArray⟩ u a t h1 h g w hr
end Go.Proofs.YtkmpbkhlcapbgaaGreatDoor
namespace Go.Proofs.YtkmpbkhlcapbgaaGreatDoor
open Go.RowKit
theorem any_step (f : Nat) (hR : RowOK f) (hA : AnyOK f) : AnyOK (f + 1) := by
  intro d s u t h g w hr
  have hd := hr.deep
  unfold anyF at h
  split at h
  · cases h
  · rename_i a l1 h1
    obtain ⟨u1, hu1⟩ : ∃ u1 : ByteArray, u1.data.toList = l1 := ⟨⟨l1.toArray⟩, rfl⟩
    rw [← hu1] at h1 h
    split at h
    · rename_i l2 h2
      simp only [Option.some.injEq, Prod.mk.injEq] at h
      rw [h.2] at h2
      rw [← h.1]
      exact any_plain f hR d s u1 u a h1 h2 g w hr
    · rename_i l2 h2
      obtain ⟨u2, hu2⟩ : ∃ u2 : ByteArray, u2.data.toList = l2 := ⟨⟨l2.toArray⟩, rfl⟩
      rw [← hu2] at h2 h
      split at h
      · cases h
      · rename_i hd40
        split at h
        · cases h
        · rename_i b l3 h3
          obtain ⟨u3, hu3⟩ : ∃ u3 : ByteArray, u3.data.toList = l3 := ⟨⟨l3.toArray⟩, rfl⟩
          rw [← hu3] at h3 h
          split at h
          · cases h
          · rename_i l4 h4
            obtain ⟨u4, hu4⟩ : ∃ u4 : ByteArray, u4.data.toList = l4 := ⟨⟨l4.toArray⟩, rfl⟩
            rw [← hu4] at h4 h
            split at h
            · cases h
            · rename_i c l5 h5
              simp only [Option.some.injEq, Prod.mk.injEq] at h
              rw [h.2] at h5
              rw [← h.1]
              exact any_cond f hR hA d (by omega) s u1 u2 u3 u4 u a b c h1 h2 h3 h4 h5 g w hr
theorem aread_ok : ∀ f, ∀ k, k ≤ f → AnyOK k ∧ RowOK k ∧ AheadOK k := by
  intro f
  induction f with
  | zero =>
    intro k hk
    obtain rfl : k = 0 := by omega
    refine ⟨?_, ?_, ?_⟩
    · intro d s u t h; simp [anyF] at h
    · intro d i s u t h; simp [rowF] at h
    · intro d s u t h; simp [aheadF] at h
  | succ f ih =>
    intro k hk
    by_cases hk2 : k ≤ f
    · exact ih k hk2
    · obtain rfl : k = f + 1 := by omega
      have hf := ih f (Nat.le_refl _)
      exact ⟨any_step f hf.2.1 hf.1, row_step f (fun j hj => (ih j hj).2.1) hf.2.2, ahead_step f hf.1 hf.2.2⟩
theorem any_ok (f : Nat) : AnyOK f := (aread_ok f f (Nat.le_refl _)).1
end Go.Proofs.YtkmpbkhlcapbgaaGreatDoor
