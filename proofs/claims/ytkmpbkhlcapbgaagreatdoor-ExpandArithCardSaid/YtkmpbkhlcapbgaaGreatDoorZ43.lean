/-
  DERIVED. The walk of arith's ahead.
-/
import Derived.Test.YtkmpbkhlcapbgaaGreatDoorZ41
import Derived.Test.YtkmpbkhlcapbgaaGreatDoorZ42
namespace Go.Proofs.YtkmpbkhlcapbgaaGreatDoor
open Go.RowKit
def aheadL : List (List UInt8) := [[33], [126], [43], [45]]
/-- What holds at each round of ahead's loop. -/
structure LawA (g d : Nat) (s : ByteArray) (w wx : World) : Prop where
  rd : ∃ s' : ByteArray, Rd g s' d wx ∧ dropB s'.data.toList = dropB s.data.toList
  rr : RowIs wx w.heap.size 172 [.pointer (some ⟨g, 0, none⟩)]
  rz : RowIs wx (w.heap.size + 1) 177 treeL
  rl : RowIs wx (w.heap.size + 2) 9 [.string ⟨#[33]⟩, .string ⟨#[126]⟩, .string ⟨#[43]⟩, .string ⟨#[45]⟩]
  kept : Kept g w wx
  gw : g < w.heap.size
theorem LawA.next {g d : Nat} {s : ByteArray} {w wx wy : World} (h : LawA g d s w wx) (k : Kept g wx wy) {s' : ByteArray} (hr : Rd g s' d wy) (hs : dropB s'.data.toList = dropB s.data.toList) : LawA g d s w wy := by
  have gw := h.gw
  exact ⟨⟨s', hr, hs⟩, k.row h.rr (by omega), k.row h.rz (by omega), k.row h.rl (by omega), h.kept.trans k, h.gw⟩
theorem LawA.alloc {g d : Nat} {s : ByteArray} {w wx : World} (h : LawA g d s w wx) (o : Obj) : LawA g d s w (wx.alloc o) := by
  obtain ⟨s', hr, hs⟩ := h.rd
  have k : Kept g wx (wx.alloc o) := (Kept.refl g wx).alloc o
  exact h.next k (hr.kept k (hr.row.alloc o)) hs
theorem signF_drop {a b : List UInt8} (h : dropB a = dropB b) : signF a = signF b := by unfold signF; rw [h]
theorem dropB_dropB (l : List UInt8) : dropB (dropB l) = dropB l := by
  unfold dropB
  induction l with
  | nil => rfl
  | cons c l ih =>
    cases hc : blankU c
    · rw [List.dropWhile_cons_of_neg (by simp [hc]), List.dropWhile_cons_of_neg (by simp [hc])]
    · rw [List.dropWhile_cons_of_pos hc]; exact ih
theorem three_new (w : World) (x y0 y1 y2 y3 a b c d : Value) (e e2 e3 : TypeId) :
    RowIs (((w.alloc (.cells #[x] e)).alloc (.cells #[y0, y1, y2, y3] e2)).alloc (.cells #[a, b, c, d] e3)) w.heap.size e [x] ∧ RowIs (((w.alloc (.cells #[x] e)).alloc (.cells #[y0, y1, y2, y3] e2)).alloc (.cells #[a, b, c, d] e3)) (w.heap.size + 1) e2 [y0, y1, y2, y3] ∧
      RowIs (((w.alloc (.cells #[x] e)).alloc (.cells #[y0, y1, y2, y3] e2)).alloc (.cells #[a, b, c, d] e3)) (w.heap.size + 2) e3 [a, b, c, d] := by
  obtain ⟨h1, h2⟩ := two_new w x y0 y1 y2 y3 e e2
  have h3 := RowIs.new ((w.alloc (.cells #[x] e)).alloc (.cells #[y0, y1, y2, y3] e2)) e3 [a, b, c, d]
  have e : ((w.alloc (.cells #[x] e)).alloc (.cells #[y0, y1, y2, y3] e2)).heap.size = w.heap.size + 2 := by simp
  rw [e] at h3
  exact ⟨h1.alloc _, h2.alloc _, h3⟩
theorem LawA.start {g d : Nat} {s : ByteArray} {w : World} (h : Rd g s d w) : LawA g d s w (((w.alloc (.cells #[.pointer (some ⟨g, 0, none⟩)] 172)).alloc (.cells #[.string ⟨#[]⟩, .int .i64 0, .string ⟨#[]⟩, .slice none 0 0] 177)).alloc (.cells #[.string ⟨#[33]⟩, .string ⟨#[126]⟩, .string ⟨#[43]⟩, .string ⟨#[45]⟩] 9)) := by
  obtain ⟨h1, h2, h3⟩ := three_new w (.pointer (some ⟨g, 0, none⟩)) (.string ⟨#[]⟩) (.int .i64 0) (.string ⟨#[]⟩) (.slice none 0 0) (.string ⟨#[33]⟩) (.string ⟨#[126]⟩) (.string ⟨#[43]⟩) (.string ⟨#[45]⟩) 172 177 9
  have k := (((Kept.refl g w).alloc (.cells #[.pointer (some ⟨g, 0, none⟩)] 172)).alloc (.cells #[.string ⟨#[]⟩, .int .i64 0, .string ⟨#[]⟩, .slice none 0 0] 177)).alloc (.cells #[.string ⟨#[33]⟩, .string ⟨#[126]⟩, .string ⟨#[43]⟩, .string ⟨#[45]⟩] 9)
  exact ⟨⟨s, h.kept k (((h.row.alloc _).alloc _).alloc _), rfl⟩, h1, h2, h3, k, h.row.lt⟩
theorem LawA.lit {g d : Nat} {s : ByteArray} {w wx : World} (h : LawA g d s w wx) (i : Nat) (hi : i < 4) : wx.cell? ⟨w.heap.size + 2, i, none⟩ = some (.string ⟨(aheadL.getD i []).toArray⟩) := by
  rw [h.rl.cell]
  rcases (show i = 0 ∨ i = 1 ∨ i = 2 ∨ i = 3 by omega) with rfl | rfl | rfl | rfl <;> rfl
set_option maxRecDepth 100000 in
set_option maxHeartbeats 8000000 in
theorem ahead_sign (f : Nat) (hH : AheadOK f) (d : Nat) (hd : d < 40) (s v u : ByteArray) (tc : Tree) (i0 : Nat) (hi0 : i0 < 4) (hs : signF s.data.toList = aheadL.getD i0 []) (hv : v.data.toList = (dropB s.data.toList).drop 1)
    (h1 : aheadF f (d + 1) v.data.toList = some (tc, u.data.toList)) (g : Nat) (w : World) (hr : Rd g s d w) :
    Calls Tryz.prog 177 #[.pointer (some ⟨g, 0, none⟩)] w (TreePost g d (.node (aheadL.getD i0 []) [tc]) u (w.heap.size ≤ ·) w) := by
  have L0 := LawA.start hr
  have H1 := Lib.hid (ahead1_at f hH (d + 1) v u tc h1 g)
  have HD := Lib.hid hd
  have HS := Lib.hid hs
  have HV := Lib.hid hv
  obtain ⟨xo, hxo⟩ : ∃ xo, aheadL.getD i0 [] = xo := ⟨_, rfl⟩
  rw [hxo]
  have HXO := Lib.hid hxo
  clear hxo
  clear hr hs hv hd h1
  go_enter Tryz.func177, Tryz.ntmps177
  go_wp2_with fail
  go_loopg [7] 4 (fun gk s7 wx => LawA g d s w wx ∧ ∃ i : Nat, i + gk = 4 ∧ s7 = .int .i64 i ∧ i ≤ i0)
  case atStart => exact ⟨L0, 0, rfl, rfl, Nat.zero_le _⟩
  case round =>
    obtain ⟨L1, i, hik, rfl, hle⟩ := hrel
    clear L0
    have hi4 : i < 4 := by omega
    have hiz : (i : Int) < 4 := by omega
    have hlit0 := L1.lit i hi4
    obtain ⟨xs, hxs⟩ : ∃ xs, aheadL.getD i [] = xs := ⟨_, rfl⟩
    rw [hxs] at hlit0
    have HXS := Lib.hid hxs
    have hlit := hlit0
    clear hxs hlit0
    have hw1 : IntKind.i64.wrap ((i : Int) + 1) = (i : Int) + 1 := wrap_small _ (by omega) (by omega)
    cases gk with
    | zero => omega
    | succ gk =>
      have L2 := L1.alloc (.cells #[.string ⟨xs.toArray⟩] 9)
      have rx := RowIs.new wr 9 [.string ⟨xs.toArray⟩]
      obtain ⟨s', R', hs'⟩ := L2.rd
      have c0 : (wr.alloc (.cells #[.string ⟨xs.toArray⟩] 9)).cell? ⟨w.heap.size, 0, none⟩ = some (.pointer (some ⟨g, 0, none⟩)) := by rw [L2.rr.cell]; rfl
      have lr0 := L1.rr.lt
      have HX := Lib.hid rx
      have HL2 := Lib.hid L2
      have gw := L1.gw
      have hlo := L1.kept.size
      have l2 := L1.rl.lt
      by_cases hm : i = i0
      · obtain rfl := hm
        obtain rfl : xs = xo := HXS.out.symm.trans HXO.out
        have hp : passF xs s'.data.toList = (true, v.data.toList) := by
          unfold passF
          rw [← HXS.out, if_pos ((signF_drop hs').trans HS.out), hs', HV.out]
          rcases (show i = 0 ∨ i = 1 ∨ i = 2 ∨ i = 3 by omega) with rfl | rfl | rfl | rfl <;> rfl
        have HP := Lib.hid (passT_at ⟨xs.toArray⟩ (u := v) hp R')
        clear hp R' hs' L2 rx L1
        go_wp2_with fail
        refine HP.out.mono ?_
        rintro e w2 ⟨rfl, R2, kk2⟩
        have rr2 := kk2.row HL2.out.rr (by omega)
        have rz2 := kk2.row HL2.out.rz (by omega)
        have rx2 := kk2.row HX.out (by omega)
        have hs2 := kk2.size
        simp at hs2
        have HK2 := Lib.hid (HL2.out.kept.trans kk2)
        have HRZ2 := Lib.hid rz2
        have c2 : w2.cell? ⟨w.heap.size, 0, none⟩ = some (.pointer (some ⟨g, 0, none⟩)) := by rw [rr2.cell]; rfl
        have l2 := rr2.lt
        have HW : Hid (Calls Tryz.prog 153 #[.pointer (some ⟨g, 0, none⟩), .func (.func 204) #[] #[.pointer (some ⟨wr.heap.size, 0, none⟩), .pointer (some ⟨w.heap.size, 0, none⟩)]] w2 (TreePost g d (.node xs [tc]) u (fun b => w.heap.size + 2 ≤ b ∧ b ≠ w2.heap.size) w2)) :=
          within_s g ⟨wr.heap.size, 0, none⟩ ⟨w.heap.size, 0, none⟩ v u d HD.out _ w2 R2 _ (fun b hb => ⟨by have := hb.1; omega, hb.2⟩) fun w3 k3 r3 hlt =>
            (H1.out w.heap.size wr.heap.size ⟨xs.toArray⟩ w3 r3 (k3.row rr2 (by omega)) (k3.row rx2 (by omega)) (by omega) (by omega)).mono
              fun e w' h => h.mono fun b hb => ⟨by have h : w3.heap.size ≤ b := hb; omega, by have h : w3.heap.size ≤ b := hb; omega⟩
        clear R2 kk2 rr2 rz2 rx2 HP c0
        go_wp2_with fail
        refine HW.out.mono ?_
        rintro e w3 ⟨o5, n5, m5, p5, k5, rfl, t5, r5, kk5⟩
        have rb5 := kk5.row HRZ2.out (show w.heap.size + 1 ≠ g by omega)
        obtain ⟨z0, z1, z2, z3, f0, f1, f2, f3, lz⟩ := tree_facts rb5
        have HRB5 := Lib.hid rb5
        have HT5 := Lib.hid t5
        have HR5 := Lib.hid r5
        have HK5 := Lib.hid (HK2.out.trans kk5)
        clear HW rb5 t5 r5 kk5
        go_wp2_with fail
        have hfin := (((HRB5.out.set 0 (.string o5)).set 1 (.int .i64 n5)).set 2 (.string m5)).set 3 (.slice p5 k5 k5)
        obtain ⟨j0, j1, j2, j3, _⟩ := tree_facts hfin
        have hgb : g ≠ w.heap.size + 1 := by omega
        have nb : ∀ b, (w.heap.size + 2 ≤ b ∧ b ≠ w2.heap.size) → b ≠ w.heap.size + 1 := fun b hb => by have := hb.1; omega
        exact bodyPost_ret (v := .agg #[.string o5, .int .i64 n5, .string m5, .slice p5 k5 k5]) (by simp [results, Tryz.results177, go_sem, j0, j1, j2, j3]) rfl ⟨o5, n5, m5, p5, k5, rfl,
          ((((HT5.out.set nb _).set nb _).set nb _).set nb _).base fun b _ hb => by have h := hb.1; show w.heap.size ≤ b; omega,
          (((HR5.out.other hgb _).other hgb _).other hgb _).other hgb _, (((HK5.out.new (Nat.le_succ _) 0 _).new (Nat.le_succ _) 1 _).new (Nat.le_succ _) 2 _).new (Nat.le_succ _) 3 _⟩
      · obtain ⟨u2, hu2⟩ : ∃ u2 : ByteArray, u2.data.toList = dropB s'.data.toList := ⟨⟨(dropB s'.data.toList).toArray⟩, rfl⟩
        have hp : passF xs s'.data.toList = (false, u2.data.toList) := by
          unfold passF
          rw [← HXS.out, if_neg (by
            rw [signF_drop hs', HS.out]
            rcases (show i = 0 ∨ i = 1 ∨ i = 2 ∨ i = 3 by omega) with rfl | rfl | rfl | rfl <;> rcases (show i0 = 0 ∨ i0 = 1 ∨ i0 = 2 ∨ i0 = 3 by omega) with rfl | rfl | rfl | rfl <;> first | exact absurd rfl hm | decide), hu2]
        have HP := Lib.hid (passN_at ⟨xs.toArray⟩ (u := u2) hp R')
        have hd2 := Lib.hid (show dropB u2.data.toList = dropB s.data.toList by rw [hu2, dropB_dropB, hs'])
        clear hp R' hs' L2 rx L1 hu2
        go_wp2_with fail
        refine HP.out.mono ?_
        rintro e w2 ⟨rfl, R2, kk2⟩
        have L3 := HL2.out.next kk2 R2 hd2.out
        clear R2 kk2 c0 HP
        go_wp2_with fail
        go_roundg gk
        case measure => omega
        case rel => exact ⟨L3, i + 1, by omega, rfl, by omega⟩
set_option maxRecDepth 100000 in
set_option maxHeartbeats 8000000 in
theorem ahead_paren (f : Nat) (hA : AnyOK f) (d : Nat) (hd : d < 40) (s v u1 u : ByteArray) (t : Tree) (hno : ∀ i, i < 4 → signF s.data.toList ≠ aheadL.getD i []) (hs : signF s.data.toList = [40]) (hv : v.data.toList = (dropB s.data.toList).drop 1)
    (h1 : anyF f (d + 1) v.data.toList = some (t, u1.data.toList)) (h2 : passF [41] u1.data.toList = (true, u.data.toList)) (g : Nat) (w : World) (hr : Rd g s d w) :
    Calls Tryz.prog 177 #[.pointer (some ⟨g, 0, none⟩)] w (TreePost g d t u (w.heap.size ≤ ·) w) := by
  have L0 := LawA.start hr
  have H1 := Lib.hid (ahead2_at f hA (d + 1) v u1 u t h1 h2 g)
  have HD := Lib.hid hd
  have HS := Lib.hid hs
  have HV := Lib.hid hv
  clear hs hv hd h1 h2
  have HNO := Lib.hid hno
  clear hr hno
  go_enter Tryz.func177, Tryz.ntmps177
  go_wp2_with fail
  go_loopg [7] 4 (fun gk s7 wx => LawA g d s w wx ∧ ∃ i : Nat, i + gk = 4 ∧ s7 = .int .i64 i)
  case atStart => exact ⟨L0, 0, rfl, rfl⟩
  case round =>
    obtain ⟨L1, i, hik, rfl⟩ := hrel
    clear L0
    cases gk with
    | zero =>
      obtain rfl : i = 4 := by omega
      obtain ⟨s', R', hs'⟩ := L1.rd
      have c0 : wr.cell? ⟨w.heap.size, 0, none⟩ = some (.pointer (some ⟨g, 0, none⟩)) := by rw [L1.rr.cell]; rfl
      have lr0 := L1.rr.lt
      have HL1 := Lib.hid L1
      have gw := L1.gw
      have hlo := L1.kept.size
      have l2 := L1.rl.lt
      have hp : passF [40] s'.data.toList = (true, v.data.toList) := by
        unfold passF
        rw [if_pos ((signF_drop hs').trans HS.out), hs', HV.out]
        rfl
      have HP := Lib.hid (passT_at ⟨#[40]⟩ (u := v) hp R')
      clear hp R' hs' L1
      go_wp2_with fail
      refine HP.out.mono ?_
      rintro e w2 ⟨rfl, R2, kk2⟩
      have rr2 := kk2.row HL1.out.rr (by omega)
      have rz2 := kk2.row HL1.out.rz (by omega)
      have hs2 := kk2.size
      have HK2 := Lib.hid (HL1.out.kept.trans kk2)
      have HRZ2 := Lib.hid rz2
      have c2 : w2.cell? ⟨w.heap.size, 0, none⟩ = some (.pointer (some ⟨g, 0, none⟩)) := by rw [rr2.cell]; rfl
      have l2 := rr2.lt
      have HW : Hid (Calls Tryz.prog 153 #[.pointer (some ⟨g, 0, none⟩), .func (.func 205) #[] #[.pointer (some ⟨w.heap.size, 0, none⟩)]] w2 (TreePost g d t u (fun b => w.heap.size + 2 ≤ b ∧ b ≠ w2.heap.size) w2)) :=
        within_p g ⟨w.heap.size, 0, none⟩ v u d HD.out _ w2 R2 _ (fun b hb => ⟨by have := hb.1; omega, hb.2⟩) fun w3 k3 r3 hlt =>
          (H1.out w.heap.size w3 r3 (k3.row rr2 (by omega)) (by omega)).mono
            fun e w' h => h.mono fun b hb => ⟨by have h : w3.heap.size ≤ b := hb; omega, by have h : w3.heap.size ≤ b := hb; omega⟩
      clear R2 kk2 rr2 rz2 HP c0
      go_wp2_with fail
      refine HW.out.mono ?_
      rintro e w3 ⟨o5, n5, m5, p5, k5, rfl, t5, r5, kk5⟩
      have rb5 := kk5.row HRZ2.out (show w.heap.size + 1 ≠ g by omega)
      obtain ⟨z0, z1, z2, z3, f0, f1, f2, f3, lz⟩ := tree_facts rb5
      have HRB5 := Lib.hid rb5
      have HT5 := Lib.hid t5
      have HR5 := Lib.hid r5
      have HK5 := Lib.hid (HK2.out.trans kk5)
      clear HW rb5 t5 r5 kk5
      go_wp2_with fail
      have hfin := (((HRB5.out.set 0 (.string o5)).set 1 (.int .i64 n5)).set 2 (.string m5)).set 3 (.slice p5 k5 k5)
      obtain ⟨j0, j1, j2, j3, _⟩ := tree_facts hfin
      have hgb : g ≠ w.heap.size + 1 := by omega
      have nb : ∀ b, (w.heap.size + 2 ≤ b ∧ b ≠ w2.heap.size) → b ≠ w.heap.size + 1 := fun b hb => by have := hb.1; omega
      exact bodyPost_ret (v := .agg #[.string o5, .int .i64 n5, .string m5, .slice p5 k5 k5]) (by simp [results, Tryz.results177, go_sem, j0, j1, j2, j3]) rfl ⟨o5, n5, m5, p5, k5, rfl,
        ((((HT5.out.set nb _).set nb _).set nb _).set nb _).base fun b _ hb => by have h := hb.1; show w.heap.size ≤ b; omega,
        (((HR5.out.other hgb _).other hgb _).other hgb _).other hgb _, (((HK5.out.new (Nat.le_succ _) 0 _).new (Nat.le_succ _) 1 _).new (Nat.le_succ _) 2 _).new (Nat.le_succ _) 3 _⟩
    | succ gk =>
      have hi4 : i < 4 := by omega
      have hiz : (i : Int) < 4 := by omega
      have hlit0 := L1.lit i hi4
      obtain ⟨xs, hxs⟩ : ∃ xs, aheadL.getD i [] = xs := ⟨_, rfl⟩
      rw [hxs] at hlit0
      have HXS := Lib.hid hxs
      have hlit := hlit0
      clear hxs hlit0
      have hw1 : IntKind.i64.wrap ((i : Int) + 1) = (i : Int) + 1 := wrap_small _ (by omega) (by omega)
      have L2 := L1.alloc (.cells #[.string ⟨xs.toArray⟩] 9)
      obtain ⟨s', R', hs'⟩ := L2.rd
      have rx := RowIs.new wr 9 [.string ⟨xs.toArray⟩]
      have c0 : (wr.alloc (.cells #[.string ⟨xs.toArray⟩] 9)).cell? ⟨w.heap.size, 0, none⟩ = some (.pointer (some ⟨g, 0, none⟩)) := by rw [L2.rr.cell]; rfl
      have lr0 := L1.rr.lt
      have HL2 := Lib.hid L2
      have gw := L1.gw
      have hlo := L1.kept.size
      have l2 := L1.rl.lt
      obtain ⟨u2, hu2⟩ : ∃ u2 : ByteArray, u2.data.toList = dropB s'.data.toList := ⟨⟨(dropB s'.data.toList).toArray⟩, rfl⟩
      have hp : passF xs s'.data.toList = (false, u2.data.toList) := by
        unfold passF
        rw [← HXS.out, if_neg (by rw [signF_drop hs']; exact HNO.out i hi4), hu2]
      have HP := Lib.hid (passN_at ⟨xs.toArray⟩ (u := u2) hp R')
      have hd2 := Lib.hid (show dropB u2.data.toList = dropB s.data.toList by rw [hu2, dropB_dropB, hs'])
      clear hp R' hs' L2 rx L1 hu2
      go_wp2_with fail
      refine HP.out.mono ?_
      rintro e w2 ⟨rfl, R2, kk2⟩
      have L3 := HL2.out.next kk2 R2 hd2.out
      clear R2 kk2 c0 HP
      go_wp2_with fail
      go_roundg gk
      case measure => omega
      case rel => exact ⟨L3, i + 1, by omega, rfl⟩
set_option maxRecDepth 100000 in
set_option maxHeartbeats 8000000 in
theorem ahead_one (d : Nat) (s u : ByteArray) (t : Tree) (hno : ∀ i, i < 4 → signF s.data.toList ≠ aheadL.getD i []) (hs : signF s.data.toList ≠ [40]) (h1 : oneF s.data.toList = some (t, u.data.toList)) (g : Nat) (w : World) (hr : Rd g s d w) :
    Calls Tryz.prog 177 #[.pointer (some ⟨g, 0, none⟩)] w (TreePost g d t u (w.heap.size ≤ ·) w) := by
  have L0 := LawA.start hr
  have H1 := Lib.hid h1
  have HS := Lib.hid hs
  clear hs h1
  have HNO := Lib.hid hno
  clear hr hno
  go_enter Tryz.func177, Tryz.ntmps177
  go_wp2_with fail
  go_loopg [7] 4 (fun gk s7 wx => LawA g d s w wx ∧ ∃ i : Nat, i + gk = 4 ∧ s7 = .int .i64 i)
  case atStart => exact ⟨L0, 0, rfl, rfl⟩
  case round =>
    obtain ⟨L1, i, hik, rfl⟩ := hrel
    clear L0
    cases gk with
    | zero =>
      obtain rfl : i = 4 := by omega
      obtain ⟨s', R', hs'⟩ := L1.rd
      have c0 : wr.cell? ⟨w.heap.size, 0, none⟩ = some (.pointer (some ⟨g, 0, none⟩)) := by rw [L1.rr.cell]; rfl
      have lr0 := L1.rr.lt
      have HL1 := Lib.hid L1
      have gw := L1.gw
      have hlo := L1.kept.size
      have l2 := L1.rl.lt
      obtain ⟨v, hv⟩ : ∃ v : ByteArray, v.data.toList = dropB s'.data.toList := ⟨⟨(dropB s'.data.toList).toArray⟩, rfl⟩
      have hp : passF [40] s'.data.toList = (false, v.data.toList) := by
        unfold passF
        rw [if_neg (by rw [signF_drop hs']; exact HS.out), hv]
      have HP := Lib.hid (passN_at ⟨#[40]⟩ (u := v) hp R')
      have HO := Lib.hid (show oneF v.data.toList = some (t, u.data.toList) by
        have h := H1.out
        unfold oneF at h ⊢
        rw [hv, dropB_dropB, hs']; exact h)
      clear hp R' hs' L1 hv
      go_wp2_with fail
      refine HP.out.mono ?_
      rintro e w2 ⟨rfl, R2, kk2⟩
      have rr2 := kk2.row HL1.out.rr (by omega)
      have rz2 := kk2.row HL1.out.rz (by omega)
      have hs2 := kk2.size
      have HK2 := Lib.hid (HL1.out.kept.trans kk2)
      have HRZ2 := Lib.hid rz2
      have c2 : w2.cell? ⟨w.heap.size, 0, none⟩ = some (.pointer (some ⟨g, 0, none⟩)) := by rw [rr2.cell]; rfl
      have l2 := rr2.lt
      have HW := Lib.hid (one_at d v u t HO.out g w2 R2)
      clear R2 kk2 rr2 rz2 HP c0
      go_wp2_with fail
      refine HW.out.mono ?_
      rintro e w3 ⟨o5, n5, m5, p5, k5, rfl, t5, r5, kk5⟩
      have rb5 := kk5.row HRZ2.out (show w.heap.size + 1 ≠ g by omega)
      obtain ⟨z0, z1, z2, z3, f0, f1, f2, f3, lz⟩ := tree_facts rb5
      have HRB5 := Lib.hid rb5
      have HT5 := Lib.hid t5
      have HR5 := Lib.hid r5
      have HK5 := Lib.hid (HK2.out.trans kk5)
      clear HW rb5 t5 r5 kk5
      go_wp2_with fail
      have hfin := (((HRB5.out.set 0 (.string o5)).set 1 (.int .i64 n5)).set 2 (.string m5)).set 3 (.slice p5 k5 k5)
      obtain ⟨j0, j1, j2, j3, _⟩ := tree_facts hfin
      have hgb : g ≠ w.heap.size + 1 := by omega
      have nb : ∀ b, (w2.heap.size ≤ b) → b ≠ w.heap.size + 1 := fun b hb => by omega
      exact bodyPost_ret (v := .agg #[.string o5, .int .i64 n5, .string m5, .slice p5 k5 k5]) (by simp [results, Tryz.results177, go_sem, j0, j1, j2, j3]) rfl ⟨o5, n5, m5, p5, k5, rfl,
        ((((HT5.out.set nb _).set nb _).set nb _).set nb _).base fun b _ hb => by have h : w2.heap.size ≤ b := hb; show w.heap.size ≤ b; omega,
        (((HR5.out.other hgb _).other hgb _).other hgb _).other hgb _, (((HK5.out.new (Nat.le_succ _) 0 _).new (Nat.le_succ _) 1 _).new (Nat.le_succ _) 2 _).new (Nat.le_succ _) 3 _⟩
    | succ gk =>
      have hi4 : i < 4 := by omega
      have hiz : (i : Int) < 4 := by omega
      have hlit0 := L1.lit i hi4
      obtain ⟨xs, hxs⟩ : ∃ xs, aheadL.getD i [] = xs := ⟨_, rfl⟩
      rw [hxs] at hlit0
      have HXS := Lib.hid hxs
      have hlit := hlit0
      clear hxs hlit0
      have hw1 : IntKind.i64.wrap ((i : Int) + 1) = (i : Int) + 1 := wrap_small _ (by omega) (by omega)
      have L2 := L1.alloc (.cells #[.string ⟨xs.toArray⟩] 9)
      obtain ⟨s', R', hs'⟩ := L2.rd
      have rx := RowIs.new wr 9 [.string ⟨xs.toArray⟩]
      have c0 : (wr.alloc (.cells #[.string ⟨xs.toArray⟩] 9)).cell? ⟨w.heap.size, 0, none⟩ = some (.pointer (some ⟨g, 0, none⟩)) := by rw [L2.rr.cell]; rfl
      have lr0 := L1.rr.lt
      have HL2 := Lib.hid L2
      have gw := L1.gw
      have hlo := L1.kept.size
      have l2 := L1.rl.lt
      obtain ⟨u2, hu2⟩ : ∃ u2 : ByteArray, u2.data.toList = dropB s'.data.toList := ⟨⟨(dropB s'.data.toList).toArray⟩, rfl⟩
      have hp : passF xs s'.data.toList = (false, u2.data.toList) := by
        unfold passF
        rw [← HXS.out, if_neg (by rw [signF_drop hs']; exact HNO.out i hi4), hu2]
      have HP := Lib.hid (passN_at ⟨xs.toArray⟩ (u := u2) hp R')
      have hd2 := Lib.hid (show dropB u2.data.toList = dropB s.data.toList by rw [hu2, dropB_dropB, hs'])
      clear hp R' hs' L2 rx L1 hu2
      go_wp2_with fail
      refine HP.out.mono ?_
      rintro e w2 ⟨rfl, R2, kk2⟩
      have L3 := HL2.out.next kk2 R2 hd2.out
      clear R2 kk2 c0 HP
      go_wp2_with fail
      go_roundg gk
      case measure => omega
      case rel => exact ⟨L3, i + 1, by omega, rfl⟩
theorem ahead_step (f : Nat) (hA : AnyOK f) (hH : AheadOK f) : AheadOK (f + 1) := by
  intro d s u t h g w hr
  obtain ⟨v, hv⟩ : ∃ v : ByteArray, v.data.toList = (dropB s.data.toList).drop 1 := ⟨⟨((dropB s.data.toList).drop 1).toArray⟩, rfl⟩
  have hd := hr.deep
  unfold aheadF at h
  split at h
  · rename_i hs
    split at h
    · cases h
    · rename_i hd40
      split at h
      · cases h
      · rename_i a l1 h1
        rw [← hv] at h1
        simp only [Option.some.injEq, Prod.mk.injEq] at h
        obtain ⟨ht, hl⟩ := h
        subst hl
        obtain ⟨i0, hi0, hi⟩ : ∃ i0, i0 < 4 ∧ signF s.data.toList = aheadL.getD i0 [] := by
          rcases hs with hs | hs | hs | hs
          · exact ⟨0, by omega, hs⟩
          · exact ⟨1, by omega, hs⟩
          · exact ⟨2, by omega, hs⟩
          · exact ⟨3, by omega, hs⟩
        rw [← ht, hi]
        exact ahead_sign f hH d (by omega) s v u a i0 hi0 hi hv h1 g w hr
  · rename_i hs
    have hno : ∀ i, i < 4 → signF s.data.toList ≠ aheadL.getD i [] := fun i hi e => hs (by
      rcases (show i = 0 ∨ i = 1 ∨ i = 2 ∨ i = 3 by omega) with rfl | rfl | rfl | rfl
      · exact .inl e
      · exact .inr (.inl e)
      · exact .inr (.inr (.inl e))
      · exact .inr (.inr (.inr e)))
    split at h
    · rename_i hp
      split at h
      · cases h
      · rename_i hd40
        split at h
        · cases h
        · rename_i a l1 h1
          rw [← hv] at h1
          obtain ⟨u1, hu1⟩ : ∃ u1 : ByteArray, u1.data.toList = l1 := ⟨⟨l1.toArray⟩, rfl⟩
          rw [← hu1] at h1 h
          split at h
          · cases h
          · rename_i l2 h2
            simp only [Option.some.injEq, Prod.mk.injEq] at h
            obtain ⟨ht, hl⟩ := h
            subst hl
            rw [← ht]
            exact ahead_paren f hA d (by omega) s v u1 u a hno hp hv h1 h2 g w hr
    · rename_i hp
      exact ahead_one d s u t hno hp h g w hr
end Go.Proofs.YtkmpbkhlcapbgaaGreatDoor
