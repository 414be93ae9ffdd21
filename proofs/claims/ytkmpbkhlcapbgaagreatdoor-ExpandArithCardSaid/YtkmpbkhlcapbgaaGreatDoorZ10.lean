/-
  DERIVED. The walks of split's Of and of expand's put.
-/
import Derived.Test.YtkmpbkhlcapbgaaGreatDoorZ09
import Derived.Test.YtkmpbkhlcapbgaaGreatDoorZ01
import Derived.Test.YtkmpbkhlcapbgaaGreatDoorShelf
import Derived.Deep.RegionWith
namespace Go.Proofs.YtkmpbkhlcapbgaaGreatDoor
open Go Go.RowKit
theorem repeat_one (c : UInt8) (n : Nat) : Lib.repeatL [c] n = List.replicate n c := by
  induction n with
  | zero => rfl
  | succ n ih => rw [List.replicate_succ, ← ih]; simp [Lib.repeatL]
set_option maxRecDepth 100000 in
set_option maxHeartbeats 4000000 in
theorem of_at (s : ByteArray) (c : UInt8) (hs : s.size ≤ 1000000000) (w : World) :
    Calls Tryz.prog 119 #[.string s, .int .u8 (c.toNat : Int)] w fun e w' => e = .returned (.agg #[.string s, .string ⟨(List.replicate s.size c).toArray⟩]) ∧ Below w.heap.size w w' := by
  have hst := fun (w : World) (b cap : Nat) (x : Int) => run_str1 (P := Tryz.prog) Tryz.underlying73 Tryz.underlying5 Tryz.underlying9 w b cap x
  have HRP : Hid (∀ W, Calls Tryz.prog 145 #[.string ⟨#[c]⟩, .int .i64 s.size] W fun e w' => e = .returned (.string ⟨(List.replicate s.size c).toArray⟩) ∧ Below W.heap.size W w') := fun W => by
    have h := Tryz.strings_Repeat ⟨#[c]⟩ s.size W (by omega) (by show 1 * s.size ≤ _; omega)
    rw [show (⟨#[c]⟩ : ByteArray).data.toList = [c] from rfl, repeat_one] at h
    exact h
  obtain ⟨R, hR⟩ : ∃ R : ByteArray, (⟨(List.replicate s.size c).toArray⟩ : ByteArray) = R := ⟨_, rfl⟩
  rw [hR] at HRP ⊢
  clear hR
  go_enter Tryz.func119, Tryz.ntmps119
  go_wp2_with fail
  have r0 := (RowIs.new w 38 [.string ⟨#[]⟩, .string ⟨#[]⟩]).alloc (.cells #[.int .u8 (c.toNat : Int)] 5)
  refine (HRP.out _).mono ?_; rintro e w1 ⟨rfl, b1⟩
  have r1 := r0.below b1
  obtain ⟨c0, c1, f0, f1, lt⟩ := two_facts r1
  have hB := (((Below.refl _ w).alloc (Nat.le_refl _) _).alloc (by simp) _).trans (b1.mono (by simp; omega))
  have HR1 := Lib.hid r1
  have HB := Lib.hid hB
  clear r0 r1 hB b1
  go_wp2_with fail
  have rf := (HR1.out.set 0 (.string s)).set 1 (.string R)
  obtain ⟨q0, q1, _⟩ := two_facts rf
  have hBf := (HB.out.setCell (p := ⟨w.heap.size, 0, none⟩) (Nat.le_refl _) (.string s)).setCell (p := ⟨w.heap.size, 1, none⟩) (Nat.le_refl _) (.string R)
  exact bodyPost_ret (v := .agg #[.string s, .string R]) (by simp [results, Tryz.results119, go_sem, q0, q1]) rfl ⟨rfl, hBf⟩
theorem row_drew {w : World} {b e : Nat} {l : List Value} (h : RowIs w b e l) : RowIs w.drew b e l := h
theorem six_facts {W : World} {b e : Nat} {x0 x1 x2 x3 x4 x5 : Value} (r : RowIs W b e [x0, x1, x2, x3, x4, x5]) :
    W.cell? ⟨b, 0, none⟩ = some x0 ∧ W.cell? ⟨b, 1, none⟩ = some x1 ∧ W.cell? ⟨b, 2, none⟩ = some x2 ∧ W.cell? ⟨b, 3, none⟩ = some x3 ∧ W.cell? ⟨b, 4, none⟩ = some x4 ∧ W.cell? ⟨b, 5, none⟩ = some x5 ∧
    W.frozen? ⟨b, 0, none⟩ = false ∧ W.frozen? ⟨b, 1, none⟩ = false ∧ W.frozen? ⟨b, 2, none⟩ = false ∧ W.frozen? ⟨b, 3, none⟩ = false ∧ W.frozen? ⟨b, 4, none⟩ = false ∧ W.frozen? ⟨b, 5, none⟩ = false ∧ b < W.heap.size :=
  ⟨by rw [r.cell]; rfl, by rw [r.cell]; rfl, by rw [r.cell]; rfl, by rw [r.cell]; rfl, by rw [r.cell]; rfl, by rw [r.cell]; rfl, r.free _, r.free _, r.free _, r.free _, r.free _, r.free _, r.lt⟩
set_option maxRecDepth 100000 in
set_option maxHeartbeats 4000000 in
theorem xput_plain (g : Nat) (v0 v1 v2 v3 : Value) (T M s : ByteArray) (c : UInt8) (hno : ¬ (s.data.toList = [] ∧ c = 113)) (w : World) (hr : RowIs w g 82 [v0, v1, v2, v3, .string T, .string M]) (hTM : T.size = M.size) (hs : T.size + s.size ≤ 1000000000) :
    Calls Tryz.prog 84 #[.pointer (some ⟨g, 0, none⟩), .string s, .int .u8 (c.toNat : Int)] w fun e w' => e = .returned (.tuple #[]) ∧ RowIs w' g 82 [v0, v1, v2, v3, .string (T ++ s), .string (M ++ ⟨(List.replicate s.size c).toArray⟩)] ∧ Kept g w w' := by
  obtain ⟨R, hR⟩ : ∃ R : ByteArray, (⟨(List.replicate s.size c).toArray⟩ : ByteArray) = R := ⟨_, rfl⟩
  have hRs : s.size = R.size := by rw [← hR]; show _ = (List.replicate s.size c).toArray.size; simp
  have HOF := Lib.hid (of_at s c (by omega) w)
  rw [hR] at HOF ⊢
  have HJ : Hid (∀ W sb, RowIs W sb 38 [.string T, .string M, .string s, .string R] → Calls Tryz.prog 120 #[.slice (some ⟨sb, 0, none⟩) 2 2] W fun e w' => e = .returned (.agg #[.string (T ++ s), .string (M ++ R)]) ∧ Below W.heap.size W w') := fun W sb h => join_at sb T M s R hTM hRs hs W h
  obtain ⟨b, hb⟩ : ∃ b, s.toList.isEmpty = b := ⟨_, rfl⟩
  have hbs : b = decide (s.data.toList = []) := by rw [← hb, Lib.toList_data]; cases s.data.toList <;> simp
  have hc : b = true → ((c.toNat : Int) == 113) = false := fun h => by
    rw [h] at hbs
    have h1 : s.data.toList = [] := of_decide_eq_true hbs.symm
    have h2 : ¬ c = 113 := fun e => hno ⟨h1, e⟩
    simp; intro e; exact h2 (UInt8.toNat_inj.1 (by simpa using Int.ofNat.inj e))
  have HR := Lib.hid hr
  have hlt := hr.lt
  clear hr hTM hs hR hRs hno hbs
  have hrest : ∀ b : Bool, s.toList.isEmpty = b → (b = true → ((c.toNat : Int) == 113) = false) → True := fun _ _ _ => trivial
  clear hrest
  cases b
  · go_enter Tryz.func84, Tryz.ntmps84
    go_wp2_with fail
    refine HOF.out.mono ?_; rintro e w1 ⟨rfl, b1⟩
    have rg := (HR.out.below b1).alloc (.cells #[.string s, .string R] 38)
    have rn := RowIs.new w1 38 [.string s, .string R]
    have K1 := (Kept.of (g := g) b1).alloc (.cells #[.string s, .string R] 38)
    obtain ⟨c0, c1, c2, c3, c4, c5, f0, f1, f2, f3, f4, f5, ltg⟩ := six_facts rg
    have HRG := Lib.hid rg
    have HK1 := Lib.hid K1
    have hne : ¬ w1.heap.size = g := by have := HR.out.lt; have := b1.size; omega
    clear rg rn K1 b1
    go_wp2_with fail
    have hsl : Hid (RowIs (((w1.alloc (.cells #[.string s, .string R] 38)).alloc (.cells #[.string T, .string M, .string s, .string R] 38)).drew) (w1.heap.size + 1) 38 [.string T, .string M, .string s, .string R]) := by
      have := RowIs.new (w1.alloc (.cells #[.string s, .string R] 38)) 38 [.string T, .string M, .string s, .string R]
      simp only [World.size_alloc] at this
      exact row_drew this
    have hgl : Hid (RowIs (((w1.alloc (.cells #[.string s, .string R] 38)).alloc (.cells #[.string T, .string M, .string s, .string R] 38)).drew) g 82 [v0, v1, v2, v3, .string T, .string M]) := row_drew (HRG.out.alloc _)
    have hkl : Hid (Kept g w (((w1.alloc (.cells #[.string s, .string R] 38)).alloc (.cells #[.string T, .string M, .string s, .string R] 38)).drew)) := (HK1.out.alloc _).trans (Kept.of (Below.refl _ _).drew)
    go_region_with (go_at_call 120; refine (HJ.out _ _ hsl.out).mono ?_; rintro e wn ⟨rfl, hbn⟩; have HRN := Lib.hid (hgl.out.below hbn); obtain ⟨e0, e1, e2, e3, e4, e5, d0, d1, d2, d3, d4, d5, ltn⟩ := six_facts HRN.out)
    all_goals
      go_wp2_with fail
      go_end0
      have kn : Kept g w wn := hkl.out.trans (Kept.of hbn)
      exact ⟨rfl, (HRN.out.set 4 (.string (T ++ s))).set 5 (.string (M ++ R)), (kn.set 4 _).set 5 _⟩
  · have hc' := hc rfl
    clear hc
    go_enter Tryz.func84, Tryz.ntmps84
    go_wp2_with fail
    refine HOF.out.mono ?_; rintro e w1 ⟨rfl, b1⟩
    have rg := (HR.out.below b1).alloc (.cells #[.string s, .string R] 38)
    have rn := RowIs.new w1 38 [.string s, .string R]
    have K1 := (Kept.of (g := g) b1).alloc (.cells #[.string s, .string R] 38)
    obtain ⟨c0, c1, c2, c3, c4, c5, f0, f1, f2, f3, f4, f5, ltg⟩ := six_facts rg
    have HRG := Lib.hid rg
    have HK1 := Lib.hid K1
    have hne : ¬ w1.heap.size = g := by have := HR.out.lt; have := b1.size; omega
    clear rg rn K1 b1
    go_wp2_with fail
    have hsl : Hid (RowIs (((w1.alloc (.cells #[.string s, .string R] 38)).alloc (.cells #[.string T, .string M, .string s, .string R] 38)).drew) (w1.heap.size + 1) 38 [.string T, .string M, .string s, .string R]) := by
      have := RowIs.new (w1.alloc (.cells #[.string s, .string R] 38)) 38 [.string T, .string M, .string s, .string R]
      simp only [World.size_alloc] at this
      exact row_drew this
    have hgl : Hid (RowIs (((w1.alloc (.cells #[.string s, .string R] 38)).alloc (.cells #[.string T, .string M, .string s, .string R] 38)).drew) g 82 [v0, v1, v2, v3, .string T, .string M]) := row_drew (HRG.out.alloc _)
    have hkl : Hid (Kept g w (((w1.alloc (.cells #[.string s, .string R] 38)).alloc (.cells #[.string T, .string M, .string s, .string R] 38)).drew)) := (HK1.out.alloc _).trans (Kept.of (Below.refl _ _).drew)
    go_region_with (go_at_call 120; refine (HJ.out _ _ hsl.out).mono ?_; rintro e wn ⟨rfl, hbn⟩; have HRN := Lib.hid (hgl.out.below hbn); obtain ⟨e0, e1, e2, e3, e4, e5, d0, d1, d2, d3, d4, d5, ltn⟩ := six_facts HRN.out)
    all_goals
      go_wp2_with fail
      go_end0
      have kn : Kept g w wn := hkl.out.trans (Kept.of hbn)
      exact ⟨rfl, (HRN.out.set 4 (.string (T ++ s))).set 5 (.string (M ++ R)), (kn.set 4 _).set 5 _⟩
/-- A quoted nothing. -/
theorem emptyB {s : ByteArray} (h : s.data.toList = []) : s = ⟨#[]⟩ := by rw [← Lib.mk_data s, h]
set_option maxRecDepth 100000 in
set_option maxHeartbeats 4000000 in
theorem xput_quoted (g : Nat) (v0 v1 v2 v3 : Value) (T M : ByteArray) (w : World) (hr : RowIs w g 82 [v0, v1, v2, v3, .string T, .string M]) (hTM : T.size = M.size) (hs : T.size + 1 ≤ 1000000000) :
    Calls Tryz.prog 84 #[.pointer (some ⟨g, 0, none⟩), .string ⟨#[]⟩, .int .u8 113] w fun e w' => e = .returned (.tuple #[]) ∧ RowIs w' g 82 [v0, v1, v2, v3, .string (T ++ ⟨#[0]⟩), .string (M ++ ⟨#[101]⟩)] ∧ Kept g w w' := by
  have hst := fun (w : World) (b cap : Nat) (x : Int) => run_str1 (P := Tryz.prog) Tryz.underlying73 Tryz.underlying5 Tryz.underlying9 w b cap x
  have HOF := Lib.hid (show Calls Tryz.prog 119 #[.string ⟨#[]⟩, .int .u8 113] w fun e w' => e = .returned (.agg #[.string ⟨#[]⟩, .string ⟨#[]⟩]) ∧ Below w.heap.size w w' from of_at ⟨#[]⟩ 113 (by decide) w)
  have HJ : Hid (∀ W sb, RowIs W sb 38 [.string T, .string M, .string ⟨#[0]⟩, .string ⟨#[101]⟩] → Calls Tryz.prog 120 #[.slice (some ⟨sb, 0, none⟩) 2 2] W fun e w' => e = .returned (.agg #[.string (T ++ ⟨#[0]⟩), .string (M ++ ⟨#[101]⟩)]) ∧ Below W.heap.size W w') := fun W sb h => join_at sb T M ⟨#[0]⟩ ⟨#[101]⟩ hTM rfl hs W h
  have HR := Lib.hid hr
  have hlt := hr.lt
  clear hr hTM hs
  go_enter Tryz.func84, Tryz.ntmps84
  go_wp2_with fail
  refine HOF.out.mono ?_; rintro e w1 ⟨rfl, b1⟩
  have rg := HR.out.below b1
  have hne : ¬ w1.heap.size = g := by have := HR.out.lt; have := b1.size; omega
  obtain ⟨c0, c1, c2, c3, c4, c5, f0, f1, f2, f3, f4, f5, ltg⟩ := six_facts rg
  have HRG := Lib.hid rg
  have HB1 := Lib.hid b1
  clear rg b1
  go_wp2_with fail
  have hsl : Hid (RowIs ((((w1.alloc (.cells #[.string ⟨#[0]⟩, .string ⟨#[101]⟩] 38)).alloc (.cells #[.int .u8 101] 5)).alloc (.cells #[.string T, .string M, .string ⟨#[0]⟩, .string ⟨#[101]⟩] 38)).drew) (w1.heap.size + 1 + 1) 38 [.string T, .string M, .string ⟨#[0]⟩, .string ⟨#[101]⟩]) := by
    have := RowIs.new ((w1.alloc (.cells #[.string ⟨#[0]⟩, .string ⟨#[101]⟩] 38)).alloc (.cells #[.int .u8 101] 5)) 38 [.string T, .string M, .string ⟨#[0]⟩, .string ⟨#[101]⟩]
    simp only [World.size_alloc] at this
    exact row_drew this
  have hgl : Hid (RowIs ((((w1.alloc (.cells #[.string ⟨#[0]⟩, .string ⟨#[101]⟩] 38)).alloc (.cells #[.int .u8 101] 5)).alloc (.cells #[.string T, .string M, .string ⟨#[0]⟩, .string ⟨#[101]⟩] 38)).drew) g 82 [v0, v1, v2, v3, .string T, .string M]) := row_drew (((HRG.out.alloc _).alloc _).alloc _)
  have hkl : Hid (Kept g w ((((w1.alloc (.cells #[.string ⟨#[0]⟩, .string ⟨#[101]⟩] 38)).alloc (.cells #[.int .u8 101] 5)).alloc (.cells #[.string T, .string M, .string ⟨#[0]⟩, .string ⟨#[101]⟩] 38)).drew)) := ((((Kept.of (g := g) HB1.out).alloc _).alloc _).alloc _).trans (Kept.of (Below.refl _ _).drew)
  go_region_with (go_at_call 120; refine (HJ.out _ _ hsl.out).mono ?_; rintro e wn ⟨rfl, hbn⟩; have HRN := Lib.hid (hgl.out.below hbn); obtain ⟨e0, e1, e2, e3, e4, e5, d0, d1, d2, d3, d4, d5, ltn⟩ := six_facts HRN.out)
  all_goals
    go_wp2_with fail
    go_end0
    have kn : Kept g w wn := hkl.out.trans (Kept.of hbn)
    exact ⟨rfl, (HRN.out.set 4 (.string (T ++ ⟨#[0]⟩))).set 5 (.string (M ++ ⟨#[101]⟩)), (kn.set 4 _).set 5 _⟩
/-- What put comes to: a row's bytes behind. -/
theorem xput_at (g : Nat) (v0 v1 v2 v3 : Value) (T M s : ByteArray) (c : UInt8) (w : World) (hr : RowIs w g 82 [v0, v1, v2, v3, .string T, .string M]) (hTM : T.size = M.size) (hs : T.size + s.size + 1 ≤ 1000000000) :
    Calls Tryz.prog 84 #[.pointer (some ⟨g, 0, none⟩), .string s, .int .u8 (c.toNat : Int)] w fun e w' => e = .returned (.tuple #[]) ∧
      RowIs w' g 82 [v0, v1, v2, v3, .string ⟨(putR (T.data.toList, M.data.toList) s.data.toList c).1.toArray⟩, .string ⟨(putR (T.data.toList, M.data.toList) s.data.toList c).2.toArray⟩] ∧ Kept g w w' := by
  have ea : ∀ (X : ByteArray) (l : List UInt8), (⟨(X.data.toList ++ l).toArray⟩ : ByteArray) = X ++ ⟨l.toArray⟩ := fun X l => by apply ByteArray.ext; simp
  by_cases h : s.data.toList = [] ∧ c = 113
  · obtain ⟨h1, rfl⟩ := h
    have := xput_quoted g v0 v1 v2 v3 T M w hr hTM (by omega)
    rw [emptyB h1]
    unfold putR joinR
    rw [if_pos ⟨rfl, rfl⟩]
    simp only [ea]
    exact this
  · have := xput_plain g v0 v1 v2 v3 T M s c h w hr hTM (by omega)
    unfold putR joinR ofR
    rw [if_neg h]
    simp only [ea, Lib.mk_data]
    have e : s.data.toList.length = s.size := by simp
    rw [e]
    exact this
end Go.Proofs.YtkmpbkhlcapbgaaGreatDoor
