/-
  DERIVED. The walk of expand's of: what a part's word comes to.
-/
import Derived.Test.YtkmpbkhlcapbgaaGreatDoorZ17
namespace Go.Proofs.YtkmpbkhlcapbgaaGreatDoor
open Go Go.RowKit
def OfPost (g : Nat) (A : Nat → Prop) (r : RowT) (w : World) : ExT → Ending → World → Prop
  | .ok e2 r2, x, w' => x = .returned (.agg #[.string ⟨r2.1.toArray⟩, .string ⟨r2.2.toArray⟩]) ∧ WorkAt g A w' e2 r ∧ Kept g w w' ∧ r2.1.length = r2.2.length ∧ r2.1.length ≤ 1000000
  | .fault n t, x, w' => x = .panicked (faultP n t) ∧ Kept g w w'
theorem WorkC.shape {g : Nat} {A : Nat → Prop} {w : World} {e : EnvT} {r : RowT} {vv : Value} {aa : Option Addr} {na ca : Nat} (h : WorkC g A w e r vv aa na ca) : ∃ va nv cv, vv = .slice va nv cv := by
  obtain ⟨a, cap, hv, _⟩ := h.env.vars.1
  exact ⟨a, _, cap, hv⟩
set_option maxRecDepth 100000 in
set_option maxHeartbeats 8000000 in
theorem xof_ok (P : Par) (f : Nat) (hPs : ExPs P f) (g : Nat) (A : Nat → Prop) (e : EnvT) (r : RowT) (l : List PartT) (a : Option Addr) (m c : Nat) (w : World) (out : ExT) (hout : partsE P f e ([], []) l = some out) (hSm : smallL l) (hW : WorkAt g A w e r) (hl : WordIn w (· ≠ g) (.slice a m c) l) :
    Calls Tryz.prog 94 #[.pointer (some ⟨g, 0, none⟩), .slice a m c] w (OfPost g A r w out) := by
  obtain ⟨vv, aa, na, ca, hC⟩ := hW
  obtain ⟨va, nv, cv, rfl⟩ := hC.shape
  obtain ⟨c0, c1, c2, c3, c4, c5, f0, f1, f2, f3, f4, f5, ltg⟩ := six_facts hC.row
  have B1 : Below w.heap.size w ((w.alloc (.cells #[.string ⟨#[]⟩, .string ⟨#[]⟩] 38)).alloc (.cells #[.slice va nv cv, .slice aa na ca, .int .i64 e.status, .string ⟨e.flags.toArray⟩, .string ⟨#[]⟩, .string ⟨#[]⟩] 82)) := ((Below.refl _ _).alloc (Nat.le_refl _) _).alloc (by simp) _
  have rR : RowIs ((w.alloc (.cells #[.string ⟨#[]⟩, .string ⟨#[]⟩] 38)).alloc (.cells #[.slice va nv cv, .slice aa na ca, .int .i64 e.status, .string ⟨e.flags.toArray⟩, .string ⟨#[]⟩, .string ⟨#[]⟩] 82)) w.heap.size 38 [.string ⟨#[]⟩, .string ⟨#[]⟩] := (RowIs.new w _ _).alloc _
  have rH : RowIs ((w.alloc (.cells #[.string ⟨#[]⟩, .string ⟨#[]⟩] 38)).alloc (.cells #[.slice va nv cv, .slice aa na ca, .int .i64 e.status, .string ⟨e.flags.toArray⟩, .string ⟨#[]⟩, .string ⟨#[]⟩] 82)) (w.heap.size + 1) 82 [.slice va nv cv, .slice aa na ca, .int .i64 e.status, .string ⟨e.flags.toArray⟩, .string ⟨#[]⟩, .string ⟨#[]⟩] := by
    have := RowIs.new (w.alloc (.cells #[.string ⟨#[]⟩, .string ⟨#[]⟩] 38)) 82 [.slice va nv cv, .slice aa na ca, .int .i64 e.status, .string ⟨e.flags.toArray⟩, .string ⟨#[]⟩, .string ⟨#[]⟩]
    simpa using this
  obtain ⟨W1, hW1⟩ : ∃ W1, ((w.alloc (.cells #[.string ⟨#[]⟩, .string ⟨#[]⟩] 38)).alloc (.cells #[.slice va nv cv, .slice aa na ca, .int .i64 e.status, .string ⟨e.flags.toArray⟩, .string ⟨#[]⟩, .string ⟨#[]⟩] 82)) = W1 := ⟨_, rfl⟩
  rw [hW1] at B1 rR rH
  have hlo : ∀ b, (A b ∨ b = g ∨ b = w.heap.size) → b < W1.heap.size := fun b hb => by
    have := B1.size
    have := rR.lt
    rcases hb with h | rfl | rfl
    · have := hC.lo b h; omega
    · omega
    · omega
  have hfar : Far (w.heap.size + 1) := ⟨by have := hC.far.1; omega, by have := hC.far.2; omega⟩
  have hWk : WorkAt (w.heap.size + 1) (fun b => A b ∨ b = g ∨ b = w.heap.size) W1 e ([], []) := ⟨_, aa, na, ca, rH, hC.env.keep B1.size fun b q1 q2 => ⟨B1.block b q2, by omega, fun h => h.elim q1.2 fun h => h.elim q1.1 (by omega)⟩, hlo, rfl, by simp, hfar, hC.tab.below ⟨by have := hC.far.1; omega, by have := hC.far.2; omega⟩ B1, fun w2 k => hC.more w2 (Kept.of (B1.trans (k.toBelow (B := w.heap.size) (by omega) B1.size)))⟩
  have hwd : WordIn W1 (· ≠ w.heap.size + 1) (.slice a m c) l := hl.keep B1.size fun b q1 q2 => ⟨B1.block b q2, by omega⟩
  have HPS := Lib.hid (hPs (w.heap.size + 1) (fun b => A b ∨ b = g ∨ b = w.heap.size) e ([], []) l a m c W1 out hout hSm hWk hwd)
  have HC := Lib.hid hC
  have HB1 := Lib.hid B1
  have HR := Lib.hid rR
  clear hC B1 rR rH hWk hwd hlo hfar hl hout hPs
  go_enter Tryz.func94, Tryz.ntmps94
  go_wp2_with fail
  clear hW1
  refine HPS.out.mono ?_
  cases out with
  | fault n x =>
    rintro y w2 ⟨rfl, hk2⟩
    go_wp2_with fail
    refine ⟨rfl, rfl, ?_⟩
    have b2 : Below w.heap.size w w2 := HB1.out.trans ((hk2.toBelow (B := w.heap.size) (by omega) HB1.out.size))
    exact Kept.of b2
  | ok e2 r2 =>
    rintro y w2 ⟨rfl, ⟨vv2, aa2, na2, ca2, hC2⟩, hk2⟩
    obtain ⟨va2, nv2, cv2, rfl⟩ := hC2.shape
    have hgne : g ≠ w.heap.size + 1 := by omega
    have hgne2 : g ≠ w.heap.size := by omega
    have rg2 := hk2.row (HC.out.row.below HB1.out) hgne
    have rr2 := hk2.row HR.out (show w.heap.size ≠ w.heap.size + 1 by omega)
    obtain ⟨d0, d1, d2, d3, d4, d5, g0, g1, g2, g3, g4, g5, lth⟩ := six_facts hC2.row
    obtain ⟨m0, m1, m2, m3, m4, m5, n0, n1, n2, n3, n4, n5, ltg2⟩ := six_facts rg2
    obtain ⟨k0, k1, k2, k3, k4⟩ := two_facts rr2
    have HC2 := Lib.hid hC2
    have HRG := Lib.hid rg2
    have HRR := Lib.hid rr2
    have HK2 := Lib.hid hk2
    have hx1 : ¬ w.heap.size + 1 = g := by omega
    have hx2 : ¬ w.heap.size = g := by omega
    clear hC2 rg2 rr2 hk2 c0 c1 c2 c3 c4 c5 f0 f1 f2 f3 f4 f5
    go_wp2_with fail
    have hb2 : ∀ b, b ≠ g → b ≠ w.heap.size → ((((((w2.setCell ⟨g, 0, none⟩ (.slice va2 nv2 cv2)).setCell ⟨g, 1, none⟩ (.slice aa2 na2 ca2)).setCell ⟨g, 2, none⟩ (.int .i64 e2.status)).setCell ⟨g, 3, none⟩ (.string ⟨e2.flags.toArray⟩)).setCell ⟨w.heap.size, 0, none⟩ (.string ⟨r2.1.toArray⟩)).setCell ⟨w.heap.size, 1, none⟩ (.string ⟨r2.2.toArray⟩)).heap[b]? = w2.heap[b]? := by
      intro b h1 h2
      have e1 : ∀ (W : World) (c j : Nat) (u : Value), b ≠ c → (W.setCell ⟨c, j, none⟩ u).heap[b]? = W.heap[b]? := fun W c j u h => Below.heap_setCell _ _ _ _ h
      rw [e1 _ _ _ _ h2, e1 _ _ _ _ h2, e1 _ _ _ _ h1, e1 _ _ _ _ h1, e1 _ _ _ _ h1, e1 _ _ _ _ h1]
    have hrN := (((((HRR.out.other (a := ⟨g, 0, none⟩) hx2 (.slice va2 nv2 cv2)).other (a := ⟨g, 1, none⟩) hx2 (.slice aa2 na2 ca2)).other (a := ⟨g, 2, none⟩) hx2 (.int .i64 e2.status)).other (a := ⟨g, 3, none⟩) hx2 (.string ⟨e2.flags.toArray⟩)).set 0 (.string ⟨r2.1.toArray⟩)).set 1 (.string ⟨r2.2.toArray⟩)
    have hgN := (((((HRG.out.set 0 (.slice va2 nv2 cv2)).set 1 (.slice aa2 na2 ca2)).set 2 (.int .i64 e2.status)).set 3 (.string ⟨e2.flags.toArray⟩)).other (a := ⟨w.heap.size, 0, none⟩) hgne2 (.string ⟨r2.1.toArray⟩)).other (a := ⟨w.heap.size, 1, none⟩) hgne2 (.string ⟨r2.2.toArray⟩)
    have hkN := ((((((Kept.of (g := g) (HB1.out.trans (HK2.out.toBelow (B := w.heap.size) (by omega) HB1.out.size))).set 0 (.slice va2 nv2 cv2)).set 1 (.slice aa2 na2 ca2)).set 2 (.int .i64 e2.status)).set 3 (.string ⟨e2.flags.toArray⟩)).new (Nat.le_refl _) 0 (.string ⟨r2.1.toArray⟩)).new (Nat.le_refl _) 1 (.string ⟨r2.2.toArray⟩)
    have hs2 : w2.heap.size ≤ ((((((w2.setCell ⟨g, 0, none⟩ (.slice va2 nv2 cv2)).setCell ⟨g, 1, none⟩ (.slice aa2 na2 ca2)).setCell ⟨g, 2, none⟩ (.int .i64 e2.status)).setCell ⟨g, 3, none⟩ (.string ⟨e2.flags.toArray⟩)).setCell ⟨w.heap.size, 0, none⟩ (.string ⟨r2.1.toArray⟩)).setCell ⟨w.heap.size, 1, none⟩ (.string ⟨r2.2.toArray⟩)).heap.size := by simp
    simp only [List.set] at hrN hgN
    generalize ((((((w2.setCell ⟨g, 0, none⟩ (.slice va2 nv2 cv2)).setCell ⟨g, 1, none⟩ (.slice aa2 na2 ca2)).setCell ⟨g, 2, none⟩ (.int .i64 e2.status)).setCell ⟨g, 3, none⟩ (.string ⟨e2.flags.toArray⟩)).setCell ⟨w.heap.size, 0, none⟩ (.string ⟨r2.1.toArray⟩)).setCell ⟨w.heap.size, 1, none⟩ (.string ⟨r2.2.toArray⟩)) = WN at hb2 hrN hgN hkN hs2 ⊢
    obtain ⟨y0, y1, y2, y3, y4⟩ := two_facts hrN
    refine bodyPost_ret (v := .agg #[.string ⟨r2.1.toArray⟩, .string ⟨r2.2.toArray⟩]) (by simp [results, Tryz.results94, go_sem, y0, y1]) rfl ?_
    have hN : w2.heap.size ≤ WN.heap.size := hs2
    refine ⟨rfl, ⟨_, aa2, na2, ca2, hgN, HC2.out.env.keep hN fun b q1 q2 => ⟨hb2 b (fun h => q1.2 (.inr (.inl h))) (fun h => q1.2 (.inr (.inr h))), fun h => q1.2 (.inr (.inl h)), fun h => q1.2 (.inl h)⟩, ?_, HC.out.len, HC.out.few, HC.out.far, ?_, fun w2 k => HC.out.more w2 (hkN.trans k)⟩, hkN, HC2.out.len, HC2.out.few⟩
    · intro b hb
      exact Nat.lt_of_lt_of_le (HC.out.lo b hb) hkN.size
    · exact HC.out.tab.kept HC.out.far hkN
end Go.Proofs.YtkmpbkhlcapbgaaGreatDoor
