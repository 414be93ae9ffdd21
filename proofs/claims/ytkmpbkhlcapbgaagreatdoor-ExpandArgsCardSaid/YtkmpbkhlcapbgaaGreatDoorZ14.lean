/-
  DERIVED. The walk of word's put where a part is joined to the last one. What word's put comes to, at any parts.
-/
import Derived.Test.YtkmpbkhlcapbgaaGreatDoorZ10
import Derived.Test.YtkmpbkhlcapbgaaGreatDoorZ11
import Derived.Test.YtkmpbkhlcapbgaaGreatDoorZ12
import Derived.Test.YtkmpbkhlcapbgaaGreatDoorZ13
namespace Go.Proofs.YtkmpbkhlcapbgaaGreatDoor
open Go Go.RowKit
theorem str_cat (a b : ByteArray) : (a ++ b).data.toList = a.data.toList ++ b.data.toList := by simp
/-- The last part's text, longer. -/
theorem PartsAt.longer {w : World} {S : Nat → Prop} {l0 : List PartT} {xs0 : List Value} (h : PartsAt w S l0 xs0) {k : Nat} {t u op : ByteArray} {q : Bool} {v : Value} {wd : List PartT} (ho : OneAt w S (.mk k t.data.toList op.data.toList q wd) k t op q v) :
    PartsAt w S (l0 ++ [.mk k (t.data.toList ++ u.data.toList) op.data.toList q wd]) (xs0 ++ [.int .i64 (k : Nat), .string (t ++ u), .string op, .bool q, v]) := by
  obtain ⟨wd2, ys, e, hv, hw⟩ := ho
  cases e
  refine h.snoc ⟨wd, ys, ?_, hv, hw⟩
  rw [str_cat]
theorem set_one (xs0 : List Value) (n : Nat) (hn : xs0.length = n * 5) (a b c d e u : Value) : (xs0 ++ [a, b, c, d, e]).set (n * 5 + 1) u = xs0 ++ [a, u, c, d, e] := by
  rw [List.set_append_right _ _ (by omega)]
  congr 2
  have : n * 5 + 1 - xs0.length = 1 := by omega
  rw [this]
  rfl
set_option maxRecDepth 100000 in
set_option maxHeartbeats 8000000 in
theorem put_m (g : Nat) (v : Value) (s : ByteArray) (d : Nat) (l0 : List PartT) (k : Nat) (hk2 : k ≤ 2) (tl : List UInt8) (opl : List UInt8) (ql : Bool) (wdl : List PartT) (p : PartT) (t op : ByteArray) (q : Bool) (wv : Value) (w : World) (hr : Wr g v s d w) (hp : Wp g v (l0 ++ [.mk k tl opl ql wdl]) w) (hfew : l0.length + 1 ≤ 1000000000) (hfew2 : tl.length + t.size ≤ 2000000000)
    (ho : OneAt w (fun b => g < b ∧ v.ownBlock ≠ some b) p k t op q wv) :
    Calls Tryz.prog 45 #[.pointer (some ⟨g, 0, none⟩), .agg #[.int .i64 (k : Nat), .string t, .string op, .bool q, wv]] w (PutPost g s d (l0 ++ [.mk k (tl ++ t.data.toList) opl ql wdl]) w) := by
  obtain ⟨xs, h1, h2⟩ := hp.has
  have hl : l0 ++ [PartT.mk k tl opl ql wdl] ≠ [] := by simp
  obtain ⟨l1, xs0, pl, kl, tlb, oplb, ql2, vl, el, ex, hpa0, hpl⟩ := h2.last hl
  obtain ⟨rfl, rfl⟩ : l1 = l0 ∧ pl = PartT.mk k tl opl ql wdl := by
    have := List.append_inj' el rfl
    exact ⟨this.1.symm, by simpa using this.2.symm⟩
  have hpl0 := hpl
  obtain ⟨wd0, ys0, e0, hv0, hw0⟩ := hpl
  cases e0
  have hlen : (l1 ++ [PartT.mk k tlb.data.toList oplb.data.toList ql wdl]).length = l1.length + 1 := by simp
  rw [hlen] at h1
  have hx0 : xs0.length = l1.length * 5 := by rw [hpa0.length]
  rcases known_of_own h1 with ⟨_, h⟩ | ⟨gl, capl, curl, rfl, hgl, hknl⟩
  · omega
  have hz0 : w.cell? ⟨gl, l1.length * 5, none⟩ = some (.int .i64 (k : Nat)) := hknl.cell _ _ (by rw [ex, List.getElem?_append_right (by omega), hx0, Nat.sub_self]; rfl)
  have hz1 : w.cell? ⟨gl, l1.length * 5 + 1, none⟩ = some (.string tlb) := hknl.cell _ _ (by
    rw [ex, List.getElem?_append_right (by omega), hx0]
    have : l1.length * 5 + 1 - l1.length * 5 = 1 := by omega
    rw [this]; rfl)
  have hz2 := hknl.free (l1.length * 5)
  have hz3 := hknl.free (l1.length * 5 + 1)
  have hgl2 := hknl.lt
  have hne : ¬ gl = w.heap.size := by omega
  have hne2 : gl ≠ w.heap.size := by omega
  have hk3 : decide ((k : Int) ≤ 2) = true := by simp; omega
  have hk3' : decide (k ≤ 2) = true := by simp; omega
  have hiw : IntKind.i64.wrap (l1.length : Int) = (l1.length : Int) := wrap_small _ (by omega) (by omega)
  have hcat : tlb.size + t.size ≤ 4611686018427387904 := by
    have e : tlb.size = tlb.data.toList.length := by simp
    rw [e]; omega
  obtain ⟨wd, ys, hpe, ⟨wa, wc, rfl, hwc, hwb⟩, hwp⟩ := ho
  obtain ⟨r0, r1, r2, f0, f1, f2, lt0⟩ := three_facts hr.row
  have hge : g < gl := hgl
  have HR := Lib.hid hr
  have H1 := Lib.hid h1
  have HPA := Lib.hid hpa0
  have HPL := Lib.hid hpl0
  have HEX := Lib.hid ex
  have HX0 := Lib.hid hx0
  have HKN := Lib.hid hknl
  have HGL := Lib.hid hgl
  clear hr hp h1 h2 hwb hwp hpe hpa0 hpl0 ex hx0 hknl el hlen hgl hv0 hw0 hl hfew2
  go_enter Tryz.func45, Tryz.ntmps45
  go_wp2_with fail
  go_quiet (fail)
  go_wp2_with fail
  go_region
  go_wp2_with fail
  go_end0
  have B0 : Below w.heap.size w ((w.alloc (.cells #[.int .i64 (k : Nat), .string t, .string op, .bool q, .slice wa wd.length wc] 92)).drewN (nq + 1)) := below_drewN ((Below.refl _ w).alloc (Nat.le_refl _) _) _
  have k1 := (B0.mono (Nat.le_of_lt lt0)).setCell (p := ⟨gl, l1.length * 5 + 1, none⟩) (Nat.le_of_lt hge) (.string (tlb ++ t))
  have hkf := (HKN.out.below B0).set (l1.length * 5 + 1) (.string (tlb ++ t))
  have ex2 : xs.set (l1.length * 5 + 1) (.string (tlb ++ t)) = xs0 ++ [.int .i64 (k : Nat), .string (tlb ++ t), .string oplb, .bool ql, vl] := by rw [HEX.out, set_one xs0 l1.length HX0.out]
  rw [ex2] at hkf
  refine ⟨rfl, _, HR.out.after k1 ((HR.out.row.below B0).other (a := ⟨gl, l1.length * 5 + 1, none⟩) (by show g ≠ gl; omega) _) HR.out.size, ⟨⟨_, ?_, (HPA.out.longer (u := t) HPL.out).keep (w' := (((w.alloc (.cells #[.int .i64 (k : Nat), .string t, .string op, .bool q, .slice wa wd.length wc] 92)).drewN (nq + 1)).setCell ⟨gl, l1.length * 5 + 1, none⟩ (.string (tlb ++ t)))) (by simp) fun b hb hbl => ?_⟩⟩, k1⟩
  · rw [show (l1 ++ [PartT.mk k (tlb.data.toList ++ t.data.toList) oplb.data.toList ql wdl]).length = l1.length + 1 by simp]
    exact hkf.own HGL.out
  · have hne3 : b ≠ gl := fun e => hb.2 (by rw [e]; rfl)
    exact ⟨(Below.heap_setCell _ _ _ _ hne3).trans (B0.block b hbl), hb⟩
end Go.Proofs.YtkmpbkhlcapbgaaGreatDoor
namespace Go.Proofs.YtkmpbkhlcapbgaaGreatDoor
open Go Go.RowKit
theorem put_at (g : Nat) (v : Value) (s : ByteArray) (d : Nat) (l : List PartT) (p : PartT) (k : Nat) (t op : ByteArray) (q : Bool) (wv : Value) (w : World) (hr : Wr g v s d w) (hp : Wp g v l w) (n : Nat) (hf : Few l n) (ht : t.size ≤ n) (ho : OneAt w (fun b => g < b ∧ v.ownBlock ≠ some b) p k t op q wv) :
    Calls Tryz.prog 45 #[.pointer (some ⟨g, 0, none⟩), .agg #[.int .i64 (k : Nat), .string t, .string op, .bool q, wv]] w (PutPost g s d (putF l p) w) := by
  have hfew : l.length ≤ 1000000000 := by have := hf.1; omega
  have hpk : p.kind = k := by obtain ⟨wd, ys, e, _⟩ := ho; rw [e]; rfl
  have hpt : p.text = t.data.toList := by obtain ⟨wd, ys, e, _⟩ := ho; rw [e]; rfl
  rw [putF_snoc]
  by_cases h : ∃ a, l.getLast? = some a ∧ p.kind ≤ 2 ∧ a.kind = p.kind
  · rw [if_pos h]
    obtain ⟨a, ha, hk2, hak⟩ := h
    obtain ⟨l0, rfl⟩ := List.getLast?_eq_some_iff.1 ha
    obtain ⟨ka, ta, oa, qa, wa⟩ := a
    have hka : ka = k := by rw [hpk] at hak; exact hak
    subst hka
    have h2 := hf.2 (.mk ka ta oa qa wa) (by simp)
    have := put_m g v s d l0 ka (by omega) ta oa qa wa p t op q wv w hr hp (by have := hf.1; simp at this; omega) (by have : ta.length + n ≤ 1000000000 := h2; omega) ho
    simp only [hpt]
    simpa [PartT.kind, PartT.text, PartT.op, PartT.quoted, PartT.word] using this
  · rw [if_neg h]
    by_cases hl : l = []
    · exact put_a g v s d l p k t op q wv w hr hp hfew ho hl
    · by_cases hk : 2 < k
      · exact put_b g v s d l p k t op q wv w hr hp hfew ho hl hk
      · exact put_c g v s d l p k t op q wv w hr hp hfew ho hl (fun a ha e => h ⟨a, ha, by omega, by rw [e, hpk]⟩) (by omega)
/-- A part without a word, of a text that is left of what was. -/
theorem plain_one (w : World) (S : Nat → Prop) (k : Nat) (t op : ByteArray) (q : Bool) : OneAt w S (.mk k t.data.toList op.data.toList q []) k t op q (.slice none 0 0) :=
  ⟨[], [], rfl, ⟨none, 0, rfl, Nat.le_refl _, .inl rfl⟩, .nil⟩
end Go.Proofs.YtkmpbkhlcapbgaaGreatDoor
