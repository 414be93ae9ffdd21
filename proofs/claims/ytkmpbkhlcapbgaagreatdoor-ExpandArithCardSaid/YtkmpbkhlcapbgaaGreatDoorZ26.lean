/-
  DERIVED. The walk of expand's all, of a word.
-/
import Derived.Test.YtkmpbkhlcapbgaaGreatDoorZ25
import Derived.Test.YtkmpbkhlcapbgaaGreatDoorZ16
namespace Go.Proofs.YtkmpbkhlcapbgaaGreatDoor
open Go Go.RowKit
theorem all_none (p q r s : Addr) (w : World) :
    CallsD Tryz.prog 39 #[.pointer (some p), .pointer (some q), .pointer (some r), .pointer (some s)] .returning w fun e u' w' => e = .returned (.tuple #[]) ∧ u' = .returning ∧ w' = w := by
  refine callsD_of_wpS Tryz.func39 rfl fun c₀ cs hu => ?_
  apply wpS_seq
  apply wpS_region
  simp [wpOpsS, go_sem, recoverD, hu, Tryz.ntmps39, Exit.thenS]
  apply wpS_seq
  apply wpS_region
  simp [wpOpsS, go_sem, Exit.thenS]
  refine wpS_cond (t := false) (by simp [Act.eval, Array.replicate]) ?_
  simp only [Bool.false_eq_true, if_false]
  refine wpS_of_wp (wp_skip ?_)
  cases c₀
  simp_all [bodyPostS, results, Tryz.results39]
/-- All that a word's call is given. -/
structure Full (w : World) : Prop where
  tab : Tab w
  more : More w
theorem Full.lt {w : World} (h : Full w) : Far w.heap.size := h.tab.lt
theorem Full.below {w w' : World} {B : Nat} (h : Full w) (hB : Far B) (k : Below B w w') (hb : w.heap.size ≤ B := by omega) : Full w' := ⟨h.tab.below hB k, h.more.keep (k.mono hb)⟩
/-- An Env as a value. -/
abbrev envVal (va : Option Addr) (nv cv : Nat) (aa : Option Addr) (na ca : Nat) (e : EnvT) : Value := .agg #[.slice va nv cv, .slice aa na ca, .int .i64 e.status, .string ⟨e.flags.toArray⟩]
abbrev rowVal (r : RowT) : Value := .agg #[.string ⟨r.1.toArray⟩, .string ⟨r.2.toArray⟩]
abbrev faultVal (n : Int) (t : List UInt8) : Value := .agg #[.int .i64 n, .string ⟨t.toArray⟩]
/-- An Env's values, in whatever blocks. -/
abbrev EnvA (w : World) (vv av : Value) (e : EnvT) : Prop := EnvC w (fun _ => True) vv av e
theorem EnvA.below {w w' : World} {vv av : Value} {e : EnvT} (h : EnvA w vv av e) (hb : Below w.heap.size w w') : EnvA w' vv av e := h.keep hb.size fun b _ q2 => ⟨hb.block b q2, trivial⟩
/-- What all hands back: the row, the Env, the fault. -/
def AllOut (S : Nat → Prop) (v0 : Value) (w : World) : ExT → Ending → World → Prop
  | .ok e2 r2, x, w' => ∃ va nv cv aa na ca, x = .returned (.tuple #[rowVal r2, envVal va nv cv aa na ca e2, faultVal 0 []]) ∧ EnvC w' (fun b => S b ∨ w.heap.size ≤ b) (.slice va nv cv) (.slice aa na ca) e2 ∧ r2.1.length = r2.2.length ∧ r2.1.length ≤ 1000000 ∧ Below w.heap.size w w'
  | .fault n t, x, w' => x = .returned (.tuple #[rowVal ([], []), v0, faultVal n t]) ∧ Below w.heap.size w w'
def allW (va : Option Addr) (nv cv : Nat) (aa : Option Addr) (na ca : Nat) (e : EnvT) (w : World) : World :=
  (((w.alloc (.cells #[.slice va nv cv, .slice aa na ca, .int .i64 e.status, .string ⟨e.flags.toArray⟩] 28)).alloc (.cells #[.string ⟨#[]⟩, .string ⟨#[]⟩] 38)).alloc (.cells #[.slice none 0 0, .slice none 0 0, .int .i64 0, .string ⟨#[]⟩] 28)).alloc (.cells #[.int .i64 0, .string ⟨#[]⟩] 33)
theorem allW_facts (va : Option Addr) (nv cv : Nat) (aa : Option Addr) (na ca : Nat) (e : EnvT) (w : World) :
    Below w.heap.size w (allW va nv cv aa na ca e w) ∧ (allW va nv cv aa na ca e w).heap.size = w.heap.size + 4 ∧
    RowIs (allW va nv cv aa na ca e w) w.heap.size 28 [.slice va nv cv, .slice aa na ca, .int .i64 e.status, .string ⟨e.flags.toArray⟩] ∧
    Al (w.heap.size + 1) (w.heap.size + 1 + 1) (w.heap.size + 1 + 1 + 1) [.string ⟨#[]⟩, .string ⟨#[]⟩] [.slice none 0 0, .slice none 0 0, .int .i64 0, .string ⟨#[]⟩] [.int .i64 0, .string ⟨#[]⟩] (allW va nv cv aa na ca e w) (allW va nv cv aa na ca e w) := by
  unfold allW
  obtain ⟨W1, h1⟩ : ∃ W1, w.alloc (.cells #[.slice va nv cv, .slice aa na ca, .int .i64 e.status, .string ⟨e.flags.toArray⟩] 28) = W1 := ⟨_, rfl⟩
  have s1 : W1.heap.size = w.heap.size + 1 := by rw [← h1]; simp
  have r1 : RowIs W1 w.heap.size 28 [.slice va nv cv, .slice aa na ca, .int .i64 e.status, .string ⟨e.flags.toArray⟩] := by rw [← h1]; exact RowIs.new w _ _
  have b1 : Below w.heap.size w W1 := by rw [← h1]; exact (Below.refl _ _).alloc (Nat.le_refl _) _
  rw [h1]; clear h1
  obtain ⟨W2, h2⟩ : ∃ W2, W1.alloc (.cells #[.string ⟨#[]⟩, .string ⟨#[]⟩] 38) = W2 := ⟨_, rfl⟩
  have s2 : W2.heap.size = w.heap.size + 1 + 1 := by rw [← h2]; simp [s1]
  have r2 : RowIs W2 (w.heap.size + 1) 38 [.string ⟨#[]⟩, .string ⟨#[]⟩] := by rw [← h2, ← s1]; exact RowIs.new W1 _ _
  have q1 := r1.alloc (.cells #[.string ⟨#[]⟩, .string ⟨#[]⟩] 38)
  have b2 := b1.alloc b1.size (.cells #[.string ⟨#[]⟩, .string ⟨#[]⟩] 38)
  rw [h2] at q1 b2 ⊢; clear h2 r1 b1 s1
  obtain ⟨W3, h3⟩ : ∃ W3, W2.alloc (.cells #[.slice none 0 0, .slice none 0 0, .int .i64 0, .string ⟨#[]⟩] 28) = W3 := ⟨_, rfl⟩
  have s3 : W3.heap.size = w.heap.size + 1 + 1 + 1 := by rw [← h3]; simp [s2]
  have r3 : RowIs W3 (w.heap.size + 1 + 1) 28 [.slice none 0 0, .slice none 0 0, .int .i64 0, .string ⟨#[]⟩] := by rw [← h3, ← s2]; exact RowIs.new W2 _ _
  have q2 := q1.alloc (.cells #[.slice none 0 0, .slice none 0 0, .int .i64 0, .string ⟨#[]⟩] 28)
  have q3 := r2.alloc (.cells #[.slice none 0 0, .slice none 0 0, .int .i64 0, .string ⟨#[]⟩] 28)
  have b3 := b2.alloc b2.size (.cells #[.slice none 0 0, .slice none 0 0, .int .i64 0, .string ⟨#[]⟩] 28)
  rw [h3] at q2 q3 b3 ⊢; clear h3 r2 q1 b2 s2
  have r4 := RowIs.new W3 33 [.int .i64 0, .string ⟨#[]⟩]
  rw [s3] at r4
  exact ⟨b3.alloc b3.size _, by simp [s3], q2.alloc _, q3.alloc _, r3.alloc _, r4, Below.refl _ _⟩
/-- All blocks but the results' are as they were. -/
structure Fr (rb ob fb : Nat) (w0 w' : World) : Prop where
  n : ∀ b, b ≠ rb → b ≠ ob → b ≠ fb → w'.heap[b]? = w0.heap[b]?
  s : w0.heap.size ≤ w'.heap.size
theorem Fr.refl (rb ob fb : Nat) (w : World) : Fr rb ob fb w w := ⟨fun _ _ _ _ => rfl, Nat.le_refl _⟩
theorem Fr.set {rb ob fb : Nat} {w0 w' : World} (h : Fr rb ob fb w0 w') (c j : Nat) (u : Value) (hc : c = rb ∨ c = ob ∨ c = fb) : Fr rb ob fb w0 (w'.setCell ⟨c, j, none⟩ u) :=
  ⟨fun b h1 h2 h3 => (Below.heap_setCell _ _ _ _ (show b ≠ c by rcases hc with rfl | rfl | rfl <;> assumption)).trans (h.n b h1 h2 h3), by simpa using h.s⟩
theorem Fr.setR {rb ob fb : Nat} {w0 w' : World} (h : Fr rb ob fb w0 w') (u0 u1 : Value) : Fr rb ob fb w0 ((w'.setCell ⟨rb, 0, none⟩ u0).setCell ⟨rb, 1, none⟩ u1) := (h.set rb 0 u0 (.inl rfl)).set rb 1 u1 (.inl rfl)
theorem Fr.setF {rb ob fb : Nat} {w0 w' : World} (h : Fr rb ob fb w0 w') (u0 u1 : Value) : Fr rb ob fb w0 ((w'.setCell ⟨fb, 0, none⟩ u0).setCell ⟨fb, 1, none⟩ u1) := (h.set fb 0 u0 (.inr (.inr rfl))).set fb 1 u1 (.inr (.inr rfl))
theorem Fr.setO {rb ob fb : Nat} {w0 w' : World} (h : Fr rb ob fb w0 w') (u0 u1 u2 u3 : Value) : Fr rb ob fb w0 ((((w'.setCell ⟨ob, 0, none⟩ u0).setCell ⟨ob, 1, none⟩ u1).setCell ⟨ob, 2, none⟩ u2).setCell ⟨ob, 3, none⟩ u3) := (((h.set ob 0 u0 (.inr (.inl rfl))).set ob 1 u1 (.inr (.inl rfl))).set ob 2 u2 (.inr (.inl rfl))).set ob 3 u3 (.inr (.inl rfl))
theorem Fr.drew {rb ob fb : Nat} {w0 w' : World} (h : Fr rb ob fb w0 w') : Fr rb ob fb w0 w'.drew := ⟨h.n, h.s⟩
theorem Al.kept {rb ob fb g : Nat} {R O F : List Value} {w w' w'' : World} (h : Al rb ob fb R O F w w') (h2 : rb < ob) (h3 : ob < fb) (hg : fb < g) (k : Kept g w' w'') : Al rb ob fb R O F w w'' :=
  ⟨k.row h.r (by omega), k.row h.o (by omega), k.row h.f (by omega), h.b.trans (k.toBelow (B := rb) (by omega) (by have := h.r.lt; omega))⟩
set_option maxRecDepth 100000 in
set_option maxHeartbeats 8000000 in
theorem all_ok (P : Par) (f : Nat) (hPs : ExPs P f) (fw : Nat) (s : ByteArray) (hs : s.size ≤ 1000000000) (l : List PartT) (hl : wordF fw s.data.toList = some l) (hsm : smallL l) (e : EnvT) (out : ExT) (ho : partsE P f e ([], []) l = some out)
    (S : Nat → Prop) (va : Option Addr) (nv cv : Nat) (aa : Option Addr) (na ca : Nat) (w : World) (hE : EnvC w S (.slice va nv cv) (.slice aa na ca) e) (hSl : ∀ b, S b → b < w.heap.size) (hTM : Full w) :
    Calls Tryz.prog 21 #[envVal va nv cv aa na ca e, .string s, .func (.func 22) #[] #[]] w (AllOut S (envVal va nv cv aa na ca e) w out) := by
  obtain ⟨b0, z0, re, al⟩ := allW_facts va nv cv aa na ca e w
  have hT := hTM.tab
  have hM := hTM.more
  have hfar := hT.lt
  have hpa := parse_ok fw s hs l (allW va nv cv aa na ca e w) (hT.below hfar b0) hl
  have HPA : Hid (Calls Tryz.prog 22 #[.string s] ((((w.alloc (.cells #[.slice va nv cv, .slice aa na ca, .int .i64 e.status, .string ⟨e.flags.toArray⟩] 28)).alloc (.cells #[.string ⟨#[]⟩, .string ⟨#[]⟩] 38)).alloc (.cells #[.slice none 0 0, .slice none 0 0, .int .i64 0, .string ⟨#[]⟩] 28)).alloc (.cells #[.int .i64 0, .string ⟨#[]⟩] 33)) fun x w' => ∃ a n c, x = .returned (.tuple #[.slice a n c, .int .i64 0]) ∧ WordIn w' (fun b => (allW va nv cv aa na ca e w).heap.size < b) (.slice a n c) l ∧ Below (allW va nv cv aa na ca e w).heap.size (allW va nv cv aa na ca e w) w') := hpa
  have hmf : ∀ (fn : Fn) (first cap : Array Value) (w : World), (Instr.makeFunc fn first cap).run Tryz.prog w = .ok (.func fn first cap) w := fun _ _ _ _ => rfl
  have HB0 := Lib.hid b0
  have HZ0 := Lib.hid z0
  have HRE := Lib.hid re
  have HAL := Lib.hid al
  have HE := Lib.hid hE
  have HT := Lib.hid hT
  have HM := Lib.hid hM
  have HSM := Lib.hid hsm
  have HO := Lib.hid ho
  have HFA := Lib.hid hfar
  have HSL := Lib.hid hSl
  clear hl hT hM hTM hE b0 z0 re al hsm ho hfar hpa hSl
  go_enter_defers Tryz.func21, Tryz.ntmps21
  go_wp2_with fail
  refine HPA.out.mono ?_; rintro y w1 ⟨a, n, c, rfl, hw1, hb1⟩
  rw [HZ0.out] at hb1 hw1
  have hsz1 := hb1.size
  rw [HZ0.out] at hsz1
  have hb01 := HB0.out.trans (hb1.mono (by omega))
  have re1 := blk_under HRE.out hb1 (by omega)
  have hal1 : Al (w.heap.size + 1) (w.heap.size + 1 + 1) (w.heap.size + 1 + 1 + 1) _ _ _ (allW va nv cv aa na ca e w) w1 := ⟨blk_under HAL.out.r hb1 (by omega), blk_under HAL.out.o hb1 (by omega), blk_under HAL.out.f hb1 (by omega), hb1.mono (by omega)⟩
  have B2 := (Below.refl w1.heap.size w1).alloc (Nat.le_refl _) (.cells #[.slice va nv cv, .slice aa na ca, .int .i64 e.status, .string ⟨e.flags.toArray⟩, .string ⟨#[]⟩, .string ⟨#[]⟩] 82)
  have rw2 := RowIs.new w1 82 [.slice va nv cv, .slice aa na ca, .int .i64 e.status, .string ⟨e.flags.toArray⟩, .string ⟨#[]⟩, .string ⟨#[]⟩]
  obtain ⟨W2, hW2⟩ : ∃ W2, w1.alloc (.cells #[.slice va nv cv, .slice aa na ca, .int .i64 e.status, .string ⟨e.flags.toArray⟩, .string ⟨#[]⟩, .string ⟨#[]⟩] 82) = W2 := ⟨_, rfl⟩
  rw [hW2] at B2 rw2
  have hb02 := hb01.trans (B2.mono (by omega))
  have hfg : Far w1.heap.size := ⟨by have := HFA.out.1; omega, by have := HFA.out.2; omega⟩
  have hwk : WorkAt w1.heap.size (fun b => b < w.heap.size + 4 ∧ ¬ S b) W2 e ([], []) := ⟨_, aa, na, ca, rw2, HE.out.keep hb02.size fun b q1 q2 => ⟨hb02.block b q2, by omega, fun h => h.2 q1⟩, fun b h => by have := B2.size; have := h.1; omega, rfl, by simp, hfg, HT.out.below HFA.out hb02, fun w5 k => HM.out.keep (hb02.trans (k.toBelow (B := w.heap.size) (by omega) hb02.size))⟩
  have hwd : WordIn W2 (· ≠ w1.heap.size) (.slice a n c) l := hw1.keep B2.size fun b q1 q2 => ⟨B2.block b q2, by omega⟩
  have HPS := Lib.hid (hPs w1.heap.size (fun b => b < w.heap.size + 4 ∧ ¬ S b) e ([], []) l a n c W2 out HO.out HSM.out hwk hwd)
  obtain ⟨ec0, ec1, ec2, ec3, ef0, ef1, ef2, ef3, elt⟩ := four_facts re1
  have hgl : w.heap.size + 4 ≤ w1.heap.size := hsz1
  have HAL1 := Lib.hid hal1
  have HRE1 := Lib.hid re1
  have HB02 := Lib.hid hb02
  have HB2 := Lib.hid B2
  clear hwk hwd hfg hb02 hb01 B2 rw2 re1 hal1 hsz1 hw1 hb1 HAL HRE HZ0 HPA
  go_wp2_with fail
  clear hW2
  refine HPS.out.mono ?_
  cases out with
  | ok e2 r2 =>
    rintro y w3 ⟨rfl, ⟨vv3, aa3, na3, ca3, hC3⟩, hk3⟩
    obtain ⟨va3, nv3, cv3, rfl⟩ := hC3.shape
    have hal3 := (HAL1.out.kept (by omega) (by omega) (by omega) ((Kept.of (g := w1.heap.size) HB2.out).trans hk3))
    obtain ⟨d0, d1, d2, d3, d4, d5, g0, g1, g2, g3, g4, g5, lth⟩ := six_facts hC3.row
    obtain ⟨rc0, rc1, rf0, rf1, rlt⟩ := two_facts hal3.r
    obtain ⟨oc0, oc1, oc2, oc3, of0, of1, of2, of3, olt⟩ := four_facts hal3.o
    obtain ⟨fc0, fc1, ff0, ff1, flt⟩ := two_facts hal3.f
    have n1 : ¬ w1.heap.size = w.heap.size + 1 := by omega
    have n2 : ¬ w1.heap.size = w.heap.size + 1 + 1 := by omega
    have n3 : ¬ w1.heap.size = w.heap.size + 1 + 1 + 1 := by omega
    have n4 : ¬ w.heap.size + 1 = w.heap.size + 1 + 1 := by omega
    have n5 : ¬ w.heap.size + 1 = w.heap.size + 1 + 1 + 1 := by omega
    have n6 : ¬ w.heap.size + 1 + 1 = w.heap.size + 1 + 1 + 1 := by omega
    have HC3 := Lib.hid hC3
    have HAL3 := Lib.hid hal3
    have HK3 := Lib.hid hk3
    clear hC3 hal3 hk3
    go_wp2_with fail
    go_region
    have hal := (((HAL3.out.setR (by omega) (by omega) (.string ⟨r2.1.toArray⟩) (.string ⟨r2.2.toArray⟩)).setO (by omega) (by omega) (.slice va3 nv3 cv3) (.slice aa3 na3 ca3) (.int .i64 e2.status) (.string ⟨e2.flags.toArray⟩)).setF (by omega) (by omega) (.int .i64 0) (.string ⟨#[]⟩)).drew
    go_wp2_with fail
    refine leaves_cons (f := 39) (args := #[.pointer (some ⟨w.heap.size, 0, none⟩), .pointer (some ⟨w.heap.size + 1, 0, none⟩), .pointer (some ⟨w.heap.size + 1 + 1, 0, none⟩), .pointer (some ⟨w.heap.size + 1 + 1 + 1, 0, none⟩)]) (by simp) (by simp [go_sem]) ?_
    refine (all_none _ _ _ _ _).mono ?_
    rintro y u' w'' ⟨rfl, rfl, rfl⟩
    have hfr := ((((Fr.refl (w.heap.size + 1) (w.heap.size + 1 + 1) (w.heap.size + 1 + 1 + 1) w3).setR (.string ⟨r2.1.toArray⟩) (.string ⟨r2.2.toArray⟩)).setO (.slice va3 nv3 cv3) (.slice aa3 na3 ca3) (.int .i64 e2.status) (.string ⟨e2.flags.toArray⟩)).setF (.int .i64 0) (.string ⟨#[]⟩)).drew
    generalize ((((((((w3.setCell ⟨w.heap.size + 1, 0, none⟩ (.string ⟨r2.1.toArray⟩)).setCell ⟨w.heap.size + 1, 1, none⟩ (.string ⟨r2.2.toArray⟩)).setCell ⟨w.heap.size + 1 + 1, 0, none⟩ (.slice va3 nv3 cv3)).setCell ⟨w.heap.size + 1 + 1, 1, none⟩ (.slice aa3 na3 ca3)).setCell ⟨w.heap.size + 1 + 1, 2, none⟩ (.int .i64 e2.status)).setCell ⟨w.heap.size + 1 + 1, 3, none⟩ (.string ⟨e2.flags.toArray⟩)).setCell ⟨w.heap.size + 1 + 1 + 1, 0, none⟩ (.int .i64 0)).setCell ⟨w.heap.size + 1 + 1 + 1, 1, none⟩ (.string ⟨#[]⟩)).drew = WN at hal hfr ⊢
    clear rc0 rc1 rf0 rf1 rlt oc0 oc1 oc2 oc3 of0 of1 of2 of3 olt fc0 fc1 ff0 ff1 flt d0 d1 d2 d3 d4 d5 g0 g1 g2 g3 g4 g5 lth ec0 ec1 ec2 ec3 ef0 ef1 ef2 ef3
    obtain ⟨rc0, rc1, rf0, rf1, rlt⟩ := two_facts hal.r
    obtain ⟨oc0, oc1, oc2, oc3, of0, of1, of2, of3, olt⟩ := four_facts hal.o
    obtain ⟨fc0, fc1, ff0, ff1, flt⟩ := two_facts hal.f
    have hev : EnvC WN (fun b => S b ∨ w.heap.size ≤ b) (.slice va3 nv3 cv3) (.slice aa3 na3 ca3) e2 := HC3.out.env.keep hfr.s fun b q1 q2 => by
      have q : S b ∨ w.heap.size + 4 ≤ b := by
        by_cases h : b < w.heap.size + 4
        · exact .inl (Classical.byContradiction fun h2 => q1.2 ⟨h, h2⟩)
        · exact .inr (by omega)
      have q4 : b < w.heap.size ∨ w.heap.size + 4 ≤ b := q.elim (fun h => .inl (HSL.out b h)) .inr
      exact ⟨hfr.n b (by omega) (by omega) (by omega), q.elim .inl fun h => .inr (by omega)⟩
    simp [Leaves, settle, results, Tryz.results21, go_sem, rc0, rc1, oc0, oc1, oc2, oc3, fc0, fc1]
    exact ⟨va3, nv3, cv3, aa3, na3, ca3, rfl, hev, HC3.out.len, HC3.out.few, HB0.out.trans (hal.b.mono (by omega))⟩
  | fault n1 t =>
    rintro y w3 ⟨rfl, hk3⟩
    have hal3 := (HAL1.out.kept (by omega) (by omega) (by omega) ((Kept.of (g := w1.heap.size) HB2.out).trans hk3))
    have hre3 := hk3.row (HRE1.out.below HB2.out) (show w.heap.size ≠ w1.heap.size by omega)
    have HAL3 := Lib.hid hal3
    have HRE3 := Lib.hid hre3
    clear hal3 hre3 hk3
    go_wp2_with fail
    refine leaves_cons (f := 39) (args := #[.pointer (some ⟨w.heap.size, 0, none⟩), .pointer (some ⟨w.heap.size + 1, 0, none⟩), .pointer (some ⟨w.heap.size + 1 + 1, 0, none⟩), .pointer (some ⟨w.heap.size + 1 + 1 + 1, 0, none⟩)]) (by simp) (by simp [go_sem]) ?_
    refine (all_catch w.heap.size (w.heap.size + 1) (w.heap.size + 1 + 1) (w.heap.size + 1 + 1 + 1) (by omega) (by omega) (by omega) va aa nv na cv ca e.status ⟨e.flags.toArray⟩ ⟨#[]⟩ ⟨#[]⟩ ⟨#[]⟩ ⟨#[]⟩ none none 0 0 0 0 0 0 n1 t w3 HRE3.out HAL3.out.r HAL3.out.o HAL3.out.f).mono ?_
    rintro y u' w4 ⟨rfl, rfl, hal⟩
    have hb4 := HB0.out.trans ((HAL3.out.b.mono (show w.heap.size ≤ w.heap.size + 1 by omega)).trans (hal.b.mono (by omega)))
    obtain ⟨rc0, rc1, rf0, rf1, rlt⟩ := two_facts hal.r
    obtain ⟨oc0, oc1, oc2, oc3, of0, of1, of2, of3, olt⟩ := four_facts hal.o
    obtain ⟨fc0, fc1, ff0, ff1, flt⟩ := two_facts hal.f
    simp [Leaves, settle, results, Tryz.results21, go_sem, rc0, rc1, oc0, oc1, oc2, oc3, fc0, fc1]
    exact ⟨rfl, hb4⟩
end Go.Proofs.YtkmpbkhlcapbgaaGreatDoor
