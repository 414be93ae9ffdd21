/-
  DERIVED. What the parts of a word come to (expand): the statements; the walk of parts.
-/
import Derived.Test.YtkmpbkhlcapbgaaGreatDoorZ11
import Derived.Test.YtkmpbkhlcapbgaaGreatDoorZ16
import Derived.Laws.EntriesVeiled
namespace Go.Proofs.YtkmpbkhlcapbgaaGreatDoor
open Go Go.RowKit
def faultP (n : Int) (t : List UInt8) : List PanicEntry := [{ v := .iface 33 (.agg #[.int .i64 n, .string ⟨t.toArray⟩]), recovered := false }]
theorem xfail_at (n : Int) (t : ByteArray) (w : World) : Calls Tryz.prog 87 #[.int .i64 n, .string t] w fun x w' => x = .panicked (faultP n t.data.toList) ∧ w = w' := by
  go_enter Tryz.func87, Tryz.ntmps87
  go_wp2
  exact ⟨rfl, rfl, rfl⟩
/-- How a method of a work ends. -/
def OutPost (g : Nat) (A : Nat → Prop) (w : World) : ExT → Ending → World → Prop
  | .ok e r, x, w' => WkPost g A e r w x w'
  | .fault n t, x, w' => x = .panicked (faultP n t) ∧ Kept g w w'
theorem OutPost.from {g : Nat} {A : Nat → Prop} {w W w' : World} {out : ExT} {x : Ending} (h : OutPost g A W out x w') (k : Kept g w W) : OutPost g A w out x w' := by
  cases out with
  | ok e r => exact ⟨h.1, h.2.1, k.trans h.2.2⟩
  | fault n t => exact ⟨h.1, k.trans h.2⟩
/-- The method of a kind of parts. -/
def fnOf (k : Nat) : Nat := if k = 1 then 64 else if k = 2 then 65 else if k = 3 then 66 else if k = 4 then 67 else 68
def ExP (P : Par) (f : Nat) : Prop := ∀ (g : Nat) (A : Nat → Prop) (e : EnvT) (r : RowT) (p : PartT) (k : Nat) (t op : ByteArray) (q : Bool) (a : Option Addr) (m c : Nat) (w : World) (out : ExT), partE P f e r p = some out → smallP p → WorkAt g A w e r → OneAt w (· ≠ g) p k t op q (.slice a m c) →
  Calls Tryz.prog (fnOf k) #[.pointer (some ⟨g, 0, none⟩), .agg #[.int .i64 (k : Nat), .string t, .string op, .bool q, .slice a m c]] w (OutPost g A w out)
def ExPs (P : Par) (f : Nat) : Prop := ∀ (g : Nat) (A : Nat → Prop) (e : EnvT) (r : RowT) (l : List PartT) (a : Option Addr) (m c : Nat) (w : World) (out : ExT), partsE P f e r l = some out → smallL l → WorkAt g A w e r → WordIn w (· ≠ g) (.slice a m c) l →
  Calls Tryz.prog 40 #[.pointer (some ⟨g, 0, none⟩), .slice a m c] w (OutPost g A w out)
/-- One part of those that lie in memory. -/
theorem PartsAt.nth {w : World} {S : Nat → Prop} {l : List PartT} {xs : List Value} (h : PartsAt w S l xs) : ∀ (i : Nat) (hi : i < l.length), ∃ (k : Nat) (t op : ByteArray) (q : Bool) (a : Option Addr) (m c : Nat),
    xs[i * 5]? = some (.int .i64 (k : Nat)) ∧ xs[i * 5 + 1]? = some (.string t) ∧ xs[i * 5 + 2]? = some (.string op) ∧ xs[i * 5 + 3]? = some (.bool q) ∧ xs[i * 5 + 4]? = some (.slice a m c) ∧ OneAt w S l[i] k t op q (.slice a m c) := by
  induction h with
  | nil => intro i hi; simp at hi
  | @cons k t op q wd l1 v1 ys1 xs1 hv hw hl _ ih =>
    intro i hi
    cases i with
    | zero =>
      obtain ⟨a, c, rfl, hv2⟩ := hv
      exact ⟨k, t, op, q, a, _, c, rfl, rfl, rfl, rfl, rfl, wd, ys1, rfl, ⟨a, c, rfl, hv2⟩, hw⟩
    | succ i =>
      obtain ⟨k2, t2, op2, q2, a2, m2, c2, h0, h1, h2, h3, h4, h5⟩ := ih i (by simpa using hi)
      refine ⟨k2, t2, op2, q2, a2, m2, c2, ?_, ?_, ?_, ?_, ?_, h5⟩
      · rw [show (i + 1) * 5 = i * 5 + 5 by omega]; exact h0
      · rw [show (i + 1) * 5 + 1 = (i * 5 + 1) + 5 by omega]; exact h1
      · rw [show (i + 1) * 5 + 2 = (i * 5 + 2) + 5 by omega]; exact h2
      · rw [show (i + 1) * 5 + 3 = (i * 5 + 3) + 5 by omega]; exact h3
      · rw [show (i + 1) * 5 + 4 = (i * 5 + 4) + 5 by omega]; exact h4
theorem partE_kind (P : Par) (f : Nat) (e : EnvT) (r : RowT) (k : Nat) (t op : List UInt8) (q : Bool) (wd : List PartT) (out : ExT) (h : partE P f e r (.mk k t op q wd) = some out) : k = 1 ∨ k = 2 ∨ k = 3 ∨ k = 4 ∨ k = 5 := by
  cases f with
  | zero => rw [partE] at h; cases h
  | succ f =>
    by_cases h1 : k = 1
    · exact .inl h1
    · by_cases h2 : k = 2
      · exact .inr (.inl h2)
      · by_cases h3 : k = 3
        · exact .inr (.inr (.inl h3))
        · by_cases h4 : k = 4
          · exact .inr (.inr (.inr (.inl h4)))
          · by_cases h5 : k = 5
            · exact .inr (.inr (.inr (.inr h5)))
            · rw [partE, if_neg h1, if_neg h2, if_neg h5, if_neg h4, if_neg h3] at h
              cases h
def methL (g : Nat) : List (Int × Value) := [(1, .func (.func 64) #[.pointer (some ⟨g, 0, none⟩)] #[]), (2, .func (.func 65) #[.pointer (some ⟨g, 0, none⟩)] #[]), (3, .func (.func 66) #[.pointer (some ⟨g, 0, none⟩)] #[]), (4, .func (.func 67) #[.pointer (some ⟨g, 0, none⟩)] #[]), (5, .func (.func 68) #[.pointer (some ⟨g, 0, none⟩)] #[])]
theorem parts_step (P : Par) (f : Nat) (e : EnvT) (r : RowT) (p : PartT) (l : List PartT) : partsE P (f + 1) e r (p :: l) = match partE P f e r p with
    | some (.ok e2 r2) => partsE P f e2 r2 l
    | x => x := by rw [partsE]; rfl
set_option maxRecDepth 100000 in
set_option maxHeartbeats 8000000 in
theorem xparts_ok (P : Par) (f : Nat) (hf : f ≤ 1000000) (hP : ∀ f', f' < f → ExP P f') : ExPs P f := by
  intro g A e r l a m c w out hout hSm hW hWd
  obtain ⟨ys, ⟨a0, c0, ev, hmc, hcell⟩, hpa⟩ := hWd
  obtain ⟨rfl, rfl, rfl⟩ : a = a0 ∧ m = l.length ∧ c = c0 := by simpa using ev
  have hmk := fun w => MapInt.run_make (P := Tryz.prog) 120 w
  have hins := MapInt.run_insert Tryz.underlying120 Tryz.underlying3
  have hmf : ∀ (fn : Fn) (first cap : Array Value) (w : World), (Instr.makeFunc fn first cap).run Tryz.prog w = .ok (.func fn first cap) w := fun _ _ _ _ => rfl
  have hlg := hW.lt
  have HW := Lib.hid hW
  have HO := Lib.hid hout
  have HP := Lib.hid hP
  have HSM := Lib.hid hSm
  have HPA := Lib.hid hpa
  have HCE := Lib.hid hcell
  clear hW hout hP hpa hcell ev hSm
  go_enter Tryz.func40, Tryz.ntmps40
  go_wp2_with fail
  obtain ⟨W0, hW0⟩ : ∃ W0, (w.alloc (MapInt.litMap (methL g))) = W0 := ⟨_, rfl⟩
  have hB0 : Below w.heap.size w W0 := by rw [← hW0]; exact (Below.refl _ _).alloc (Nat.le_refl _) _
  have hM0 : W0.heap[w.heap.size]? = some (MapInt.litMap (methL g)) := by rw [← hW0]; exact MapInt.heap_last w _ rfl
  have hK0 : Kept g w W0 := Kept.of hB0
  have hWk0 : WorkAt g A W0 e r := HW.out.below hB0
  have H0 : Hid (W0.heap[w.heap.size]? = some (MapInt.litMap (methL g)) ∧ Kept g w W0 ∧ WorkAt g A W0 e r ∧ partsE P f e r (l.drop 0) = some out) := ⟨hM0, hK0, hWk0, by rw [List.drop_zero]; exact HO.out⟩
  unfold methL at hW0
  rw [hW0]
  clear hB0 hM0 hK0 hWk0 hmk hins hmf
  go_loopg [21] f (fun gk s21 wx => ∃ (i : Nat) (e' : EnvT) (r' : RowT), i ≤ l.length ∧ s21 = .int .i64 i ∧ Hid (wx.heap[w.heap.size]? = some (MapInt.litMap (methL g)) ∧ Kept g w wx ∧ WorkAt g A wx e' r' ∧ partsE P gk e' r' (l.drop i) = some out) ∧ i + gk = f)
  case atStart => exact ⟨0, e, r, Nat.zero_le _, rfl, H0.out, Nat.zero_add _⟩
  case round =>
    obtain ⟨i, e', r', hil, rfl, HH, HGK⟩ := hrel
    clear H0 hW0
    cases gk with
    | zero => have := HH.out.2.2.2; rw [partsE] at this; cases this
    | succ gk =>
      obtain ⟨hM, hK, hWk, hE⟩ := HH.out
      by_cases hlt : i < l.length
      · rw [List.drop_eq_getElem_cons hlt, parts_step] at hE
        obtain ⟨k, t, op, q, pa, pm, pc, y0, y1, y2, y3, y4, hone⟩ := HPA.out.nth i hlt
        obtain ⟨b, rfl, hbg, hbl, hyc⟩ : ∃ b, a = some ⟨b, 0, none⟩ ∧ b ≠ g ∧ b < w.heap.size ∧ ∀ j u, ys[j]? = some u → w.cell? ⟨b, j, none⟩ = some u := by
          rcases HCE.out with h | h
          · omega
          · exact h
        have z0 := hK.cell (p := ⟨b, i * 5, none⟩) hbg (hyc _ _ y0)
        have z1 := hK.cell (p := ⟨b, i * 5 + 1, none⟩) hbg (hyc _ _ y1)
        have z2 := hK.cell (p := ⟨b, i * 5 + 2, none⟩) hbg (hyc _ _ y2)
        have z3 := hK.cell (p := ⟨b, i * 5 + 3, none⟩) hbg (hyc _ _ y3)
        have z4 := hK.cell (p := ⟨b, i * 5 + 4, none⟩) hbg (hyc _ _ y4)
        have hbl2 : b < wr.heap.size := Nat.lt_of_lt_of_le hbl hK.size
        have hz1 : (i : Int) < (l.length : Int) := by omega
        have hw1 : IntKind.i64.wrap ((i : Int) + 1) = (i : Int) + 1 := wrap_small _ (by omega) (by omega)
        have hkk := partE_kind P gk e' r' k t.data.toList op.data.toList q
        have hex : ∃ o1, partE P gk e' r' l[i] = some o1 ∧ (match o1 with | .ok e2 r2 => partsE P gk e2 r2 (l.drop (i + 1)) = some out | .fault n x => out = .fault n x) := by
          cases ho : partE P gk e' r' l[i] with
          | none => rw [ho] at hE; cases hE
          | some o1 =>
            rw [ho] at hE
            refine ⟨o1, rfl, ?_⟩
            cases o1 with
            | ok e2 r2 => exact hE
            | fault n x => exact (Option.some.inj hE).symm
        obtain ⟨o1, ho1, hnext⟩ := hex
        have hone' : OneAt wr (· ≠ g) l[i] k t op q (.slice pa pm pc) := hone.keep hK.size fun b q1 q2 => ⟨hK.block b q2 q1, q1⟩
        have hk5 : k = 1 ∨ k = 2 ∨ k = 3 ∨ k = 4 ∨ k = 5 := by
          obtain ⟨wd, ys2, e0, _⟩ := hone
          rw [e0] at ho1
          exact partE_kind P gk e' r' k _ _ q wd o1 ho1
        have hat : MapInt.at_ (methL g) (k : Int) = some (.func (.func (fnOf k)) #[.pointer (some ⟨g, 0, none⟩)] #[]) := by
          rcases hk5 with rfl | rfl | rfl | rfl | rfl <;> rfl
        have hAl := (Below.refl wr.heap.size wr).alloc (Nat.le_refl _) (.cells #[.int .i64 (k : Nat), .string t, .string op, .bool q, .slice pa pm pc] 92)
        have hlk := MapInt.run_lookup_at Tryz.underlying120 Tryz.underlying3 (wr.alloc (.cells #[.int .i64 (k : Nat), .string t, .string op, .bool q, .slice pa pm pc] 92)) (methL g) (k : Int) w.heap.size ((hAl.block _ (lt_of_block hM)).trans hM) _ hat
        have hC := (HP.out gk (by omega) g A e' r' l[i] k t op q pa pm pc _ o1 ho1 (smallL_nth l i hlt HSM.out) (hWk.below hAl) (hone'.keep hAl.size fun b q1 q2 => ⟨hAl.block b q2, q1⟩))
        have HM := Lib.hid ((hAl.block _ (lt_of_block hM)).trans hM)
        have HK := Lib.hid (hK.trans (Kept.of hAl))
        have HNX := Lib.hid hnext
        have hmg : w.heap.size ≠ g := by omega
        have hml := lt_of_block hM
        clear hWk hE hone hone' hM hK HH hkk ho1 hnext hat y0 y1 y2 y3 y4 hyc
        rcases hk5 with rfl | rfl | rfl | rfl | rfl
        · have HC : Hid (Calls Tryz.prog 64 #[.pointer (some ⟨g, 0, none⟩), .agg #[.int .i64 1, .string t, .string op, .bool q, .slice pa pm pc]] (wr.alloc (.cells #[.int .i64 1, .string t, .string op, .bool q, .slice pa pm pc] 92)) (OutPost g A (wr.alloc (.cells #[.int .i64 1, .string t, .string op, .bool q, .slice pa pm pc] 92)) o1)) := hC
          have hlk2 : Sem.run Tryz.prog (Instr.lookup 120 (.map (some w.heap.size)) (.int .i64 1) false) (wr.alloc (.cells #[.int .i64 1, .string t, .string op, .bool q, .slice pa pm pc] 92)) = .ok (.func (.func 64) #[.pointer (some ⟨g, 0, none⟩)] #[]) (wr.alloc (.cells #[.int .i64 1, .string t, .string op, .bool q, .slice pa pm pc] 92)) := hlk
          have HK2 : Hid (Kept g w (wr.alloc (.cells #[.int .i64 1, .string t, .string op, .bool q, .slice pa pm pc] 92))) := HK
          have HM2 : Hid ((wr.alloc (.cells #[.int .i64 1, .string t, .string op, .bool q, .slice pa pm pc] 92)).heap[w.heap.size]? = some (MapInt.litMap (methL g))) := HM
          have z00 : wr.cell? ⟨b, i * 5, none⟩ = some (.int .i64 1) := z0
          clear hC hlk HK HM z0
          go_wp2_with fail
          refine HC.out.mono ?_
          cases o1 with
          | fault n x =>
            rintro y w2 ⟨rfl, hk2⟩
            have hout : out = .fault n x := HNX.out
            subst hout
            go_wp2_with fail
            exact ⟨rfl, rfl, HK2.out.trans hk2⟩
          | ok e2 r2 =>
            rintro y w2 ⟨rfl, hw2, hk2⟩
            have hM3 : w2.heap[w.heap.size]? = some (MapInt.litMap (methL g)) := (hk2.block _ (by simp; omega) hmg).trans HM2.out
            have H3 : Hid (w2.heap[w.heap.size]? = some (MapInt.litMap (methL g)) ∧ Kept g w w2 ∧ WorkAt g A w2 e2 r2 ∧ partsE P gk e2 r2 (l.drop (i + 1)) = some out) := ⟨hM3, HK2.out.trans hk2, hw2, HNX.out⟩
            clear hM3 hk2 hw2
            go_wp2_with fail
            go_roundg gk
            case measure => omega
            case rel => exact ⟨i + 1, e2, r2, by omega, by go_num, H3.out, by omega⟩
        · have HC : Hid (Calls Tryz.prog 65 #[.pointer (some ⟨g, 0, none⟩), .agg #[.int .i64 2, .string t, .string op, .bool q, .slice pa pm pc]] (wr.alloc (.cells #[.int .i64 2, .string t, .string op, .bool q, .slice pa pm pc] 92)) (OutPost g A (wr.alloc (.cells #[.int .i64 2, .string t, .string op, .bool q, .slice pa pm pc] 92)) o1)) := hC
          have hlk2 : Sem.run Tryz.prog (Instr.lookup 120 (.map (some w.heap.size)) (.int .i64 2) false) (wr.alloc (.cells #[.int .i64 2, .string t, .string op, .bool q, .slice pa pm pc] 92)) = .ok (.func (.func 65) #[.pointer (some ⟨g, 0, none⟩)] #[]) (wr.alloc (.cells #[.int .i64 2, .string t, .string op, .bool q, .slice pa pm pc] 92)) := hlk
          have HK2 : Hid (Kept g w (wr.alloc (.cells #[.int .i64 2, .string t, .string op, .bool q, .slice pa pm pc] 92))) := HK
          have HM2 : Hid ((wr.alloc (.cells #[.int .i64 2, .string t, .string op, .bool q, .slice pa pm pc] 92)).heap[w.heap.size]? = some (MapInt.litMap (methL g))) := HM
          have z00 : wr.cell? ⟨b, i * 5, none⟩ = some (.int .i64 2) := z0
          clear hC hlk HK HM z0
          go_wp2_with fail
          refine HC.out.mono ?_
          cases o1 with
          | fault n x =>
            rintro y w2 ⟨rfl, hk2⟩
            have hout : out = .fault n x := HNX.out
            subst hout
            go_wp2_with fail
            exact ⟨rfl, rfl, HK2.out.trans hk2⟩
          | ok e2 r2 =>
            rintro y w2 ⟨rfl, hw2, hk2⟩
            have hM3 : w2.heap[w.heap.size]? = some (MapInt.litMap (methL g)) := (hk2.block _ (by simp; omega) hmg).trans HM2.out
            have H3 : Hid (w2.heap[w.heap.size]? = some (MapInt.litMap (methL g)) ∧ Kept g w w2 ∧ WorkAt g A w2 e2 r2 ∧ partsE P gk e2 r2 (l.drop (i + 1)) = some out) := ⟨hM3, HK2.out.trans hk2, hw2, HNX.out⟩
            clear hM3 hk2 hw2
            go_wp2_with fail
            go_roundg gk
            case measure => omega
            case rel => exact ⟨i + 1, e2, r2, by omega, by go_num, H3.out, by omega⟩
        · have HC : Hid (Calls Tryz.prog 66 #[.pointer (some ⟨g, 0, none⟩), .agg #[.int .i64 3, .string t, .string op, .bool q, .slice pa pm pc]] (wr.alloc (.cells #[.int .i64 3, .string t, .string op, .bool q, .slice pa pm pc] 92)) (OutPost g A (wr.alloc (.cells #[.int .i64 3, .string t, .string op, .bool q, .slice pa pm pc] 92)) o1)) := hC
          have hlk2 : Sem.run Tryz.prog (Instr.lookup 120 (.map (some w.heap.size)) (.int .i64 3) false) (wr.alloc (.cells #[.int .i64 3, .string t, .string op, .bool q, .slice pa pm pc] 92)) = .ok (.func (.func 66) #[.pointer (some ⟨g, 0, none⟩)] #[]) (wr.alloc (.cells #[.int .i64 3, .string t, .string op, .bool q, .slice pa pm pc] 92)) := hlk
          have HK2 : Hid (Kept g w (wr.alloc (.cells #[.int .i64 3, .string t, .string op, .bool q, .slice pa pm pc] 92))) := HK
          have HM2 : Hid ((wr.alloc (.cells #[.int .i64 3, .string t, .string op, .bool q, .slice pa pm pc] 92)).heap[w.heap.size]? = some (MapInt.litMap (methL g))) := HM
          have z00 : wr.cell? ⟨b, i * 5, none⟩ = some (.int .i64 3) := z0
          clear hC hlk HK HM z0
          go_wp2_with fail
          refine HC.out.mono ?_
          cases o1 with
          | fault n x =>
            rintro y w2 ⟨rfl, hk2⟩
            have hout : out = .fault n x := HNX.out
            subst hout
            go_wp2_with fail
            exact ⟨rfl, rfl, HK2.out.trans hk2⟩
          | ok e2 r2 =>
            rintro y w2 ⟨rfl, hw2, hk2⟩
            have hM3 : w2.heap[w.heap.size]? = some (MapInt.litMap (methL g)) := (hk2.block _ (by simp; omega) hmg).trans HM2.out
            have H3 : Hid (w2.heap[w.heap.size]? = some (MapInt.litMap (methL g)) ∧ Kept g w w2 ∧ WorkAt g A w2 e2 r2 ∧ partsE P gk e2 r2 (l.drop (i + 1)) = some out) := ⟨hM3, HK2.out.trans hk2, hw2, HNX.out⟩
            clear hM3 hk2 hw2
            go_wp2_with fail
            go_roundg gk
            case measure => omega
            case rel => exact ⟨i + 1, e2, r2, by omega, by go_num, H3.out, by omega⟩
        · have HC : Hid (Calls Tryz.prog 67 #[.pointer (some ⟨g, 0, none⟩), .agg #[.int .i64 4, .string t, .string op, .bool q, .slice pa pm pc]] (wr.alloc (.cells #[.int .i64 4, .string t, .string op, .bool q, .slice pa pm pc] 92)) (OutPost g A (wr.alloc (.cells #[.int .i64 4, .string t, .string op, .bool q, .slice pa pm pc] 92)) o1)) := hC
          have hlk2 : Sem.run Tryz.prog (Instr.lookup 120 (.map (some w.heap.size)) (.int .i64 4) false) (wr.alloc (.cells #[.int .i64 4, .string t, .string op, .bool q, .slice pa pm pc] 92)) = .ok (.func (.func 67) #[.pointer (some ⟨g, 0, none⟩)] #[]) (wr.alloc (.cells #[.int .i64 4, .string t, .string op, .bool q, .slice pa pm pc] 92)) := hlk
          have HK2 : Hid (Kept g w (wr.alloc (.cells #[.int .i64 4, .string t, .string op, .bool q, .slice pa pm pc] 92))) := HK
          have HM2 : Hid ((wr.alloc (.cells #[.int .i64 4, .string t, .string op, .bool q, .slice pa pm pc] 92)).heap[w.heap.size]? = some (MapInt.litMap (methL g))) := HM
          have z00 : wr.cell? ⟨b, i * 5, none⟩ = some (.int .i64 4) := z0
          clear hC hlk HK HM z0
          go_wp2_with fail
          refine HC.out.mono ?_
          cases o1 with
          | fault n x =>
            rintro y w2 ⟨rfl, hk2⟩
            have hout : out = .fault n x := HNX.out
            subst hout
            go_wp2_with fail
            exact ⟨rfl, rfl, HK2.out.trans hk2⟩
          | ok e2 r2 =>
            rintro y w2 ⟨rfl, hw2, hk2⟩
            have hM3 : w2.heap[w.heap.size]? = some (MapInt.litMap (methL g)) := (hk2.block _ (by simp; omega) hmg).trans HM2.out
            have H3 : Hid (w2.heap[w.heap.size]? = some (MapInt.litMap (methL g)) ∧ Kept g w w2 ∧ WorkAt g A w2 e2 r2 ∧ partsE P gk e2 r2 (l.drop (i + 1)) = some out) := ⟨hM3, HK2.out.trans hk2, hw2, HNX.out⟩
            clear hM3 hk2 hw2
            go_wp2_with fail
            go_roundg gk
            case measure => omega
            case rel => exact ⟨i + 1, e2, r2, by omega, by go_num, H3.out, by omega⟩
        · have HC : Hid (Calls Tryz.prog 68 #[.pointer (some ⟨g, 0, none⟩), .agg #[.int .i64 5, .string t, .string op, .bool q, .slice pa pm pc]] (wr.alloc (.cells #[.int .i64 5, .string t, .string op, .bool q, .slice pa pm pc] 92)) (OutPost g A (wr.alloc (.cells #[.int .i64 5, .string t, .string op, .bool q, .slice pa pm pc] 92)) o1)) := hC
          have hlk2 : Sem.run Tryz.prog (Instr.lookup 120 (.map (some w.heap.size)) (.int .i64 5) false) (wr.alloc (.cells #[.int .i64 5, .string t, .string op, .bool q, .slice pa pm pc] 92)) = .ok (.func (.func 68) #[.pointer (some ⟨g, 0, none⟩)] #[]) (wr.alloc (.cells #[.int .i64 5, .string t, .string op, .bool q, .slice pa pm pc] 92)) := hlk
          have HK2 : Hid (Kept g w (wr.alloc (.cells #[.int .i64 5, .string t, .string op, .bool q, .slice pa pm pc] 92))) := HK
          have HM2 : Hid ((wr.alloc (.cells #[.int .i64 5, .string t, .string op, .bool q, .slice pa pm pc] 92)).heap[w.heap.size]? = some (MapInt.litMap (methL g))) := HM
          have z00 : wr.cell? ⟨b, i * 5, none⟩ = some (.int .i64 5) := z0
          clear hC hlk HK HM z0
          go_wp2_with fail
          refine HC.out.mono ?_
          cases o1 with
          | fault n x =>
            rintro y w2 ⟨rfl, hk2⟩
            have hout : out = .fault n x := HNX.out
            subst hout
            go_wp2_with fail
            exact ⟨rfl, rfl, HK2.out.trans hk2⟩
          | ok e2 r2 =>
            rintro y w2 ⟨rfl, hw2, hk2⟩
            have hM3 : w2.heap[w.heap.size]? = some (MapInt.litMap (methL g)) := (hk2.block _ (by simp; omega) hmg).trans HM2.out
            have H3 : Hid (w2.heap[w.heap.size]? = some (MapInt.litMap (methL g)) ∧ Kept g w w2 ∧ WorkAt g A w2 e2 r2 ∧ partsE P gk e2 r2 (l.drop (i + 1)) = some out) := ⟨hM3, HK2.out.trans hk2, hw2, HNX.out⟩
            clear hM3 hk2 hw2
            go_wp2_with fail
            go_roundg gk
            case measure => omega
            case rel => exact ⟨i + 1, e2, r2, by omega, by go_num, H3.out, by omega⟩
      · have hli : i = l.length := by omega
        rw [List.drop_of_length_le (by omega), partsE] at hE
        have hout : out = .ok e' r' := (Option.some.inj hE).symm
        subst hout
        have HF : Hid (WorkAt g A wr e' r' ∧ Kept g w wr) := ⟨hWk, hK⟩
        have hz1 : ¬ ((i : Int) < (l.length : Int)) := by omega
        clear hWk hE hM hK HH hli
        go_wp2_with fail
        go_end0
        exact ⟨rfl, HF.out.1, HF.out.2⟩
end Go.Proofs.YtkmpbkhlcapbgaaGreatDoor
