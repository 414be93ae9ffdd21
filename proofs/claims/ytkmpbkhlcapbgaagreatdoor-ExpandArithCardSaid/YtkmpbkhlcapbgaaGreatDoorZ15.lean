/-
  DERIVED. What word's brace and dollar come to, by the plain functions. The walks of word's inner and quoted. The walks of word's quoted and part.
-/
import Derived.Test.YtkmpbkhlcapbgaaGreatDoorZ13
import Derived.Test.YtkmpbkhlcapbgaaGreatDoorZ14
namespace Go.Proofs.YtkmpbkhlcapbgaaGreatDoor
open Go Go.RowKit
theorem wpar_le (s : List UInt8) : wparF s ≤ s.length := by
  cases s with
  | nil => exact Nat.le_refl _
  | cons c t =>
    rw [wpar_cons]
    split
    · exact longF_le _
    · split <;> simp
theorem cons_of {s : ByteArray} {c : UInt8} (h : s.data.toList.head? = some c) : ∃ t : ByteArray, s.data.toList = c :: t.data.toList := by
  cases hs : s.data.toList with
  | nil => rw [hs] at h; cases h
  | cons a b =>
    rw [hs] at h
    have : a = c := by simpa using h
    exact ⟨⟨b.toArray⟩, by rw [this]⟩
theorem brace_ok (f : Nat) (hP : ∀ f', f' < f → PartOK f') : BraceOK (f + 1) := by
  intro d g v s u p w hd hr hb
  rw [braceF] at hb
  by_cases h1 : s.data.toList.head? = some 35
  · rw [if_pos h1] at hb
    obtain ⟨s1, hs⟩ := cons_of h1
    rw [hs, List.tail_cons] at hb
    by_cases h2 : 0 < wparF s1.data.toList ∧ (s1.data.toList.drop (wparF s1.data.toList)).head? = some 125
    · rw [if_pos h2] at hb
      have := Prod.mk.inj (Option.some.inj hb)
      rw [← this.1]
      exact brace_len d g v s s1 u _ w hr hs rfl h2.1 h2.2 this.2.symm
    · rw [if_neg h2] at hb; cases hb
  · rw [if_neg h1] at hb
    simp only at hb
    by_cases h0 : max (wparF s.data.toList) (s.data.toList.takeWhile digU).length = 0
    · rw [if_pos h0] at hb; cases hb
    · rw [if_neg h0] at hb
      refine brace_some f hP d g v s u p _ w hr h1 rfl (by omega) ?_
      by_cases h2 : (s.data.toList.drop (max (wparF s.data.toList) (s.data.toList.takeWhile digU).length)).head? = some 125
      · rw [if_pos h2] at hb
        have := Prod.mk.inj (Option.some.inj hb)
        exact .inl ⟨h2, this.1.symm, this.2.symm⟩
      · rw [if_neg h2] at hb
        refine .inr ⟨h2, hd, ?_⟩
        cases ho : wopsL.find? fun o => o.isPrefixOf (s.data.toList.drop (max (wparF s.data.toList) (s.data.toList.takeWhile digU).length)) with
        | none => rw [ho] at hb; cases hb
        | some o =>
          rw [ho] at hb
          simp only at hb
          cases hu : untilF f (d + 1) [] ((s.data.toList.drop (max (wparF s.data.toList) (s.data.toList.takeWhile digU).length)).drop o.length) with
          | none => rw [hu] at hb; cases hb
          | some x =>
            rw [hu] at hb
            have := Prod.mk.inj (Option.some.inj hb)
            refine ⟨o, x.1, rfl, ?_, this.1.symm⟩
            rw [← this.2]; exact hu
theorem brace_zero : BraceOK 0 := by
  intro d g v s u p w hd hr hb
  rw [braceF] at hb; cases hb
theorem brace_all (f : Nat) (hP : ∀ f', f' < f → PartOK f') : BraceOK f := by
  cases f with
  | zero => exact brace_zero
  | succ f => exact brace_ok f fun f' h => hP f' (by omega)
theorem head_pre {l : List UInt8} (h : l.head? = some 123) : [40, 40].isPrefixOf l = false := by
  cases l with
  | nil => rfl
  | cons a b =>
    have : a = 123 := by simpa using h
    subst this; rfl
theorem mk_of (l : List UInt8) : ∃ x : ByteArray, x.data.toList = l := ⟨⟨l.toArray⟩, rfl⟩
theorem dollar_step (f d : Nat) (q : Bool) (l : List PartT) (c : UInt8) (t : List UInt8) : dollarF (f + 1) d q l (c :: t) =
    if t.head? = some 123 then (if d = 8 then none else match braceF f d t.tail with
      | none => none
      | some (p, r) => some (putF l (p.with q), r))
    else if [40, 40].isPrefixOf t then (match arithT ((c :: t).length + 1) 0 (t.drop 2) [] with
      | none => none
      | some (x, r) => some (putF l (.mk 4 x [] q []), r))
    else if t.head? = some 40 then none
    else if 0 < wparF t then some (putF l (.mk 3 (t.take (wparF t)) [] q []), t.drop (wparF t))
    else some (putF l (.mk (if q then 2 else 1) [36] [] false []), t) := by rw [dollarF]; rfl
theorem dollar_ok (f : Nat) (hP : ∀ f', f' < f → PartOK f') (d g : Nat) (v : Value) (s : ByteArray) (q : Bool) (l l2 : List PartT) (u : List UInt8) (w : World) (hr : Wr g v s d w) (hp : Wp g v l w) (hf : Few l s.size) (hs : s.data.toList.head? = some 36) (h : dollarF (f + 1) d q l s.data.toList = some (l2, u)) :
    Calls Tryz.prog 74 #[.pointer (some ⟨g, 0, none⟩), .bool q] w (WPost g d l2 u s.size w) := by
  obtain ⟨t, ht⟩ := cons_of hs
  rw [ht, dollar_step] at h
  by_cases h1 : t.data.toList.head? = some 123
  · rw [if_pos h1] at h
    obtain ⟨t2, ht2⟩ := cons_of h1
    by_cases hd : d = 8
    · rw [if_pos hd] at h; cases h
    · rw [if_neg hd] at h
      rw [ht2, List.tail_cons] at h
      cases hb : braceF f d t2.data.toList with
      | none => rw [hb] at h; cases h
      | some x =>
        rw [hb] at h
        have := Prod.mk.inj (Option.some.inj h)
        obtain ⟨ub, hub⟩ := mk_of u
        rw [← this.1, ← hub]
        exact dollar_brace f (brace_all f hP) d g (by have := hr.deep; omega) v s t t2 ub q l x.1 w hr hp hf ht ht2 (by rw [hb, hub, ← this.2])
  · rw [if_neg h1] at h
    by_cases h2 : [40, 40].isPrefixOf t.data.toList = true
    · rw [if_pos h2] at h
      cases ha : arithT ((36 :: t.data.toList).length + 1) 0 (t.data.toList.drop 2) [] with
      | none => rw [ha] at h; cases h
      | some x =>
        rw [ha] at h
        have := Prod.mk.inj (Option.some.inj h)
        obtain ⟨ub, hub⟩ := mk_of u
        obtain ⟨xb, hxb⟩ := mk_of x.1
        rw [← this.1, ← hub, ← hxb]
        exact dollar_arith d g v s t xb ub q l _ w hr hp hf ht h2 (by rw [ha, hxb, hub, ← this.2])
    · rw [if_neg h2] at h
      by_cases h3 : t.data.toList.head? = some 40
      · rw [if_pos h3] at h; cases h
      · rw [if_neg h3] at h
        by_cases h4 : 0 < wparF t.data.toList
        · rw [if_pos h4] at h
          have := Prod.mk.inj (Option.some.inj h)
          rw [← this.1, ← this.2]
          exact dollar_name d g v s t q l _ w hr hp hf ht h1 h3 rfl h4 (by rw [size_len]; exact wpar_le _)
        · rw [if_neg h4] at h
          have := Prod.mk.inj (Option.some.inj h)
          rw [← this.1, ← this.2]
          exact dollar_bare d g v s t q l w hr hp hf ht h1 h3 (by omega)
/-- What dollar comes to. -/
def DollarOK (f : Nat) : Prop := ∀ (d g : Nat) (v : Value) (s : ByteArray) (q : Bool) (l l2 : List PartT) (u : List UInt8) (w : World), Wr g v s d w → Wp g v l w → Few l s.size → s.data.toList.head? = some 36 → dollarF f d q l s.data.toList = some (l2, u) →
  Calls Tryz.prog 74 #[.pointer (some ⟨g, 0, none⟩), .bool q] w (WPost g d l2 u s.size w)
theorem dollar_all (f : Nat) (hP : ∀ f', f' < f → PartOK f') : DollarOK f := by
  intro d g v s q l l2 u w hr hp hf hs h
  cases f with
  | zero => rw [dollarF] at h; cases h
  | succ f => exact dollar_ok f (fun f' hh => hP f' (by omega)) d g v s q l l2 u w hr hp hf hs h
end Go.Proofs.YtkmpbkhlcapbgaaGreatDoor
namespace Go.Proofs.YtkmpbkhlcapbgaaGreatDoor
open Go Go.RowKit
def escL : List UInt8 := [36, 96, 34, 92]
theorem esc_has : ∀ k : Fin 256, Lib.contains escL [UInt8.ofNat k.val] = escL.contains (UInt8.ofNat k.val) := by decide +kernel
theorem esc_has_u (c : UInt8) : Lib.contains escL [c] = escL.contains c := by
  have := esc_has ⟨c.toNat, c.toNat_lt⟩
  simpa using this
theorem no_head {s t : ByteArray} {c : UInt8} (hs : s.data.toList = c :: t.data.toList) {b : UInt8} (h : c ≠ b) : decide (s.data.toList.head? = some b) = false := by
  rw [hs]; exact decide_eq_false (fun e => h (by simpa using e))
theorem yes_head {s t : ByteArray} {c : UInt8} (hs : s.data.toList = c :: t.data.toList) : decide (s.data.toList.head? = some c) = true := by
  rw [hs]; exact decide_eq_true rfl
/-- What a call asks whether it is next. -/
theorem ask (g : Nat) (v : Value) (s : ByteArray) (d : Nat) (c : UInt8) (b : Bool) (h : decide (s.data.toList.head? = some c) = b) : Hid (∀ W, Wr g v s d W → Calls Tryz.prog 43 #[.pointer (some ⟨g, 0, none⟩), .string ⟨#[c]⟩] W fun e w' => e = .returned (.bool b) ∧ W = w') :=
  fun W R => has_at g ⟨#[c]⟩ v s d b W R (by rw [head_is]; exact h)
set_option maxRecDepth 100000 in
set_option maxHeartbeats 4000000 in
/-- A byte as it stands. -/
theorem inner_one (d g : Nat) (v : Value) (s t : ByteArray) (c : UInt8) (l : List PartT) (w : World) (hr : Wr g v s d w) (hp : Wp g v l w) (hf : Few l s.size) (hs : s.data.toList = c :: t.data.toList) (h1 : c ≠ 36) (h2 : c ≠ 96) (h3 : c ≠ 92) :
    Calls Tryz.prog 101 #[.pointer (some ⟨g, 0, none⟩), .string ⟨#[36, 96, 34, 92]⟩] w (WPost g d (putF l (.mk 2 [c] [] false [])) t.data.toList s.size w) := by
  obtain ⟨e1, e2, e3⟩ := tail_of hs
  have H1 := ask g v s d 36 false (no_head hs h1)
  have H2 := ask g v s d 96 false (no_head hs h2)
  have H3 := ask g v s d 92 false (no_head hs h3)
  have HT := Lib.hid (fun W (R : Wr g v s d W) => take_at g 1 v s d W R (by omega))
  rw [e1, e2] at HT
  have HPT := Lib.hid (fun W => put_plain (d := d) hp hf 2 ⟨#[c]⟩ ⟨#[]⟩ false (by rw [e3]; show 1 ≤ _; omega) W t)
  have HFW := Lib.hid (few_plain (k := 2) (t := ⟨#[c]⟩) (op := ⟨#[]⟩) (q := false) (m := t.size) hf (by rw [e3]; show 1 + _ ≤ _; omega) (by omega))
  have HE3 := Lib.hid e3
  have HG := Lib.hid (Nat.le_of_lt hr.row.lt)
  have HR := Lib.hid hr
  have hRd := hr.drew
  have hKd : Hid (Kept g w w.drew) := Kept.of (Below.refl _ _).drew
  clear hr hp hf hs h1 h2 h3 e1 e2 e3
  go_enter Tryz.func101, Tryz.ntmps101
  go_wp2_with fail
  refine (H1.out _ HR.out).mono ?_; rintro e w2 ⟨rfl, rfl⟩
  go_wp2_with fail
  refine (H2.out _ HR.out).mono ?_; rintro e w2 ⟨rfl, rfl⟩
  go_wp2_with fail
  refine (H3.out _ HR.out).mono ?_; rintro e w2 ⟨rfl, rfl⟩
  go_wp2_with fail
  go_region_with (first
    | (go_at_call 44; refine (HT.out _ (by assumption)).mono ?_; rintro e wn ⟨rfl, Rn, Kn⟩)
    | (go_at_call 45; refine (HPT.out _ (hKd.out.trans (by assumption)) (by assumption)).mono ?_; rintro e wm ⟨rfl, hx⟩))
  all_goals
    go_end0
    exact wpost_of (W := _) ⟨rfl, hx⟩ (hKd.out.trans (by assumption)) HG.out rfl HFW.out (by have := HE3.out; omega)
set_option maxRecDepth 100000 in
set_option maxHeartbeats 4000000 in
/-- A byte behind a backslash. -/
theorem inner_esc (d g : Nat) (v : Value) (s t : ByteArray) (c : UInt8) (l : List PartT) (w : World) (hr : Wr g v s d w) (hp : Wp g v l w) (hf : Few l s.size) (hs : s.data.toList = 92 :: c :: t.data.toList) :
    Calls Tryz.prog 101 #[.pointer (some ⟨g, 0, none⟩), .string ⟨#[36, 96, 34, 92]⟩] w (WPost g d (putF l (.mk 2 (if escL.contains c then [c] else [92, c]) [] false [])) t.data.toList s.size w) := by
  have e1 : s.extract 2 s.size = t := by rw [← Lib.mk_data (ByteArray.extract _ 2 _), ← Lib.mk_data t, Lib.extract_to_end, hs]; rfl
  have e2 : s.extract 0 2 = ⟨#[92, c]⟩ := by rw [← Lib.mk_data (ByteArray.extract _ 0 _), Lib.extract_data, hs]; rfl
  have e3 : s.size = t.size + 2 := by rw [size_len, hs, size_len]; rfl
  have hs' : s.data.toList = 92 :: (⟨(c :: t.data.toList).toArray⟩ : ByteArray).data.toList := by rw [hs]
  have H1 := ask g v s d 36 false (no_head hs' (by decide))
  have H2 := ask g v s d 96 false (no_head hs' (by decide))
  have H3 := ask g v s d 92 true (yes_head hs')
  have HT := Lib.hid (take_at g 2 v s d w hr (by omega))
  rw [e1, e2] at HT
  have e4 : (⟨#[92, c]⟩ : ByteArray).extract 1 2 = ⟨#[c]⟩ := by rw [← Lib.mk_data (ByteArray.extract _ 1 _), Lib.extract_data]; rfl
  have e4' : (⟨#[92, c]⟩ : ByteArray).extract 1 (⟨#[92, c]⟩ : ByteArray).size = ⟨#[c]⟩ := e4
  have e5 : (⟨#[92, c]⟩ : ByteArray).size = 2 := rfl
  obtain ⟨m, hm⟩ := hr.tab.max
  have HC : Hid (∀ W, Below w.heap.size w W ∨ Kept g w W → Calls Tryz.prog 122 #[.string ⟨#[36, 96, 34, 92]⟩, .string ⟨#[c]⟩] W fun e w' => e = .returned (.bool (escL.contains c)) ∧ W = w') := by
    intro W hW
    have K : Kept g w W := by
      rcases hW with h | h
      · exact Kept.of h
      · exact h
    have h := Tryz.strings_Contains ⟨#[36, 96, 34, 92]⟩ ⟨#[c]⟩ m W (by decide) (K.cell (Nat.ne_of_lt hr.far.2) hm)
    have e : Lib.contains (⟨#[36, 96, 34, 92]⟩ : ByteArray).data.toList (⟨#[c]⟩ : ByteArray).data.toList = escL.contains c := esc_has_u c
    rw [e] at h
    exact h.mono fun e w' ⟨h1, h2⟩ => ⟨h1, h2.symm⟩
  have HPT := Lib.hid (fun (x : ByteArray) (hx : x.size ≤ 2) W => put_plain (d := d) hp hf 2 x ⟨#[]⟩ false (by omega) W t)
  have HFW := Lib.hid (fun (x : ByteArray) (hx : x.size ≤ 2) => few_plain (k := 2) (t := x) (op := ⟨#[]⟩) (q := false) (m := t.size) hf (by omega) (by omega))
  obtain ⟨l2, hl2⟩ : ∃ l2, putF l (.mk 2 (if escL.contains c then [c] else [92, c]) [] false []) = l2 := ⟨_, rfl⟩
  rw [hl2]
  have HL2 := Lib.hid hl2
  have HE3 := Lib.hid e3
  have HG := Lib.hid (Nat.le_of_lt hr.row.lt)
  have HR := Lib.hid hr
  clear hr hp hf hs hs' e1 e2 e3 hm hl2
  go_enter Tryz.func101, Tryz.ntmps101
  go_wp2_with fail
  refine (H1.out _ HR.out).mono ?_; rintro e w2 ⟨rfl, rfl⟩
  go_wp2_with fail
  refine (H2.out _ HR.out).mono ?_; rintro e w2 ⟨rfl, rfl⟩
  go_wp2_with fail
  refine (H3.out _ HR.out).mono ?_; rintro e w2 ⟨rfl, rfl⟩
  go_wp2_with fail
  refine HT.out.mono ?_; rintro e w2 ⟨rfl, R2, K2⟩
  have HR2 := Lib.hid R2
  have HK2 := Lib.hid K2
  clear R2 K2
  go_wp2_with fail
  refine (HC.out _ (.inr HK2.out)).mono ?_; rintro e w3 ⟨rfl, rfl⟩
  obtain ⟨b, hb⟩ : ∃ b, escL.contains c = b := ⟨_, rfl⟩
  have HBB := Lib.hid hb
  rw [hb]
  clear hb
  cases b
  · go_wp2_with fail
    refine (HPT.out ⟨#[92, c]⟩ (Nat.le_refl _) _ HK2.out HR2.out).mono ?_; rintro e w3 ⟨rfl, hx⟩
    go_wp2_with fail
    go_end0
    have := wpost_of (u := t) (n := s.size) (W := w2) ⟨rfl, hx⟩ HK2.out HG.out rfl (HFW.out ⟨#[92, c]⟩ (Nat.le_refl _)) (by have := HE3.out; omega)
    rw [← HL2.out, HBB.out]
    exact this
  · go_wp2_with fail
    refine (HPT.out ⟨#[c]⟩ (by show 1 ≤ 2; omega) _ HK2.out HR2.out).mono ?_; rintro e w3 ⟨rfl, hx⟩
    go_wp2_with fail
    go_end0
    have := wpost_of (u := t) (n := s.size) (W := w2) ⟨rfl, hx⟩ HK2.out HG.out rfl (HFW.out ⟨#[c]⟩ (by show 1 ≤ 2; omega)) (by have := HE3.out; omega)
    rw [← HL2.out, HBB.out]
    exact this
set_option maxRecDepth 100000 in
set_option maxHeartbeats 4000000 in
theorem inner_dollar (f : Nat) (hD : DollarOK f) (d g : Nat) (v : Value) (s t : ByteArray) (l l2 : List PartT) (u : List UInt8) (w : World) (hr : Wr g v s d w) (hp : Wp g v l w) (hf : Few l s.size) (hs : s.data.toList = 36 :: t.data.toList) (h : dollarF f d true l s.data.toList = some (l2, u)) :
    Calls Tryz.prog 101 #[.pointer (some ⟨g, 0, none⟩), .string ⟨#[36, 96, 34, 92]⟩] w (WPost g d l2 u s.size w) := by
  have H1 := ask g v s d 36 true (yes_head hs)
  have HD := Lib.hid (hD d g v s true l l2 u w hr hp hf (by rw [hs]; rfl) h)
  have HR := Lib.hid hr
  clear hr hp hf hs h hD
  go_enter Tryz.func101, Tryz.ntmps101
  go_wp2_with fail
  refine (H1.out _ HR.out).mono ?_; rintro e w2 ⟨rfl, rfl⟩
  go_wp2_with fail
  refine HD.out.mono ?_; rintro e w2 ⟨s3, hs3, ⟨rfl, hx⟩, hx2⟩
  go_wp2_with fail
  go_end0
  exact ⟨s3, hs3, ⟨rfl, hx⟩, hx2⟩
theorem inner_ok (f : Nat) (hD : DollarOK f) (d g : Nat) (v : Value) (s : ByteArray) (l l2 : List PartT) (u : List UInt8) (w : World) (hr : Wr g v s d w) (hp : Wp g v l w) (hf : Few l s.size) (h : innerF (f + 1) d escL l s.data.toList = some (l2, u)) :
    Calls Tryz.prog 101 #[.pointer (some ⟨g, 0, none⟩), .string ⟨#[36, 96, 34, 92]⟩] w (WPost g d l2 u s.size w) := by
  rw [innerF.eq_def] at h
  simp only at h
  cases hs : s.data.toList with
  | nil => rw [hs] at h; cases h
  | cons c t0 =>
    obtain ⟨t, rfl⟩ := mk_of t0
    rw [hs] at h
    by_cases h36 : c = 36
    · subst h36
      exact inner_dollar f hD d g v s t l l2 u w hr hp hf hs (by rw [hs]; exact h)
    · by_cases h96 : c = 96
      · subst h96; cases h
      · by_cases h92 : c = 92
        · subst h92
          cases ht : t.data.toList with
          | nil => rw [ht] at h; cases h
          | cons b t1 =>
            obtain ⟨t2, rfl⟩ := mk_of t1
            rw [ht] at h hs
            have := Prod.mk.inj (Option.some.inj h)
            rw [← this.1, ← this.2]
            exact inner_esc d g v s t2 b l w hr hp hf hs
        · have h' : some (putF l (.mk 2 [c] [] false []), t.data.toList) = some (l2, u) := by
            rw [← h]
            split
            all_goals first | (rename_i e; cases e; done) | skip
            all_goals simp_all
          have := Prod.mk.inj (Option.some.inj h')
          rw [← this.1, ← this.2]
          exact inner_one d g v s t c l w hr hp hf hs h36 h96 h92
end Go.Proofs.YtkmpbkhlcapbgaaGreatDoor
namespace Go.Proofs.YtkmpbkhlcapbgaaGreatDoor
open Go Go.RowKit
def InnerOK (f : Nat) : Prop := ∀ (d g : Nat) (v : Value) (s : ByteArray) (l l2 : List PartT) (u : List UInt8) (w : World), Wr g v s d w → Wp g v l w → Few l s.size → innerF f d escL l s.data.toList = some (l2, u) →
  Calls Tryz.prog 101 #[.pointer (some ⟨g, 0, none⟩), .string ⟨#[36, 96, 34, 92]⟩] w (WPost g d l2 u s.size w)
theorem inner_all (f : Nat) (hP : ∀ f', f' < f → PartOK f') : InnerOK f := by
  intro d g v s l l2 u w hr hp hf h
  cases f with
  | zero => rw [innerF] at h; cases h
  | succ f => exact inner_ok f (dollar_all f fun f' hh => hP f' (by omega)) d g v s l l2 u w hr hp hf h
theorem quote_step (f d : Nat) (l : List PartT) (s : List UInt8) : quoteF (f + 1) d l s = if s.head? = some 34 then some (l, s.tail) else match innerF f d escL l s with
    | none => none
    | some (l2, s2) => quoteF f d l2 s2 := by rw [quoteF]; rfl
set_option maxRecDepth 100000 in
set_option maxHeartbeats 4000000 in
theorem quoted_ok (f : Nat) (hI : ∀ f', f' < f → InnerOK f') (d g : Nat) (v : Value) (s t : ByteArray) (l l2 : List PartT) (u : List UInt8) (w : World) (hr : Wr g v s d w) (hp : Wp g v l w) (hf : Few l s.size) (hs : s.data.toList = 34 :: t.data.toList)
    (h : quoteF f d (if t.data.toList.head? = some 34 then putF l (.mk 2 [] [] false []) else l) t.data.toList = some (l2, u)) :
    Calls Tryz.prog 73 #[.pointer (some ⟨g, 0, none⟩)] w (WPost g d l2 u s.size w) := by
  obtain ⟨e1, e2, e3⟩ := tail_of hs
  have HT := Lib.hid (take_at g 1 v s d w hr (by omega))
  rw [e1] at HT
  obtain ⟨b, hb⟩ : ∃ b, decide (t.data.toList.head? = some 34) = b := ⟨_, rfl⟩
  have H1 := ask g v t d 34 b hb
  obtain ⟨l1, hl1⟩ : ∃ l1, (if t.data.toList.head? = some 34 then putF l (.mk 2 [] [] false []) else l) = l1 := ⟨_, rfl⟩
  rw [hl1] at h
  have HL1 : Hid (l1 = if b = true then putF l (.mk 2 [] [] false []) else l) := by
    unfold Hid; rw [← hl1, ← hb]; simp
  have HPT := Lib.hid (fun W => put_plain (d := d) hp hf 2 ⟨#[]⟩ ⟨#[]⟩ false (Nat.zero_le _) W t)
  have HFW := Lib.hid (few_plain (k := 2) (t := ⟨#[]⟩) (op := ⟨#[]⟩) (q := false) (m := t.size) hf (by show 0 + _ ≤ _; omega) (by omega))
  have HF0 : Hid (Few l t.size) := hf.mono (by omega)
  have HE3 := Lib.hid e3
  have HG := Lib.hid (Nat.le_of_lt hr.row.lt)
  have HP := Lib.hid hp
  have HQ := Lib.hid h
  have HII := Lib.hid hI
  clear hr hp hf hs h e1 e2 e3 hb hl1 hI
  go_enter Tryz.func73, Tryz.ntmps73
  go_wp2_with fail
  refine HT.out.mono ?_; rintro e w1 ⟨rfl, R1, K1⟩
  have HR := Lib.hid R1
  have HK := Lib.hid K1
  clear R1 K1
  go_wp2_with fail
  refine (H1.out _ HR.out).mono ?_; rintro e w2 ⟨rfl, rfl⟩
  cases b
  · have H0 : Hid (Wr g v t d w1 ∧ Wp g v l1 w1 ∧ Few l1 t.size ∧ Below g w w1 ∧ quoteF f d l1 t.data.toList = some (l2, u)) := by
      have hl := HL1.out
      simp only [Bool.false_eq_true, if_false] at hl
      refine ⟨HR.out, ?_, ?_, HK.out.below HG.out, HQ.out⟩
      · rw [hl]; exact HP.out.kept HK.out
      · rw [hl]; exact HF0.out
    go_wp2_with fail
    go_loopg [] f (fun gk wx => ∃ (v' : Value) (s' : ByteArray) (l' : List PartT), Hid (Wr g v' s' d wx ∧ Wp g v' l' wx ∧ Few l' s'.size ∧ Below g w wx ∧ quoteF gk d l' s'.data.toList = some (l2, u)) ∧ Hid (gk ≤ f) ∧ Hid (s'.size < s.size))
    case atStart => exact ⟨_, t, l1, H0.out, Nat.le_refl _, by have := HE3.out; unfold Hid; omega⟩
    case round =>
      obtain ⟨v', s', l', HH, HGK, HS⟩ := hrel
      clear H0
      cases gk with
      | zero => have := HH.out.2.2.2.2; rw [quoteF] at this; cases this
      | succ gk =>
        obtain ⟨R1, P1, F1, B1, U1⟩ := HH.out
        rw [quote_step] at U1
        by_cases h1 : s'.data.toList.head? = some 34
        · rw [if_pos h1] at U1
          have HH1 := ask g v' s' d 34 true (decide_eq_true h1)
          have hpos : 1 ≤ s'.size := by
            rw [size_len]
            cases h : s'.data.toList with
            | nil => rw [h] at h1; cases h1
            | cons a t => simp
          have HT1 := Lib.hid (take_at g 1 v' s' d wr R1 hpos)
          have hl' : l' = l2 := (Prod.mk.inj (Option.some.inj U1)).1
          have hu' : (s'.extract 1 s'.size).data.toList = u := by
            have := (Prod.mk.inj (Option.some.inj U1)).2
            rw [Lib.extract_to_end, List.drop_one, this]
          have hus : (s'.extract 1 s'.size).size < s'.size := by rw [ByteArray.size_extract]; omega
          subst hl'
          have HU2 := Lib.hid hu'
          have HUS := Lib.hid hus
          have HP1 := Lib.hid P1
          have HF1 := Lib.hid F1
          have HB1 := Lib.hid B1
          have HR1 := Lib.hid R1
          clear R1 P1 F1 B1 U1 HH h1 hu' hus
          go_wp2_with fail
          refine (HH1.out _ HR1.out).mono ?_; rintro e w3 ⟨rfl, rfl⟩
          go_wp2_with fail
          refine HT1.out.mono ?_; rintro e w4 ⟨rfl, R4, K4⟩
          go_wp2_with fail
          go_end0
          exact ⟨_, HU2.out, ⟨rfl, v', R4, HP1.out.kept K4, HB1.out.trans (K4.below (Nat.le_of_lt HR1.out.row.lt))⟩, HF1.out.mono (Nat.le_of_lt HUS.out), by have := HUS.out; have := HS.out; omega⟩
        · rw [if_neg h1] at U1
          have HH1 := ask g v' s' d 34 false (decide_eq_false h1)
          obtain ⟨l3, u3, hi3, hq3⟩ : ∃ l3 u3, innerF gk d escL l' s'.data.toList = some (l3, u3) ∧ quoteF gk d l3 u3 = some (l2, u) := by
            cases hw : innerF gk d escL l' s'.data.toList with
            | none => rw [hw] at U1; cases U1
            | some x => rw [hw] at U1; exact ⟨x.1, x.2, rfl, U1⟩
          have HC := Lib.hid (HII.out gk (by have := HGK.out; omega) d g v' s' l' l3 u3 wr R1 P1 F1 hi3)
          have HB1 := Lib.hid B1
          have HN := Lib.hid hq3
          have HR1 := Lib.hid R1
          clear R1 P1 F1 B1 U1 HH h1 hi3 hq3
          go_wp2_with fail
          refine (HH1.out _ HR1.out).mono ?_; rintro e w3 ⟨rfl, rfl⟩
          go_wp2_with fail
          refine HC.out.mono ?_; rintro e w4 ⟨s4, hs4, ⟨rfl, v4, R4, P4, B4⟩, F4, L4⟩
          go_wp2_with fail
          go_roundg gk
          case measure => omega
          case rel => exact ⟨v4, s4, l3, ⟨R4, P4, F4, HB1.out.trans B4, by rw [hs4]; exact HN.out⟩, by have := HGK.out; unfold Hid; omega, by have := HS.out; unfold Hid; omega⟩
  · go_wp2_with fail
    refine (HPT.out _ HK.out HR.out).mono ?_; rintro e w3 ⟨rfl, v3, R3, P3, B3⟩
    have H0 : Hid (Wr g v3 t d w3 ∧ Wp g v3 l1 w3 ∧ Few l1 t.size ∧ Below g w w3 ∧ quoteF f d l1 t.data.toList = some (l2, u)) := by
      have hl := HL1.out
      simp only [if_true] at hl
      refine ⟨R3, ?_, ?_, (HK.out.below HG.out).trans B3, HQ.out⟩
      · rw [hl]; exact P3
      · rw [hl]; exact HFW.out
    clear R3 P3 B3
    go_wp2_with fail
    go_loopg [] f (fun gk wx => ∃ (v' : Value) (s' : ByteArray) (l' : List PartT), Hid (Wr g v' s' d wx ∧ Wp g v' l' wx ∧ Few l' s'.size ∧ Below g w wx ∧ quoteF gk d l' s'.data.toList = some (l2, u)) ∧ Hid (gk ≤ f) ∧ Hid (s'.size < s.size))
    case atStart => exact ⟨_, t, l1, H0.out, Nat.le_refl _, by have := HE3.out; unfold Hid; omega⟩
    case round =>
      obtain ⟨v', s', l', HH, HGK, HS⟩ := hrel
      clear H0
      cases gk with
      | zero => have := HH.out.2.2.2.2; rw [quoteF] at this; cases this
      | succ gk =>
        obtain ⟨R1, P1, F1, B1, U1⟩ := HH.out
        rw [quote_step] at U1
        by_cases h1 : s'.data.toList.head? = some 34
        · rw [if_pos h1] at U1
          have HH1 := ask g v' s' d 34 true (decide_eq_true h1)
          have hpos : 1 ≤ s'.size := by
            rw [size_len]
            cases h : s'.data.toList with
            | nil => rw [h] at h1; cases h1
            | cons a t => simp
          have HT1 := Lib.hid (take_at g 1 v' s' d wr R1 hpos)
          have hl' : l' = l2 := (Prod.mk.inj (Option.some.inj U1)).1
          have hu' : (s'.extract 1 s'.size).data.toList = u := by
            have := (Prod.mk.inj (Option.some.inj U1)).2
            rw [Lib.extract_to_end, List.drop_one, this]
          have hus : (s'.extract 1 s'.size).size < s'.size := by rw [ByteArray.size_extract]; omega
          subst hl'
          have HU2 := Lib.hid hu'
          have HUS := Lib.hid hus
          have HP1 := Lib.hid P1
          have HF1 := Lib.hid F1
          have HB1 := Lib.hid B1
          have HR1 := Lib.hid R1
          clear R1 P1 F1 B1 U1 HH h1 hu' hus
          go_wp2_with fail
          refine (HH1.out _ HR1.out).mono ?_; rintro e w3 ⟨rfl, rfl⟩
          go_wp2_with fail
          refine HT1.out.mono ?_; rintro e w4 ⟨rfl, R4, K4⟩
          go_wp2_with fail
          go_end0
          exact ⟨_, HU2.out, ⟨rfl, v', R4, HP1.out.kept K4, HB1.out.trans (K4.below (Nat.le_of_lt HR1.out.row.lt))⟩, HF1.out.mono (Nat.le_of_lt HUS.out), by have := HUS.out; have := HS.out; omega⟩
        · rw [if_neg h1] at U1
          have HH1 := ask g v' s' d 34 false (decide_eq_false h1)
          obtain ⟨l3, u3, hi3, hq3⟩ : ∃ l3 u3, innerF gk d escL l' s'.data.toList = some (l3, u3) ∧ quoteF gk d l3 u3 = some (l2, u) := by
            cases hw : innerF gk d escL l' s'.data.toList with
            | none => rw [hw] at U1; cases U1
            | some x => rw [hw] at U1; exact ⟨x.1, x.2, rfl, U1⟩
          have HC := Lib.hid (HII.out gk (by have := HGK.out; omega) d g v' s' l' l3 u3 wr R1 P1 F1 hi3)
          have HB1 := Lib.hid B1
          have HN := Lib.hid hq3
          have HR1 := Lib.hid R1
          clear R1 P1 F1 B1 U1 HH h1 hi3 hq3
          go_wp2_with fail
          refine (HH1.out _ HR1.out).mono ?_; rintro e w3 ⟨rfl, rfl⟩
          go_wp2_with fail
          refine HC.out.mono ?_; rintro e w4 ⟨s4, hs4, ⟨rfl, v4, R4, P4, B4⟩, F4, L4⟩
          go_wp2_with fail
          go_roundg gk
          case measure => omega
          case rel => exact ⟨v4, s4, l3, ⟨R4, P4, F4, HB1.out.trans B4, by rw [hs4]; exact HN.out⟩, by have := HGK.out; unfold Hid; omega, by have := HS.out; unfold Hid; omega⟩
end Go.Proofs.YtkmpbkhlcapbgaaGreatDoor
