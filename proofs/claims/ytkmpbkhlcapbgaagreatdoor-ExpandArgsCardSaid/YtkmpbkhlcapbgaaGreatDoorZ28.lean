/-
  DERIVED. The walks of word's quoted and part.
-/
import Derived.Test.YtkmpbkhlcapbgaaGreatDoorZ27
namespace Go.Proofs.YtkmpbkhlcapbgaaGreatDoor
open Go Go.RowKit
def InnerOK (f : Nat) : Prop := ∀ (d g : Nat) (v : Value) (s : ByteArray) (l l2 : List PartT) (u : List UInt8) (w : World), Wr g v s d w → Wp g v l w → Few l s.size → innerF f d escL l s.data.toList = some (l2, u) →
  Calls Tryz.prog 101 #[.pointer (some ⟨g, 0, none⟩), .string ⟨#[36, 96, 34, 92]⟩] w (WPost g d l2 u s.size w)
theorem inner_all (f : Nat) (hP : ∀ f', f' < f → PartOK f') : InnerOK f := by
  intro d g v s l l2 u w hr hp hf h
  cases f with
  | zero => rw [innerF] at h; cases h
  | succ f => exact inner_ok f (dollar_all f fun f' hh => hP f' (by omega)) d g v s l l2 u w hr hp hf h
theorem quote_step (f d : Nat) (l : List PartT) (s : List UInt8) : quoteF (f + 1) d l s = if s.head? = some 34 then some (l, s.tail) else match innerF f d escL l s with
    | none => none
    | some (l2, s2) => quoteF f d l2 s2 := by rw [quoteF]; rfl
set_option maxRecDepth 100000 in
set_option maxHeartbeats 4000000 in
theorem quoted_ok (f : Nat) (hI : ∀ f', f' < f → InnerOK f') (d g : Nat) (v : Value) (s t : ByteArray) (l l2 : List PartT) (u : List UInt8) (w : World) (hr : Wr g v s d w) (hp : Wp g v l w) (hf : Few l s.size) (hs : s.data.toList = 34 :: t.data.toList)
    (h : quoteF f d (if t.data.toList.head? = some 34 then putF l (.mk 2 [] [] false []) else l) t.data.toList = some (l2, u)) :
    Calls Tryz.prog 73 #[.pointer (some ⟨g, 0, none⟩)] w (WPost g d l2 u s.size w) := by
  obtain ⟨e1, e2, e3⟩ := tail_of hs
  have HT := Lib.hid (take_at g 1 v s d w hr (by omega))
  rw [e1] at HT
  obtain ⟨b, hb⟩ : ∃ b, decide (t.data.toList.head? = some 34) = b := ⟨_, rfl⟩
  have H1 := ask g v t d 34 b hb
  obtain ⟨l1, hl1⟩ : ∃ l1, (if t.data.toList.head? = some 34 then putF l (.mk 2 [] [] false []) else l) = l1 := ⟨_, rfl⟩
  rw [hl1] at h
  have HL1 : Hid (l1 = if b = true then putF l (.mk 2 [] [] false []) else l) := by
    unfold Hid; rw [← hl1, ← hb]; simp
  have HPT := Lib.hid (fun W => put_plain (d := d) hp hf 2 ⟨#[]⟩ ⟨#[]⟩ false (Nat.zero_le _) W t)
  have HFW := Lib.hid (few_plain (k := 2) (t := ⟨#[]⟩) (op := ⟨#[]⟩) (q := false) (m := t.size) hf (by show 0 + _ ≤ _; omega) (by omega))
  have HF0 : Hid (Few l t.size) := hf.mono (by omega)
  have HE3 := Lib.hid e3
  have HG := Lib.hid (Nat.le_of_lt hr.row.lt)
  have HP := Lib.hid hp
  have HQ := Lib.hid h
  have HII := Lib.hid hI
  clear hr hp hf hs h e1 e2 e3 hb hl1 hI
  go_enter Tryz.func73, Tryz.ntmps73
  go_wp2_with fail
  refine HT.out.mono ?_; rintro e w1 ⟨rfl, R1, K1⟩
  have HR := Lib.hid R1
  have HK := Lib.hid K1
  clear R1 K1
  go_wp2_with fail
  refine (H1.out _ HR.out).mono ?_; rintro e w2 ⟨rfl, rfl⟩
  cases b
  · have H0 : Hid (Wr g v t d w1 ∧ Wp g v l1 w1 ∧ Few l1 t.size ∧ Below g w w1 ∧ quoteF f d l1 t.data.toList = some (l2, u)) := by
      have hl := HL1.out
      simp only [Bool.false_eq_true, if_false] at hl
      refine ⟨HR.out, ?_, ?_, HK.out.below HG.out, HQ.out⟩
      · rw [hl]; exact HP.out.kept HK.out
      · rw [hl]; exact HF0.out
    go_wp2_with fail
    go_loopg [] f (fun gk wx => ∃ (v' : Value) (s' : ByteArray) (l' : List PartT), Hid (Wr g v' s' d wx ∧ Wp g v' l' wx ∧ Few l' s'.size ∧ Below g w wx ∧ quoteF gk d l' s'.data.toList = some (l2, u)) ∧ Hid (gk ≤ f) ∧ Hid (s'.size < s.size))
    case atStart => exact ⟨_, t, l1, H0.out, Nat.le_refl _, by have := HE3.out; unfold Hid; omega⟩
    case round =>
      obtain ⟨v', s', l', HH, HGK, HS⟩ := hrel
      clear H0
      cases gk with
      | zero => have := HH.out.2.2.2.2; rw [quoteF] at this; cases this
      | succ gk =>
        obtain ⟨R1, P1, F1, B1, U1⟩ := HH.out
        rw [quote_step] at U1
        by_cases h1 : s'.data.toList.head? = some 34
        · rw [if_pos h1] at U1
          have HH1 := ask g v' s' d 34 true (decide_eq_true h1)
          have hpos : 1 ≤ s'.size := by
            rw [size_len]
            cases h : s'.data.toList with
            | nil => rw [h] at h1; cases h1
            | cons a t => simp
          have HT1 := Lib.hid (take_at g 1 v' s' d wr R1 hpos)
          have hl' : l' = l2 := (Prod.mk.inj (Option.some.inj U1)).1
          have hu' : (s'.extract 1 s'.size).data.toList = u := by
            have := (Prod.mk.inj (Option.some.inj U1)).2
            rw [Lib.extract_to_end, List.drop_one, this]
          have hus : (s'.extract 1 s'.size).size < s'.size := by rw [ByteArray.size_extract]; omega
          subst hl'
          have HU2 := Lib.hid hu'
          have HUS := Lib.hid hus
          have HP1 := Lib.hid P1
          have HF1 := Lib.hid F1
          have HB1 := Lib.hid B1
          have HR1 := Lib.hid R1
          clear R1 P1 F1 B1 U1 HH h1 hu' hus
          go_wp2_with fail
          refine (HH1.out _ HR1.out).mono ?_; rintro e w3 ⟨rfl, rfl⟩
          go_wp2_with fail
          refine HT1.out.mono ?_; rintro e w4 ⟨rfl, R4, K4⟩
          go_wp2_with fail
          go_end0
          exact ⟨_, HU2.out, ⟨rfl, v', R4, HP1.out.kept K4, HB1.out.trans (K4.below (Nat.le_of_lt HR1.out.row.lt))⟩, HF1.out.mono (Nat.le_of_lt HUS.out), by have := HUS.out; have := HS.out; omega⟩
        · rw [if_neg h1] at U1
          have HH1 := ask g v' s' d 34 false (decide_eq_false h1)
          obtain ⟨l3, u3, hi3, hq3⟩ : ∃ l3 u3, innerF gk d escL l' s'.data.toList = some (l3, u3) ∧ quoteF gk d l3 u3 = some (l2, u) := by
            cases hw : innerF gk d escL l' s'.data.toList with
            | none => rw [hw] at U1; cases U1
            | some x => rw [hw] at U1; exact ⟨x.1, x.2, rfl, U1⟩
          have HC := Lib.hid (HII.out gk (by have := HGK.out; omega) d g v' s' l' l3 u3 wr R1 P1 F1 hi3)
          have HB1 := Lib.hid B1
          have HN := Lib.hid hq3
          have HR1 := Lib.hid R1
          clear R1 P1 F1 B1 U1 HH h1 hi3 hq3
          go_wp2_with fail
          refine (HH1.out _ HR1.out).mono ?_; rintro e w3 ⟨rfl, rfl⟩
          go_wp2_with fail
          refine HC.out.mono ?_; rintro e w4 ⟨s4, hs4, ⟨rfl, v4, R4, P4, B4⟩, F4, L4⟩
          go_wp2_with fail
          go_roundg gk
          case measure => omega
          case rel => exact ⟨v4, s4, l3, ⟨R4, P4, F4, HB1.out.trans B4, by rw [hs4]; exact HN.out⟩, by have := HGK.out; unfold Hid; omega, by have := HS.out; unfold Hid; omega⟩
  · go_wp2_with fail
    refine (HPT.out _ HK.out HR.out).mono ?_; rintro e w3 ⟨rfl, v3, R3, P3, B3⟩
    have H0 : Hid (Wr g v3 t d w3 ∧ Wp g v3 l1 w3 ∧ Few l1 t.size ∧ Below g w w3 ∧ quoteF f d l1 t.data.toList = some (l2, u)) := by
      have hl := HL1.out
      simp only [if_true] at hl
      refine ⟨R3, ?_, ?_, (HK.out.below HG.out).trans B3, HQ.out⟩
      · rw [hl]; exact P3
      · rw [hl]; exact HFW.out
    clear R3 P3 B3
    go_wp2_with fail
    go_loopg [] f (fun gk wx => ∃ (v' : Value) (s' : ByteArray) (l' : List PartT), Hid (Wr g v' s' d wx ∧ Wp g v' l' wx ∧ Few l' s'.size ∧ Below g w wx ∧ quoteF gk d l' s'.data.toList = some (l2, u)) ∧ Hid (gk ≤ f) ∧ Hid (s'.size < s.size))
    case atStart => exact ⟨_, t, l1, H0.out, Nat.le_refl _, by have := HE3.out; unfold Hid; omega⟩
    case round =>
      obtain ⟨v', s', l', HH, HGK, HS⟩ := hrel
      clear H0
      cases gk with
      | zero => have := HH.out.2.2.2.2; rw [quoteF] at this; cases this
      | succ gk =>
        obtain ⟨R1, P1, F1, B1, U1⟩ := HH.out
        rw [quote_step] at U1
        by_cases h1 : s'.data.toList.head? = some 34
        · rw [if_pos h1] at U1
          have HH1 := ask g v' s' d 34 true (decide_eq_true h1)
          have hpos : 1 ≤ s'.size := by
            rw [size_len]
            cases h : s'.data.toList with
            | nil => rw [h] at h1; cases h1
            | cons a t => simp
          have HT1 := Lib.hid (take_at g 1 v' s' d wr R1 hpos)
          have hl' : l' = l2 := (Prod.mk.inj (Option.some.inj U1)).1
          have hu' : (s'.extract 1 s'.size).data.toList = u := by
            have := (Prod.mk.inj (Option.some.inj U1)).2
            rw [Lib.extract_to_end, List.drop_one, this]
          have hus : (s'.extract 1 s'.size).size < s'.size := by rw [ByteArray.size_extract]; omega
          subst hl'
          have HU2 := Lib.hid hu'
          have HUS := Lib.hid hus
          have HP1 := Lib.hid P1
          have HF1 := Lib.hid F1
          have HB1 := Lib.hid B1
          have HR1 := Lib.hid R1
          clear R1 P1 F1 B1 U1 HH h1 hu' hus
          go_wp2_with fail
          refine (HH1.out _ HR1.out).mono ?_; rintro e w3 ⟨rfl, rfl⟩
          go_wp2_with fail
          refine HT1.out.mono ?_; rintro e w4 ⟨rfl, R4, K4⟩
          go_wp2_with fail
          go_end0
          exact ⟨_, HU2.out, ⟨rfl, v', R4, HP1.out.kept K4, HB1.out.trans (K4.below (Nat.le_of_lt HR1.out.row.lt))⟩, HF1.out.mono (Nat.le_of_lt HUS.out), by have := HUS.out; have := HS.out; omega⟩
        · rw [if_neg h1] at U1
          have HH1 := ask g v' s' d 34 false (decide_eq_false h1)
          obtain ⟨l3, u3, hi3, hq3⟩ : ∃ l3 u3, innerF gk d escL l' s'.data.toList = some (l3, u3) ∧ quoteF gk d l3 u3 = some (l2, u) := by
            cases hw : innerF gk d escL l' s'.data.toList with
            | none => rw [hw] at U1; cases U1
            | some x => rw [hw] at U1; exact ⟨x.1, x.2, rfl, U1⟩
          have HC := Lib.hid (HII.out gk (by have := HGK.out; omega) d g v' s' l' l3 u3 wr R1 P1 F1 hi3)
          have HB1 := Lib.hid B1
          have HN := Lib.hid hq3
          have HR1 := Lib.hid R1
          clear R1 P1 F1 B1 U1 HH h1 hi3 hq3
          go_wp2_with fail
          refine (HH1.out _ HR1.out).mono ?_; rintro e w3 ⟨rfl, rfl⟩
          go_wp2_with fail
          refine HC.out.mono ?_; rintro e w4 ⟨s4, hs4, ⟨rfl, v4, R4, P4, B4⟩, F4, L4⟩
          go_wp2_with fail
          go_roundg gk
          case measure => omega
          case rel => exact ⟨v4, s4, l3, ⟨R4, P4, F4, HB1.out.trans B4, by rw [hs4]; exact HN.out⟩, by have := HGK.out; unfold Hid; omega, by have := HS.out; unfold Hid; omega⟩
end Go.Proofs.YtkmpbkhlcapbgaaGreatDoor
