/-
  DERIVED. The walk of word's part. The walks of word's Parse: its call, read, Parse itself: what the plain function has for a raw word. Map literals with int keys: a fresh block that holds a written list of keys and values; what an insert and a look-up do to it. No program in sight.
-/
import Derived.Test.YtkmpbkhlcapbgaaGreatDoorZ15
import Derived.Defers
import Derived.Recover
import Derived.Laws.Pointers
import Derived.RegionTactic
import Derived.WalkKit
import Derived.Maps.Own
namespace Go.Proofs.YtkmpbkhlcapbgaaGreatDoor
open Go Go.RowKit
set_option maxRecDepth 100000 in
set_option maxHeartbeats 4000000 in
theorem part_one (d g : Nat) (v : Value) (s t : ByteArray) (c : UInt8) (l : List PartT) (w : World) (hr : Wr g v s d w) (hp : Wp g v l w) (hf : Few l s.size) (hs : s.data.toList = c :: t.data.toList) (h1 : c ≠ 92) (h2 : c ≠ 39) (h3 : c ≠ 34) (h4 : c ≠ 36) (h5 : c ≠ 96) :
    Calls Tryz.prog 46 #[.pointer (some ⟨g, 0, none⟩)] w (WPost g d (putF l (.mk 1 [c] [] false [])) t.data.toList s.size w) := by
  obtain ⟨e1, e2, e3⟩ := tail_of hs
  have H1 := ask g v s d 92 false (no_head hs h1)
  have H2 := ask g v s d 39 false (no_head hs h2)
  have H3 := ask g v s d 34 false (no_head hs h3)
  have H4 := ask g v s d 36 false (no_head hs h4)
  have H5 := ask g v s d 96 false (no_head hs h5)
  have HT := Lib.hid (fun W (R : Wr g v s d W) => take_at g 1 v s d W R (by omega))
  rw [e1, e2] at HT
  have HPT := Lib.hid (fun W => put_plain (d := d) hp hf 1 ⟨#[c]⟩ ⟨#[]⟩ false (by rw [e3]; show 1 ≤ _; omega) W t)
  have HFW := Lib.hid (few_plain (k := 1) (t := ⟨#[c]⟩) (op := ⟨#[]⟩) (q := false) (m := t.size) hf (by rw [e3]; show 1 + _ ≤ _; omega) (by omega))
  have HE3 := Lib.hid e3
  have HG := Lib.hid (Nat.le_of_lt hr.row.lt)
  have HR := Lib.hid hr
  have hRd := hr.drew
  have hKd : Hid (Kept g w w.drew) := Kept.of (Below.refl _ _).drew
  clear hr hp hf hs h1 h2 h3 h4 h5 e1 e2 e3
  go_enter Tryz.func46, Tryz.ntmps46
  go_wp2_with fail
  refine (H1.out _ HR.out).mono ?_; rintro e w2 ⟨rfl, rfl⟩
  go_wp2_with fail
  refine (H2.out _ HR.out).mono ?_; rintro e w2 ⟨rfl, rfl⟩
  go_wp2_with fail
  refine (H3.out _ HR.out).mono ?_; rintro e w2 ⟨rfl, rfl⟩
  go_wp2_with fail
  refine (H4.out _ HR.out).mono ?_; rintro e w2 ⟨rfl, rfl⟩
  go_wp2_with fail
  refine (H5.out _ HR.out).mono ?_; rintro e w2 ⟨rfl, rfl⟩
  go_wp2_with fail
  go_region_with (first
    | (go_at_call 44; refine (HT.out _ (by assumption)).mono ?_; rintro e wn ⟨rfl, Rn, Kn⟩)
    | (go_at_call 45; refine (HPT.out _ (hKd.out.trans (by assumption)) (by assumption)).mono ?_; rintro e wm ⟨rfl, hx⟩))
  all_goals
    go_end0
    exact wpost_of (u := t) (n := s.size) (W := _) ⟨rfl, hx⟩ (hKd.out.trans (by assumption)) HG.out rfl HFW.out (by have := HE3.out; omega)
set_option maxRecDepth 100000 in
set_option maxHeartbeats 4000000 in
theorem part_esc (d g : Nat) (v : Value) (s t : ByteArray) (c : UInt8) (l : List PartT) (w : World) (hr : Wr g v s d w) (hp : Wp g v l w) (hf : Few l s.size) (hs : s.data.toList = 92 :: c :: t.data.toList) :
    Calls Tryz.prog 46 #[.pointer (some ⟨g, 0, none⟩)] w (WPost g d (putF l (.mk 2 [c] [] false [])) t.data.toList s.size w) := by
  have e1 : s.extract 2 s.size = t := by rw [← Lib.mk_data (ByteArray.extract _ 2 _), ← Lib.mk_data t, Lib.extract_to_end, hs]; rfl
  have e2 : s.extract 0 2 = ⟨#[92, c]⟩ := by rw [← Lib.mk_data (ByteArray.extract _ 0 _), Lib.extract_data, hs]; rfl
  have e3 : s.size = t.size + 2 := by rw [size_len, hs, size_len]; rfl
  have hs' : s.data.toList = 92 :: (⟨(c :: t.data.toList).toArray⟩ : ByteArray).data.toList := by rw [hs]
  have H1 := ask g v s d 92 true (yes_head hs')
  have HT := Lib.hid (fun W (R : Wr g v s d W) => take_at g 2 v s d W R (by omega))
  rw [e1, e2] at HT
  have e4 : (⟨#[92, c]⟩ : ByteArray).extract 1 2 = ⟨#[c]⟩ := by rw [← Lib.mk_data (ByteArray.extract _ 1 _), Lib.extract_data]; rfl
  have e4' : (⟨#[92, c]⟩ : ByteArray).extract 1 (⟨#[92, c]⟩ : ByteArray).size = ⟨#[c]⟩ := e4
  have e5 : (⟨#[92, c]⟩ : ByteArray).size = 2 := rfl
  have HPT := Lib.hid (fun W => put_plain (d := d) hp hf 2 ⟨#[c]⟩ ⟨#[]⟩ false (by rw [e3]; show 1 ≤ _; omega) W t)
  have HFW := Lib.hid (few_plain (k := 2) (t := ⟨#[c]⟩) (op := ⟨#[]⟩) (q := false) (m := t.size) hf (by rw [e3]; show 1 + _ ≤ _; omega) (by omega))
  have HE3 := Lib.hid e3
  have HG := Lib.hid (Nat.le_of_lt hr.row.lt)
  have HR := Lib.hid hr
  have hRd := hr.drew
  have hKd : Hid (Kept g w w.drew) := Kept.of (Below.refl _ _).drew
  clear hr hp hf hs hs' e1 e2 e3
  go_enter Tryz.func46, Tryz.ntmps46
  go_wp2_with fail
  refine (H1.out _ HR.out).mono ?_; rintro e w2 ⟨rfl, rfl⟩
  go_wp2_with fail
  go_region_with (first
    | (go_at_call 44; refine (HT.out _ (by assumption)).mono ?_; rintro e wn ⟨rfl, Rn, Kn⟩)
    | (go_at_call 45; refine (HPT.out _ (hKd.out.trans (by assumption)) (by assumption)).mono ?_; rintro e wm ⟨rfl, hx⟩))
  all_goals
    go_end0
    exact wpost_of (u := t) (n := s.size) (W := _) ⟨rfl, hx⟩ (hKd.out.trans (by assumption)) HG.out rfl HFW.out (by have := HE3.out; omega)
set_option maxRecDepth 100000 in
set_option maxHeartbeats 4000000 in
theorem part_sq (d g : Nat) (v : Value) (s t x u : ByteArray) (l : List PartT) (w : World) (hr : Wr g v s d w) (hp : Wp g v l w) (hf : Few l s.size) (hs : s.data.toList = 39 :: t.data.toList) (hm : (39 : UInt8) ∈ t.data.toList) (hx : x.data.toList = t.data.toList.takeWhile (· != 39)) (hu : u.data.toList = (t.data.toList.dropWhile (· != 39)).tail) :
    Calls Tryz.prog 46 #[.pointer (some ⟨g, 0, none⟩)] w (WPost g d (putF l (.mk 2 x.data.toList [] false [])) u.data.toList s.size w) := by
  obtain ⟨e1, e2, e3⟩ := tail_of hs
  have H1 := ask g v s d 92 false (no_head hs (by decide))
  have H2 := ask g v s d 39 true (yes_head hs)
  have HT := Lib.hid (take_at g 1 v s d w hr (by omega))
  rw [e1] at HT
  have HU := Lib.hid (fun W (R : Wr g v t d W) => upto_at g 39 v t d x u W R hm hx hu)
  have hlen : x.size + u.size ≤ t.size := by
    have h1 := while_len (· != (39 : UInt8)) t.data.toList
    rw [size_len, size_len, size_len, hx, hu, List.length_tail]; omega
  have HPT := Lib.hid (fun W => put_plain (d := d) hp hf 2 x ⟨#[]⟩ false (by rw [e3]; omega) W u)
  have HFW := Lib.hid (few_plain (k := 2) (t := x) (op := ⟨#[]⟩) (q := false) (m := u.size) hf (by rw [e3]; omega) (by omega))
  have HE3 : Hid (u.size < s.size) := by unfold Hid; omega
  have HG := Lib.hid (Nat.le_of_lt hr.row.lt)
  have HR := Lib.hid hr
  clear hr hp hf hs e1 e2 e3 hm hx hu hlen
  go_enter Tryz.func46, Tryz.ntmps46
  go_wp2_with fail
  refine (H1.out _ HR.out).mono ?_; rintro e w2 ⟨rfl, rfl⟩
  go_wp2_with fail
  refine (H2.out _ HR.out).mono ?_; rintro e w2 ⟨rfl, rfl⟩
  go_wp2_with fail
  refine HT.out.mono ?_; rintro e w2 ⟨rfl, R2, K2⟩
  have hRd := R2.drew
  have hKd : Hid (Kept g w w2.drew) := K2.trans (Kept.of (Below.refl _ _).drew)
  clear R2 K2
  go_wp2_with fail
  go_region_with (first
    | (go_at_call 72; refine (HU.out _ (by assumption)).mono ?_; rintro e wn ⟨rfl, Rn, Kn⟩)
    | (go_at_call 45; refine (HPT.out _ (hKd.out.trans (by assumption)) (by assumption)).mono ?_; rintro e wm ⟨rfl, hx⟩))
  all_goals
    go_end0
    exact wpost_of (u := u) (n := s.size) (W := _) ⟨rfl, hx⟩ (hKd.out.trans (by assumption)) HG.out rfl HFW.out HE3.out
set_option maxRecDepth 100000 in
set_option maxHeartbeats 4000000 in
theorem part_dq (f : Nat) (hI : ∀ f', f' < f → InnerOK f') (d g : Nat) (v : Value) (s t : ByteArray) (l l2 : List PartT) (u : List UInt8) (w : World) (hr : Wr g v s d w) (hp : Wp g v l w) (hf : Few l s.size) (hs : s.data.toList = 34 :: t.data.toList)
    (h : quoteF f d (if t.data.toList.head? = some 34 then putF l (.mk 2 [] [] false []) else l) t.data.toList = some (l2, u)) :
    Calls Tryz.prog 46 #[.pointer (some ⟨g, 0, none⟩)] w (WPost g d l2 u s.size w) := by
  have H1 := ask g v s d 92 false (no_head hs (by decide))
  have H2 := ask g v s d 39 false (no_head hs (by decide))
  have H3 := ask g v s d 34 true (yes_head hs)
  have HQ := Lib.hid (quoted_ok f hI d g v s t l l2 u w hr hp hf hs h)
  have HR := Lib.hid hr
  clear hr hp hf hs h hI
  go_enter Tryz.func46, Tryz.ntmps46
  go_wp2_with fail
  refine (H1.out _ HR.out).mono ?_; rintro e w2 ⟨rfl, rfl⟩
  go_wp2_with fail
  refine (H2.out _ HR.out).mono ?_; rintro e w2 ⟨rfl, rfl⟩
  go_wp2_with fail
  refine (H3.out _ HR.out).mono ?_; rintro e w2 ⟨rfl, rfl⟩
  go_wp2_with fail
  refine HQ.out.mono ?_; rintro e w2 ⟨s3, hs3, ⟨rfl, hx⟩, hx2⟩
  go_wp2_with fail
  go_end0
  exact ⟨s3, hs3, ⟨rfl, hx⟩, hx2⟩
set_option maxRecDepth 100000 in
set_option maxHeartbeats 4000000 in
theorem part_dollar (f : Nat) (hD : DollarOK f) (d g : Nat) (v : Value) (s t : ByteArray) (l l2 : List PartT) (u : List UInt8) (w : World) (hr : Wr g v s d w) (hp : Wp g v l w) (hf : Few l s.size) (hs : s.data.toList = 36 :: t.data.toList) (h : dollarF f d false l s.data.toList = some (l2, u)) :
    Calls Tryz.prog 46 #[.pointer (some ⟨g, 0, none⟩)] w (WPost g d l2 u s.size w) := by
  have H1 := ask g v s d 92 false (no_head hs (by decide))
  have H2 := ask g v s d 39 false (no_head hs (by decide))
  have H3 := ask g v s d 34 false (no_head hs (by decide))
  have H4 := ask g v s d 36 true (yes_head hs)
  have HQ := Lib.hid (hD d g v s false l l2 u w hr hp hf (by rw [hs]; rfl) h)
  have HR := Lib.hid hr
  clear hr hp hf hs h hD
  go_enter Tryz.func46, Tryz.ntmps46
  go_wp2_with fail
  refine (H1.out _ HR.out).mono ?_; rintro e w2 ⟨rfl, rfl⟩
  go_wp2_with fail
  refine (H2.out _ HR.out).mono ?_; rintro e w2 ⟨rfl, rfl⟩
  go_wp2_with fail
  refine (H3.out _ HR.out).mono ?_; rintro e w2 ⟨rfl, rfl⟩
  go_wp2_with fail
  refine (H4.out _ HR.out).mono ?_; rintro e w2 ⟨rfl, rfl⟩
  go_wp2_with fail
  refine HQ.out.mono ?_; rintro e w2 ⟨s3, hs3, ⟨rfl, hx⟩, hx2⟩
  go_wp2_with fail
  go_end0
  exact ⟨s3, hs3, ⟨rfl, hx⟩, hx2⟩
/-- A byte of its own kind. -/
theorem wpart_other (f d : Nat) (l : List PartT) (c : UInt8) (t : List UInt8) (h1 : c ≠ 92) (h2 : c ≠ 39) (h3 : c ≠ 34) (h4 : c ≠ 36) (h5 : c ≠ 96) : wpartF (f + 1) d l (c :: t) = some (putF l (.mk 1 [c] [] false []), t) := by
  rw [wpartF.eq_def]
  simp only
  split
  all_goals first | (rename_i e; cases e; done) | skip
  all_goals simp_all
theorem part_all (f : Nat) : PartOK f := by
  induction f using Nat.strongRecOn with
  | _ f hP =>
    intro d g v s l l2 u w hr hp hf h
    cases f with
    | zero => rw [wpartF] at h; cases h
    | succ f =>
      have hP' : ∀ f', f' < f → PartOK f' := fun f' hh => hP f' (by omega)
      cases hs : s.data.toList with
      | nil => rw [wpartF.eq_def, hs] at h; cases h
      | cons c t0 =>
        obtain ⟨t, rfl⟩ := mk_of t0
        rw [hs] at h
        by_cases h92 : c = 92
        · subst h92
          rw [wpartF.eq_def] at h
          cases ht : t.data.toList with
          | nil => rw [ht] at h; cases h
          | cons b t1 =>
            obtain ⟨t2, rfl⟩ := mk_of t1
            rw [ht] at h hs
            have := Prod.mk.inj (Option.some.inj h)
            rw [← this.1, ← this.2]
            exact part_esc d g v s t2 b l w hr hp hf hs
        · by_cases h39 : c = 39
          · subst h39
            rw [wpartF.eq_def] at h
            simp only at h
            by_cases hm : (39 : UInt8) ∈ t.data.toList
            · rw [if_pos hm] at h
              have := Prod.mk.inj (Option.some.inj h)
              obtain ⟨x, hx⟩ := mk_of (t.data.toList.takeWhile (· != 39))
              obtain ⟨ub, hub⟩ := mk_of u
              rw [← this.1, ← hub, ← hx]
              exact part_sq d g v s t x ub l w hr hp hf hs hm hx (by rw [hub, ← this.2])
            · rw [if_neg hm] at h; cases h
          · by_cases h34 : c = 34
            · subst h34
              rw [wpartF.eq_def] at h
              exact part_dq f (fun f' hh => inner_all f' fun f'' hh2 => hP' f'' (by omega)) d g v s t l l2 u w hr hp hf hs h
            · by_cases h36 : c = 36
              · subst h36
                rw [wpartF.eq_def] at h
                exact part_dollar f (dollar_all f hP') d g v s t l l2 u w hr hp hf hs (by rw [hs]; exact h)
              · by_cases h96 : c = 96
                · subst h96
                  rw [wpartF.eq_def] at h; cases h
                · rw [wpart_other f d l c _ h92 h39 h34 h36 h96] at h
                  have := Prod.mk.inj (Option.some.inj h)
                  rw [← this.1, ← this.2]
                  exact part_one d g v s t c l w hr hp hf hs h92 h39 h34 h36 h96
end Go.Proofs.YtkmpbkhlcapbgaaGreatDoor
namespace Go.Proofs.YtkmpbkhlcapbgaaGreatDoor
open Go Go.RowKit
theorem all_step (f : Nat) (l : List PartT) (s : List UInt8) : allF (f + 1) l s = if s = [] then some l else match wpartF f 0 l s with
    | none => none
    | some (l2, s2) => allF f l2 s2 := by rw [allF]; rfl
/-- The loop over all parts: the text of the round, printed once for each way in. -/
theorem str_tilde (s : ByteArray) : (s.toList == [126]) = decide (s.data.toList = [126]) := by
  rw [Lib.toList_data, Bool.eq_iff_iff]; simp
theorem mt_str (s : ByteArray) : s.toList.isEmpty = decide (s.data.toList = []) := by
  rw [Lib.toList_data]; cases s.data.toList <;> simp
-- PARSE (printed by gen_parse.py)
def AllPost (g : Nat) (l : List PartT) (w : World) (e : Ending) (w' : World) : Prop := e = .returned (.tuple #[]) ∧ ∃ v u, Wr g v u 0 w' ∧ Wp g v l w' ∧ Below g w w'
set_option maxRecDepth 100000 in
set_option maxHeartbeats 4000000 in
theorem call_plain (g rb : Nat) (f : Nat) (s : ByteArray) (l : List PartT) (w : World) (hr : Wr g (.slice none 0 0) s 0 w) (hp : Wp g (.slice none 0 0) [] w) (hc : w.cell? ⟨rb, 0, none⟩ = some (.string s)) (h1 : s.data.toList ≠ [126]) (h2 : [126, 47].isPrefixOf s.data.toList = false) (h : allF f [] s.data.toList = some l) :
    Calls Tryz.prog 42 #[.pointer (some ⟨g, 0, none⟩), .pointer (some ⟨rb, 0, none⟩)] w (AllPost g l w) := by
  have H1 := Lib.hid (has_at g ⟨#[126, 47]⟩ (.slice none 0 0) s 0 false w hr h2)
  have hst := str_tilde s
  rw [decide_eq_false h1] at hst
  have H0 : Hid (∃ (v' : Value) (s' : ByteArray) (l' : List PartT), Hid (Wr g v' s' 0 w ∧ Wp g v' l' w ∧ Few l' s'.size ∧ Below g w w ∧ allF f l' s'.data.toList = some l)) := ⟨_, s, [], hr, hp, Few.nil hr.size, Below.refl _ _, h⟩
  clear hr hp h1 h2 h
  go_enter Tryz.func42, Tryz.ntmps42
  go_wp2_with fail
  refine H1.out.mono ?_; rintro e w1 ⟨rfl, rfl⟩
  · go_wp2_with fail
    go_loopg [] f (fun gk wx => ∃ (v' : Value) (s' : ByteArray) (l' : List PartT), Hid (Wr g v' s' 0 wx ∧ Wp g v' l' wx ∧ Few l' s'.size ∧ Below g w wx ∧ allF gk l' s'.data.toList = some l))
    case atStart => exact H0.out
    case round =>
      obtain ⟨v', s', l', HH⟩ := hrel
      clear H0
      cases gk with
      | zero => have := HH.out.2.2.2.2; rw [allF] at this; cases this
      | succ gk =>
        obtain ⟨R1, P1, F1, B1, U1⟩ := HH.out
        obtain ⟨a0, a1, a2, b0, b1, b2, ltg⟩ := three_facts R1.row
        rw [all_step] at U1
        have hmt := mt_str s'
        by_cases h1 : s'.data.toList = []
        · rw [if_pos h1] at U1
          rw [decide_eq_true h1] at hmt
          have hl' : l' = l := Option.some.inj U1
          subst hl'
          have HP1 := Lib.hid P1
          have HB1 := Lib.hid B1
          have HR1 := Lib.hid R1
          clear R1 P1 F1 B1 U1 HH h1
          go_wp2_with fail
          go_end0
          exact ⟨rfl, v', s', HR1.out, HP1.out, HB1.out⟩
        · rw [if_neg h1] at U1
          rw [decide_eq_false h1] at hmt
          obtain ⟨l3, u3, hi3, hq3⟩ : ∃ l3 u3, wpartF gk 0 l' s'.data.toList = some (l3, u3) ∧ allF gk l3 u3 = some l := by
            cases hw : wpartF gk 0 l' s'.data.toList with
            | none => rw [hw] at U1; cases U1
            | some x => rw [hw] at U1; exact ⟨x.1, x.2, rfl, U1⟩
          have HC := Lib.hid (part_all gk 0 g v' s' l' l3 u3 wr R1 P1 F1 hi3)
          have HB1 := Lib.hid B1
          have HN := Lib.hid hq3
          clear R1 P1 F1 B1 U1 HH h1 hi3 hq3
          go_wp2_with fail
          refine HC.out.mono ?_; rintro e w4 ⟨s4, hs4, ⟨rfl, v4, R4, P4, B4⟩, F4, L4⟩
          go_wp2_with fail
          go_roundg gk
          case measure => omega
          case rel => exact ⟨v4, s4, l3, ⟨R4, P4, F4, HB1.out.trans B4, by rw [hs4]; exact HN.out⟩⟩
set_option maxRecDepth 100000 in
set_option maxHeartbeats 4000000 in
theorem call_tilde (g rb : Nat) (f : Nat) (s t : ByteArray) (l : List PartT) (w : World) (hr : Wr g (.slice none 0 0) s 0 w) (hp : Wp g (.slice none 0 0) [] w) (hc : w.cell? ⟨rb, 0, none⟩ = some (.string s)) (hs : s.data.toList = 126 :: t.data.toList) (h1 : s.data.toList = [126] ∨ [126, 47].isPrefixOf s.data.toList = true) (h : allF f [.mk 5 [] [] false []] t.data.toList = some l) :
    Calls Tryz.prog 42 #[.pointer (some ⟨g, 0, none⟩), .pointer (some ⟨rb, 0, none⟩)] w (AllPost g l w) := by
  obtain ⟨e1, e2, e3⟩ := tail_of hs
  have HT := Lib.hid (take_at g 1 (.slice none 0 0) s 0 w hr (by omega))
  rw [e1] at HT
  have HPT := Lib.hid (fun W => put_plain (d := 0) hp (Few.nil hr.size) 5 ⟨#[]⟩ ⟨#[]⟩ false (Nat.zero_le _) W t)
  have HFW := Lib.hid (few_plain (k := 5) (t := ⟨#[]⟩) (op := ⟨#[]⟩) (q := false) (m := t.size) (Few.nil hr.size) (by show 0 + _ ≤ _; omega) (by omega))
  have HG := Lib.hid (Nat.le_of_lt hr.row.lt)
  have HQ := Lib.hid h
  have hst := str_tilde s
  by_cases h126 : s.data.toList = [126]
  · rw [decide_eq_true h126] at hst
    clear hr hp h1 h hs e1 e2 e3 h126
    go_enter Tryz.func42, Tryz.ntmps42
    go_wp2_with fail
    refine HT.out.mono ?_; rintro e w1 ⟨rfl, R1, K1⟩
    obtain ⟨z0, z1, z2, y0, y1, y2, ltz⟩ := three_facts R1.row
    have HR := Lib.hid R1
    have HK := Lib.hid K1
    clear R1 K1
    go_wp2_with fail
    refine (HPT.out _ HK.out HR.out).mono ?_; rintro e w3 ⟨rfl, v3, R3, P3, B3⟩
    have H0 : Hid (∃ (v' : Value) (s' : ByteArray) (l' : List PartT), Hid (Wr g v' s' 0 w3 ∧ Wp g v' l' w3 ∧ Few l' s'.size ∧ Below g w w3 ∧ allF f l' s'.data.toList = some l)) := ⟨v3, t, _, R3, P3, HFW.out, (HK.out.below HG.out).trans B3, HQ.out⟩
    clear R3 P3 B3 z0 z1 z2 y0 y1 y2
    go_wp2_with fail
    go_loopg [] f (fun gk wx => ∃ (v' : Value) (s' : ByteArray) (l' : List PartT), Hid (Wr g v' s' 0 wx ∧ Wp g v' l' wx ∧ Few l' s'.size ∧ Below g w wx ∧ allF gk l' s'.data.toList = some l))
    case atStart => exact H0.out
    case round =>
      obtain ⟨v', s', l', HH⟩ := hrel
      clear H0
      cases gk with
      | zero => have := HH.out.2.2.2.2; rw [allF] at this; cases this
      | succ gk =>
        obtain ⟨R1, P1, F1, B1, U1⟩ := HH.out
        obtain ⟨a0, a1, a2, b0, b1, b2, ltg⟩ := three_facts R1.row
        rw [all_step] at U1
        have hmt := mt_str s'
        by_cases h1 : s'.data.toList = []
        · rw [if_pos h1] at U1
          rw [decide_eq_true h1] at hmt
          have hl' : l' = l := Option.some.inj U1
          subst hl'
          have HP1 := Lib.hid P1
          have HB1 := Lib.hid B1
          have HR1 := Lib.hid R1
          clear R1 P1 F1 B1 U1 HH h1
          go_wp2_with fail
          go_end0
          exact ⟨rfl, v', s', HR1.out, HP1.out, HB1.out⟩
        · rw [if_neg h1] at U1
          rw [decide_eq_false h1] at hmt
          obtain ⟨l3, u3, hi3, hq3⟩ : ∃ l3 u3, wpartF gk 0 l' s'.data.toList = some (l3, u3) ∧ allF gk l3 u3 = some l := by
            cases hw : wpartF gk 0 l' s'.data.toList with
            | none => rw [hw] at U1; cases U1
            | some x => rw [hw] at U1; exact ⟨x.1, x.2, rfl, U1⟩
          have HC := Lib.hid (part_all gk 0 g v' s' l' l3 u3 wr R1 P1 F1 hi3)
          have HB1 := Lib.hid B1
          have HN := Lib.hid hq3
          clear R1 P1 F1 B1 U1 HH h1 hi3 hq3
          go_wp2_with fail
          refine HC.out.mono ?_; rintro e w4 ⟨s4, hs4, ⟨rfl, v4, R4, P4, B4⟩, F4, L4⟩
          go_wp2_with fail
          go_roundg gk
          case measure => omega
          case rel => exact ⟨v4, s4, l3, ⟨R4, P4, F4, HB1.out.trans B4, by rw [hs4]; exact HN.out⟩⟩
  · rw [decide_eq_false h126] at hst
    have H1 := Lib.hid (has_at g ⟨#[126, 47]⟩ (.slice none 0 0) s 0 true w hr (h1.resolve_left h126))
    clear hr hp h1 h hs e1 e2 e3 h126
    go_enter Tryz.func42, Tryz.ntmps42
    go_wp2_with fail
    refine H1.out.mono ?_; rintro e w1 ⟨rfl, rfl⟩
    go_wp2_with fail
    refine HT.out.mono ?_; rintro e w1 ⟨rfl, R1, K1⟩
    obtain ⟨z0, z1, z2, y0, y1, y2, ltz⟩ := three_facts R1.row
    have HR := Lib.hid R1
    have HK := Lib.hid K1
    clear R1 K1
    go_wp2_with fail
    refine (HPT.out _ HK.out HR.out).mono ?_; rintro e w3 ⟨rfl, v3, R3, P3, B3⟩
    have H0 : Hid (∃ (v' : Value) (s' : ByteArray) (l' : List PartT), Hid (Wr g v' s' 0 w3 ∧ Wp g v' l' w3 ∧ Few l' s'.size ∧ Below g w w3 ∧ allF f l' s'.data.toList = some l)) := ⟨v3, t, _, R3, P3, HFW.out, (HK.out.below HG.out).trans B3, HQ.out⟩
    clear R3 P3 B3 z0 z1 z2 y0 y1 y2
    go_wp2_with fail
    go_loopg [] f (fun gk wx => ∃ (v' : Value) (s' : ByteArray) (l' : List PartT), Hid (Wr g v' s' 0 wx ∧ Wp g v' l' wx ∧ Few l' s'.size ∧ Below g w wx ∧ allF gk l' s'.data.toList = some l))
    case atStart => exact H0.out
    case round =>
      obtain ⟨v', s', l', HH⟩ := hrel
      clear H0
      cases gk with
      | zero => have := HH.out.2.2.2.2; rw [allF] at this; cases this
      | succ gk =>
        obtain ⟨R1, P1, F1, B1, U1⟩ := HH.out
        obtain ⟨a0, a1, a2, b0, b1, b2, ltg⟩ := three_facts R1.row
        rw [all_step] at U1
        have hmt := mt_str s'
        by_cases h1 : s'.data.toList = []
        · rw [if_pos h1] at U1
          rw [decide_eq_true h1] at hmt
          have hl' : l' = l := Option.some.inj U1
          subst hl'
          have HP1 := Lib.hid P1
          have HB1 := Lib.hid B1
          have HR1 := Lib.hid R1
          clear R1 P1 F1 B1 U1 HH h1
          go_wp2_with fail
          go_end0
          exact ⟨rfl, v', s', HR1.out, HP1.out, HB1.out⟩
        · rw [if_neg h1] at U1
          rw [decide_eq_false h1] at hmt
          obtain ⟨l3, u3, hi3, hq3⟩ : ∃ l3 u3, wpartF gk 0 l' s'.data.toList = some (l3, u3) ∧ allF gk l3 u3 = some l := by
            cases hw : wpartF gk 0 l' s'.data.toList with
            | none => rw [hw] at U1; cases U1
            | some x => rw [hw] at U1; exact ⟨x.1, x.2, rfl, U1⟩
          have HC := Lib.hid (part_all gk 0 g v' s' l' l3 u3 wr R1 P1 F1 hi3)
          have HB1 := Lib.hid B1
          have HN := Lib.hid hq3
          clear R1 P1 F1 B1 U1 HH h1 hi3 hq3
          go_wp2_with fail
          refine HC.out.mono ?_; rintro e w4 ⟨s4, hs4, ⟨rfl, v4, R4, P4, B4⟩, F4, L4⟩
          go_wp2_with fail
          go_roundg gk
          case measure => omega
          case rel => exact ⟨v4, s4, l3, ⟨R4, P4, F4, HB1.out.trans B4, by rw [hs4]; exact HN.out⟩⟩
theorem call_ok (g rb : Nat) (f : Nat) (s : ByteArray) (l : List PartT) (w : World) (hr : Wr g (.slice none 0 0) s 0 w) (hp : Wp g (.slice none 0 0) [] w) (hc : w.cell? ⟨rb, 0, none⟩ = some (.string s)) (h : wordF f s.data.toList = some l) :
    Calls Tryz.prog 42 #[.pointer (some ⟨g, 0, none⟩), .pointer (some ⟨rb, 0, none⟩)] w (AllPost g l w) := by
  unfold wordF at h
  by_cases h1 : s.data.toList = [126] ∨ [126, 47].isPrefixOf s.data.toList = true
  · rw [if_pos h1] at h
    obtain ⟨t, ht⟩ : ∃ t : ByteArray, s.data.toList = 126 :: t.data.toList := cons_of (by
      rcases h1 with h | h
      · rw [h]; rfl
      · obtain ⟨r, hr⟩ := List.isPrefixOf_iff_prefix.1 h
        rw [← hr]; rfl)
    rw [ht] at h
    exact call_tilde g rb f s t l w hr hp hc ht h1 h
  · rw [if_neg h1] at h
    refine call_plain g rb f s l w hr hp hc (fun e => h1 (.inl e)) ?_ h
    cases hb : [126, 47].isPrefixOf s.data.toList with
    | false => rfl
    | true => exact absurd (.inr hb) h1
theorem blk_under {w w' : World} {b e B : Nat} {l : List Value} (h : RowIs w b e l) (hb : Below B w w') (hlt : b < B) : RowIs w' b e l := by
  unfold RowIs; rw [hb.block b hlt]; exact h
theorem read_none (p q : Addr) (w : World) :
    CallsD Tryz.prog 69 #[.pointer (some p), .pointer (some q)] .returning w fun e u' w' => e = .returned (.tuple #[]) ∧ u' = .returning ∧ w' = w := by
  refine callsD_of_wpS Tryz.func69 rfl fun c₀ cs hu => ?_
  apply wpS_seq
  apply wpS_region
  simp [wpOpsS, go_sem, recoverD, hu, Tryz.ntmps69, Exit.thenS]
  apply wpS_seq
  apply wpS_region
  simp [wpOpsS, go_sem, Exit.thenS]
  refine wpS_cond (t := false) (by simp [Act.eval, Array.replicate]) ?_
  simp only [Bool.false_eq_true, if_false]
  refine wpS_of_wp (wp_skip ?_)
  cases c₀
  simp_all [bodyPostS, results, Tryz.results69]
/-- The three blocks that read makes first. -/
def rdW (s : ByteArray) (w : World) : World := ((w.alloc (.cells #[.slice none 0 0] 78)).alloc (.cells #[.int .i64 0] 31)).alloc (.cells #[.slice none 0 0, .string s, .int .i64 0] 90)
theorem rdW_below (s : ByteArray) (w : World) : Below w.heap.size w (rdW s w) := (((Below.refl _ _).alloc (Nat.le_refl _) _).alloc (by simp) _).alloc (by simp; omega) _
theorem rdW_rows (s : ByteArray) (w : World) : RowIs (rdW s w) w.heap.size 78 [.slice none 0 0] ∧ RowIs (rdW s w) (w.heap.size + 1) 31 [.int .i64 0] ∧ RowIs (rdW s w) (w.heap.size + 2) 90 [.slice none 0 0, .string s, .int .i64 0] := by
  have h1 := ((RowIs.new w 78 [.slice none 0 0]).alloc (.cells #[.int .i64 0] 31)).alloc (.cells #[.slice none 0 0, .string s, .int .i64 0] 90)
  have h2 := (RowIs.new (w.alloc (.cells #[.slice none 0 0] 78)) 31 [.int .i64 0]).alloc (.cells #[.slice none 0 0, .string s, .int .i64 0] 90)
  have h3 := RowIs.new ((w.alloc (.cells #[.slice none 0 0] 78)).alloc (.cells #[.int .i64 0] 31)) 90 [.slice none 0 0, .string s, .int .i64 0]
  have e : (w.alloc (.cells #[.slice none 0 0] 78)).heap.size = w.heap.size + 1 := by simp
  have e2 : ((w.alloc (.cells #[.slice none 0 0] 78)).alloc (.cells #[.int .i64 0] 31)).heap.size = w.heap.size + 2 := by simp
  rw [e] at h2
  rw [e2] at h3
  exact ⟨h1, h2, h3⟩
theorem Tab.lt {w : World} (h : Tab w) : Far w.heap.size := ⟨block_lt_of_cell (h.ops 0 (by omega)), h.max.elim fun _ hm => block_lt_of_cell hm⟩
set_option maxRecDepth 100000 in
set_option maxHeartbeats 8000000 in
theorem read_ok (rb : Nat) (f : Nat) (s : ByteArray) (hsz : s.size ≤ 1000000000) (l : List PartT) (w : World) (hT : Tab w) (hc : w.cell? ⟨rb, 0, none⟩ = some (.string s)) (h : wordF f s.data.toList = some l) :
    Calls Tryz.prog 41 #[.string s, .func (.func 42) #[] #[.pointer (some ⟨rb, 0, none⟩)]] w fun e w' => ∃ a n c, e = .returned (.tuple #[.slice a n c, .int .i64 0]) ∧ WordIn w' (fun b => w.heap.size + 2 < b) (.slice a n c) l ∧ Below w.heap.size w w' := by
  have hlt := block_lt_of_cell hc
  have hlt' : rb < w.heap.size := hlt
  obtain ⟨x0, x1, x2⟩ := rdW_rows s w
  have B0 := rdW_below s w
  have hfar := hT.lt
  have R0 : Wr (w.heap.size + 2) (.slice none 0 0) s 0 (rdW s w) := ⟨x2, hsz, by omega, ⟨by have := hfar.1; omega, by have := hfar.2; omega⟩, hT.below hfar B0⟩
  have P0 : Wp (w.heap.size + 2) (.slice none 0 0) [] (rdW s w) := ⟨⟨[], World.ownsRow_nil _ _ _ _, .nil⟩⟩
  have HA0 := call_ok (w.heap.size + 2) rb f s l (rdW s w) R0 P0 ((B0.cell (p := ⟨rb, 0, none⟩) hlt').trans hc) h
  have HA : Hid (Calls Tryz.prog 42 #[.pointer (some ⟨w.heap.size + 1 + 1, 0, none⟩), .pointer (some ⟨rb, 0, none⟩)] (((w.alloc (.cells #[.slice none 0 0] 78)).alloc (.cells #[.int .i64 0] 31)).alloc (.cells #[.slice none 0 0, .string s, .int .i64 0] 90)) (AllPost (w.heap.size + 2) l (rdW s w))) := HA0
  have hmf : ∀ (fn : Fn) (first cap : Array Value) (w : World), (Instr.makeFunc fn first cap).run Tryz.prog w = .ok (.func fn first cap) w := fun _ _ _ _ => rfl
  have HB0 := Lib.hid B0
  have HX := Lib.hid (And.intro x0 x1)
  clear hT hc h x0 x1 x2 B0 R0 P0 HA0 hlt hlt' hfar hsz
  go_enter_defers Tryz.func41, Tryz.ntmps41
  go_wp2_with fail
  refine HA.out.mono ?_
  rintro e w1 ⟨rfl, v1, u1, R1, P1, B1⟩
  obtain ⟨z0, z1, z2, y0, y1, y2, ltz⟩ := three_facts R1.row
  have ra := blk_under HX.out.1 B1 (by omega)
  have rb1 := blk_under HX.out.2 B1 (by omega)
  have q0 : w1.cell? ⟨w.heap.size, 0, none⟩ = some (.slice none 0 0) := by rw [ra.cell]; rfl
  have q1 : w1.cell? ⟨w.heap.size + 1, 0, none⟩ = some (.int .i64 0) := by rw [rb1.cell]; rfl
  have f0 := ra.free 0
  have f1 := rb1.free 0
  have l0 := ra.lt
  have l1 := rb1.lt
  obtain ⟨va, vn, vc, rfl⟩ : ∃ a n c, v1 = .slice a n c := by
    obtain ⟨xs, h1, _⟩ := P1.has
    obtain ⟨a, c, e⟩ := own_slice h1
    exact ⟨a, _, c, e⟩
  have HP1 := Lib.hid P1
  have HB1 := Lib.hid (HB0.out.trans (B1.mono (show w.heap.size ≤ w.heap.size + 2 by omega)))
  have HRA := Lib.hid ra
  have HRB := Lib.hid rb1
  clear R1 P1 B1 ra rb1
  go_wp2_with fail
  have hf0 := ((HRA.out.set 0 (.slice va vn vc)).other (show w.heap.size ≠ w.heap.size + 1 by omega) (.int .i64 0) (a := ⟨w.heap.size + 1, 0, none⟩))
  have hf1 := ((HRB.out.other (show w.heap.size + 1 ≠ w.heap.size by omega) (.slice va vn vc) (a := ⟨w.heap.size, 0, none⟩)).set 0 (.int .i64 0))
  have g0 : ((w1.setCell ⟨w.heap.size, 0, none⟩ (.slice va vn vc)).setCell ⟨w.heap.size + 1, 0, none⟩ (.int .i64 0)).cell? ⟨w.heap.size, 0, none⟩ = some (.slice va vn vc) := by rw [hf0.cell]; rfl
  have g1 : ((w1.setCell ⟨w.heap.size, 0, none⟩ (.slice va vn vc)).setCell ⟨w.heap.size + 1, 0, none⟩ (.int .i64 0)).cell? ⟨w.heap.size + 1, 0, none⟩ = some (.int .i64 0) := by rw [hf1.cell]; rfl
  have HB5 := Lib.hid ((HB1.out.setCell (p := ⟨w.heap.size, 0, none⟩) (Nat.le_refl _) (.slice va vn vc)).setCell (p := ⟨w.heap.size + 1, 0, none⟩) (Nat.le_succ _) (.int .i64 0))
  refine leaves_cons (f := 69) (args := #[.pointer (some ⟨w.heap.size, 0, none⟩), .pointer (some ⟨w.heap.size + 1, 0, none⟩)]) (by simp) (by simp [go_sem]) ?_
  refine (read_none _ _ _).mono ?_
  rintro e u' w'' ⟨rfl, rfl, rfl⟩
  have HW : WordIn ((w1.setCell ⟨w.heap.size, 0, none⟩ (.slice va vn vc)).setCell ⟨w.heap.size + 1, 0, none⟩ (.int .i64 0)) (fun b => w.heap.size + 2 < b) (.slice va vn vc) l :=
    HP1.out.word.keep (by simp) fun b hb _ => ⟨(Below.heap_setCell _ _ _ _ (by show b ≠ w.heap.size + 1; omega)).trans (Below.heap_setCell _ _ _ _ (by show b ≠ w.heap.size; omega)), hb⟩
  simp [Leaves, settle, results, Tryz.results41, go_sem, g0, g1]
  exact ⟨va, vn, vc, ⟨rfl, rfl, rfl⟩, HW, HB5.out⟩
set_option maxRecDepth 100000 in
set_option maxHeartbeats 4000000 in
theorem parse_ok (f : Nat) (s : ByteArray) (hsz : s.size ≤ 1000000000) (l : List PartT) (w : World) (hT : Tab w) (h : wordF f s.data.toList = some l) :
    Calls Tryz.prog 22 #[.string s] w fun e w' => ∃ a n c, e = .returned (.tuple #[.slice a n c, .int .i64 0]) ∧ WordIn w' (fun b => w.heap.size < b) (.slice a n c) l ∧ Below w.heap.size w w' := by
  have HR := Lib.hid (read_ok w.heap.size f s hsz l (w.alloc (.cells #[.string s] 9)) (hT.below hT.lt ((Below.refl _ _).alloc (Nat.le_refl _) _)) (by simp) h)
  have hmf : ∀ (fn : Fn) (first cap : Array Value) (w : World), (Instr.makeFunc fn first cap).run Tryz.prog w = .ok (.func fn first cap) w := fun _ _ _ _ => rfl
  clear hT h
  go_enter Tryz.func22, Tryz.ntmps22
  go_wp2_with fail
  refine HR.out.mono ?_; rintro e w1 ⟨a, n, c, rfl, W1, B1⟩
  go_wp2_with fail
  go_ret2
  exact ⟨a, n, c, rfl, W1.keep (Nat.le_refl _) fun b hb _ => ⟨rfl, by simp at hb; omega⟩, ((Below.refl _ _).alloc (Nat.le_refl _) _).trans (B1.mono (by simp))⟩
end Go.Proofs.YtkmpbkhlcapbgaaGreatDoor
namespace Go.Proofs.YtkmpbkhlcapbgaaGreatDoor.MapInt
open Go Go.RowKit
/-- The entries of a map literal, in order. -/
def entries : List (Int × Value) → Nat → List MapEntry
  | [], _ => []
  | (k, v) :: l, n => ⟨.int .i64 k, v, n⟩ :: entries l (n + 1)
/-- The block that a map literal fills. -/
def litMap (l : List (Int × Value)) : Obj := .map (entries l 0).toArray l.length
/-- What is found at a key. -/
def at_ : List (Int × Value) → Int → Option Value
  | [], _ => none
  | (k, v) :: l, x => if x == k then some v else at_ l x
attribute [simp] at_
theorem entries_append (l m : List (Int × Value)) : ∀ n, entries (l ++ m) n = entries l n ++ entries m (n + l.length) := by
  induction l with
  | nil => intro n; simp [entries]
  | cons p l ih => intro n; obtain ⟨k, v⟩ := p; simp [entries, ih, Nat.add_comm, Nat.add_left_comm]
theorem findNow_lit (x : Int) : ∀ (l : List (Int × Value)) (n i : Nat), ∃ j, Instr.findNow (.int .i64) (.int .i64 x) (entries l n) i = some ((at_ l x).map fun v => (j, v)) := by
  intro l
  induction l with
  | nil => intro n i; exact ⟨0, rfl⟩
  | cons p l ih =>
    intro n i
    obtain ⟨k, v⟩ := p
    simp only [entries, Instr.findNow, Instr.sameNow, at_, if_true]
    cases h : (x == k)
    · simp only [Bool.false_eq_true, if_false]; exact ih (n + 1) (i + 1)
    · exact ⟨i, rfl⟩
theorem run_make {P : Program} (t : TypeId) (w : World) : Sem.run P (Instr.makeMap t none) w = Result.ok (Value.map (some w.heap.size)) (w.alloc (litMap [])) := run_makeMap t w
theorem heap_last (w : World) (o : Obj) {b : Nat} (h : b = w.heap.size) : (w.alloc o).heap[b]? = some o := by
  subst h; show (w.heap.push o)[w.heap.size]? = some o; simp
theorem set_last (w : World) (o o' : Obj) {b : Nat} (h : b = w.heap.size) : ChangeMaps.setBlock (w.alloc o) b o' = w.alloc o' := by
  subst h
  show ({ w with heap := (w.heap.push o).setIfInBounds w.heap.size o' } : World) = { w with heap := w.heap.push o' }
  congr 1
  apply Array.ext_getElem?
  intro i
  simp [Array.getElem?_setIfInBounds, Array.getElem?_push]
  split <;> split <;> simp_all
theorem run_check {P : Program} {kt : TypeId} (hk : P.underlying kt = some (.int .i64)) (e : Bool) (s : Int) (w : World) : (Instr.checkKey e 10000 kt (.int .i64 s)).run P w = .ok () w :=
  MapKept.run_checkKey hk (by trivial) e 9999
theorem run_find {P : Program} {kt : TypeId} (hk : P.underlying kt = some (.int .i64)) (x : Int) (l : List (Int × Value)) (w : World) :
    ∃ j, (Instr.findKey kt (.int .i64 x) (entries l 0)).run P w = .ok ((at_ l x).map fun v => (j, v)) w := by
  obtain ⟨j, hj⟩ := findNow_lit x l 0 0
  exact ⟨j, by simp [Instr.findKey, run_underlying hk, hj]⟩
theorem run_insert {P : Program} {t kt et : TypeId} (ht : P.underlying t = some (.map kt et)) (hk : P.underlying kt = some (.int .i64)) (w : World) (l : List (Int × Value)) (x : Int) (v : Value) (b : Nat)
    (hbx : b = w.heap.size ∧ (at_ l x).isNone = true) :
    Sem.run P (Instr.mapUpdate t (.map (some b)) (.int .i64 x) v) (w.alloc (litMap l)) = .ok () (w.alloc (litMap (l ++ [(x, v)]))) := by
  obtain ⟨j, hj⟩ := run_find (P := P) hk x l (w.alloc (litMap l))
  obtain ⟨hb, hx0⟩ := hbx
  have hx : at_ l x = none := by simpa using hx0
  rw [hx] at hj
  have hl : (w.alloc (litMap l)).heap[b]? = some (.map (entries l 0).toArray l.length) := heap_last w (litMap l) hb
  have hs : (Sem.run P (setObj b (.map ((entries l 0).toArray.push ⟨.int .i64 x, v, l.length⟩) (l.length + 1))) (w.alloc (litMap l))) = .ok () (w.alloc (litMap (l ++ [(x, v)]))) := by
    rw [MapKept.run_setObj_map _ hl, ← set_last w (litMap l) (litMap (l ++ [(x, v)])) hb]
    simp [litMap, entries_append, entries, ChangeMaps.setBlock]
  simp only [List.push_toArray] at hs
  simp [Instr.mapUpdate, run_underlying ht, MapKept.run_getObj_map hl, run_check hk, hj, hs, Result.andThen]
theorem run_lookup {P : Program} {t kt et : TypeId} (ht : P.underlying t = some (.map kt et)) (hk : P.underlying kt = some (.int .i64)) {z : Value} (hz : ∀ w, (zeroValue et).run P w = .ok z w) (w : World) (l : List (Int × Value)) (x : Int) (b : Nat) (c : Bool)
    (hb : b = w.heap.size) :
    Sem.run P (Instr.lookup t (.map (some b)) (.int .i64 x) c) (w.alloc (litMap l)) = .ok (if c then .tuple #[(at_ l x).getD z, .bool (at_ l x).isSome] else (at_ l x).getD z) (w.alloc (litMap l)) := by
  obtain ⟨j, hj⟩ := run_find (P := P) hk x l (w.alloc (litMap l))
  have hl : (w.alloc (litMap l)).heap[b]? = some (.map (entries l 0).toArray l.length) := heap_last w (litMap l) hb
  cases h : at_ l x <;> rw [h] at hj <;> simp [Instr.lookup, run_underlying ht, MapKept.run_getObj_map hl, run_check hk, hj, hz, Result.andThen] <;> cases c <;> rfl
theorem run_lookup_at {P : Program} {t kt et : TypeId} (ht : P.underlying t = some (.map kt et)) (hk : P.underlying kt = some (.int .i64)) (w : World) (l : List (Int × Value)) (x : Int) (b : Nat)
    (hl0 : w.heap[b]? = some (litMap l)) (v : Value) (hv : at_ l x = some v) :
    Sem.run P (Instr.lookup t (.map (some b)) (.int .i64 x) false) w = .ok v w := by
  obtain ⟨j, hj⟩ := run_find (P := P) hk x l w
  have hl : w.heap[b]? = some (.map (entries l 0).toArray l.length) := hl0
  rw [hv] at hj
  simp [Instr.lookup, run_underlying ht, MapKept.run_getObj_map hl, run_check hk, hj, Result.andThen]
end Go.Proofs.YtkmpbkhlcapbgaaGreatDoor.MapInt
