/-
  DERIVED. The walk of word's part.
-/
import Derived.Test.YtkmpbkhlcapbgaaGreatDoorZ28
namespace Go.Proofs.YtkmpbkhlcapbgaaGreatDoor
open Go Go.RowKit
set_option maxRecDepth 100000 in
set_option maxHeartbeats 4000000 in
theorem part_one (d g : Nat) (v : Value) (s t : ByteArray) (c : UInt8) (l : List PartT) (w : World) (hr : Wr g v s d w) (hp : Wp g v l w) (hf : Few l s.size) (hs : s.data.toList = c :: t.data.toList) (h1 : c ≠ 92) (h2 : c ≠ 39) (h3 : c ≠ 34) (h4 : c ≠ 36) (h5 : c ≠ 96) :
    Calls Tryz.prog 46 #[.pointer (some ⟨g, 0, none⟩)] w (WPost g d (putF l (.mk 1 [c] [] false [])) t.data.toList s.size w) := by
  obtain ⟨e1, e2, e3⟩ := tail_of hs
  have H1 := ask g v s d 92 false (no_head hs h1)
  have H2 := ask g v s d 39 false (no_head hs h2)
  have H3 := ask g v s d 34 false (no_head hs h3)
  have H4 := ask g v s d 36 false (no_head hs h4)
  have H5 := ask g v s d 96 false (no_head hs h5)
  have HT := Lib.hid (fun W (R : Wr g v s d W) => take_at g 1 v s d W R (by omega))
  rw [e1, e2] at HT
  have HPT := Lib.hid (fun W => put_plain (d := d) hp hf 1 ⟨#[c]⟩ ⟨#[]⟩ false (by rw [e3]; show 1 ≤ _; omega) W t)
  have HFW := Lib.hid (few_plain (k := 1) (t := ⟨#[c]⟩) (op := ⟨#[]⟩) (q := false) (m := t.size) hf (by rw [e3]; show 1 + _ ≤ _; omega) (by omega))
  have HE3 := Lib.hid e3
  have HG := Lib.hid (Nat.le_of_lt hr.row.lt)
  have HR := Lib.hid hr
  have hRd := hr.drew
  have hKd : Hid (Kept g w w.drew) := Kept.of (Below.refl _ _).drew
  clear hr hp hf hs h1 h2 h3 h4 h5 e1 e2 e3
  go_enter Tryz.func46, Tryz.ntmps46
  go_wp2_with fail
  refine (H1.out _ HR.out).mono ?_; rintro e w2 ⟨rfl, rfl⟩
  go_wp2_with fail
  refine (H2.out _ HR.out).mono ?_; rintro e w2 ⟨rfl, rfl⟩
  go_wp2_with fail
  refine (H3.out _ HR.out).mono ?_; rintro e w2 ⟨rfl, rfl⟩
  go_wp2_with fail
  refine (H4.out _ HR.out).mono ?_; rintro e w2 ⟨rfl, rfl⟩
  go_wp2_with fail
  refine (H5.out _ HR.out).mono ?_; rintro e w2 ⟨rfl, rfl⟩
  go_wp2_with fail
  go_region_with (first
    | (go_at_call 44; refine (HT.out _ (by assumption)).mono ?_; rintro e wn ⟨rfl, Rn, Kn⟩)
    | (go_at_call 45; refine (HPT.out _ (hKd.out.trans (by assumption)) (by assumption)).mono ?_; rintro e wm ⟨rfl, hx⟩))
  all_goals
    go_end0
    exact wpost_of (u := t) (n := s.size) (W := _) ⟨rfl, hx⟩ (hKd.out.trans (by assumption)) HG.out rfl HFW.out (by have := HE3.out; omega)
set_option maxRecDepth 100000 in
set_option maxHeartbeats 4000000 in
theorem part_esc (d g : Nat) (v : Value) (s t : ByteArray) (c : UInt8) (l : List PartT) (w : World) (hr : Wr g v s d w) (hp : Wp g v l w) (hf : Few l s.size) (hs : s.data.toList = 92 :: c :: t.data.toList) :
    Calls Tryz.prog 46 #[.pointer (some ⟨g, 0, none⟩)] w (WPost g d (putF l (.mk 2 [c] [] false [])) t.data.toList s.size w) := by
  have e1 : s.extract 2 s.size = t := by rw [← Lib.mk_data (ByteArray.extract _ 2 _), ← Lib.mk_data t, Lib.extract_to_end, hs]; rfl
  have e2 : s.extract 0 2 = ⟨#[92, c]⟩ := by rw [← Lib.mk_data (ByteArray.extract _ 0 _), Lib.extract_data, hs]; rfl
  have e3 : s.size = t.size + 2 := by rw [size_len, hs, size_len]; rfl
  have hs' : s.data.toList = 92 :: (⟨(c :: t.data.toList).toArray⟩ : ByteArray).data.toList := by rw [hs]
  have H1 := ask g v s d 92 true (yes_head hs')
  have HT := Lib.hid (fun W (R : Wr g v s d W) => take_at g 2 v s d W R (by omega))
  rw [e1, e2] at HT
  have e4 : (⟨#[92, c]⟩ : ByteArray).extract 1 2 = ⟨#[c]⟩ := by rw [← Lib.mk_data (ByteArray.extract _ 1 _), Lib.extract_data]; rfl
  have e4' : (⟨#[92, c]⟩ : ByteArray).extract 1 (⟨#[92, c]⟩ : ByteArray).size = ⟨#[c]⟩ := e4
  have e5 : (⟨#[92, c]⟩ : ByteArray).size = 2 := rfl
  have HPT := Lib.hid (fun W => put_plain (d := d) hp hf 2 ⟨#[c]⟩ ⟨#[]⟩ false (by rw [e3]; show 1 ≤ _; omega) W t)
  have HFW := Lib.hid (few_plain (k := 2) (t := ⟨#[c]⟩) (op := ⟨#[]⟩) (q := false) (m := t.size) hf (by rw [e3]; show 1 + _ ≤ _; omega) (by omega))
  have HE3 := Lib.hid e3
  have HG := Lib.hid (Nat.le_of_lt hr.row.lt)
  have HR := Lib.hid hr
  have hRd := hr.drew
  have hKd : Hid (Kept g w w.drew) := Kept.of (Below.refl _ _).drew
  clear hr hp hf hs hs' e1 e2 e3
  go_enter Tryz.func46, Tryz.ntmps46
  go_wp2_with fail
  refine (H1.out _ HR.out).mono ?_; rintro e w2 ⟨rfl, rfl⟩
  go_wp2_with fail
  go_region_with (first
    | (go_at_call 44; refine (HT.out _ (by assumption)).mono ?_; rintro e wn ⟨rfl, Rn, Kn⟩)
    | (go_at_call 45; refine (HPT.out _ (hKd.out.trans (by assumption)) (by assumption)).mono ?_; rintro e wm ⟨rfl, hx⟩))
  all_goals
    go_end0
    exact wpost_of (u := t) (n := s.size) (W := _) ⟨rfl, hx⟩ (hKd.out.trans (by assumption)) HG.out rfl HFW.out (by have := HE3.out; omega)
set_option maxRecDepth 100000 in
set_option maxHeartbeats 4000000 in
theorem part_sq (d g : Nat) (v : Value) (s t x u : ByteArray) (l : List PartT) (w : World) (hr : Wr g v s d w) (hp : Wp g v l w) (hf : Few l s.size) (hs : s.data.toList = 39 :: t.data.toList) (hm : (39 : UInt8) ∈ t.data.toList) (hx : x.data.toList = t.data.toList.takeWhile (· != 39)) (hu : u.data.toList = (t.data.toList.dropWhile (· != 39)).tail) :
    Calls Tryz.prog 46 #[.pointer (some ⟨g, 0, none⟩)] w (WPost g d (putF l (.mk 2 x.data.toList [] false [])) u.data.toList s.size w) := by
  obtain ⟨e1, e2, e3⟩ := tail_of hs
  have H1 := ask g v s d 92 false (no_head hs (by decide))
  have H2 := ask g v s d 39 true (yes_head hs)
  have HT := Lib.hid (take_at g 1 v s d w hr (by omega))
  rw [e1] at HT
  have HU := Lib.hid (fun W (R : Wr g v t d W) => upto_at g 39 v t d x u W R hm hx hu)
  have hlen : x.size + u.size ≤ t.size := by
    have h1 := while_len (· != (39 : UInt8)) t.data.toList
    rw [size_len, size_len, size_len, hx, hu, List.length_tail]; omega
  have HPT := Lib.hid (fun W => put_plain (d := d) hp hf 2 x ⟨#[]⟩ false (by rw [e3]; omega) W u)
  have HFW := Lib.hid (few_plain (k := 2) (t := x) (op := ⟨#[]⟩) (q := false) (m := u.size) hf (by rw [e3]; omega) (by omega))
  have HE3 : Hid (u.size < s.size) := by unfold Hid; omega
  have HG := Lib.hid (Nat.le_of_lt hr.row.lt)
  have HR := Lib.hid hr
  clear hr hp hf hs e1 e2 e3 hm hx hu hlen
  go_enter Tryz.func46, Tryz.ntmps46
  go_wp2_with fail
  refine (H1.out _ HR.out).mono ?_; rintro e w2 ⟨rfl, rfl⟩
  go_wp2_with fail
  refine (H2.out _ HR.out).mono ?_; rintro e w2 ⟨rfl, rfl⟩
  go_wp2_with fail
  refine HT.out.mono ?_; rintro e w2 ⟨rfl, R2, K2⟩
  have hRd := R2.drew
  have hKd : Hid (Kept g w w2.drew) := K2.trans (Kept.of (Below.refl _ _).drew)
  clear R2 K2
  go_wp2_with fail
  go_region_with (first
    | (go_at_call 72; refine (HU.out _ (by assumption)).mono ?_; rintro e wn ⟨rfl, Rn, Kn⟩)
    | (go_at_call 45; refine (HPT.out _ (hKd.out.trans (by assumption)) (by assumption)).mono ?_; rintro e wm ⟨rfl, hx⟩))
  all_goals
    go_end0
    exact wpost_of (u := u) (n := s.size) (W := _) ⟨rfl, hx⟩ (hKd.out.trans (by assumption)) HG.out rfl HFW.out HE3.out
set_option maxRecDepth 100000 in
set_option maxHeartbeats 4000000 in
theorem part_dq (f : Nat) (hI : ∀ f', f' < f → InnerOK f') (d g : Nat) (v : Value) (s t : ByteArray) (l l2 : List PartT) (u : List UInt8) (w : World) (hr : Wr g v s d w) (hp : Wp g v l w) (hf : Few l s.size) (hs : s.data.toList = 34 :: t.data.toList)
    (h : quoteF f d (if t.data.toList.head? = some 34 then putF l (.mk 2 [] [] false []) else l) t.data.toList = some (l2, u)) :
    Calls Tryz.prog 46 #[.pointer (some ⟨g, 0, none⟩)] w (WPost g d l2 u s.size w) := by
  have H1 := ask g v s d 92 false (no_head hs (by decide))
  have H2 := ask g v s d 39 false (no_head hs (by decide))
  have H3 := ask g v s d 34 true (yes_head hs)
  have HQ := Lib.hid (quoted_ok f hI d g v s t l l2 u w hr hp hf hs h)
  have HR := Lib.hid hr
  clear hr hp hf hs h hI
  go_enter Tryz.func46, Tryz.ntmps46
  go_wp2_with fail
  refine (H1.out _ HR.out).mono ?_; rintro e w2 ⟨rfl, rfl⟩
  go_wp2_with fail
  refine (H2.out _ HR.out).mono ?_; rintro e w2 ⟨rfl, rfl⟩
  go_wp2_with fail
  refine (H3.out _ HR.out).mono ?_; rintro e w2 ⟨rfl, rfl⟩
  go_wp2_with fail
  refine HQ.out.mono ?_; rintro e w2 ⟨s3, hs3, ⟨rfl, hx⟩, hx2⟩
  go_wp2_with fail
  go_end0
  exact ⟨s3, hs3, ⟨rfl, hx⟩, hx2⟩
set_option maxRecDepth 100000 in
set_option maxHeartbeats 4000000 in
theorem part_dollar (f : Nat) (hD : DollarOK f) (d g : Nat) (v : Value) (s t : ByteArray) (l l2 : List PartT) (u : List UInt8) (w : World) (hr : Wr g v s d w) (hp : Wp g v l w) (hf : Few l s.size) (hs : s.data.toList = 36 :: t.data.toList) (h : dollarF f d false l s.data.toList = some (l2, u)) :
    Calls Tryz.prog 46 #[.pointer (some ⟨g, 0, none⟩)] w (WPost g d l2 u s.size w) := by
  have H1 := ask g v s d 92 false (no_head hs (by decide))
  have H2 := ask g v s d 39 false (no_head hs (by decide))
  have H3 := ask g v s d 34 false (no_head hs (by decide))
  have H4 := ask g v s d 36 true (yes_head hs)
  have HQ := Lib.hid (hD d g v s false l l2 u w hr hp hf (by rw [hs]; rfl) h)
  have HR := Lib.hid hr
  clear hr hp hf hs h hD
  go_enter Tryz.func46, Tryz.ntmps46
  go_wp2_with fail
  refine (H1.out _ HR.out).mono ?_; rintro e w2 ⟨rfl, rfl⟩
  go_wp2_with fail
  refine (H2.out _ HR.out).mono ?_; rintro e w2 ⟨rfl, rfl⟩
  go_wp2_with fail
  refine (H3.out _ HR.out).mono ?_; rintro e w2 ⟨rfl, rfl⟩
  go_wp2_with fail
  refine (H4.out _ HR.out).mono ?_; rintro e w2 ⟨rfl, rfl⟩
  go_wp2_with fail
  refine HQ.out.mono ?_; rintro e w2 ⟨s3, hs3, ⟨rfl, hx⟩, hx2⟩
  go_wp2_with fail
  go_end0
  exact ⟨s3, hs3, ⟨rfl, hx⟩, hx2⟩
/-- A byte of its own kind. -/
theorem wpart_other (f d : Nat) (l : List PartT) (c : UInt8) (t : List UInt8) (h1 : c ≠ 92) (h2 : c ≠ 39) (h3 : c ≠ 34) (h4 : c ≠ 36) (h5 : c ≠ 96) : wpartF (f + 1) d l (c :: t) = some (putF l (.mk 1 [c] [] false []), t) := by
  rw [wpartF.eq_def]
  simp only
  split
  all_goals first | (rename_i e; cases e; done) | skip
  all_goals simp_all
theorem part_all (f : Nat) : PartOK f := by
  induction f using Nat.strongRecOn with
  | _ f hP =>
    intro d g v s l l2 u w hr hp hf h
    cases f with
    | zero => rw [wpartF] at h; cases h
    | succ f =>
      have hP' : ∀ f', f' < f → PartOK f' := fun f' hh => hP f' (by omega)
      cases hs : s.data.toList with
      | nil => rw [wpartF.eq_def, hs] at h; cases h
      | cons c t0 =>
        obtain ⟨t, rfl⟩ := mk_of t0
        rw [hs] at h
        by_cases h92 : c = 92
        · subst h92
          rw [wpartF.eq_def] at h
          cases ht : t.data.toList with
          | nil => rw [ht] at h; cases h
          | cons b t1 =>
            obtain ⟨t2, rfl⟩ := mk_of t1
            rw [ht] at h hs
            have := Prod.mk.inj (Option.some.inj h)
            rw [← this.1, ← this.2]
            exact part_esc d g v s t2 b l w hr hp hf hs
        · by_cases h39 : c = 39
          · subst h39
            rw [wpartF.eq_def] at h
            simp only at h
            by_cases hm : (39 : UInt8) ∈ t.data.toList
            · rw [if_pos hm] at h
              have := Prod.mk.inj (Option.some.inj h)
              obtain ⟨x, hx⟩ := mk_of (t.data.toList.takeWhile (· != 39))
              obtain ⟨ub, hub⟩ := mk_of u
              rw [← this.1, ← hub, ← hx]
              exact part_sq d g v s t x ub l w hr hp hf hs hm hx (by rw [hub, ← this.2])
            · rw [if_neg hm] at h; cases h
          · by_cases h34 : c = 34
            · subst h34
              rw [wpartF.eq_def] at h
              exact part_dq f (fun f' hh => inner_all f' fun f'' hh2 => hP' f'' (by omega)) d g v s t l l2 u w hr hp hf hs h
            · by_cases h36 : c = 36
              · subst h36
                rw [wpartF.eq_def] at h
                exact part_dollar f (dollar_all f hP') d g v s t l l2 u w hr hp hf hs (by rw [hs]; exact h)
              · by_cases h96 : c = 96
                · subst h96
                  rw [wpartF.eq_def] at h; cases h
                · rw [wpart_other f d l c _ h92 h39 h34 h36 h96] at h
                  have := Prod.mk.inj (Option.some.inj h)
                  rw [← this.1, ← this.2]
                  exact part_one d g v s t c l w hr hp hf hs h92 h39 h34 h36 h96
end Go.Proofs.YtkmpbkhlcapbgaaGreatDoor
