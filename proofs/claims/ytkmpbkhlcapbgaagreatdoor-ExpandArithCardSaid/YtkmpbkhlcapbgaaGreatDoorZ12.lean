/-
  DERIVED. The walk of word's arith: what is behind a dollar and two parentheses. The walk of word's within: the parts of a brace's word. Plain: the first one of a list. No program in sight. The walk of word's brace: a length; a parameter alone.
-/
import Derived.Test.YtkmpbkhlcapbgaaGreatDoorZ08
import Derived.Test.YtkmpbkhlcapbgaaGreatDoorZ11
import Derived.WalkKit
import Derived.Deep.RegionWith
namespace Go.Proofs.YtkmpbkhlcapbgaaGreatDoor
open Go Go.RowKit
theorem arithT_step (f : Nat) (deep : Int) (s out : List UInt8) (r : List UInt8 × List UInt8) (h : arithT (f + 1) deep s out = some r) :
    (deep = 0 ∧ [41, 41].isPrefixOf s = true ∧ r = (out, s.drop 2)) ∨
    (¬ (deep = 0 ∧ [41, 41].isPrefixOf s = true) ∧ ∃ c t, s = c :: t ∧ 0 ≤ deep + (if c = 40 then 1 else 0) - (if c = 41 then 1 else 0) ∧ arithT f (deep + (if c = 40 then 1 else 0) - (if c = 41 then 1 else 0)) t (out ++ [c]) = some r) := by
  unfold arithT at h
  by_cases hp : deep = 0 ∧ [41, 41].isPrefixOf s = true
  · rw [if_pos hp] at h
    cases h
    exact .inl ⟨hp.1, hp.2, rfl⟩
  · rw [if_neg hp] at h
    refine .inr ⟨hp, ?_⟩
    cases s with
    | nil => cases h
    | cons c t =>
      by_cases hd : deep + (if c = 40 then 1 else 0) - (if c = 41 then 1 else 0) < 0
      · simp only [if_pos hd] at h
        cases h
      · simp only [if_neg hd] at h
        exact ⟨c, t, rfl, by omega, h⟩
theorem count_one (c b : UInt8) : (Lib.countByte [c] b : Int) = if c = b then 1 else 0 := by
  unfold Lib.countByte
  rw [List.count_cons, List.count_nil]
  by_cases h : c = b
  · subst h; simp
  · simp [h]
set_option maxRecDepth 100000 in
set_option maxHeartbeats 4000000 in
theorem arith_at (g : Nat) (v : Value) (s : ByteArray) (d : Nat) (f : Nat) (t u : ByteArray) (w : World) (hr : Wr g v s d w) (ha : arithT f 0 s.data.toList [] = some (t.data.toList, u.data.toList)) :
    Calls Tryz.prog 103 #[.pointer (some ⟨g, 0, none⟩)] w fun e w' => e = .returned (.string t) ∧ Wr g v u d w' ∧ Kept g w w' ∧ t.size + u.size ≤ s.size := by
  have HR := Lib.hid hr
  have HA := Lib.hid ha
  have hsz := hr.size
  clear hr ha
  go_enter Tryz.func103, Tryz.ntmps103
  go_wp2_with fail
  go_loopg [3, 4] f (fun gk s3 s4 wx => ∃ (s' o' : ByteArray) (dp : Nat), Hid (Wr g v s' d wx ∧ Kept g w wx ∧ arithT gk (dp : Int) s'.data.toList o'.data.toList = some (t.data.toList, u.data.toList)) ∧ s3 = .string o' ∧ s4 = .int .i64 (dp : Int) ∧ dp ≤ o'.size ∧ o'.size + s'.size ≤ s.size)
  case atStart => exact ⟨s, ⟨#[]⟩, 0, ⟨HR.out, Kept.refl _ _, HA.out⟩, rfl, rfl, Nat.le_refl _, by show 0 + s.size ≤ s.size; omega⟩
  case round =>
    obtain ⟨s', o', dp, HH, rfl, rfl, hd1, hd2⟩ := hrel
    have HL := Lib.hid hd2
    cases gk with
    | zero => have := HH.out.2.2; rw [arithT] at this; cases this
    | succ gk =>
      obtain ⟨R1, K1, A1⟩ := HH.out
      clear HH HA
      rcases arithT_step _ _ _ _ _ A1 with ⟨h0, hp, hre⟩ | ⟨hno, c, t', hs', hge, hnext⟩
      · obtain rfl : dp = 0 := by omega
        have HP := Lib.hid (has_at g ⟨#[41, 41]⟩ v s' d true wr R1 hp)
        have h2 : 2 ≤ s'.size := by
          have e : s'.size = s'.data.toList.length := by simp
          have := (List.isPrefixOf_iff_prefix.1 hp).length_le
          rw [e]; exact this
        have HT := Lib.hid (take_at g 2 v s' d wr R1 h2)
        have hto : t = o' := by
          have := (Prod.mk.inj hre).1
          rw [← Lib.mk_data t, this, Lib.mk_data]
        have hu : s'.extract 2 s'.size = u := by
          have := (Prod.mk.inj hre).2
          rw [← Lib.mk_data (ByteArray.extract _ _ _), Lib.extract_to_end, ← this, Lib.mk_data]
        subst hto
        have hu2 : u.size ≤ s'.size := by rw [← hu, ByteArray.size_extract]; omega
        have HU := Lib.hid hu
        have HK := Lib.hid K1
        clear A1 hp hre R1 hu K1 HR
        go_wp2_with fail
        refine HP.out.mono ?_; rintro e w1 ⟨rfl, rfl⟩
        go_wp2_with fail
        refine HT.out.mono ?_; rintro e w1 ⟨rfl, R2, K2⟩
        go_wp2_with fail
        go_ret
        exact ⟨rfl, by rw [← HU.out]; exact R2, HK.out.trans K2, by have := HL.out; omega⟩
      · have h1 : 1 ≤ s'.size := by
          have e : s'.size = s'.data.toList.length := by simp
          rw [e, hs']; simp
        have HT := Lib.hid (take_at g 1 v s' d wr R1 h1)
        have hc1 : s'.extract 0 1 = ⟨#[c]⟩ := by rw [← Lib.mk_data (ByteArray.extract _ _ _), Lib.extract_data, hs']; rfl
        have ht1 : (s'.extract 1 s'.size).data.toList = t' := by rw [Lib.extract_to_end, hs']; rfl
        have hsz1 : (s'.extract 1 s'.size).size + 1 = s'.size := by rw [ByteArray.size_extract]; omega
        have HC1 := Lib.hid (fun W => Tryz.strings_Count_one (⟨#[c]⟩ : ByteArray) 40 W)
        have HC2 := Lib.hid (fun W => Tryz.strings_Count_one (⟨#[c]⟩ : ByteArray) 41 W)
        obtain ⟨n1, hn1⟩ : ∃ n, Lib.countByte (⟨#[c]⟩ : ByteArray).data.toList 40 = n := ⟨_, rfl⟩
        obtain ⟨n2, hn2⟩ : ∃ n, Lib.countByte (⟨#[c]⟩ : ByteArray).data.toList 41 = n := ⟨_, rfl⟩
        have e1 : ((n1 : Nat) : Int) = if c = 40 then 1 else 0 := by rw [← hn1]; exact count_one c 40
        have e2 : ((n2 : Nat) : Int) = if c = 41 then 1 else 0 := by rw [← hn2]; exact count_one c 41
        have hsum : (dp : Int) + ((n1 : Int) - (n2 : Int)) = (dp : Int) + (if c = 40 then 1 else 0) - (if c = 41 then 1 else 0) := by rw [← e1, ← e2]; omega
        rw [← hsum] at hge hnext
        have hn1' : n1 ≤ 1 := by split at e1 <;> omega
        have hn2' : n2 ≤ 1 := by split at e2 <;> omega
        obtain ⟨dp2, hdp2⟩ : ∃ dp2 : Nat, (dp : Int) + ((n1 : Int) - (n2 : Int)) = (dp2 : Int) := ⟨_, (Int.toNat_of_nonneg hge).symm⟩
        rw [hdp2] at hnext
        have hw1 : IntKind.i64.wrap ((n1 : Int) - (n2 : Int)) = (n1 : Int) - (n2 : Int) := by
          have q1 : n1 = 0 ∨ n1 = 1 := by omega
          have q2 : n2 = 0 ∨ n2 = 1 := by omega
          clear HC1 HC2 hn1 hn2 e1 e2 hsum hge hnext hdp2
          rcases q1 with rfl | rfl <;> rcases q2 with rfl | rfl <;> rfl
        have hw2 : IntKind.i64.wrap ((dp : Int) + ((n1 : Int) - (n2 : Int))) = (dp2 : Int) := by rw [hdp2]; exact wrap_small _ (by omega) (by omega)
        have hnl : ¬ ((dp2 : Int) < 0) := by omega
        have hcat : o'.size + 1 ≤ 4611686018427387904 := by omega
        rw [hn1] at HC1
        rw [hn2] at HC2
        rw [hc1] at HT
        have HE : Hid (arithT gk (dp2 : Int) (s'.extract 1 s'.size).data.toList (o' ++ ⟨#[c]⟩ : ByteArray).data.toList = some (t.data.toList, u.data.toList)) := by
          unfold Hid
          rw [ht1, show (o' ++ ⟨#[c]⟩ : ByteArray).data.toList = o'.data.toList ++ [c] by simp]
          exact hnext
        have hsz3 : (o' ++ ⟨#[c]⟩ : ByteArray).size = o'.size + 1 := by rw [ByteArray.size_append]; rfl
        have HF : Hid (dp2 ≤ (o' ++ ⟨#[c]⟩ : ByteArray).size ∧ (o' ++ ⟨#[c]⟩ : ByteArray).size + (s'.extract 1 s'.size).size ≤ s.size) := ⟨by rw [hsz3]; omega, by rw [hsz3]; omega⟩
        have HK := Lib.hid K1
        by_cases hdp : dp = 0
        · subst hdp
          have hnp : [41, 41].isPrefixOf s'.data.toList = false := by
            cases h : [41, 41].isPrefixOf s'.data.toList
            · rfl
            · exact absurd ⟨rfl, h⟩ hno
          have HP := Lib.hid (has_at g ⟨#[41, 41]⟩ v s' d false wr R1 hnp)
          have hz0 : (n1 : Int) - (n2 : Int) = (dp2 : Int) := by rw [← hdp2]; omega
          have hnl0 : ¬ ((n1 : Int) - (n2 : Int) < 0) := by omega
          have HZ0 := Lib.hid hz0
          clear hz0 A1 R1 K1 HR hs' hno hnp hge hnext e1 e2 hsum hdp2 hn1 hn2 ht1 hc1 hsz1 hsz3
          go_wp2_with fail
          refine HP.out.mono ?_; rintro e w1 ⟨rfl, rfl⟩
          go_wp2_with fail
          refine HT.out.mono ?_; rintro e w1 ⟨rfl, R2, K2⟩
          go_wp2_with fail
          refine (HC1.out _).mono ?_; rintro e w2 ⟨rfl, rfl⟩
          go_wp2_with fail
          refine (HC2.out _).mono ?_; rintro e w2 ⟨rfl, rfl⟩
          go_wp2_with fail
          go_roundg gk
          case measure => omega
          case rel => exact ⟨_, _, dp2, ⟨R2, HK.out.trans K2, HE.out⟩, rfl, by rw [HZ0.out], HF.out.1, HF.out.2⟩
        · have hpos : (0 : Int) < (dp : Int) := by omega
          have hpos' : 0 < dp := by omega
          clear A1 R1 K1 HR hs' hno hge hnext e1 e2 hsum hdp2 hn1 hn2 ht1 hc1 hsz1 hsz3
          go_wp2_with fail
          refine HT.out.mono ?_; rintro e w1 ⟨rfl, R2, K2⟩
          go_wp2_with fail
          refine (HC1.out _).mono ?_; rintro e w2 ⟨rfl, rfl⟩
          go_wp2_with fail
          refine (HC2.out _).mono ?_; rintro e w2 ⟨rfl, rfl⟩
          go_wp2_with fail
          go_roundg gk
          case measure => omega
          case rel => exact ⟨_, _, dp2, ⟨R2, HK.out.trans K2, HE.out⟩, rfl, by go_num, HF.out.1, HF.out.2⟩
end Go.Proofs.YtkmpbkhlcapbgaaGreatDoor
namespace Go.Proofs.YtkmpbkhlcapbgaaGreatDoor
open Go Go.RowKit
def WPost (g d : Nat) (l : List PartT) (u : List UInt8) (n : Nat) (w : World) (e : Ending) (w' : World) : Prop :=
  ∃ s' : ByteArray, s'.data.toList = u ∧ PutPost g s' d l w e w' ∧ Few l s'.size ∧ s'.size < n
def PartOK (f : Nat) : Prop := ∀ (d g : Nat) (v : Value) (s : ByteArray) (l l2 : List PartT) (u : List UInt8) (w : World), Wr g v s d w → Wp g v l w → Few l s.size → wpartF f d l s.data.toList = some (l2, u) →
  Calls Tryz.prog 46 #[.pointer (some ⟨g, 0, none⟩)] w (WPost g d l2 u s.size w)
/-- Parts that lie in memory, told of by a slice. -/
def WordIn (w : World) (S : Nat → Prop) (v : Value) (l : List PartT) : Prop := ∃ ys, WordV w S v l.length ys ∧ PartsAt w S l ys
theorem WordIn.keep {w w' : World} {S S' : Nat → Prop} (hs : w.heap.size ≤ w'.heap.size) (hk : ∀ b, S b → b < w.heap.size → w'.heap[b]? = w.heap[b]? ∧ S' b) {v : Value} {l : List PartT} (h : WordIn w S v l) : WordIn w' S' v l := by
  obtain ⟨ys, h1, h2⟩ := h
  exact ⟨ys, h1.keep hs hk, h2.keep hs hk⟩
theorem Wp.word {g : Nat} {v : Value} {l : List PartT} {w : World} (h : Wp g v l w) : WordIn w (fun b => g < b) v l := by
  obtain ⟨xs, h1, h2⟩ := h.has
  refine ⟨xs, ?_, h2.keep (Nat.le_refl _) fun b hb _ => ⟨rfl, hb.1⟩⟩
  rcases known_of_own h1 with ⟨rfl, h0⟩ | ⟨g2, cap, cur, rfl, hg, hk⟩
  · exact ⟨none, 0, by rw [h0], by omega, .inl h0⟩
  · exact ⟨_, cap, rfl, hk.le, .inr ⟨g2, rfl, hg, hk.lt, fun j u hu => hk.cell j u hu⟩⟩
theorem head_is (s : ByteArray) (c : UInt8) : (⟨#[c]⟩ : ByteArray).data.toList.isPrefixOf s.data.toList = decide (s.data.toList.head? = some c) := by
  show [c].isPrefixOf s.data.toList = _
  cases s.data.toList with
  | nil => rfl
  | cons a t =>
    by_cases h : c = a
    · subst h; simp [List.isPrefixOf]
    · have h2 : ¬ ((a :: t).head? = some c) := fun e => h (by simpa using e.symm)
      rw [decide_eq_false h2]
      simp [List.isPrefixOf, h]
/-- A reader of its own, within. -/
theorem in_new {w : World} {g : Nat} {v : Value} {s : ByteArray} {d : Nat} (hr : Wr g v s d w) (hd : d < 8) :
    Wr w.heap.size (.slice none 0 0) s (d + 1) (w.alloc (.cells #[.slice none 0 0, .string s, .int .i64 ((d : Int) + 1)] 90)).drew ∧
    Wp w.heap.size (.slice none 0 0) [] (w.alloc (.cells #[.slice none 0 0, .string s, .int .i64 ((d : Int) + 1)] 90)).drew := by
  have b : Below w.heap.size w (w.alloc (.cells #[.slice none 0 0, .string s, .int .i64 ((d : Int) + 1)] 90)).drew := ((Below.refl _ w).alloc (Nat.le_refl _) _).drew
  have hl := hr.row.lt
  have hf := hr.far
  refine ⟨⟨?_, hr.size, by omega, ⟨Nat.lt_trans hf.1 hl, Nat.lt_trans hf.2 hl⟩, hr.tab.below ⟨Nat.lt_trans hf.1 hl, Nat.lt_trans hf.2 hl⟩ b⟩, ⟨⟨[], World.ownsRow_nil _ _ _ _, .nil⟩⟩⟩
  exact RowIs.new w 90 [.slice none 0 0, .string s, .int .i64 ((d : Int) + 1)]
set_option maxRecDepth 100000 in
set_option maxHeartbeats 4000000 in
theorem within_word (f : Nat) (hP : ∀ f', f' < f → PartOK f') (d : Nat) (hd : d < 8) (g : Nat) (v : Value) (s u : ByteArray) (l : List PartT) (w : World) (hr : Wr g v s d w) (hu : untilF f (d + 1) [] s.data.toList = some (l, u.data.toList)) :
    Calls Tryz.prog 134 #[.pointer (some ⟨g, 0, none⟩)] w fun e w' => ∃ a n c, e = .returned (.slice a n c) ∧ WordIn w' (fun b => w.heap.size ≤ b) (.slice a n c) l ∧ Wr g v u d w' ∧ Kept g w w' ∧ u.size < s.size := by
  obtain ⟨r0, r1, r2, f0, f1, f2, lt0⟩ := three_facts hr.row
  have hdb : (d : Int) ≤ 8 := by omega
  have hda : (0 : Int) ≤ (d : Int) := by omega
  have HR := Lib.hid hr
  have HU := Lib.hid hu
  have HP := Lib.hid hP
  have HD := Lib.hid hd
  clear hr hu hP hd
  go_enter Tryz.func134, Tryz.ntmps134
  go_wp2_with fail
  go_region
  go_wp2_with fail
  obtain ⟨R0, P0⟩ := in_new HR.out HD.out
  obtain ⟨W0, hW0⟩ : ∃ W0, (w.alloc (.cells #[.slice none 0 0, .string s, .int .i64 ((d : Int) + 1)] 90)).drew = W0 := ⟨_, rfl⟩
  have B0 : Below w.heap.size w W0 := by rw [← hW0]; exact ((Below.refl _ w).alloc (Nat.le_refl _) _).drew
  rw [hW0] at R0 P0 ⊢
  have F0 : Few [] s.size := Few.nil HR.out.size
  have HB0 := Lib.hid B0
  have H00 : Hid (Wr w.heap.size (.slice none 0 0) s (d + 1) W0 ∧ Wp w.heap.size (.slice none 0 0) [] W0) := ⟨R0, P0⟩
  clear hW0 B0 R0 P0
  go_loopg [] f (fun gk wx => ∃ (v' : Value) (s' : ByteArray) (l' : List PartT), Hid (Wr w.heap.size v' s' (d + 1) wx ∧ Wp w.heap.size v' l' wx ∧ Few l' s'.size ∧ Below w.heap.size w wx ∧ untilF gk (d + 1) l' s'.data.toList = some (l, u.data.toList)) ∧ Hid (gk ≤ f) ∧ Hid (s'.size ≤ s.size))
  case atStart => exact ⟨_, s, [], ⟨H00.out.1, H00.out.2, F0, HB0.out, HU.out⟩, Nat.le_refl _, Nat.le_refl _⟩
  case round =>
    obtain ⟨v', s', l', HH, HG, HS⟩ := hrel
    cases gk with
    | zero => have := HH.out.2.2.2.2; rw [untilF] at this; cases this
    | succ gk =>
      obtain ⟨R1, P1, F1, B1, U1⟩ := HH.out
      rw [untilF] at U1
      by_cases h1 : s'.data.toList.head? = some 125
      · rw [if_pos h1] at U1
        have HH1 := Lib.hid (has_at w.heap.size ⟨#[125]⟩ v' s' (d + 1) true wr R1 (by rw [head_is, decide_eq_true h1]))
        have hpos : 1 ≤ s'.size := by
          have e : s'.size = s'.data.toList.length := by simp
          rw [e]
          cases h : s'.data.toList with
          | nil => rw [h] at h1; cases h1
          | cons a t => simp
        have HT := Lib.hid (take_at w.heap.size 1 v' s' (d + 1) wr R1 hpos)
        have hl' : l' = l := (Prod.mk.inj (Option.some.inj U1)).1
        have hu' : s'.extract 1 s'.size = u := by
          have := (Prod.mk.inj (Option.some.inj U1)).2
          rw [← Lib.mk_data (ByteArray.extract _ _ _), Lib.extract_to_end, List.drop_one, this, Lib.mk_data]
        have hus : Hid (u.size < s.size) := by
          have h3 := HS.out
          unfold Hid
          rw [← hu', ByteArray.size_extract]; omega
        subst hl'
        rw [hu'] at HT
        have HP1 := Lib.hid P1
        have HB1 := Lib.hid B1
        have HLT := Lib.hid R1.row.lt
        clear R1 P1 F1 B1 U1 HH h1 hu' HU H00
        go_wp2_with fail
        refine HH1.out.mono ?_; rintro e w1 ⟨rfl, rfl⟩
        go_wp2_with fail
        refine HT.out.mono ?_; rintro e w2 ⟨rfl, R2, K2⟩
        have b2 : Below w.heap.size w w2 := HB1.out.trans (K2.below (Nat.le_of_lt HLT.out))
        have rg := HR.out.row.below b2
        obtain ⟨a0, a1, a2, e0, e1, e2, lt2⟩ := three_facts rg
        obtain ⟨q0, q1, q2, p0, p1, p2, lt3⟩ := three_facts R2.row
        have HP2 := Lib.hid (HP1.out.kept K2)
        have HRG := Lib.hid rg
        have HB2 := Lib.hid b2
        have hne : ¬ w.heap.size = g := by omega
        obtain ⟨va, vn, vc, rfl⟩ : ∃ a n c, v' = .slice a n c := by
          obtain ⟨xs, h1, _⟩ := HP1.out.has
          obtain ⟨a, c, e⟩ := own_slice h1
          exact ⟨a, _, c, e⟩
        clear R2 K2 b2 rg
        go_wp2_with fail
        go_ret
        have k2 := (Kept.of (g := g) HB2.out).set 1 (.string u)
        refine ⟨va, vn, vc, rfl, HP2.out.word.keep (by simp) fun b hb hbl => ⟨Below.heap_setCell _ _ _ _ (by show b ≠ g; omega), by omega⟩, HR.out.next k2 (HRG.out.set 1 _) (by have := hus.out; have := HR.out.size; omega), k2, hus.out⟩
      · rw [if_neg h1] at U1
        have HH1 := Lib.hid (has_at w.heap.size ⟨#[125]⟩ v' s' (d + 1) false wr R1 (by rw [head_is, decide_eq_false h1]))
        obtain ⟨l2, u2, hp2, hn2⟩ : ∃ l2 u2, wpartF gk (d + 1) l' s'.data.toList = some (l2, u2) ∧ untilF gk (d + 1) l2 u2 = some (l, u.data.toList) := by
          cases hw : wpartF gk (d + 1) l' s'.data.toList with
          | none => rw [hw] at U1; cases U1
          | some x => rw [hw] at U1; exact ⟨x.1, x.2, rfl, U1⟩
        have HC := Lib.hid (HP.out gk (by have := HG.out; omega) (d + 1) w.heap.size v' s' l' l2 u2 wr R1 P1 F1 hp2)
        have HB1 := Lib.hid B1
        have HN := Lib.hid hn2
        clear R1 P1 F1 B1 U1 HH h1 hp2 hn2 HU H00
        go_wp2_with fail
        refine HH1.out.mono ?_; rintro e w1 ⟨rfl, rfl⟩
        go_wp2_with fail
        refine HC.out.mono ?_; rintro e w2 ⟨s3, hs3, ⟨rfl, v3, R3, P3, B3⟩, F3, L3⟩
        go_wp2_with fail
        go_roundg gk
        case measure => omega
        case rel => exact ⟨v3, s3, l2, ⟨R3, P3, F3, HB1.out.trans B3, by rw [hs3]; exact HN.out⟩, by have := HG.out; unfold Hid; omega, by have := HS.out; unfold Hid; omega⟩
end Go.Proofs.YtkmpbkhlcapbgaaGreatDoor
namespace Go.Proofs.YtkmpbkhlcapbgaaGreatDoor
theorem find_at {α : Type} (p : α → Bool) (d : α) : ∀ (l : List α) (i : Nat), i < l.length → (∀ j, j < i → p (l.getD j d) = false) → p (l.getD i d) = true → l.find? p = some (l.getD i d)
  | [], i, h, _, _ => by simp at h
  | a :: l, 0, _, _, h => by simp at h; simp [h]
  | a :: l, i + 1, hl, hn, h => by
    have h0 : p a = false := hn 0 (by omega)
    rw [List.find?_cons_of_neg (by simp [h0])]
    exact find_at p d l i (by simpa using hl) (fun j hj => hn (j + 1) (by omega)) h
theorem find_no {α : Type} (p : α → Bool) (d : α) : ∀ (l : List α), (∀ j, j < l.length → p (l.getD j d) = false) → l.find? p = none
  | [], _ => rfl
  | a :: l, hn => by
    have h0 : p a = false := hn 0 (by simp)
    rw [List.find?_cons_of_neg (by simp [h0])]
    exact find_no p d l (fun j hj => hn (j + 1) (by simpa using hj))
end Go.Proofs.YtkmpbkhlcapbgaaGreatDoor
namespace Go.Proofs.YtkmpbkhlcapbgaaGreatDoor
open Go Go.RowKit
def BracePost (g : Nat) (v : Value) (d : Nat) (p : PartT) (u : ByteArray) (n : Nat) (w : World) (e : Ending) (w' : World) : Prop :=
  ∃ (t op : ByteArray) (a : Option Addr) (m c : Nat), e = .returned (.agg #[.int .i64 3, .string t, .string op, .bool false, .slice a m c]) ∧ OneAt w' (fun b => w.heap.size ≤ b) p 3 t op false (.slice a m c) ∧ Wr g v u d w' ∧ Kept g w w' ∧ t.size + u.size < n
theorem five_facts {W : World} {b e : Nat} {x0 x1 x2 x3 x4 : Value} (r : RowIs W b e [x0, x1, x2, x3, x4]) :
    W.cell? ⟨b, 0, none⟩ = some x0 ∧ W.cell? ⟨b, 1, none⟩ = some x1 ∧ W.cell? ⟨b, 2, none⟩ = some x2 ∧ W.cell? ⟨b, 3, none⟩ = some x3 ∧ W.cell? ⟨b, 4, none⟩ = some x4 ∧
    W.frozen? ⟨b, 0, none⟩ = false ∧ W.frozen? ⟨b, 1, none⟩ = false ∧ W.frozen? ⟨b, 2, none⟩ = false ∧ W.frozen? ⟨b, 3, none⟩ = false ∧ W.frozen? ⟨b, 4, none⟩ = false ∧ b < W.heap.size :=
  ⟨by rw [r.cell]; rfl, by rw [r.cell]; rfl, by rw [r.cell]; rfl, by rw [r.cell]; rfl, by rw [r.cell]; rfl, r.free _, r.free _, r.free _, r.free _, r.free _, r.lt⟩
/-- A reader of a text, of its own. -/
theorem in_new0 {w : World} {g : Nat} {v : Value} {s : ByteArray} {d : Nat} (hr : Wr g v s d w) (s1 : ByteArray) (h1 : s1.size ≤ 1000000000) :
    Wr w.heap.size (.slice none 0 0) s1 0 (w.alloc (.cells #[.slice none 0 0, .string s1, .int .i64 0] 90)) := by
  have b : Below w.heap.size w (w.alloc (.cells #[.slice none 0 0, .string s1, .int .i64 0] 90)) := (Below.refl _ w).alloc (Nat.le_refl _) _
  have hl := hr.row.lt
  have hf := hr.far
  exact ⟨RowIs.new w _ _, h1, by omega, ⟨Nat.lt_trans hf.1 hl, Nat.lt_trans hf.2 hl⟩, hr.tab.below ⟨Nat.lt_trans hf.1 hl, Nat.lt_trans hf.2 hl⟩ b⟩
abbrev zeroP0 : List Value := [.int .i64 0, .string ⟨#[]⟩, .string ⟨#[]⟩, .bool false, .slice none 0 0]
/-- What brace carries: its reader, its result, its part. -/
structure Bc (g : Nat) (v : Value) (s : ByteArray) (d : Nat) (t op : ByteArray) (wv : Value) (w0 w : World) : Prop where
  rd : Wr g v s d w
  kept : Kept g w0 w
  res : RowIs w w0.heap.size 92 zeroP0
  par : RowIs w (w0.heap.size + 1) 92 [.int .i64 3, .string t, .string op, .bool false, wv]
  gw : g < w0.heap.size
theorem Bc.start {g : Nat} {v : Value} {s : ByteArray} {d : Nat} {w : World} (hr : Wr g v s d w) : Bc g v s d ⟨#[]⟩ ⟨#[]⟩ (.slice none 0 0) w ((w.alloc (.cells #[.int .i64 0, .string ⟨#[]⟩, .string ⟨#[]⟩, .bool false, .slice none 0 0] 92)).alloc (.cells #[.int .i64 3, .string ⟨#[]⟩, .string ⟨#[]⟩, .bool false, .slice none 0 0] 92)) := by
  have k := ((Kept.refl g w).alloc (.cells #[.int .i64 0, .string ⟨#[]⟩, .string ⟨#[]⟩, .bool false, .slice none 0 0] 92)).alloc (.cells #[.int .i64 3, .string ⟨#[]⟩, .string ⟨#[]⟩, .bool false, .slice none 0 0] 92)
  refine ⟨hr.next k ((hr.row.alloc _).alloc _) hr.size, k, (RowIs.new w _ zeroP0).alloc _, ?_, hr.row.lt⟩
  have := RowIs.new (w.alloc (.cells #[.int .i64 0, .string ⟨#[]⟩, .string ⟨#[]⟩, .bool false, .slice none 0 0] 92)) 92 [.int .i64 3, .string ⟨#[]⟩, .string ⟨#[]⟩, .bool false, .slice none 0 0]
  simpa using this
theorem Bc.next {g : Nat} {v v' : Value} {s s' : ByteArray} {d : Nat} {t op : ByteArray} {wv : Value} {w0 w w' : World} (h : Bc g v s d t op wv w0 w) (k : Kept g w w') (r : Wr g v' s' d w') : Bc g v' s' d t op wv w0 w' :=
  have := h.gw
  ⟨r, h.kept.trans k, k.row h.res (by omega), k.row h.par (by omega), h.gw⟩
theorem Bc.below {g : Nat} {v : Value} {s : ByteArray} {d : Nat} {t op : ByteArray} {wv : Value} {w0 w w' : World} (h : Bc g v s d t op wv w0 w) (k : Below w.heap.size w w') : Bc g v s d t op wv w0 w' :=
  h.next (Kept.of k) (h.rd.next (Kept.of k) (h.rd.row.below k) h.rd.size)
theorem Bc.setP {g : Nat} {v : Value} {s : ByteArray} {d : Nat} {t op : ByteArray} {wv : Value} {w0 w : World} (h : Bc g v s d t op wv w0 w) (j : Nat) (u : Value) {t' op' : ByteArray} {wv' : Value} (e : ([.int .i64 3, .string t, .string op, .bool false, wv] : List Value).set j u = [.int .i64 3, .string t', .string op', .bool false, wv']) :
    Bc g v s d t' op' wv' w0 (w.setCell ⟨w0.heap.size + 1, j, none⟩ u) := by
  have hg := h.gw
  have b := (Below.refl (w0.heap.size + 1) w).setCell (p := ⟨w0.heap.size + 1, j, none⟩) (Nat.le_refl _) u
  have hf := h.rd.far
  refine ⟨⟨h.rd.row.other (by show g ≠ w0.heap.size + 1; omega) u, h.rd.size, h.rd.deep, h.rd.far, h.rd.tab.below ⟨Nat.lt_trans hf.1 (by omega), Nat.lt_trans hf.2 (by omega)⟩ b⟩, h.kept.new (Nat.le_succ _) j u, h.res.other (by show w0.heap.size ≠ w0.heap.size + 1; omega) u, ?_, hg⟩
  have := h.par.set j u
  rw [e] at this
  exact this
theorem Bc.finish {g : Nat} {v : Value} {s : ByteArray} {d : Nat} {t op : ByteArray} {wv : Value} {w0 w : World} (h : Bc g v s d t op wv w0 w) (W' : World)
    (hW : (((((w.setCell ⟨w0.heap.size, 0, none⟩ (.int .i64 3)).setCell ⟨w0.heap.size, 1, none⟩ (.string t)).setCell ⟨w0.heap.size, 2, none⟩ (.string op)).setCell ⟨w0.heap.size, 3, none⟩ (.bool false)).setCell ⟨w0.heap.size, 4, none⟩ wv) = W') :
    RowIs W' w0.heap.size 92 [.int .i64 3, .string t, .string op, .bool false, wv] ∧ Wr g v s d W' ∧ Kept g w0 W' ∧ w.heap.size ≤ W'.heap.size ∧ ∀ b, b ≠ w0.heap.size → W'.heap[b]? = w.heap[b]? := by
  have hg := h.gw
  have k := ((((h.kept.new (Nat.le_refl _) 0 (.int .i64 3)).new (Nat.le_refl _) 1 (.string t)).new (Nat.le_refl _) 2 (.string op)).new (Nat.le_refl _) 3 (.bool false)).new (Nat.le_refl _) 4 wv
  have hne : g ≠ w0.heap.size := by omega
  have b := ((((((Below.refl w0.heap.size w).setCell (p := ⟨w0.heap.size, 0, none⟩) (Nat.le_refl _) (.int .i64 3)).setCell (p := ⟨w0.heap.size, 1, none⟩) (Nat.le_refl _) (.string t)).setCell (p := ⟨w0.heap.size, 2, none⟩) (Nat.le_refl _) (.string op)).setCell (p := ⟨w0.heap.size, 3, none⟩) (Nat.le_refl _) (.bool false)).setCell (p := ⟨w0.heap.size, 4, none⟩) (Nat.le_refl _) wv)
  have hf := h.rd.far
  have r := ((((h.res.set 0 (.int .i64 3)).set 1 (.string t)).set 2 (.string op)).set 3 (.bool false)).set 4 wv
  have rg := ((((h.rd.row.other (a := ⟨w0.heap.size, 0, none⟩) hne (.int .i64 3)).other (a := ⟨w0.heap.size, 1, none⟩) hne (.string t)).other (a := ⟨w0.heap.size, 2, none⟩) hne (.string op)).other (a := ⟨w0.heap.size, 3, none⟩) hne (.bool false)).other (a := ⟨w0.heap.size, 4, none⟩) hne wv
  rw [hW] at k b r rg
  refine ⟨r, ⟨rg, h.rd.size, h.rd.deep, h.rd.far, h.rd.tab.below ⟨Nat.lt_trans hf.1 hg, Nat.lt_trans hf.2 hg⟩ b⟩, k, b.size, fun x hx => ?_⟩
  rw [← hW]
  repeat (refine (Below.heap_setCell _ _ _ _ hx).trans ?_)
  rfl
theorem take_one (w : World) (S : Nat → Prop) (k : Nat) (s1 : ByteArray) (n : Nat) (op : ByteArray) (q : Bool) : OneAt w S (.mk k (s1.data.toList.take n) op.data.toList q []) k (s1.extract 0 n) op q (.slice none 0 0) := by
  have := plain_one w S k (s1.extract 0 n) op q
  rw [Lib.extract_data] at this
  simpa using this
set_option maxRecDepth 100000 in
set_option maxHeartbeats 4000000 in
theorem brace_len (d g : Nat) (v : Value) (s s1 u : ByteArray) (n : Nat) (w : World) (hr : Wr g v s d w) (hs : s.data.toList = 35 :: s1.data.toList) (hn : wparF s1.data.toList = n) (h0 : 0 < n) (hb : (s1.data.toList.drop n).head? = some 125) (hu : u.data.toList = s1.data.toList.drop (n + 1)) :
    Calls Tryz.prog 102 #[.pointer (some ⟨g, 0, none⟩)] w (BracePost g v d (.mk 3 (s1.data.toList.take n) [108, 101, 110] false []) u s.size w) := by
  obtain ⟨r0, r1, r2, f0, f1, f2, lt0⟩ := three_facts hr.row
  have hsz : s.size = s1.size + 1 := by
    have e1 : s.size = s.data.toList.length := by simp
    have e2 : s1.size = s1.data.toList.length := by simp
    rw [e1, hs, e2]; rfl
  have hn1 : n + 1 ≤ s1.size := by
    have e2 : s1.size = s1.data.toList.length := by simp
    rw [e2]
    rcases Nat.lt_or_ge n s1.data.toList.length with h | h
    · exact h
    · rw [List.drop_of_length_le h] at hb; cases hb
  have es1 : s.extract 1 s.size = s1 := by rw [← Lib.mk_data (ByteArray.extract _ _ _), ← Lib.mk_data s1, Lib.extract_to_end, hs]; rfl
  have HH := Lib.hid (fun W (R : Wr g v s d W) => has_at g ⟨#[35]⟩ v s d true W R (by rw [head_is, hs]; rfl))
  have HPF := Lib.hid (fun W => (show Calls Tryz.prog 70 #[.string (s1.extract n s1.size), .string ⟨#[125]⟩] W fun e w' => e = .returned (.bool true) ∧ w' = W by
    have h := Tryz.strings_HasPrefix (s1.extract n s1.size) ⟨#[125]⟩ W
    have e : Lib.hasPrefix (s1.extract n s1.size).data.toList (⟨#[125]⟩ : ByteArray).data.toList = true := by
      show (⟨#[125]⟩ : ByteArray).data.toList.isPrefixOf (s1.extract n s1.size).data.toList = true
      rw [head_is, Lib.extract_to_end, hb]; simp
    rw [e] at h
    exact h))
  have HR := Lib.hid hr
  have hs1b : (1 : Int) ≤ (s.size : Int) := by omega
  have hnb : (n : Int) ≤ (s1.size : Int) := by omega
  have hn0 : (0 : Int) < (n : Int) := by omega
  have HSZ := Lib.hid hsz
  have HN1 := Lib.hid hn1
  have HWN := Lib.hid hn
  have HUU : Hid ((s1.extract n s1.size).extract 1 (s1.extract n s1.size).size = u) := by
    unfold Hid
    rw [← Lib.mk_data (ByteArray.extract _ 1 _), ← Lib.mk_data u, Lib.extract_to_end, Lib.extract_to_end, hu, List.drop_drop]
  have HUS : Hid (n + u.size < s.size) := by
    have e1 : u.size = u.data.toList.length := by simp
    have e2 : s1.size = s1.data.toList.length := by simp
    unfold Hid
    rw [e1, hu, List.length_drop, hsz, e2]
    rw [e2] at hn1
    omega
  clear hr hs hb hsz hn1 hn hu
  go_enter Tryz.func102, Tryz.ntmps102
  go_wp2_with fail
  have B1 := Bc.start HR.out
  obtain ⟨W1, hW1⟩ : ∃ W1, ((w.alloc (.cells #[.int .i64 0, .string ⟨#[]⟩, .string ⟨#[]⟩, .bool false, .slice none 0 0] 92)).alloc (.cells #[.int .i64 3, .string ⟨#[]⟩, .string ⟨#[]⟩, .bool false, .slice none 0 0] 92)) = W1 := ⟨_, rfl⟩
  rw [hW1] at B1 ⊢
  have HB1 := Lib.hid B1
  clear hW1 r0 r1 r2 f0 f1 f2
  obtain ⟨r0, r1, r2, f0, f1, f2, lt1⟩ := three_facts B1.rd.row
  clear B1
  refine (HH.out W1 HB1.out.rd).mono ?_; rintro e w1 ⟨rfl, rfl⟩
  go_wp2_with fail
  have R3 := in_new0 HB1.out.rd s1 (by have := HSZ.out; have := HR.out.size; omega)
  have B3 := HB1.out.below ((Below.refl W1.heap.size W1).alloc (Nat.le_refl _) (.cells #[.slice none 0 0, .string s1, .int .i64 0] 90))
  obtain ⟨W3, hW3⟩ : ∃ W3, W1.alloc (.cells #[.slice none 0 0, .string s1, .int .i64 0] 90) = W3 := ⟨_, rfl⟩
  rw [hW3] at R3 B3 ⊢
  have HPR := Lib.hid (parameter_at W1.heap.size (.slice none 0 0) s1 0 W3 R3)
  rw [HWN.out] at HPR
  obtain ⟨x0, x1, x2, y0, y1, y2, lt3⟩ := three_facts R3.row
  have HT1 := Lib.hid (take_at g 1 v s d W3 B3.rd (by have := HSZ.out; omega))
  rw [es1] at HT1
  have HB3 := Lib.hid B3
  clear hW3 R3 B3 r0 r1 r2 f0 f1 f2
  refine HPR.out.mono ?_; rintro e w1 ⟨rfl, rfl⟩
  go_wp2_with fail
  refine (HPF.out _).mono ?_; rintro e w1 ⟨rfl, hw1⟩; subst hw1
  go_wp2_with fail
  refine HT1.out.mono ?_; rintro e w4 ⟨rfl, R4, K4⟩
  have B4 := HB3.out.next K4 R4
  obtain ⟨p0, p1, p2, p3, p4, q0, q1, q2, q3, q4, ltp⟩ := five_facts B4.par
  have HB4 := Lib.hid B4
  clear R4 K4 B4 x0 x1 x2 y0 y1 y2
  go_wp2_with fail
  have B5 := HB4.out.setP 2 (.string ⟨#[108, 101, 110]⟩) (t' := ⟨#[]⟩) (op' := ⟨#[108, 101, 110]⟩) (wv' := .slice none 0 0) rfl
  have HT2 := Lib.hid (take_at g n v s1 d _ B5.rd (by have := HN1.out; omega))
  have HB5 := Lib.hid B5
  clear B5
  refine HT2.out.mono ?_; rintro e w6 ⟨rfl, R6, K6⟩
  have B6 := HB5.out.next K6 R6
  clear p0 p1 p2 p3 p4 q0 q1 q2 q3 q4
  obtain ⟨p0, p1, p2, p3, p4, q0, q1, q2, q3, q4, ltp6⟩ := five_facts B6.par
  have HB6 := Lib.hid B6
  clear R6 K6 B6
  go_wp2_with fail
  have B7 := HB6.out.setP 1 (.string (s1.extract 0 n)) (t' := s1.extract 0 n) (op' := ⟨#[108, 101, 110]⟩) (wv' := .slice none 0 0) rfl
  have hsz7 : (s1.extract n s1.size).size = s1.size - n := by rw [ByteArray.size_extract]; omega
  have HT3 := Lib.hid (take_at g 1 v (s1.extract n s1.size) d _ B7.rd (by have := HN1.out; omega))
  rw [HUU.out] at HT3
  have HB7 := Lib.hid B7
  have HS7 := Lib.hid hsz7
  clear B7 hsz7
  refine HT3.out.mono ?_; rintro e w8 ⟨rfl, R8, K8⟩
  have B8 := HB7.out.next K8 R8
  clear p0 p1 p2 p3 p4 q0 q1 q2 q3 q4
  obtain ⟨p0, p1, p2, p3, p4, q0, q1, q2, q3, q4, ltp8⟩ := five_facts B8.par
  obtain ⟨a0, a1, a2, a3, a4, b0, b1, b2, b3, b4, ltq8⟩ := five_facts B8.res
  have HB8 := Lib.hid B8
  clear R8 K8 B8
  go_wp2_with fail
  obtain ⟨W', hW'⟩ : ∃ W', (((((w8.setCell ⟨w.heap.size, 0, none⟩ (.int .i64 3)).setCell ⟨w.heap.size, 1, none⟩ (.string (s1.extract 0 n))).setCell ⟨w.heap.size, 2, none⟩ (.string ⟨#[108, 101, 110]⟩)).setCell ⟨w.heap.size, 3, none⟩ (.bool false)).setCell ⟨w.heap.size, 4, none⟩ (.slice none 0 0)) = W' := ⟨_, rfl⟩
  obtain ⟨rf, Rf, Kf, _, _⟩ := HB8.out.finish W' hW'
  rw [hW']
  obtain ⟨j0, j1, j2, j3, j4, _⟩ := five_facts rf
  exact bodyPost_ret (v := .agg #[.int .i64 3, .string (s1.extract 0 n), .string ⟨#[108, 101, 110]⟩, .bool false, .slice none 0 0]) (by simp [results, Tryz.results102, go_sem, j0, j1, j2, j3, j4]) rfl
    ⟨_, _, none, 0, 0, rfl, take_one W' _ 3 s1 n ⟨#[108, 101, 110]⟩ false, Rf, Kf, by rw [ByteArray.size_extract]; have := HUS.out; omega⟩
end Go.Proofs.YtkmpbkhlcapbgaaGreatDoor
