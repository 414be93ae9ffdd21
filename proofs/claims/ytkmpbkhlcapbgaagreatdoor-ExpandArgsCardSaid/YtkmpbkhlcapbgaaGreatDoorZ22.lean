/-
  DERIVED. The walk of word's arith: what is behind a dollar and two parentheses. The walk of word's within: the parts of a brace's word. Plain: the first one of a list. No program in sight.
-/
import Derived.Test.YtkmpbkhlcapbgaaGreatDoorZ15
import Derived.Test.YtkmpbkhlcapbgaaGreatDoorZ21
import Derived.WalkKit
namespace Go.Proofs.YtkmpbkhlcapbgaaGreatDoor
open Go Go.RowKit
theorem arithT_step (f : Nat) (deep : Int) (s out : List UInt8) (r : List UInt8 × List UInt8) (h : arithT (f + 1) deep s out = some r) :
    (deep = 0 ∧ [41, 41].isPrefixOf s = true ∧ r = (out, s.drop 2)) ∨
    (¬ (deep = 0 ∧ [41, 41].isPrefixOf s = true) ∧ ∃ c t, s = c :: t ∧ 0 ≤ deep + (if c = 40 then 1 else 0) - (if c = 41 then 1 else 0) ∧ arithT f (deep + (if c = 40 then 1 else 0) - (if c = 41 then 1 else 0)) t (out ++ [c]) = some r) := by
  unfold arithT at h
  by_cases hp : deep = 0 ∧ [41, 41].isPrefixOf s = true
  · rw [if_pos hp] at h
    cases h
    exact .inl ⟨hp.1, hp.2, rfl⟩
  · rw [if_neg hp] at h
    refine .inr ⟨hp, ?_⟩
    cases s with
    | nil => cases h
    | cons c t =>
      by_cases hd : deep + (if c = 40 then 1 else 0) - (if c = 41 then 1 else 0) < 0
      · simp only [if_pos hd] at h
        cases h
      · simp only [if_neg hd] at h
        exact ⟨c, t, rfl, by omega, h⟩
theorem count_one (c b : UInt8) : (Lib.countByte [c] b : Int) = if c = b then 1 else 0 := by
  unfold Lib.countByte
  rw [List.count_cons, List.count_nil]
  by_cases h : c = b
  · subst h; simp
  · simp [h]
set_option maxRecDepth 100000 in
set_option maxHeartbeats 4000000 in
theorem arith_at (g : Nat) (v : Value) (s : ByteArray) (d : Nat) (f : Nat) (t u : ByteArray) (w : World) (hr : Wr g v s d w) (ha : arithT f 0 s.data.toList [] = some (t.data.toList, u.data.toList)) :
    Calls Tryz.prog 103 #[.pointer (some ⟨g, 0, none⟩)] w fun e w' => e = .returned (.string t) ∧ Wr g v u d w' ∧ Kept g w w' ∧ t.size + u.size ≤ s.size := by
  have HR := Lib.hid hr
  have HA := Lib.hid ha
  have hsz := hr.size
  clear hr ha
  go_enter Tryz.func103, Tryz.ntmps103
  go_wp2_with fail
  go_loopg [3, 4] f (fun gk s3 s4 wx => ∃ (s' o' : ByteArray) (dp : Nat), Hid (Wr g v s' d wx ∧ Kept g w wx ∧ arithT gk (dp : Int) s'.data.toList o'.data.toList = some (t.data.toList, u.data.toList)) ∧ s3 = .string o' ∧ s4 = .int .i64 (dp : Int) ∧ dp ≤ o'.size ∧ o'.size + s'.size ≤ s.size)
  case atStart => exact ⟨s, ⟨#[]⟩, 0, ⟨HR.out, Kept.refl _ _, HA.out⟩, rfl, rfl, Nat.le_refl _, by show 0 + s.size ≤ s.size; omega⟩
  case round =>
    obtain ⟨s', o', dp, HH, rfl, rfl, hd1, hd2⟩ := hrel
    have HL := Lib.hid hd2
    cases gk with
    | zero => have := HH.out.2.2; rw [arithT] at this; cases this
    | succ gk =>
      obtain ⟨R1, K1, A1⟩ := HH.out
      clear HH HA
      rcases arithT_step _ _ _ _ _ A1 with ⟨h0, hp, hre⟩ | ⟨hno, c, t', hs', hge, hnext⟩
      · obtain rfl : dp = 0 := by omega
        have HP := Lib.hid (has_at g ⟨#[41, 41]⟩ v s' d true wr R1 hp)
        have h2 : 2 ≤ s'.size := by
          have e : s'.size = s'.data.toList.length := by simp
          have := (List.isPrefixOf_iff_prefix.1 hp).length_le
          rw [e]; exact this
        have HT := Lib.hid (take_at g 2 v s' d wr R1 h2)
        have hto : t = o' := by
          have := (Prod.mk.inj hre).1
          rw [← Lib.mk_data t, this, Lib.mk_data]
        have hu : s'.extract 2 s'.size = u := by
          have := (Prod.mk.inj hre).2
          rw [← Lib.mk_data (ByteArray.extract _ _ _), Lib.extract_to_end, ← this, Lib.mk_data]
        subst hto
        have hu2 : u.size ≤ s'.size := by rw [← hu, ByteArray.size_extract]; omega
        have HU := Lib.hid hu
        have HK := Lib.hid K1
        clear A1 hp hre R1 hu K1 HR
        go_wp2_with fail
        refine HP.out.mono ?_; rintro e w1 ⟨rfl, rfl⟩
        go_wp2_with fail
        refine HT.out.mono ?_; rintro e w1 ⟨rfl, R2, K2⟩
        go_wp2_with fail
        go_ret
        exact ⟨rfl, by rw [← HU.out]; exact R2, HK.out.trans K2, by have := HL.out; omega⟩
      · have h1 : 1 ≤ s'.size := by
          have e : s'.size = s'.data.toList.length := by simp
          rw [e, hs']; simp
        have HT := Lib.hid (take_at g 1 v s' d wr R1 h1)
        have hc1 : s'.extract 0 1 = ⟨#[c]⟩ := by rw [← Lib.mk_data (ByteArray.extract _ _ _), Lib.extract_data, hs']; rfl
        have ht1 : (s'.extract 1 s'.size).data.toList = t' := by rw [Lib.extract_to_end, hs']; rfl
        have hsz1 : (s'.extract 1 s'.size).size + 1 = s'.size := by rw [ByteArray.size_extract]; omega
        have HC1 := Lib.hid (fun W => Tryz.strings_Count_one (⟨#[c]⟩ : ByteArray) 40 W)
        have HC2 := Lib.hid (fun W => Tryz.strings_Count_one (⟨#[c]⟩ : ByteArray) 41 W)
        obtain ⟨n1, hn1⟩ : ∃ n, Lib.countByte (⟨#[c]⟩ : ByteArray).data.toList 40 = n := ⟨_, rfl⟩
        obtain ⟨n2, hn2⟩ : ∃ n, Lib.countByte (⟨#[c]⟩ : ByteArray).data.toList 41 = n := ⟨_, rfl⟩
        have e1 : ((n1 : Nat) : Int) = if c = 40 then 1 else 0 := by rw [← hn1]; exact count_one c 40
        have e2 : ((n2 : Nat) : Int) = if c = 41 then 1 else 0 := by rw [← hn2]; exact count_one c 41
        have hsum : (dp : Int) + ((n1 : Int) - (n2 : Int)) = (dp : Int) + (if c = 40 then 1 else 0) - (if c = 41 then 1 else 0) := by rw [← e1, ← e2]; omega
        rw [← hsum] at hge hnext
        have hn1' : n1 ≤ 1 := by split at e1 <;> omega
        have hn2' : n2 ≤ 1 := by split at e2 <;> omega
        obtain ⟨dp2, hdp2⟩ : ∃ dp2 : Nat, (dp : Int) + ((n1 : Int) - (n2 : Int)) = (dp2 : Int) := ⟨_, (Int.toNat_of_nonneg hge).symm⟩
        rw [hdp2] at hnext
        have hw1 : IntKind.i64.wrap ((n1 : Int) - (n2 : Int)) = (n1 : Int) - (n2 : Int) := by
          have q1 : n1 = 0 ∨ n1 = 1 := by omega
          have q2 : n2 = 0 ∨ n2 = 1 := by omega
          clear HC1 HC2 hn1 hn2 e1 e2 hsum hge hnext hdp2
          rcases q1 with rfl | rfl <;> rcases q2 with rfl | rfl <;> rfl
        have hw2 : IntKind.i64.wrap ((dp : Int) + ((n1 : Int) - (n2 : Int))) = (dp2 : Int) := by rw [hdp2]; exact wrap_small _ (by omega) (by omega)
        have hnl : ¬ ((dp2 : Int) < 0) := by omega
        have hcat : o'.size + 1 ≤ 4611686018427387904 := by omega
        rw [hn1] at HC1
        rw [hn2] at HC2
        rw [hc1] at HT
        have HE : Hid (arithT gk (dp2 : Int) (s'.extract 1 s'.size).data.toList (o' ++ ⟨#[c]⟩ : ByteArray).data.toList = some (t.data.toList, u.data.toList)) := by
          unfold Hid
          rw [ht1, show (o' ++ ⟨#[c]⟩ : ByteArray).data.toList = o'.data.toList ++ [c] by simp]
          exact hnext
        have hsz3 : (o' ++ ⟨#[c]⟩ : ByteArray).size = o'.size + 1 := by rw [ByteArray.size_append]; rfl
        have HF : Hid (dp2 ≤ (o' ++ ⟨#[c]⟩ : ByteArray).size ∧ (o' ++ ⟨#[c]⟩ : ByteArray).size + (s'.extract 1 s'.size).size ≤ s.size) := ⟨by rw [hsz3]; omega, by rw [hsz3]; omega⟩
        have HK := Lib.hid K1
        by_cases hdp : dp = 0
        · subst hdp
          have hnp : [41, 41].isPrefixOf s'.data.toList = false := by
            cases h : [41, 41].isPrefixOf s'.data.toList
            · rfl
            · exact absurd ⟨rfl, h⟩ hno
          have HP := Lib.hid (has_at g ⟨#[41, 41]⟩ v s' d false wr R1 hnp)
          have hz0 : (n1 : Int) - (n2 : Int) = (dp2 : Int) := by rw [← hdp2]; omega
          have hnl0 : ¬ ((n1 : Int) - (n2 : Int) < 0) := by omega
          have HZ0 := Lib.hid hz0
          clear hz0 A1 R1 K1 HR hs' hno hnp hge hnext e1 e2 hsum hdp2 hn1 hn2 ht1 hc1 hsz1 hsz3
          go_wp2_with fail
          refine HP.out.mono ?_; rintro e w1 ⟨rfl, rfl⟩
          go_wp2_with fail
          refine HT.out.mono ?_; rintro e w1 ⟨rfl, R2, K2⟩
          go_wp2_with fail
          refine (HC1.out _).mono ?_; rintro e w2 ⟨rfl, rfl⟩
          go_wp2_with fail
          refine (HC2.out _).mono ?_; rintro e w2 ⟨rfl, rfl⟩
          go_wp2_with fail
          go_roundg gk
          case measure => omega
          case rel => exact ⟨_, _, dp2, ⟨R2, HK.out.trans K2, HE.out⟩, rfl, by rw [HZ0.out], HF.out.1, HF.out.2⟩
        · have hpos : (0 : Int) < (dp : Int) := by omega
          have hpos' : 0 < dp := by omega
          clear A1 R1 K1 HR hs' hno hge hnext e1 e2 hsum hdp2 hn1 hn2 ht1 hc1 hsz1 hsz3
          go_wp2_with fail
          refine HT.out.mono ?_; rintro e w1 ⟨rfl, R2, K2⟩
          go_wp2_with fail
          refine (HC1.out _).mono ?_; rintro e w2 ⟨rfl, rfl⟩
          go_wp2_with fail
          refine (HC2.out _).mono ?_; rintro e w2 ⟨rfl, rfl⟩
          go_wp2_with fail
          go_roundg gk
          case measure => omega
          case rel => exact ⟨_, _, dp2, ⟨R2, HK.out.trans K2, HE.out⟩, rfl, by go_num, HF.out.1, HF.out.2⟩
end Go.Proofs.YtkmpbkhlcapbgaaGreatDoor
namespace Go.Proofs.YtkmpbkhlcapbgaaGreatDoor
open Go Go.RowKit
def WPost (g d : Nat) (l : List PartT) (u : List UInt8) (n : Nat) (w : World) (e : Ending) (w' : World) : Prop :=
  ∃ s' : ByteArray, s'.data.toList = u ∧ PutPost g s' d l w e w' ∧ Few l s'.size ∧ s'.size < n
def PartOK (f : Nat) : Prop := ∀ (d g : Nat) (v : Value) (s : ByteArray) (l l2 : List PartT) (u : List UInt8) (w : World), Wr g v s d w → Wp g v l w → Few l s.size → wpartF f d l s.data.toList = some (l2, u) →
  Calls Tryz.prog 46 #[.pointer (some ⟨g, 0, none⟩)] w (WPost g d l2 u s.size w)
/-- Parts that lie in memory, told of by a slice. -/
def WordIn (w : World) (S : Nat → Prop) (v : Value) (l : List PartT) : Prop := ∃ ys, WordV w S v l.length ys ∧ PartsAt w S l ys
theorem WordIn.keep {w w' : World} {S S' : Nat → Prop} (hs : w.heap.size ≤ w'.heap.size) (hk : ∀ b, S b → b < w.heap.size → w'.heap[b]? = w.heap[b]? ∧ S' b) {v : Value} {l : List PartT} (h : WordIn w S v l) : WordIn w' S' v l := by
  obtain ⟨ys, h1, h2⟩ := h
  exact ⟨ys, h1.keep hs hk, h2.keep hs hk⟩
theorem Wp.word {g : Nat} {v : Value} {l : List PartT} {w : World} (h : Wp g v l w) : WordIn w (fun b => g < b) v l := by
  obtain ⟨xs, h1, h2⟩ := h.has
  refine ⟨xs, ?_, h2.keep (Nat.le_refl _) fun b hb _ => ⟨rfl, hb.1⟩⟩
  rcases known_of_own h1 with ⟨rfl, h0⟩ | ⟨g2, cap, cur, rfl, hg, hk⟩
  · exact ⟨none, 0, by rw [h0], by omega, .inl h0⟩
  · exact ⟨_, cap, rfl, hk.le, .inr ⟨g2, rfl, hg, hk.lt, fun j u hu => hk.cell j u hu⟩⟩
theorem head_is (s : ByteArray) (c : UInt8) : (⟨#[c]⟩ : ByteArray).data.toList.isPrefixOf s.data.toList = decide (s.data.toList.head? = some c) := by
  show [c].isPrefixOf s.data.toList = _
  cases s.data.toList with
  | nil => rfl
  | cons a t =>
    by_cases h : c = a
    · subst h; simp [List.isPrefixOf]
    · have h2 : ¬ ((a :: t).head? = some c) := fun e => h (by simpa using e.symm)
      rw [decide_eq_false h2]
      simp [List.isPrefixOf, h]
/-- A reader of its own, within. -/
theorem in_new {w : World} {g : Nat} {v : Value} {s : ByteArray} {d : Nat} (hr : Wr g v s d w) (hd : d < 8) :
    Wr w.heap.size (.slice none 0 0) s (d + 1) (w.alloc (.cells #[.slice none 0 0, .string s, .int .i64 ((d : Int) + 1)] 90)).drew ∧
    Wp w.heap.size (.slice none 0 0) [] (w.alloc (.cells #[.slice none 0 0, .string s, .int .i64 ((d : Int) + 1)] 90)).drew := by
  have b : Below w.heap.size w (w.alloc (.cells #[.slice none 0 0, .string s, .int .i64 ((d : Int) + 1)] 90)).drew := ((Below.refl _ w).alloc (Nat.le_refl _) _).drew
  have hl := hr.row.lt
  have hf := hr.far
  refine ⟨⟨?_, hr.size, by omega, ⟨Nat.lt_trans hf.1 hl, Nat.lt_trans hf.2 hl⟩, hr.tab.below ⟨Nat.lt_trans hf.1 hl, Nat.lt_trans hf.2 hl⟩ b⟩, ⟨⟨[], World.ownsRow_nil _ _ _ _, .nil⟩⟩⟩
  exact RowIs.new w 90 [.slice none 0 0, .string s, .int .i64 ((d : Int) + 1)]
set_option maxRecDepth 100000 in
set_option maxHeartbeats 4000000 in
theorem within_word (f : Nat) (hP : ∀ f', f' < f → PartOK f') (d : Nat) (hd : d < 8) (g : Nat) (v : Value) (s u : ByteArray) (l : List PartT) (w : World) (hr : Wr g v s d w) (hu : untilF f (d + 1) [] s.data.toList = some (l, u.data.toList)) :
    Calls Tryz.prog 134 #[.pointer (some ⟨g, 0, none⟩)] w fun e w' => ∃ a n c, e = .returned (.slice a n c) ∧ WordIn w' (fun b => w.heap.size ≤ b) (.slice a n c) l ∧ Wr g v u d w' ∧ Kept g w w' ∧ u.size < s.size := by
  obtain ⟨r0, r1, r2, f0, f1, f2, lt0⟩ := three_facts hr.row
  have hdb : (d : Int) ≤ 8 := by omega
  have hda : (0 : Int) ≤ (d : Int) := by omega
  have HR := Lib.hid hr
  have HU := Lib.hid hu
  have HP := Lib.hid hP
  have HD := Lib.hid hd
  clear hr hu hP hd
  go_enter Tryz.func134, Tryz.ntmps134
  go_wp2_with fail
  go_region
  go_wp2_with fail
  obtain ⟨R0, P0⟩ := in_new HR.out HD.out
  obtain ⟨W0, hW0⟩ : ∃ W0, (w.alloc (.cells #[.slice none 0 0, .string s, .int .i64 ((d : Int) + 1)] 90)).drew = W0 := ⟨_, rfl⟩
  have B0 : Below w.heap.size w W0 := by rw [← hW0]; exact ((Below.refl _ w).alloc (Nat.le_refl _) _).drew
  rw [hW0] at R0 P0 ⊢
  have F0 : Few [] s.size := Few.nil HR.out.size
  have HB0 := Lib.hid B0
  have H00 : Hid (Wr w.heap.size (.slice none 0 0) s (d + 1) W0 ∧ Wp w.heap.size (.slice none 0 0) [] W0) := ⟨R0, P0⟩
  clear hW0 B0 R0 P0
  go_loopg [] f (fun gk wx => ∃ (v' : Value) (s' : ByteArray) (l' : List PartT), Hid (Wr w.heap.size v' s' (d + 1) wx ∧ Wp w.heap.size v' l' wx ∧ Few l' s'.size ∧ Below w.heap.size w wx ∧ untilF gk (d + 1) l' s'.data.toList = some (l, u.data.toList)) ∧ Hid (gk ≤ f) ∧ Hid (s'.size ≤ s.size))
  case atStart => exact ⟨_, s, [], ⟨H00.out.1, H00.out.2, F0, HB0.out, HU.out⟩, Nat.le_refl _, Nat.le_refl _⟩
  case round =>
    obtain ⟨v', s', l', HH, HG, HS⟩ := hrel
    cases gk with
    | zero => have := HH.out.2.2.2.2; rw [untilF] at this; cases this
    | succ gk =>
      obtain ⟨R1, P1, F1, B1, U1⟩ := HH.out
      rw [untilF] at U1
      by_cases h1 : s'.data.toList.head? = some 125
      · rw [if_pos h1] at U1
        have HH1 := Lib.hid (has_at w.heap.size ⟨#[125]⟩ v' s' (d + 1) true wr R1 (by rw [head_is, decide_eq_true h1]))
        have hpos : 1 ≤ s'.size := by
          have e : s'.size = s'.data.toList.length := by simp
          rw [e]
          cases h : s'.data.toList with
          | nil => rw [h] at h1; cases h1
          | cons a t => simp
        have HT := Lib.hid (take_at w.heap.size 1 v' s' (d + 1) wr R1 hpos)
        have hl' : l' = l := (Prod.mk.inj (Option.some.inj U1)).1
        have hu' : s'.extract 1 s'.size = u := by
          have := (Prod.mk.inj (Option.some.inj U1)).2
          rw [← Lib.mk_data (ByteArray.extract _ _ _), Lib.extract_to_end, List.drop_one, this, Lib.mk_data]
        have hus : Hid (u.size < s.size) := by
          have h3 := HS.out
          unfold Hid
          rw [← hu', ByteArray.size_extract]; omega
        subst hl'
        rw [hu'] at HT
        have HP1 := Lib.hid P1
        have HB1 := Lib.hid B1
        have HLT := Lib.hid R1.row.lt
        clear R1 P1 F1 B1 U1 HH h1 hu' HU H00
        go_wp2_with fail
        refine HH1.out.mono ?_; rintro e w1 ⟨rfl, rfl⟩
        go_wp2_with fail
        refine HT.out.mono ?_; rintro e w2 ⟨rfl, R2, K2⟩
        have b2 : Below w.heap.size w w2 := HB1.out.trans (K2.below (Nat.le_of_lt HLT.out))
        have rg := HR.out.row.below b2
        obtain ⟨a0, a1, a2, e0, e1, e2, lt2⟩ := three_facts rg
        obtain ⟨q0, q1, q2, p0, p1, p2, lt3⟩ := three_facts R2.row
        have HP2 := Lib.hid (HP1.out.kept K2)
        have HRG := Lib.hid rg
        have HB2 := Lib.hid b2
        have hne : ¬ w.heap.size = g := by omega
        obtain ⟨va, vn, vc, rfl⟩ : ∃ a n c, v' = .slice a n c := by
          obtain ⟨xs, h1, _⟩ := HP1.out.has
          obtain ⟨a, c, e⟩ := own_slice h1
          exact ⟨a, _, c, e⟩
        clear R2 K2 b2 rg
        go_wp2_with fail
        go_ret
        have k2 := (Kept.of (g := g) HB2.out).set 1 (.string u)
        refine ⟨va, vn, vc, rfl, HP2.out.word.keep (by simp) fun b hb hbl => ⟨Below.heap_setCell _ _ _ _ (by show b ≠ g; omega), by omega⟩, HR.out.next k2 (HRG.out.set 1 _) (by have := hus.out; have := HR.out.size; omega), k2, hus.out⟩
      · rw [if_neg h1] at U1
        have HH1 := Lib.hid (has_at w.heap.size ⟨#[125]⟩ v' s' (d + 1) false wr R1 (by rw [head_is, decide_eq_false h1]))
        obtain ⟨l2, u2, hp2, hn2⟩ : ∃ l2 u2, wpartF gk (d + 1) l' s'.data.toList = some (l2, u2) ∧ untilF gk (d + 1) l2 u2 = some (l, u.data.toList) := by
          cases hw : wpartF gk (d + 1) l' s'.data.toList with
          | none => rw [hw] at U1; cases U1
          | some x => rw [hw] at U1; exact ⟨x.1, x.2, rfl, U1⟩
        have HC := Lib.hid (HP.out gk (by have := HG.out; omega) (d + 1) w.heap.size v' s' l' l2 u2 wr R1 P1 F1 hp2)
        have HB1 := Lib.hid B1
        have HN := Lib.hid hn2
        clear R1 P1 F1 B1 U1 HH h1 hp2 hn2 HU H00
        go_wp2_with fail
        refine HH1.out.mono ?_; rintro e w1 ⟨rfl, rfl⟩
        go_wp2_with fail
        refine HC.out.mono ?_; rintro e w2 ⟨s3, hs3, ⟨rfl, v3, R3, P3, B3⟩, F3, L3⟩
        go_wp2_with fail
        go_roundg gk
        case measure => omega
        case rel => exact ⟨v3, s3, l2, ⟨R3, P3, F3, HB1.out.trans B3, by rw [hs3]; exact HN.out⟩, by have := HG.out; unfold Hid; omega, by have := HS.out; unfold Hid; omega⟩
end Go.Proofs.YtkmpbkhlcapbgaaGreatDoor
namespace Go.Proofs.YtkmpbkhlcapbgaaGreatDoor
theorem find_at {α : Type} (p : α → Bool) (d : α) : ∀ (l : List α) (i : Nat), i < l.length → (∀ j, j < i → p (l.getD j d) = false) → p (l.getD i d) = true → l.find? p = some (l.getD i d)
  | [], i, h, _, _ => by simp at h
  | a :: l, 0, _, _, h => by simp at h; simp [h]
  | a :: l, i + 1, hl, hn, h => by
    have h0 : p a = false := hn 0 (by omega)
    rw [List.find?_cons_of_neg (by simp [h0])]
    exact find_at p d l i (by simpa using hl) (fun j hj => hn (j + 1) (by omega)) h
theorem find_no {α : Type} (p : α → Bool) (d : α) : ∀ (l : List α), (∀ j, j < l.length → p (l.getD j d) = false) → l.find? p = none
  | [], _ => rfl
  | a :: l, hn => by
    have h0 : p a = false := hn 0 (by simp)
    rw [List.find?_cons_of_neg (by simp [h0])]
    exact find_no p d l (fun j hj => hn (j + 1) (by simpa using hj))
end Go.Proofs.YtkmpbkhlcapbgaaGreatDoor
