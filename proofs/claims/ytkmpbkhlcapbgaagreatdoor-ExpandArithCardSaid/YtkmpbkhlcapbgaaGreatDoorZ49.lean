/-
  DERIVED. The walk of the document's Number. ExpandTrims: what its calls come to. ExpandTrims: the ways out ahead of its calls; what is asked for, by the plain functions. The frame that lifts a walk to a row that lists variables: the wrap that hands the walk both what the row lists and the world's shape. No walk here. From a row's 'laid' to a table of texts: a variable that is an array of strings.
-/
import Derived.Test.YtkmpbkhlcapbgaaGreatDoorZ48
import Derived.Test.YtkmpbkhlcapbgaaGreatDoorZ29
import Derived.Test.YtkmpbkhlcapbgaaGreatDoorZ39
import Derived.Test.YtkmpbkhlcapbgaaGreatDoorZ47
import Derived.Deep.LoopGhost
import Derived.Test.YtkmpbkhlcapbgaaGreatDoorRows
import Derived.ProofKit
import Derived.LaidMore
import Derived.OpenShut
import Derived.Below
import Derived.Carry
import Derived.SizedLaws
import Derived.Stop.Joined
import Derived.Lib.SmallJoins
import Derived.ChangeOld
import Derived.HandedShaped
import Derived.Lib.LaidTab
namespace Go.Proofs.YtkmpbkhlcapbgaaGreatDoor
open Go.RowKit
def lu (s : ByteArray) : List UInt8 := s.data.toList
theorem lu_length (s : ByteArray) : (lu s).length = s.size := (Lib.size_eq s).symm
theorem lu_head (s : ByteArray) (h : 0 < s.size) : lu s = s[0] :: (lu s).drop 1 := by
  have h2 : 0 < (lu s).length := by rw [lu_length]; exact h
  have h3 : (lu s).drop 0 = (lu s)[0] :: (lu s).drop (0 + 1) := List.drop_eq_getElem_cons h2
  simp [lu] at h3 ⊢
  exact h3
theorem lu_last (s : ByteArray) (h : 0 < s.size) : lu s = (lu s).take (s.size - 1) ++ [s[s.size - 1]] := by
  have h2 : s.size - 1 < (lu s).length := by rw [lu_length]; omega
  have h3 : (lu s).take (s.size - 1 + 1) = (lu s).take (s.size - 1) ++ [(lu s)[s.size - 1]] := List.take_succ_eq_append_getElem h2
  rw [List.take_of_length_le (by rw [lu_length]; omega)] at h3
  simp [lu] at h3 ⊢
  exact h3
theorem lu_tail (s : ByteArray) : lu (s.extract 1 s.size) = (lu s).drop 1 := by
  unfold lu; rw [Lib.extract_data, List.take_of_length_le (by simp)]
theorem lu_init (s : ByteArray) : lu (s.extract 0 (s.size - 1)) = (lu s).take (s.size - 1) := by
  unfold lu; rw [Lib.extract_data]; simp
theorem blank_head {s : ByteArray} (h : 0 < s.size) (b : Bool) (hb : blankB (bt s 0) = b) : blankU s[0] = b := by
  rw [blankU_eq]; have := get_bt s 0 h; rw [this]; exact hb
theorem blank_last {s : ByteArray} (h : 0 < s.size) (b : Bool) (hb : blankB (bt s (s.size - 1)) = b) : blankU s[s.size - 1] = b := by
  rw [blankU_eq]; have := get_bt s (s.size - 1) (by omega); rw [this]; exact hb
theorem drop_on {s u : ByteArray} (hu : 0 < u.size) (h : (lu u).dropWhile blankU = (lu s).dropWhile blankU) (hb : blankB (bt u 0) = true) : (lu (u.extract 1 u.size)).dropWhile blankU = (lu s).dropWhile blankU := by
  rw [lu_tail, ← h]
  conv => rhs; rw [lu_head u hu]
  rw [List.dropWhile_cons_of_pos (blank_head hu _ hb)]
theorem drop_end {s u : ByteArray} (h : (lu u).dropWhile blankU = (lu s).dropWhile blankU) (hb : 0 < u.size → blankB (bt u 0) = false) : lu u = (lu s).dropWhile blankU := by
  rw [← h]
  by_cases hu : 0 < u.size
  · conv => rhs; rw [lu_head u hu]
    rw [List.dropWhile_cons_of_neg (by rw [blank_head hu _ (hb hu)]; simp)]
    exact lu_head u hu
  · have : lu u = [] := List.length_eq_zero_iff.1 (by rw [lu_length]; omega)
    rw [this]; rfl
theorem cut_on {L : List UInt8} {u : ByteArray} (hu : 0 < u.size) (h : cutR blankU (lu u) = cutR blankU L) (hb : blankB (bt u (u.size - 1)) = true) : cutR blankU (lu (u.extract 0 (u.size - 1))) = cutR blankU L := by
  rw [lu_init, ← h]
  conv => rhs; rw [lu_last u hu]
  unfold cutR
  rw [List.reverse_append, List.reverse_singleton, List.singleton_append, List.dropWhile_cons_of_pos (blank_last hu _ hb)]
theorem cut_end {L : List UInt8} {u : ByteArray} (h : cutR blankU (lu u) = cutR blankU L) (hb : 0 < u.size → blankB (bt u (u.size - 1)) = false) : lu u = cutR blankU L := by
  rw [← h]
  by_cases hu : 0 < u.size
  · conv => rhs; rw [lu_last u hu]
    unfold cutR
    rw [List.reverse_append, List.reverse_singleton, List.singleton_append, List.dropWhile_cons_of_neg (by rw [blank_last hu _ (hb hu)]; simp), List.reverse_cons, List.reverse_reverse]
    exact lu_last u hu
  · have : lu u = [] := List.length_eq_zero_iff.1 (by rw [lu_length]; omega)
    rw [this]; rfl
theorem lu_inj {a b : ByteArray} (h : lu a = lu b) : a = b := by rw [← Lib.mk_data a, ← Lib.mk_data b]; unfold lu at h; rw [h]
theorem trimB_size (s : ByteArray) : (trimB s).size ≤ s.size := by
  rw [← lu_length, ← lu_length]; unfold lu; rw [trimB_eq]; unfold cutR
  rw [List.length_reverse]
  exact Nat.le_trans (List.Sublist.length_le (List.dropWhile_sublist _)) (by rw [List.length_reverse]; exact List.Sublist.length_le (List.dropWhile_sublist _))
theorem baseF_cases (s : ByteArray) (_hs : 0 < s.size) : (baseF s = (16, 2) ∧ 2 < s.size) ∨ (baseF s = (8, 1) ∧ 1 < s.size) ∨ baseF s = (10, 0) := by
  unfold baseF
  split
  · rename_i h; exact .inl ⟨rfl, h.1⟩
  · split
    · rename_i h; exact .inr (.inl ⟨rfl, h.1⟩)
    · exact .inr (.inr rfl)
theorem rdigits_at (s : ByteArray) (hs : s.size ≤ 9223372036854775800) (r : Option Int) (hr : digitsF s = r) (w : World) :
    Calls Tryz.prog 33 #[.string s] w fun e w' => e = .returned (.tuple #[.int .i64 (r.getD 0), .bool r.isSome]) ∧ w = w' := by
  subst hr; exact rdigits_any s hs w
theorem digitsF_range {s : ByteArray} {r : Int} (h : digitsF s = some r) : 0 ≤ r ∧ r ≤ maxI := by
  unfold digitsF at h
  split at h
  · cases h
  · refine digGo_range _ ?_ _ 0 r (by omega) (by rw [maxI_eq]; omega) h
    rcases baseF_cases s (by omega) with ⟨h, _⟩ | ⟨h, _⟩ | h <;> rw [h] <;> simp
def NumRel1 (s : ByteArray) (w : World) (g : Nat) (v : Value) (wr : World) : Prop :=
  ∃ u : ByteArray, v = .string u ∧ u.size ≤ 9223372036854775800 ∧ Hid ((lu u).dropWhile blankU = (lu s).dropWhile blankU) ∧ w = wr ∧ u.size ≤ g
def NumRel2 (s : ByteArray) (w : World) (g : Nat) (v : Value) (wr : World) : Prop :=
  ∃ u : ByteArray, v = .string u ∧ u.size ≤ 9223372036854775800 ∧ Hid (cutR blankU (lu u) = cutR blankU ((lu s).dropWhile blankU)) ∧ w = wr ∧ u.size ≤ g
set_option maxRecDepth 100000 in
set_option maxHeartbeats 8000000 in
theorem rnumber_any (s : ByteArray) (hs : s.size ≤ 9223372036854775800) (w : World) :
    Calls Tryz.prog 16 #[.string s] w fun e w' => e = .returned (numV (numberF s)) ∧ w = w' := by
  have hst : Hid (NumRel1 s w s.size (.string s) w) := ⟨s, rfl, hs, rfl, rfl, Nat.le_refl _⟩
  obtain ⟨R, hR⟩ : ∃ R, numberF s = R := ⟨_, rfl⟩
  have HR := Lib.hid hR
  rw [hR]
  clear hR
  go_enter Tryz.func16, Tryz.ntmps16
  go_wp2_with fail
  go_loopg [0] s.size (fun g v wr => NumRel1 s w g v wr)
  case atStart => exact hst.out
  case round =>
    clear hst
    obtain ⟨u, rfl, hu, HU, rfl, hg⟩ := hrel
    have HG := Lib.hid hg; clear hg
    have hgt := get_bt u
    by_cases hpos : 0 < u.size
    · have hem : u.toList.isEmpty = false := by rw [empty_iff]; simp [hpos]
      cases hb : blankB (bt u 0)
      · have HE := Lib.hid (drop_end HU.out (fun _ => hb))
        have HC := Lib.hid (rblank_any (bt u 0) _ hb)
        clear hb HU
        have hst2 : Hid (NumRel2 s w u.size (.string u) w) := ⟨u, rfl, hu, by unfold Hid; rw [HE.out], rfl, Nat.le_refl _⟩
        go_wp2_with fail
        refine (HC.out _).mono ?_; rintro e w2 ⟨rfl, rfl⟩
        go_wp2_with fail
        go_loopg [0] u.size (fun g v wr => NumRel2 s w g v wr)
        case atStart => exact hst2.out
        case round =>
          clear hst2
          obtain ⟨v, rfl, hv, HVV, rfl, hg⟩ := hrel
          have HG2 := Lib.hid hg; clear hg
          have hgv := get_bt v
          by_cases hpos2 : 0 < v.size
          · have hem2 : v.toList.isEmpty = false := by rw [empty_iff]; simp [hpos2]
            obtain ⟨n, hn⟩ : ∃ n, v.size = n + 1 := ⟨v.size - 1, by omega⟩
            cases hb : blankB (bt v n)
            · have HV : Hid (v = trimB s) := lu_inj (by rw [cut_end HVV.out (fun _ => by rw [hn]; exact hb)]; unfold lu; rw [trimB_eq])
              have HC := Lib.hid (rblank_any (bt v n) _ hb)
              clear hb HVV
              have hnn : (v.size : Int) - 1 = (n : Int) := by omega
              have hnl : n < v.size := by omega
              have HNN := Lib.hid hn; clear hn
              by_cases p1 : bt v 0 = 43
              · have c1 : (bt v 0 == 43) = true := by simp [p1]
                have HRR : Hid (digitsF (v.extract 1 v.size) = R) := by unfold Hid; rw [← HR.out]; unfold numberF; rw [← HV.out, if_neg (by omega), if_pos p1]
                have hz : (v.extract 1 v.size).size ≤ 9223372036854775800 := by rw [ByteArray.size_extract]; omega
                clear p1
                go_wp2_with fail
                refine (HC.out _).mono ?_; rintro e w3 ⟨rfl, rfl⟩
                go_wp2_with fail
                refine (rdigits_at _ hz R HRR.out _).mono ?_; rintro e w4 ⟨rfl, rfl⟩
                go_wp2_with fail
                go_ret2
                exact ⟨rfl, rfl⟩
              · have c1 : (bt v 0 == 43) = false := by simp [p1]
                by_cases p2 : bt v 0 = 45
                · have c2 : (bt v 0 == 45) = true := by simp [p2]
                  obtain ⟨r, hr⟩ : ∃ r, digitsF (v.extract 1 v.size) = r := ⟨_, rfl⟩
                  have HRR : Hid (R = r.map fun n => -n) := by unfold Hid; rw [← HR.out]; unfold numberF; rw [← HV.out, if_neg (by omega), if_neg p1, if_pos p2, hr]
                  have hz : (v.extract 1 v.size).size ≤ 9223372036854775800 := by rw [ByteArray.size_extract]; omega
                  have hrange : 0 ≤ r.getD 0 ∧ r.getD 0 ≤ 9223372036854775807 := by
                    cases r with
                    | none => simp
                    | some x => have := digitsF_range hr; rw [maxI_eq] at this; exact this
                  obtain ⟨hr0, hr1⟩ := hrange
                  have HF := Lib.hid hr
                  clear p1 p2 hr
                  go_wp2_with fail
                  refine (HC.out _).mono ?_; rintro e w3 ⟨rfl, rfl⟩
                  go_wp2_with fail
                  refine (rdigits_at _ hz r HF.out _).mono ?_; rintro e w4 ⟨rfl, rfl⟩
                  go_wp2_with fail
                  go_ret2
                  exact ⟨by rw [HRR.out]; cases r <;> rfl, rfl⟩
                · have c2 : (bt v 0 == 45) = false := by simp [p2]
                  have HRR : Hid (digitsF v = R) := by unfold Hid; rw [← HR.out]; unfold numberF; rw [← HV.out, if_neg (by omega), if_neg p1, if_neg p2]
                  clear p1 p2
                  go_wp2_with fail
                  refine (HC.out _).mono ?_; rintro e w3 ⟨rfl, rfl⟩
                  go_wp2_with fail
                  refine (rdigits_at _ hv R HRR.out _).mono ?_; rintro e w4 ⟨rfl, rfl⟩
                  go_wp2_with fail
                  go_ret2
                  exact ⟨rfl, rfl⟩
            · have HN := Lib.hid (cut_on hpos2 HVV.out (by rw [hn]; exact hb))
              have HC := Lib.hid (rblank_any (bt v n) _ hb)
              clear hb HVV
              have hsz : (v.extract 0 (v.size - 1)).size ≤ v.size - 1 := by rw [ByteArray.size_extract]; omega
              have hnn : (v.size : Int) - 1 = (n : Int) := by omega
              have hnl : n < v.size := by omega
              have HNN := Lib.hid hn; clear hn
              go_wp2_with fail
              refine (HC.out _).mono ?_; rintro e w3 ⟨rfl, rfl⟩
              go_wp2_with fail
              go_roundg (v.size - 1)
              case measure => have := HG2.out; omega
              case rel => exact ⟨v.extract 0 (v.size - 1), by first | rfl | (rw [show v.size - 1 = n from by have := HNN.out; omega]), by omega, HN.out, rfl, hsz⟩
          · have HV : Hid (v = trimB s) := lu_inj (by rw [cut_end HVV.out (fun h => absurd h hpos2)]; unfold lu; rw [trimB_eq])
            have HRR : Hid (R = some 0) := by unfold Hid; rw [← HR.out]; unfold numberF; rw [← HV.out, if_pos (by omega)]
            obtain rfl := empty_of v (by omega)
            go_wp2_with fail
            go_ret2
            exact ⟨by rw [HRR.out]; rfl, rfl⟩
      · have HN := Lib.hid (drop_on hpos HU.out hb)
        have HC := Lib.hid (rblank_any (bt u 0) _ hb)
        clear hb HU
        have hsz : (u.extract 1 u.size).size ≤ u.size - 1 := by rw [ByteArray.size_extract]; omega
        go_wp2_with fail
        refine (HC.out _).mono ?_; rintro e w2 ⟨rfl, rfl⟩
        go_wp2_with fail
        go_roundg (u.size - 1)
        case measure => have := HG.out; omega
        case rel => exact ⟨u.extract 1 u.size, rfl, by omega, HN.out, rfl, hsz⟩
    · have HE := Lib.hid (drop_end HU.out (fun h => absurd h hpos))
      obtain rfl := empty_of u (by omega)
      clear HU
      have hst2 : Hid (NumRel2 s w 0 (.string ByteArray.empty) w) := ⟨ByteArray.empty, rfl, hu, by unfold Hid; rw [HE.out], rfl, Nat.le_refl _⟩
      go_wp2_with fail
      go_loopg [0] 0 (fun _ v wr => NumRel2 s w 0 v wr)
      case atStart => exact hst2.out
      case round =>
        clear hst2
        obtain ⟨v, rfl, hv, HVV, rfl, hg⟩ := hrel
        have hpos2 : ¬ 0 < v.size := by omega
        clear hg
        have HV : Hid (v = trimB s) := lu_inj (by rw [cut_end HVV.out (fun h => absurd h hpos2)]; unfold lu; rw [trimB_eq])
        have HRR : Hid (R = some 0) := by unfold Hid; rw [← HR.out]; unfold numberF; rw [← HV.out, if_pos (by omega)]
        obtain rfl := empty_of v (by omega)
        go_wp2_with fail
        go_ret2
        exact ⟨by rw [HRR.out]; rfl, rfl⟩
end Go.Proofs.YtkmpbkhlcapbgaaGreatDoor
namespace Go.Proofs.YtkmpbkhlcapbgaaGreatDoor
open Go Go.RowKit
theorem envT_st (v w : List UInt8) : (envT v w).status = 0 ∧ (envT v w).flags = [] := ⟨rfl, rfl⟩
/-- A word that comes to a text, in an Env that stays. -/
theorem text_call (e : EnvT) (s1 : e.status = 0) (s2 : e.flags = []) (T : ByteArray) (fw : Nat) (s : ByteArray) (hs : s.size ≤ 1000000000) (l : List PartT) (hl : wordF fw s.data.toList = some l) (hsm : smallL l) (r : RowT) (f : Nat) (hf : f ≤ 1000000) (ho : partsE PT f e ([], []) l = some (.ok e r)) (hT : flatR r = T.data.toList)
    (va : Option Addr) (nv cv : Nat) (aa : Option Addr) (na ca : Nat) (W : World) (hE : EnvA W (.slice va nv cv) (.slice aa na ca) e) (hTab : Full W) :
    Calls Tryz.prog 14 #[env0 va nv cv aa na ca ⟨#[]⟩, .string s] W (TextRes T 0 ⟨#[]⟩ e W) := by
  have h := one_okP PT pt_ok fw s hs l hl hsm f hf e _ ho va nv cv aa na ca W hE hTab
  simp only [envVal, s1, s2] at h
  refine h.mono ?_
  rintro y w' ⟨va2, nv2, cv2, aa2, na2, ca2, rfl, hE2, hb⟩
  refine ⟨va2, nv2, cv2, aa2, na2, ca2, ?_, hE2, hb⟩
  simp only [envVal, resOf, s1, s2, hT, Lib.mk_data]
theorem flat_one (T : ByteArray) : flatR (putR ([], []) T.data.toList 115) = T.data.toList := flatR_put _ _ (by decide)
theorem small_three (t op : List UInt8) (q : Bool) (p : PartT) (h1 : t.length ≤ 1000000) (h2 : op.length ≤ 1000000) (hp : smallP p) : smallL [.mk 3 t op q [p]] := by
  rw [smallL_cons, smallL_nil, smallP_mk, smallL_cons, smallL_nil]
  exact ⟨⟨h1, h2, trivial, hp, trivial⟩, trivial⟩
theorem small_leaf (k : Nat) (t op : List UInt8) (q : Bool) (h1 : t.length ≤ 1000000) (h2 : op.length ≤ 1000000) : smallP (.mk k t op q []) := by
  rw [smallP_mk, smallL_nil]
  exact ⟨h1, h2, trivial, trivial⟩
theorem small_one (p : PartT) (hp : smallP p) : smallL [p] := by
  rw [smallL_cons, smallL_nil]
  exact ⟨hp, trivial⟩
/-- The word that is cut off at the end, quoted. -/
def wordA (w : ByteArray) : ByteArray := ⟨#[36, 123, 120, 37, 39]⟩ ++ w ++ ⟨#[39, 125]⟩
theorem wordA_list (w : ByteArray) : (wordA w).data.toList = [36, 123, 120] ++ [37] ++ 39 :: (w.data.toList ++ [39, 125]) := by simp [wordA]
theorem wordA_size (w : ByteArray) : (wordA w).size = 5 + w.size + 2 := by
  unfold wordA
  rw [ByteArray.size_append, ByteArray.size_append]; rfl
section
variable (v w0 : ByteArray) (h1 : v.size ≤ 30) (h2 : w0.size ≤ 30)
variable (va : Option Addr) (nv cv : Nat) (aa : Option Addr) (na ca : Nat) (W : World) (hE : EnvA W (.slice va nv cv) (.slice aa na ca) (envT v.data.toList w0.data.toList)) (hTab : Full W)
include h1 h2 hE hTab
theorem call_a (hq : (39 : UInt8) ∉ w0.data.toList) (T : ByteArray) (hT : Gb.cutF w0 (Gb.qm w0.size) v true false = T) :
    Calls Tryz.prog 14 #[env0 va nv cv aa na ca ⟨#[]⟩, .string (wordA w0)] W (TextRes T 0 ⟨#[]⟩ (envT v.data.toList w0.data.toList) W) := by
  have hl : w0.data.toList.length = w0.size := by simp
  exact text_call _ (envT_st _ _).1 (envT_st _ _).2 T 8 (wordA w0) (by rw [wordA_size]; omega) _ (by rw [wordA_list]; exact word_default [37] (by simp) _ hq)
    (small_three _ _ _ _ (by decide) (by decide) (small_leaf 2 _ _ _ (by omega) (by decide))) _ 6 (by decide) (trim_ax v w0 h1 h2 T hT) (flat_one T) va nv cv aa na ca W hE hTab
theorem call_b (T : ByteArray) (hT : Gb.cutF w0 (Gb.qm w0.size) v false false = T) :
    Calls Tryz.prog 14 #[env0 va nv cv aa na ca ⟨#[]⟩, .string ⟨#[36, 123, 120, 35, 34, 36, 121, 34, 125]⟩] W (TextRes T 0 ⟨#[]⟩ (envT v.data.toList w0.data.toList) W) :=
  text_call _ (envT_st _ _).1 (envT_st _ _).2 T 12 _ (by decide) _ word_cuty
    (small_three _ _ _ _ (by decide) (by decide) (small_leaf 3 _ _ _ (by decide) (by decide))) _ 6 (by decide) (trim_bx v w0 h1 h2 T hT) (flat_one T) va nv cv aa na ca W hE hTab
omit h2 in
theorem call_c : Calls Tryz.prog 14 #[env0 va nv cv aa na ca ⟨#[]⟩, .string ⟨#[36, 123, 120, 35, 35, 42, 125]⟩] W (TextRes ⟨#[]⟩ 0 ⟨#[]⟩ (envT v.data.toList w0.data.toList) W) :=
  text_call _ (envT_st _ _).1 (envT_st _ _).2 ⟨#[]⟩ 12 _ (by decide) _ word_cut2
    (small_three _ _ _ _ (by decide) (by decide) (small_leaf 1 _ _ _ (by decide) (by decide))) _ 6 (by decide) (trim_cx v w0 h1) (flat_one ⟨#[]⟩) va nv cv aa na ca W hE hTab
omit h2 in
theorem call_d : Calls Tryz.prog 14 #[env0 va nv cv aa na ca ⟨#[]⟩, .string ⟨#[36, 123, 120, 37, 42, 125]⟩] W (TextRes v 0 ⟨#[]⟩ (envT v.data.toList w0.data.toList) W) :=
  text_call _ (envT_st _ _).1 (envT_st _ _).2 v 12 _ (by decide) _ word_cut3
    (small_three _ _ _ _ (by decide) (by decide) (small_leaf 1 _ _ _ (by decide) (by decide))) _ 6 (by decide) (trim_dx v w0 h1) (flat_one v) va nv cv aa na ca W hE hTab
omit h2 in
theorem call_n : Calls Tryz.prog 14 #[env0 va nv cv aa na ca ⟨#[]⟩, .string ⟨#[36, 123, 35, 120, 125]⟩] W (TextRes ⟨(Lib.decDigits v.size).toArray⟩ 0 ⟨#[]⟩ (envT v.data.toList w0.data.toList) W) :=
  text_call _ (envT_st _ _).1 (envT_st _ _).2 ⟨(Lib.decDigits v.size).toArray⟩ 9 _ (by decide) _ word_len
    (small_one _ (small_leaf 3 _ _ _ (by decide) (by decide))) _ 6 (by decide) (trim_nx v w0 h1) (flat_one ⟨(Lib.decDigits v.size).toArray⟩) va nv cv aa na ca W hE hTab
omit h1 h2 in
theorem call_m : Calls Tryz.prog 14 #[env0 va nv cv aa na ca ⟨#[]⟩, .string ⟨#[36, 40, 40, 36, 123, 120, 43, 49, 125, 48, 43, 49, 41, 41]⟩] W (TextRes ⟨#[]⟩ 11 ⟨badT.toArray⟩ (envT v.data.toList w0.data.toList) W) := by
  have h := one_okP PT pt_ok 20 ⟨#[36, 40, 40, 36, 123, 120, 43, 49, 125, 48, 43, 49, 41, 41]⟩ (by decide) _ word_bad (small_one _ (small_leaf 4 _ _ _ (by decide) (by decide))) 6 (by decide) (envT v.data.toList w0.data.toList) _ (trim_mx v w0) va nv cv aa na ca W hE hTab
  simp only [envVal, (envT_st _ _).1, (envT_st _ _).2] at h
  refine h.mono ?_
  rintro y w' ⟨va2, nv2, cv2, aa2, na2, ca2, rfl, hE2, hb⟩
  refine ⟨va2, nv2, cv2, aa2, na2, ca2, ?_, hE2, hb⟩
  simp only [envVal, resOf, (envT_st _ _).1, (envT_st _ _).2]
  rfl
end
/-- A length's text is that number. -/
theorem len_text (n : Nat) (h : n ≤ 30) : numberF ⟨(Lib.decDigits n).toArray⟩ = some (n : Int) := by
  rw [dec_same, ← numL_nat]
  exact num_text0 n (by omega) (by omega)
/-- Set at one variable: the second one. -/
theorem second_set (v w0 : ByteArray) (va : Option Addr) (nv cv : Nat) (aa : Option Addr) (na ca : Nat) (w : World) (hE : EnvA w (.slice va nv cv) (.slice aa na ca) (envD (some v.data.toList))) :
    Calls Tryz.prog 13 #[env0 va nv cv aa na ca ⟨#[]⟩, .string ⟨#[121]⟩, .string w0] w fun r w' => ∃ va2 nv2 cv2, r = .returned (env0 va2 nv2 cv2 aa na ca ⟨#[]⟩) ∧ EnvA w' (.slice va2 nv2 cv2) (.slice aa na ca) (envT v.data.toList w0.data.toList) ∧ Below w.heap.size w w' := by
  have h := set_ok ⟨#[121]⟩ w0 (by decide) (by decide) (envD (some v.data.toList)) va nv cv aa na ca w hE (by
    have : ((envD (some v.data.toList)).set (⟨#[121]⟩ : ByteArray).data.toList w0.data.toList).vars.length = 2 := rfl
    omega)
  simp only [envVal, (envD_st _).1, (envD_st _).2] at h
  refine h.mono ?_
  rintro r w' ⟨va2, nv2, cv2, rfl, hE2, hb⟩
  exact ⟨va2, nv2, cv2, rfl, hE2, hb⟩
end Go.Proofs.YtkmpbkhlcapbgaaGreatDoor
namespace Go.Proofs.YtkmpbkhlcapbgaaGreatDoor
open Go Go.RowKit
theorem trim_sizes (w0 : ByteArray) (h : w0.size ≤ 30) : ∀ n : Nat, n ≤ 60 → ¬ 9223372036854775807 < w0.size + n ∧ w0.size + n ≤ 9223372036854775807 := by omega
theorem bytes_same (a b : ByteArray) : (a.toList == b.toList) = decide (a = b) := by
  rw [Gb.toList_eq]
  by_cases h : a = b
  · subst h; simp
  · have : ¬ Gb.bl a = Gb.bl b := fun e => h (Gb.bl_inj e)
    rw [decide_eq_false h, decide_eq_false this]
theorem want_end (v w0 T : ByteArray) (hT : Gb.cutF w0 (Gb.qm w0.size) v true false = T) :
    (v.size < w0.size ∧ T = v) ∨ (∃ d : Nat, v.size = d + w0.size ∧ (((v.extract d v.size).toList == w0.toList) = true ∧ T = v.extract 0 d ∨ ((v.extract d v.size).toList == w0.toList) = false ∧ T = v)) := by
  rw [Gb.cut_q_end] at hT
  rcases Nat.lt_or_ge v.size w0.size with h | h
  · rw [if_neg (by omega)] at hT
    exact .inl ⟨h, hT.symm⟩
  · refine .inr ⟨v.size - w0.size, by omega, ?_⟩
    rw [bytes_same]
    by_cases hc : v.extract (v.size - w0.size) v.size = w0
    · rw [if_pos ⟨h, hc⟩] at hT
      exact .inl ⟨decide_eq_true hc, hT.symm⟩
    · rw [if_neg (fun e => hc e.2)] at hT
      exact .inr ⟨decide_eq_false hc, hT.symm⟩
theorem want_begin (v w0 T : ByteArray) (hT : Gb.cutF w0 (Gb.qm w0.size) v false false = T) :
    (v.size < w0.size ∧ T = v) ∨ (w0.size ≤ v.size ∧ (((v.extract 0 w0.size).toList == w0.toList) = true ∧ T = v.extract w0.size v.size ∨ ((v.extract 0 w0.size).toList == w0.toList) = false ∧ T = v)) := by
  rw [Gb.cut_q_begin] at hT
  rcases Nat.lt_or_ge v.size w0.size with h | h
  · rw [if_neg (by omega)] at hT
    exact .inl ⟨h, hT.symm⟩
  · refine .inr ⟨h, ?_⟩
    rw [bytes_same]
    by_cases hc : v.extract 0 w0.size = w0
    · rw [if_pos ⟨h, hc⟩] at hT
      exact .inl ⟨decide_eq_true hc, hT.symm⟩
    · rw [if_neg (fun e => hc e.2)] at hT
      exact .inr ⟨decide_eq_false hc, hT.symm⟩
theorem want_both (v w0 T1 T2 : ByteArray) (h1 : Gb.cutF w0 (Gb.qm w0.size) v true false = T1) (h2 : Gb.cutF w0 (Gb.qm w0.size) v false false = T2) :
    (v.size < w0.size ∧ v = T1 ∧ v = T2) ∨ (∃ d : Nat, v.size = d + w0.size ∧ ∃ b1 b2 : Bool, ((v.extract d v.size).toList == w0.toList) = b1 ∧ ((v.extract 0 w0.size).toList == w0.toList) = b2 ∧ (if b1 then v.extract 0 d else v) = T1 ∧ (if b2 then v.extract w0.size v.size else v) = T2) := by
  rcases want_end v w0 T1 h1 with ⟨hc, e1⟩ | ⟨d, hd, h⟩
  · rcases want_begin v w0 T2 h2 with ⟨_, e2⟩ | ⟨hd2, _⟩
    · exact .inl ⟨hc, e1.symm, e2.symm⟩
    · omega
  · rcases want_begin v w0 T2 h2 with ⟨hc, _⟩ | ⟨_, g⟩
    · omega
    · refine .inr ⟨d, hd, ?_⟩
      rcases h with ⟨k1, k2⟩ | ⟨k1, k2⟩ <;> rcases g with ⟨j1, j2⟩ | ⟨j1, j2⟩
      · exact ⟨true, true, k1, j1, k2.symm, j2.symm⟩
      · exact ⟨true, false, k1, j1, k2.symm, j2.symm⟩
      · exact ⟨false, true, k1, j1, k2.symm, j2.symm⟩
      · exact ⟨false, false, k1, j1, k2.symm, j2.symm⟩
theorem len_read (v dg : ByteArray) (h : v.size ≤ 30) (hd : ⟨(Lib.decDigits v.size).toArray⟩ = dg) (W : World) :
    Calls Tryz.prog 16 #[.string dg] W fun e w' => e = .returned (.tuple #[.int .i64 v.size, .bool true]) ∧ W = w' := by
  subst hd
  have := rnumber_any ⟨(Lib.decDigits v.size).toArray⟩ (by
    show (Lib.decDigits v.size).toArray.size ≤ _
    have := dec_len v.size
    simp; omega) W
  rw [len_text v.size h] at this
  exact this
set_option maxRecDepth 100000 in
set_option maxHeartbeats 8000000 in
theorem trims_out (v w0 : ByteArray) (h : 30 < v.size ∨ 30 < w0.size) (w : World) (hT : Full w) :
    Calls Tryz.prog 5 #[.string v, .string w0] w fun e w' => e = .returned (.bool true) ∧ Below w.heap.size w w' := by
  have HA := Lib.hid (awake_any w hT)
  clear hT
  by_cases h1 : 30 < v.size
  · have h1' : (30 : Int) < (v.size : Int) := by omega
    clear h h1
    go_enter Tryz.func5, Tryz.ntmps5
    go_wp2_with fail
    refine HA.out.mono ?_; rintro e w1 ⟨rfl, hb⟩
    have HB := Lib.hid hb
    clear hb
    go_wp2_with fail
    go_ret
    exact ⟨rfl, HB.out⟩
  · have h1' : ¬ (30 : Int) < (v.size : Int) := by omega
    have h2' : (30 : Int) < (w0.size : Int) := by omega
    clear h h1
    go_enter Tryz.func5, Tryz.ntmps5
    go_wp2_with fail
    refine HA.out.mono ?_; rintro e w1 ⟨rfl, hb⟩
    have HB := Lib.hid hb
    clear hb
    go_wp2_with fail
    go_ret
    exact ⟨rfl, HB.out⟩
set_option maxRecDepth 100000 in
set_option maxHeartbeats 8000000 in
theorem trims_quote (v w0 : ByteArray) (h1 : v.size ≤ 30) (h2 : w0.size ≤ 30) (hq : (39 : UInt8) ∈ w0.data.toList) (w : World) (hT : Full w) :
    Calls Tryz.prog 5 #[.string v, .string w0] w fun e w' => e = .returned (.bool true) ∧ Below w.heap.size w w' := by
  have HA := Lib.hid (awake_any w hT)
  have h1' : ¬ (30 : Int) < (v.size : Int) := by omega
  have h2' : ¬ (30 : Int) < (w0.size : Int) := by omega
  have HQ := Lib.hid hq
  clear hT hq
  go_enter Tryz.func5, Tryz.ntmps5
  go_wp2_with fail
  refine HA.out.mono ?_; rintro e w1 ⟨rfl, hb⟩
  have HB := Lib.hid hb
  clear hb
  go_wp2_with fail
  go_loopg [6] w0.size (fun g s6 wx => wx = w1 ∧ ∃ i : Nat, i + g = w0.size ∧ s6 = .int .i64 i ∧ Hid (∀ j (h : j < w0.size), j < i → w0[j] ≠ 39))
  case atStart => exact ⟨rfl, 0, by omega, rfl, fun j _ h => by omega⟩
  case round =>
    obtain ⟨rfl, i, hig, rfl, hrel⟩ := hrel
    cases gk with
    | zero =>
      exfalso
      obtain ⟨j, hj, he⟩ := List.getElem_of_mem HQ.out
      exact hrel.out j (by simpa using hj) (by have : j < w0.size := by simpa using hj
                                               omega) he
    | succ g =>
      have hi : i < w0.size := by omega
      by_cases hc : w0[i] = 39
      · have hc2 : ((w0[i].toNat : Int) == 39) = true := by rw [hc]; rfl
        clear hrel
        go_wp2_with fail
        go_ret
        exact ⟨rfl, HB.out⟩
      · have hc1 : w0[i].toNat ≠ 39 := fun e => hc (UInt8.toNat_inj.1 (e.trans rfl))
        have hc2 : ((w0[i].toNat : Int) == 39) = false := by simp; omega
        have HR := Lib.hid hrel.out
        have HC := Lib.hid hc
        clear hrel hc hc1
        go_wp2_with fail
        go_roundg g
        case measure => omega
        case rel => exact ⟨rfl, i + 1, by omega, rfl, fun j hj hji => by
          rcases Nat.lt_or_ge j i with q | q
          · exact HR.out j hj q
          · obtain rfl : j = i := by omega
            exact HC.out⟩
end Go.Proofs.YtkmpbkhlcapbgaaGreatDoor
namespace Go.Proofs.YtkmpbkhlcapbgaaGreatDoor
open Go.ChangeShapes Go.WideShapes Go.ChangeAt Go.RowKit
variable {H : Type} {enc : TypeId × Value → H}
theorem handed_and_shaped {a : Assume} {C : Checked} {os : Os} {f : FuncId} {fn : Func} {s : ChangeSpec} {conds : List PathCond} {apart fresh handsOn again : Bool} {X : World → Array Value → Prop}
    (hX : ∀ (w w' : World) (args : Array Value), w.heap = w'.heap → X w args → X w' args)
    (own : ownKnob C.prog.godebug = none) (started : os.Started) (noInit : C.prog.inits.idxOf? f = none) (hfn : C.prog.funcs[f]? = some fn)
    (witness : ∃ (w : World) (tape : Tape) (i : Input), w.os = os ∧ (w.forCall tape i).Shaped C.prog ∧ i.vars = [] ∧ Input.okWide C.prog (w.forCall tape i) .any w.heap.size f i ∧
      ((s.pre enc C.prog fn conds apart (w.forCall tape i).memory i.args ∧ X (w.forCall tape i).memory i.args) ∧ sizedMet enc C.prog fn (OpenSpec.ofChange s) apart (w.forCall tape i).memory i.args) ∧ a.holds C.prog (lone (Frame.enter C.prog f i.args .normal) [] (w.forCall tape i)))
    (contract : ∀ (W : World) (base : Nat) (args : Array Value) (ds gs : List (DataW H)) (before : List MemPlace),
      (∀ (j : Nat) t v, fn.params[j]? = some t → args[j]? = some v → Value.okWide C.prog W .any base t v) →
      DataW.Whole enc C.prog fn.params.toList s.vars apart W args.toList ds gs before →
      conds.all (PathCond.test C.prog ⟨fn.params.toList, ds, s.plain.varTypes C.prog, gs⟩) = true →
      (DataW.weightsEach C.prog (fn.params.toList ++ s.plain.varTypes C.prog) (ds ++ gs)).all (· ≤ reachBytes) = true → X W args → W.ShapedOpen C.prog →
      a.holds C.prog (lone (Frame.enter C.prog f args .normal) [] W) →
      Calls C.prog f args W fun e W' => ∃ v, e = .returned v ∧ s.post enc C.prog fn apart fresh handsOn again W args v W') :
    ReturnsInHanded a C os f .any (fun w args => (s.pre enc C.prog fn conds apart w args ∧ X w args) ∧ sizedMet enc C.prog fn (OpenSpec.ofChange s) apart w args) (s.post enc C.prog fn apart fresh handsOn again) := by
  refine returnsInHanded_of_calls own started noInit witness ?_
  intro w tape i _ hsh _ hok hpre hholds
  obtain ⟨_, _, _, fn', hfn', _, _, _, _, hval⟩ := hok
  have e : fn' = fn := Option.some.inj (hfn'.symm.trans hfn)
  subst e
  obtain ⟨⟨⟨ds, gs, before, hw, hc⟩, hx⟩, hz⟩ := hpre
  have hw' := DataW.Whole.of_heap (w' := w.forCall tape i) (by rfl) hw
  refine (contract (w.forCall tape i) w.heap.size i.args ds gs before hval hw' hc (hz.weights hw) (hX _ _ _ (by rfl) hx) hsh hholds).mono fun e W' ⟨v, he, hp⟩ => ?_
  subst he
  exact ChangeSpec.post_blind hp
/-- A struct of two strings among what was read: the reach bounds both. -/
theorem sized_pat {P : Program} {ts : List TypeId} {ds : List (DataW H)} (h : (DataW.weightsEach P ts ds).all (· ≤ reachBytes) = true) {j : Nat} {t a b : TypeId} {x y : ByteArray} {fs : Array Field}
    (ht : ts[j]? = some t) (hd : ds[j]? = some (.agg [.lit (.string x.data.toList), .lit (.string y.data.toList)])) (hu : P.underlying t = some (.struct fs)) (hf : fs.toList.map (·.type) = [a, b]) : x.size ≤ reachBytes ∧ y.size ≤ reachBytes := by
  have h1 : ∀ n ∈ [x.data.toList.length, y.data.toList.length], n ≤ reachBytes := fun n hn => by
    have := List.all_eq_true.1 h n (DataW.weights_mem_each ht hd n (by simp only [DataW.weights, hu, hf, DataW.weightsEach]; simpa using hn))
    simpa using this
  have e : ∀ z : ByteArray, z.data.toList.length = z.size := fun _ => rfl
  have h2 := h1 x.data.toList.length (List.mem_cons_self ..)
  have h3 := h1 y.data.toList.length (List.mem_cons_of_mem _ (List.mem_cons_self ..))
  rw [e] at h2 h3
  exact ⟨h2, h3⟩
theorem own : ownKnob Tryz.prog.godebug = none := by kernel_rfl
theorem laidOut : laidOutB Tryz.prog = true := by kernel_rfl
end Go.Proofs.YtkmpbkhlcapbgaaGreatDoor
namespace Go.Proofs.YtkmpbkhlcapbgaaGreatDoor
open Go Go.Lib
/-- A table of texts, as a row lists it. -/
def strData {H : Type} (ss : List (List UInt8)) : DataW H := .agg (ss.map fun s => .lit (.string s))
theorem cells_of_strs {H : Type} {enc : TypeId × Value → H} {P : Program} {w : World} {base : Nat} {sp : Nat → Bool} {held : Bool} {fuel : Nat} {t e : TypeId} {n : Nat} {cs : List Value} {ss : List (List UInt8)} {p : List MemPlace}
    (ht : P.underlying t = some (.array n e)) (he : P.underlying e = some .string) (hce : P.cellsOf e = 1) (hct : P.cellsOf t = n)
    (h : DataW.trod enc P w base sp held fuel t cs = some (strData ss, p)) : cs = ss.map fun s => Value.string ⟨s.toArray⟩ := by
  cases fuel with
  | zero => simp [DataW.trod] at h
  | succ fuel =>
    simp only [DataW.trod, ht, hce, hct, Nat.mul_one] at h
    split at h
    · rename_i hl
      obtain ⟨xs, hm, hx⟩ := Option.map_eq_some_iff.1 h
      have hxs : xs.map (·.1) = ss.map fun s => (DataW.lit (.string s) : DataW H) := by
        have := congrArg Prod.fst hx
        simpa [strData] using this
      have hxl : xs.length = n := by simpa using mapM_length hm
      have hzl : ss.length = n := by
        have := congrArg List.length hxs
        simp at this
        omega
      apply List.ext_getElem?
      intro i
      by_cases hi : i < n
      · obtain ⟨b, hb, hf⟩ := mapM_at hm i i (by simp [hi])
        obtain ⟨z, hc, hd, _⟩ := DataW.trod_string he hf
        have h1 : cs[i]? = some (.string z) := by
          have := congrArg (·[0]?) hc
          simpa [List.getElem?_take, List.getElem?_drop] using this
        have h2 : (xs.map (·.1))[i]? = some b.1 := by simp [hb]
        rw [hd, hxs] at h2
        simp only [List.getElem?_map, Option.map_eq_some_iff, DataW.lit.injEq, Lit.string.injEq] at h2
        obtain ⟨z', hz', he'⟩ := h2
        simp [h1, hz', he']
      · rw [List.getElem?_eq_none (by omega), List.getElem?_eq_none (by simp; omega)]
    · cases h
theorem strs_of_head {P : Program} {W : World} {name : String} {ss : List (List UInt8)} {rest : List (String × DataW Unit)} {g : Nat} {t e : TypeId} {n : Nat}
    (hg : P.globalNamed name = some g) (hty : (P.globals[g]?).map (·.type) = some t) (ht : P.underlying t = some (.array n e)) (he : P.underlying e = some .string) (hce : P.cellsOf e = 1) (hct : P.cellsOf t = n)
    (h : laidMet P ((name, strData ss) :: rest) W) (i : Nat) (hi : i < ss.length) : W.cell? ⟨g, i, none⟩ = some (.string ⟨(ss.getD i []).toArray⟩) := by
  obtain ⟨ps, ⟨g', t', cs, fuel, p, q, hg', ht', hvar, hd, _, _⟩, _⟩ := h
  obtain rfl := Option.some.inj (hg.symm.trans hg')
  obtain rfl := Option.some.inj (hty.symm.trans ht')
  have hc := cells_of_strs ht he hce hct hd
  have hcs : cs = (ss.map fun s => Value.string ⟨s.toArray⟩).toArray := by rw [← hc]
  rw [hcs] at hvar
  have := World.var?_cell hg hvar i
  simpa [List.getD, hi] using this
end Go.Proofs.YtkmpbkhlcapbgaaGreatDoor
