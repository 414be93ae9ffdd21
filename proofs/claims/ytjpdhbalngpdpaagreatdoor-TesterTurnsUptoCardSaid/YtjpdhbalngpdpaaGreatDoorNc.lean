/-
  DERIVED. The walk of the document's Number.
-/
import Derived.Test.YtjpdhbalngpdpaaGreatDoorNb
namespace Go.Proofs.YtjpdhbalngpdpaaGreatDoor
open Go.RowKit
def lu (s : ByteArray) : List UInt8 := s.data.toList
theorem lu_length (s : ByteArray) : (lu s).length = s.size := (Lib.size_eq s).symm
theorem lu_head (s : ByteArray) (h : 0 < s.size) : lu s = s[0] :: (lu s).drop 1 := by
  have h2 : 0 < (lu s).length := by rw [lu_length]; exact h
  have h3 : (lu s).drop 0 = (lu s)[0] :: (lu s).drop (0 + 1) := List.drop_eq_getElem_cons h2
  simp [lu] at h3 ⊢
  exact h3
theorem lu_last (s : ByteArray) (h : 0 < s.size) : lu s = (lu s).take (s.size - 1) ++ [s[s.size - 1]] := by
  have h2 : s.size - 1 < (lu s).length := by rw [lu_length]; omega
  have h3 : (lu s).take (s.size - 1 + 1) = (lu s).take (s.size - 1) ++ [(lu s)[s.size - 1]] := List.take_succ_eq_append_getElem h2
  rw [List.take_of_length_le (by rw [lu_length]; omega)] at h3
  simp [lu] at h3 ⊢
  exact h3
theorem lu_tail (s : ByteArray) : lu (s.extract 1 s.size) = (lu s).drop 1 := by
  unfold lu; rw [Lib.extract_data, List.take_of_length_le (by simp)]
theorem lu_init (s : ByteArray) : lu (s.extract 0 (s.size - 1)) = (lu s).take (s.size - 1) := by
  unfold lu; rw [Lib.extract_data]; simp
theorem blank_head {s : ByteArray} (h : 0 < s.size) (b : Bool) (hb : blankB (bt s 0) = b) : blankU s[0] = b := by
  rw [blankU_eq]; have := get_bt s 0 h; rw [this]; exact hb
theorem blank_last {s : ByteArray} (h : 0 < s.size) (b : Bool) (hb : blankB (bt s (s.size - 1)) = b) : blankU s[s.size - 1] = b := by
  rw [blankU_eq]; have := get_bt s (s.size - 1) (by omega); rw [this]; exact hb
theorem drop_on {s u : ByteArray} (hu : 0 < u.size) (h : (lu u).dropWhile blankU = (lu s).dropWhile blankU) (hb : blankB (bt u 0) = true) : (lu (u.extract 1 u.size)).dropWhile blankU = (lu s).dropWhile blankU := by
  rw [lu_tail, ← h]
  conv => rhs; rw [lu_head u hu]
  rw [List.dropWhile_cons_of_pos (blank_head hu _ hb)]
theorem drop_end {s u : ByteArray} (h : (lu u).dropWhile blankU = (lu s).dropWhile blankU) (hb : 0 < u.size → blankB (bt u 0) = false) : lu u = (lu s).dropWhile blankU := by
  rw [← h]
  by_cases hu : 0 < u.size
  · conv => rhs; rw [lu_head u hu]
    rw [List.dropWhile_cons_of_neg (by rw [blank_head hu _ (hb hu)]; simp)]
    exact lu_head u hu
  · have : lu u = [] := List.length_eq_zero_iff.1 (by rw [lu_length]; omega)
    rw [this]; rfl
theorem cut_on {L : List UInt8} {u : ByteArray} (hu : 0 < u.size) (h : cutR blankU (lu u) = cutR blankU L) (hb : blankB (bt u (u.size - 1)) = true) : cutR blankU (lu (u.extract 0 (u.size - 1))) = cutR blankU L := by
  rw [lu_init, ← h]
  conv => rhs; rw [lu_last u hu]
  unfold cutR
  rw [List.reverse_append, List.reverse_singleton, List.singleton_append, List.dropWhile_cons_of_pos (blank_last hu _ hb)]
theorem cut_end {L : List UInt8} {u : ByteArray} (h : cutR blankU (lu u) = cutR blankU L) (hb : 0 < u.size → blankB (bt u (u.size - 1)) = false) : lu u = cutR blankU L := by
  rw [← h]
  by_cases hu : 0 < u.size
  · conv => rhs; rw [lu_last u hu]
    unfold cutR
    rw [List.reverse_append, List.reverse_singleton, List.singleton_append, List.dropWhile_cons_of_neg (by rw [blank_last hu _ (hb hu)]; simp), List.reverse_cons, List.reverse_reverse]
    exact lu_last u hu
  · have : lu u = [] := List.length_eq_zero_iff.1 (by rw [lu_length]; omega)
    rw [this]; rfl
theorem lu_inj {a b : ByteArray} (h : lu a = lu b) : a = b := by rw [← Lib.mk_data a, ← Lib.mk_data b]; unfold lu at h; rw [h]
theorem trimB_size (s : ByteArray) : (trimB s).size ≤ s.size := by
  rw [← lu_length, ← lu_length]; unfold lu; rw [trimB_eq]; unfold cutR
  rw [List.length_reverse]
  exact Nat.le_trans (List.Sublist.length_le (List.dropWhile_sublist _)) (by rw [List.length_reverse]; exact List.Sublist.length_le (List.dropWhile_sublist _))
theorem baseF_cases (s : ByteArray) (_hs : 0 < s.size) : (baseF s = (16, 2) ∧ 2 < s.size) ∨ (baseF s = (8, 1) ∧ 1 < s.size) ∨ baseF s = (10, 0) := by
  unfold baseF
  split
  · rename_i h; exact .inl ⟨rfl, h.1⟩
  · split
    · rename_i h; exact .inr (.inl ⟨rfl, h.1⟩)
    · exact .inr (.inr rfl)
theorem rdigits_at (s : ByteArray) (hs : s.size ≤ 9223372036854775800) (r : Option Int) (hr : digitsF s = r) (w : World) :
    Calls Tryz.prog 85 #[.string s] w fun e w' => e = .returned (.tuple #[.int .i64 (r.getD 0), .bool r.isSome]) ∧ w = w' := by
  subst hr; exact rdigits_any s hs w
theorem digitsF_range {s : ByteArray} {r : Int} (h : digitsF s = some r) : 0 ≤ r ∧ r ≤ maxI := by
  unfold digitsF at h
  split at h
  · cases h
  · refine digGo_range _ ?_ _ 0 r (by omega) (by rw [maxI_eq]; omega) h
    rcases baseF_cases s (by omega) with ⟨h, _⟩ | ⟨h, _⟩ | h <;> rw [h] <;> simp
def NumRel1 (s : ByteArray) (w : World) (g : Nat) (v : Value) (wr : World) : Prop :=
  ∃ u : ByteArray, v = .string u ∧ u.size ≤ 9223372036854775800 ∧ Hid ((lu u).dropWhile blankU = (lu s).dropWhile blankU) ∧ w = wr ∧ u.size ≤ g
def NumRel2 (s : ByteArray) (w : World) (g : Nat) (v : Value) (wr : World) : Prop :=
  ∃ u : ByteArray, v = .string u ∧ u.size ≤ 9223372036854775800 ∧ Hid (cutR blankU (lu u) = cutR blankU ((lu s).dropWhile blankU)) ∧ w = wr ∧ u.size ≤ g
set_option maxRecDepth 100000 in
set_option maxHeartbeats 8000000 in
theorem rnumber_any (s : ByteArray) (hs : s.size ≤ 9223372036854775800) (w : World) :
    Calls Tryz.prog 56 #[.string s] w fun e w' => e = .returned (numV (numberF s)) ∧ w = w' := by
  have hst : Hid (NumRel1 s w s.size (.string s) w) := ⟨s, rfl, hs, rfl, rfl, Nat.le_refl _⟩
  obtain ⟨R, hR⟩ : ∃ R, numberF s = R := ⟨_, rfl⟩
  have HR := Lib.hid hR
  rw [hR]
  clear hR
  go_enter Tryz.func56, Tryz.ntmps56
  go_wp2_with fail
  go_loopg [0] s.size (fun g v wr => NumRel1 s w g v wr)
  case atStart => exact hst.out
  case round =>
    clear hst
    obtain ⟨u, rfl, hu, HU, rfl, hg⟩ := hrel
    have HG := Lib.hid hg; clear hg
    have hgt := get_bt u
    by_cases hpos : 0 < u.size
    · have hem : u.toList.isEmpty = false := by rw [empty_iff]; simp [hpos]
      cases hb : blankB (bt u 0)
      · have HE := Lib.hid (drop_end HU.out (fun _ => hb))
        have HC := Lib.hid (rblank_any (bt u 0) _ hb)
        clear hb HU
        have hst2 : Hid (NumRel2 s w u.size (.string u) w) := ⟨u, rfl, hu, by unfold Hid; rw [HE.out], rfl, Nat.le_refl _⟩
        go_wp2_with fail
        refine (HC.out _).mono ?_; rintro e w2 ⟨rfl, rfl⟩
        go_wp2_with fail
        go_loopg [0] u.size (fun g v wr => NumRel2 s w g v wr)
        case atStart => exact hst2.out
        case round =>
          clear hst2
          obtain ⟨v, rfl, hv, HVV, rfl, hg⟩ := hrel
          have HG2 := Lib.hid hg; clear hg
          have hgv := get_bt v
          by_cases hpos2 : 0 < v.size
          · have hem2 : v.toList.isEmpty = false := by rw [empty_iff]; simp [hpos2]
            obtain ⟨n, hn⟩ : ∃ n, v.size = n + 1 := ⟨v.size - 1, by omega⟩
            cases hb : blankB (bt v n)
            · have HV : Hid (v = trimB s) := lu_inj (by rw [cut_end HVV.out (fun _ => by rw [hn]; exact hb)]; unfold lu; rw [trimB_eq])
              have HC := Lib.hid (rblank_any (bt v n) _ hb)
              clear hb HVV
              have hnn : (v.size : Int) - 1 = (n : Int) := by omega
              have hnl : n < v.size := by omega
              have HNN := Lib.hid hn; clear hn
              by_cases p1 : bt v 0 = 43
              · have c1 : (bt v 0 == 43) = true := by simp [p1]
                have HRR : Hid (digitsF (v.extract 1 v.size) = R) := by unfold Hid; rw [← HR.out]; unfold numberF; rw [← HV.out, if_neg (by omega), if_pos p1]
                have hz : (v.extract 1 v.size).size ≤ 9223372036854775800 := by rw [ByteArray.size_extract]; omega
                clear p1
                go_wp2_with fail
                refine (HC.out _).mono ?_; rintro e w3 ⟨rfl, rfl⟩
                go_wp2_with fail
                refine (rdigits_at _ hz R HRR.out _).mono ?_; rintro e w4 ⟨rfl, rfl⟩
                go_wp2_with fail
                go_ret2
                exact ⟨rfl, rfl⟩
              · have c1 : (bt v 0 == 43) = false := by simp [p1]
                by_cases p2 : bt v 0 = 45
                · have c2 : (bt v 0 == 45) = true := by simp [p2]
                  obtain ⟨r, hr⟩ : ∃ r, digitsF (v.extract 1 v.size) = r := ⟨_, rfl⟩
                  have HRR : Hid (R = r.map fun n => -n) := by unfold Hid; rw [← HR.out]; unfold numberF; rw [← HV.out, if_neg (by omega), if_neg p1, if_pos p2, hr]
                  have hz : (v.extract 1 v.size).size ≤ 9223372036854775800 := by rw [ByteArray.size_extract]; omega
                  have hrange : 0 ≤ r.getD 0 ∧ r.getD 0 ≤ 9223372036854775807 := by
                    cases r with
                    | none => simp
                    | some x => have := digitsF_range hr; rw [maxI_eq] at this; exact this
                  obtain ⟨hr0, hr1⟩ := hrange
                  have HF := Lib.hid hr
                  clear p1 p2 hr
                  go_wp2_with fail
                  refine (HC.out _).mono ?_; rintro e w3 ⟨rfl, rfl⟩
                  go_wp2_with fail
                  refine (rdigits_at _ hz r HF.out _).mono ?_; rintro e w4 ⟨rfl, rfl⟩
                  go_wp2_with fail
                  go_ret2
                  exact ⟨by rw [HRR.out]; cases r <;> rfl, rfl⟩
                · have c2 : (bt v 0 == 45) = false := by simp [p2]
                  have HRR : Hid (digitsF v = R) := by unfold Hid; rw [← HR.out]; unfold numberF; rw [← HV.out, if_neg (by omega), if_neg p1, if_neg p2]
                  clear p1 p2
                  go_wp2_with fail
                  refine (HC.out _).mono ?_; rintro e w3 ⟨rfl, rfl⟩
                  go_wp2_with fail
                  refine (rdigits_at _ hv R HRR.out _).mono ?_; rintro e w4 ⟨rfl, rfl⟩
                  go_wp2_with fail
                  go_ret2
                  exact ⟨rfl, rfl⟩
            · have HN := Lib.hid (cut_on hpos2 HVV.out (by rw [hn]; exact hb))
              have HC := Lib.hid (rblank_any (bt v n) _ hb)
              clear hb HVV
              have hsz : (v.extract 0 (v.size - 1)).size ≤ v.size - 1 := by rw [ByteArray.size_extract]; omega
              have hnn : (v.size : Int) - 1 = (n : Int) := by omega
              have hnl : n < v.size := by omega
              have HNN := Lib.hid hn; clear hn
              go_wp2_with fail
              refine (HC.out _).mono ?_; rintro e w3 ⟨rfl, rfl⟩
              go_wp2_with fail
              go_roundg (v.size - 1)
              case measure => have := HG2.out; omega
              case rel => exact ⟨v.extract 0 (v.size - 1), by first | rfl | (rw [show v.size - 1 = n from by have := HNN.out; omega]), by omega, HN.out, rfl, hsz⟩
          · have HV : Hid (v = trimB s) := lu_inj (by rw [cut_end HVV.out (fun h => absurd h hpos2)]; unfold lu; rw [trimB_eq])
            have HRR : Hid (R = some 0) := by unfold Hid; rw [← HR.out]; unfold numberF; rw [← HV.out, if_pos (by omega)]
            obtain rfl := empty_of v (by omega)
            go_wp2_with fail
            go_ret2
            exact ⟨by rw [HRR.out]; rfl, rfl⟩
      · have HN := Lib.hid (drop_on hpos HU.out hb)
        have HC := Lib.hid (rblank_any (bt u 0) _ hb)
        clear hb HU
        have hsz : (u.extract 1 u.size).size ≤ u.size - 1 := by rw [ByteArray.size_extract]; omega
        go_wp2_with fail
        refine (HC.out _).mono ?_; rintro e w2 ⟨rfl, rfl⟩
        go_wp2_with fail
        go_roundg (u.size - 1)
        case measure => have := HG.out; omega
        case rel => exact ⟨u.extract 1 u.size, rfl, by omega, HN.out, rfl, hsz⟩
    · have HE := Lib.hid (drop_end HU.out (fun h => absurd h hpos))
      obtain rfl := empty_of u (by omega)
      clear HU
      have hst2 : Hid (NumRel2 s w 0 (.string ByteArray.empty) w) := ⟨ByteArray.empty, rfl, hu, by unfold Hid; rw [HE.out], rfl, Nat.le_refl _⟩
      go_wp2_with fail
      go_loopg [0] 0 (fun _ v wr => NumRel2 s w 0 v wr)
      case atStart => exact hst2.out
      case round =>
        clear hst2
        obtain ⟨v, rfl, hv, HVV, rfl, hg⟩ := hrel
        have hpos2 : ¬ 0 < v.size := by omega
        clear hg
        have HV : Hid (v = trimB s) := lu_inj (by rw [cut_end HVV.out (fun h => absurd h hpos2)]; unfold lu; rw [trimB_eq])
        have HRR : Hid (R = some 0) := by unfold Hid; rw [← HR.out]; unfold numberF; rw [← HV.out, if_pos (by omega)]
        obtain rfl := empty_of v (by omega)
        go_wp2_with fail
        go_ret2
        exact ⟨by rw [HRR.out]; rfl, rfl⟩
end Go.Proofs.YtjpdhbalngpdpaaGreatDoor
