/-
  DERIVED. Plain: what ExpandSplits joins, and what its words come to. No program in sight. ExpandSplits: what its calls come to; its texts, byte by byte. The walk of ExpandSplits.
-/
import Derived.Test.YtkmpbkhlcapbgaaGreatDoorZ46
import Derived.Test.YtkmpbkhlcapbgaaGreatDoorZUcs
namespace Go.Proofs.YtkmpbkhlcapbgaaGreatDoor
/-- Words, with a separator between. -/
def wordsV (sep : List UInt8) : List (List UInt8) → List UInt8
  | [] => []
  | w :: l => w ++ restL sep l
theorem wordsV_succ (sep : List UInt8) (ss : List (List UInt8)) (i : Nat) (h : i < ss.length) : wordsV sep (ss.take (i + 1)) = wordsV sep (ss.take i) ++ (if 0 < i then sep else []) ++ ss[i] := by
  cases ss with
  | nil => simp at h
  | cons w l =>
    cases i with
    | zero => simp [wordsV, restL]
    | succ j =>
      have hj : j < l.length := by simpa using h
      have e : l.take (j + 1) = l.take j ++ [l[j]] := List.take_succ_eq_append_getElem hj
      simp only [List.take_succ_cons, wordsV, List.getElem_cons_succ]
      unfold restL
      rw [e, List.flatMap_append, if_pos (by omega)]
      simp only [List.flatMap_cons, List.flatMap_nil, List.append_nil, List.append_assoc]
/-- The text of a field. -/
def fieldT (ss : List (List UInt8)) (i : Nat) : List UInt8 := (if i = 0 then 65 :: ss.getD i [] else ss.getD i []) ++ (if i + 1 = ss.length then [66] else [])
theorem split_texts (sep w : List UInt8) (l : List (List UInt8)) (h0 : sep ≠ []) (hs : ∀ x ∈ sep, blL.contains x = true) (hl : ∀ w' ∈ w :: l, w' ≠ [] ∧ ∀ x ∈ w', blL.contains x = false) :
    (splitR (axb (wordsV sep (w :: l))) blL).length = (w :: l).length ∧ ∀ i (h : i < (splitR (axb (wordsV sep (w :: l))) blL).length), ((splitR (axb (wordsV sep (w :: l))) blL)[i]).1 = fieldT (w :: l) i := by
  obtain ⟨L, z, e1, e2⟩ := split_words sep w l h0 hs hl
  have e1' : (splitR (axb (wordsV sep (w :: l))) blL).map (·.1) = L ++ [z ++ [66]] := e1
  have hlen : (splitR (axb (wordsV sep (w :: l))) blL).length = L.length + 1 := by
    have := congrArg List.length e1'
    simpa using this
  have hlen2 : L.length + 1 = l.length + 1 := by
    have := congrArg List.length e2
    simpa using this
  refine ⟨by rw [hlen]; simp; omega, fun i h => ?_⟩
  have hg : ((splitR (axb (wordsV sep (w :: l))) blL).map (·.1))[i]? = some ((splitR (axb (wordsV sep (w :: l))) blL)[i]).1 := by simp [h]
  rw [e1'] at hg
  have hz : ∀ j : Nat, (L ++ [z])[j]? = ((65 :: w) :: l)[j]? := fun j => by rw [e2]
  rcases Nat.lt_or_ge i L.length with q | q
  · rw [List.getElem?_append_left q] at hg
    have h2 := hz i
    rw [List.getElem?_append_left q, hg] at h2
    unfold fieldT
    rw [if_neg (show ¬ i + 1 = (w :: l).length by simp; omega), List.append_nil]
    cases i with
    | zero => simpa using h2
    | succ j =>
      have hj : j < l.length := by omega
      rw [if_neg (by omega)]
      simp [hj] at h2 ⊢
      exact h2
  · obtain rfl : i = L.length := by omega
    have h2 := hz L.length
    have h3 : (L ++ [z ++ [66]])[L.length]? = some (z ++ [66]) := by simp
    rw [h3] at hg
    have h4 : (L ++ [z])[L.length]? = some z := by simp
    rw [h4] at h2
    have hg' : ((splitR (axb (wordsV sep (w :: l))) blL)[L.length]).1 = z ++ [66] := by simpa using hg.symm
    rw [hg']
    unfold fieldT
    rw [if_pos (show L.length + 1 = (w :: l).length by simp; omega)]
    congr 1
    cases hL : L.length with
    | zero => rw [hL] at h2; simpa using h2
    | succ j =>
      rw [hL] at h2
      have hj : j < l.length := by omega
      rw [if_neg (by omega)]
      simp [hj] at h2 ⊢
      exact h2
theorem parts_axb (e : EnvT) (v : List UInt8) (hg : e.get [120] = some v) (hv : v.length ≤ 1000) (hf : e.vars.length ≤ 1000) :
    partsE P0 8 e ([], []) [.mk 1 [65] [] false [], .mk 3 [120] [] false [], .mk 2 [66] [] false []] = some (.ok e (axb v)) := by
  have h1 := part_lit P0 5 e ([], []) [65] [] false [] (by decide) (by omega)
  have l1 := putR_length ([], []) [65] 108
  have l1' : (putR ([], []) [65] 108).1.length ≤ 2 := by have : (([], []) : RowT).1.length = 0 := rfl; simp at l1; omega
  have h2 := part_val P0 4 e (putR ([], []) [65] 108) [120] [] false [] v name_x hg (by decide) (by decide) rfl (by omega) (by omega)
  have l2 := putR_length (putR ([], []) [65] 108) v 115
  have h3 := part_quo P0 3 e (putR (putR ([], []) [65] 108) v 115) [66] [] false [] (by simp; omega) (by omega)
  rw [parts_cons P0 6 e _ _ _ _ _ (by
    have := part_lit P0 6 e ([], []) [65] [] false [] (by decide) (by omega)
    exact this), parts_cons P0 5 e _ _ _ _ _ (by
    have := part_val P0 5 e (putR ([], []) [65] 108) [120] [] false [] v name_x hg (by decide) (by decide) rfl (by omega) (by omega)
    exact this)]
  exact parts_one P0 4 e _ _ _ _ (by
    have := part_quo P0 4 e (putR (putR ([], []) [65] 108) v 115) [66] [] false [] (by simp; omega) (by omega)
    exact this)
theorem small_axb : smallL [.mk 1 [65] [] false [], .mk 3 [120] [] false [], .mk 2 [66] [] false []] := by
  simp only [smallL_cons, smallL_nil, smallP_mk]
  refine ⟨⟨by decide, by decide, by decide, trivial⟩, ⟨by decide, by decide, by decide, trivial⟩, ⟨by decide, by decide, by decide, trivial⟩, trivial⟩
/-- The Env with separators of its own. -/
def envS (v : List UInt8) : EnvT := (envD (some v)).set [73, 70, 83] [58]
theorem envS_is (v : List UInt8) : envS v = ⟨[([73, 70, 83], [58]), ([120], v)], [], 0, []⟩ := rfl
theorem envS_get (v : List UInt8) : (envS v).get [120] = some v := rfl
theorem envS_ifs (v : List UInt8) : (envS v).ifs = [58] := rfl
theorem envD_ifs (v : List UInt8) : (envD (some v)).ifs = blL := rfl
theorem split_colon (v : List UInt8) (hv : v ≠ []) (h : ∀ x ∈ v, x ≠ 58) : ∃ m, splitR (axb v) [58] = [([65] ++ v ++ [66], m)] := by
  have e := split_none [58] v hv (fun x hx => by simpa using h x hx)
  obtain ⟨r, hr⟩ : ∃ r, splitR (axb v) [58] = r := ⟨_, rfl⟩
  rw [hr] at e ⊢
  cases r with
  | nil => simp at e
  | cons p t =>
    cases t with
    | nil =>
      have e2 : p.1 = [65] ++ v ++ [66] := by simpa using e
      exact ⟨p.2, by rw [← e2]⟩
    | cons q t => simp at e
end Go.Proofs.YtkmpbkhlcapbgaaGreatDoor
namespace Go.Proofs.YtkmpbkhlcapbgaaGreatDoor
open Go Go.RowKit
theorem sp_set2 (v : List UInt8) (va : Option Addr) (nv cv : Nat) (aa : Option Addr) (na ca : Nat) (w : World) (hE : EnvA w (.slice va nv cv) (.slice aa na ca) (envD (some v))) :
    Calls Tryz.prog 13 #[env0 va nv cv aa na ca ⟨#[]⟩, .string ⟨#[73, 70, 83]⟩, .string ⟨#[58]⟩] w fun r w' => ∃ va2 nv2 cv2, r = .returned (env0 va2 nv2 cv2 aa na ca ⟨#[]⟩) ∧ EnvA w' (.slice va2 nv2 cv2) (.slice aa na ca) (envS v) ∧ Below w.heap.size w w' :=
  set_ok ⟨#[73, 70, 83]⟩ ⟨#[58]⟩ (by decide) (by decide) (envD (some v)) va nv cv aa na ca w hE (show (envS v).vars.length ≤ 1000000 by rw [envS_is]; simp)
def RowRes (M : List RowT) (w : World) (x : Ending) (w' : World) : Prop :=
  ∃ a c va nv cv aa na ca, x = .returned (.tuple #[.slice a M.length c, env0 va nv cv aa na ca ⟨#[]⟩, .agg #[.int .i64 0, .string ⟨#[]⟩]]) ∧ w'.ownsRow w.heap.size 38 2 (.slice a M.length c) M.length (cellsL (bvR M)) ∧ Below w.heap.size w w'
theorem sp_fields (e : EnvT) (v : List UInt8) (h0 : e.status = 0) (h1 : e.flags = []) (hg : e.get [120] = some v) (hv : v.length ≤ 1000) (hf : e.vars.length ≤ 1000) (va : Option Addr) (nv cv : Nat) (aa : Option Addr) (na ca : Nat) (w : World) (hE : EnvA w (.slice va nv cv) (.slice aa na ca) e) (hT : Tab w) :
    Calls Tryz.prog 12 #[env0 va nv cv aa na ca ⟨#[]⟩, .string ⟨#[65, 36, 120, 34, 66, 34]⟩] w (RowRes (splitR (axb v) e.ifs) w) := by
  have h := fields_ok 9 ⟨#[65, 36, 120, 34, 66, 34]⟩ (by decide) _ word_axb small_axb 8 (by decide) e _ (parts_axb e v hg hv hf) va nv cv aa na ca w hE hT
  simp only [envVal, h0, h1] at h
  refine h.mono ?_
  rintro x w' ⟨l, va2, nv2, cv2, aa2, na2, ca2, rfl, hown, -, hb⟩
  have hs : splitR (resOf e (.ok e (axb v))).1 (resOf e (.ok e (axb v))).2.1.ifs = splitR (axb v) e.ifs := rfl
  rw [hs] at hown
  obtain ⟨a, c, rfl⟩ := own_slice hown
  refine ⟨a, c, va2, nv2, cv2, aa2, na2, ca2, ?_, hown, hb⟩
  simp only [envVal, resOf, h0, h1]
/-- A word that the law takes. -/
def goodW (s : ByteArray) : Prop := s.size ≤ 20 ∧ s.data.toList ≠ [] ∧ ∀ j (h : j < s.size), 97 ≤ s[j].toNat ∧ s[j].toNat ≤ 122
def ssL (ss : List ByteArray) : List (List UInt8) := ss.map (·.data.toList)
/-- What is joined of the first ones. -/
def vtx (sep : List UInt8) (ss : List ByteArray) (i : Nat) : ByteArray := ⟨(wordsV sep ((ssL ss).take i)).toArray⟩
theorem ssL_length (ss : List ByteArray) : (ssL ss).length = ss.length := by simp [ssL]
theorem vtx_zero (sep : List UInt8) (ss : List ByteArray) : vtx sep ss 0 = ⟨#[]⟩ := rfl
theorem vtx_succ (sep : ByteArray) (ss : List ByteArray) (i : Nat) (h : i < ss.length) : vtx sep.data.toList ss (i + 1) = (if 0 < i then vtx sep.data.toList ss i ++ sep else vtx sep.data.toList ss i) ++ ss[i] := by
  have hl : i < (ssL ss).length := by rw [ssL_length]; exact h
  have e : (ssL ss)[i] = ss[i].data.toList := by simp [ssL]
  unfold vtx
  rw [wordsV_succ _ _ _ hl, e]
  split
  · apply ByteArray.ext; simp
  · apply ByteArray.ext; simp
theorem vtx_size (sep : ByteArray) (hs : sep.size ≤ 2) (ss : List ByteArray) : ∀ i, i ≤ ss.length → (∀ j (h : j < ss.length), j < i → ss[j].size ≤ 20) → (vtx sep.data.toList ss i).size ≤ 22 * i
  | 0, _, _ => by rw [vtx_zero]; decide
  | i + 1, h, hg => by
    have ih := vtx_size sep hs ss i (by omega) (fun j hj hji => hg j hj (by omega))
    have h2 := hg i (by omega) (by omega)
    rw [vtx_succ sep ss i (by omega)]
    split
    · rw [ByteArray.size_append, ByteArray.size_append]; omega
    · rw [ByteArray.size_append]; omega
theorem good_word {s : ByteArray} (h : goodW s) : s.data.toList ≠ [] ∧ ∀ x ∈ s.data.toList, blL.contains x = false ∧ x ≠ 58 := by
  refine ⟨h.2.1, fun x hx => ?_⟩
  obtain ⟨j, hj, rfl⟩ := List.getElem_of_mem hx
  have hj' : j < s.size := by simpa using hj
  obtain ⟨a, b⟩ := h.2.2 j hj'
  have e : s[j] = s.data.toList[j] := rfl
  rw [e] at a b
  generalize s.data.toList[j] = y at a b
  constructor
  · simp only [blL, List.contains_eq_mem, decide_eq_false_iff_not, List.mem_cons, List.not_mem_nil, or_false]
    rintro (rfl | rfl | rfl) <;> simp at a
  · rintro rfl; simp at a
theorem ne_empty {s : ByteArray} (h : ¬ s = ⟨#[]⟩) : s.data.toList ≠ [] := fun e => h (by rw [← bytes_of s [] e])
/-- The two splits, of the joined words. -/
theorem split_joined (sep : ByteArray) (h0 : sep.data.toList ≠ []) (hs : ∀ x ∈ sep.data.toList, blL.contains x = true) (hc : ∀ x ∈ sep.data.toList, x ≠ 58) (ss : List ByteArray) (hn : ss ≠ []) (hg : ∀ s ∈ ss, goodW s) :
    ((splitR (axb (vtx sep.data.toList ss ss.length).data.toList) blL).length = ss.length ∧ ∀ i (h : i < (splitR (axb (vtx sep.data.toList ss ss.length).data.toList) blL).length), ((splitR (axb (vtx sep.data.toList ss ss.length).data.toList) blL)[i]).1 = fieldT (ssL ss) i) ∧
    ∃ m, splitR (axb (vtx sep.data.toList ss ss.length).data.toList) [58] = [([65] ++ (vtx sep.data.toList ss ss.length).data.toList ++ [66], m)] := by
  have ev : (vtx sep.data.toList ss ss.length).data.toList = wordsV sep.data.toList (ssL ss) := by
    unfold vtx
    rw [List.take_of_length_le (by rw [ssL_length]; exact Nat.le_refl _)]
  rw [ev]
  have hgl : ∀ w ∈ ssL ss, w ≠ [] ∧ ∀ x ∈ w, blL.contains x = false ∧ x ≠ 58 := fun w hw => by
    obtain ⟨s, hs, rfl⟩ := List.mem_map.1 hw
    exact good_word (hg s hs)
  have hne : ssL ss ≠ [] := by simpa [ssL] using hn
  have hlen := ssL_length ss
  obtain ⟨L, hL⟩ : ∃ L, ssL ss = L := ⟨_, rfl⟩
  rw [hL] at hgl hne hlen ⊢
  cases L with
  | nil => exact absurd rfl hne
  | cons w l =>
    have hb : ∀ w' ∈ w :: l, w' ≠ [] ∧ ∀ x ∈ w', blL.contains x = false := fun w' h => ⟨(hgl w' h).1, fun x hx => ((hgl w' h).2 x hx).1⟩
    have h1 := split_texts sep.data.toList w l h0 hs hb
    refine ⟨⟨by rw [h1.1, hlen], h1.2⟩, split_colon _ ?_ ?_⟩
    · have := (hgl w (by simp)).1
      simp [wordsV, this]
    · intro x hx
      have hx' : x ∈ w ∨ x ∈ restL sep.data.toList l := by simpa [wordsV] using hx
      rcases hx' with hx | hx
      · exact ((hgl w (by simp)).2 x hx).2
      · obtain ⟨w', hw', hx2⟩ := List.mem_flatMap.1 hx
        rcases List.mem_append.1 hx2 with q | q
        · exact hc x q
        · exact ((hgl w' (by simp [hw'])).2 x q).2
end Go.Proofs.YtkmpbkhlcapbgaaGreatDoor
namespace Go.Proofs.YtkmpbkhlcapbgaaGreatDoor
open Go Go.RowKit
/-- Where the words stand. -/
def AtW (W : World) (b off : Nat) (ss : List ByteArray) : Prop := ∀ i (h : i < ss.length), W.cell? ⟨b, off + i, none⟩ = some (.string ss[i])
theorem AtW.below {W W' : World} {b off : Nat} {ss : List ByteArray} (h : AtW W b off ss) (hb : Below W.heap.size W W') : AtW W' b off ss := fun i hi => (hb.cell (block_lt_of_cell (h i hi))).trans (h i hi)
def sepB : Nat → ByteArray
  | 0 => ⟨#[32]⟩
  | 1 => ⟨#[32, 32]⟩
  | 2 => ⟨#[9]⟩
  | _ => ⟨#[10, 32]⟩
theorem sepB_facts (r : Nat) : (sepB r).data.toList ≠ [] ∧ (∀ x ∈ (sepB r).data.toList, blL.contains x = true) ∧ (∀ x ∈ (sepB r).data.toList, x ≠ 58) ∧ (sepB r).size ≤ 2 := by
  match r with
  | 0 => decide
  | 1 => decide
  | 2 => decide
  | _ + 3 =>
    have h : (⟨#[10, 32]⟩ : ByteArray).data.toList ≠ [] ∧ (∀ x ∈ (⟨#[10, 32]⟩ : ByteArray).data.toList, blL.contains x = true) ∧ (∀ x ∈ (⟨#[10, 32]⟩ : ByteArray).data.toList, x ≠ 58) ∧ (⟨#[10, 32]⟩ : ByteArray).size ≤ 2 := by decide
    exact h
/-- A field's text, as the law makes it. -/
theorem fieldB_is (ss : List ByteArray) (i : Nat) (h : i < ss.length) : (⟨(fieldT (ssL ss) i).toArray⟩ : ByteArray) = if i = 0 then (if i + 1 = ss.length then ⟨#[65]⟩ ++ ss[i] ++ ⟨#[66]⟩ else ⟨#[65]⟩ ++ ss[i]) else (if i + 1 = ss.length then ss[i] ++ ⟨#[66]⟩ else ss[i]) := by
  have e : (ssL ss).getD i [] = ss[i].data.toList := by simp [ssL, h]
  unfold fieldT
  rw [e, ssL_length]
  split
  · split
    · apply ByteArray.ext; apply Array.ext'; simp
    · apply ByteArray.ext; apply Array.ext'; simp
  · split
    · apply ByteArray.ext; apply Array.ext'; simp
    · apply ByteArray.ext; apply Array.ext'; simp
set_option maxRecDepth 100000 in
set_option maxHeartbeats 16000000 in
theorem splits_out (a : Option Addr) (len cap : Nat) (how : Int) (h : 9 < len ∨ len = 0) (hl : len ≤ 9223372036854775807) (w : World) (hT : Tab w) :
    Calls Tryz.prog 6 #[.slice a len cap, .int .u8 how] w fun e w' => e = .returned (.bool true) ∧ Below w.heap.size w w' := by
  have HA := Lib.hid (awake_any w hT)
  clear hT
  by_cases h1 : 9 < len
  · have h1' : (9 : Int) < (len : Int) := by omega
    clear h h1
    go_enter Tryz.func6, Tryz.ntmps6
    go_wp2_with fail
    refine HA.out.mono ?_; rintro e w1 ⟨rfl, hb⟩
    have HB := Lib.hid hb
    clear hb
    go_wp2_with fail
    go_ret
    exact ⟨rfl, HB.out⟩
  · obtain rfl : len = 0 := by omega
    clear h h1
    go_enter Tryz.func6, Tryz.ntmps6
    go_wp2_with fail
    refine HA.out.mono ?_; rintro e w1 ⟨rfl, hb⟩
    have HB := Lib.hid hb
    clear hb
    go_wp2_with fail
    go_ret
    exact ⟨rfl, HB.out⟩
set_option maxRecDepth 100000 in
set_option maxHeartbeats 16000000 in
theorem splits_main (b off cap : Nat) (ss : List ByteArray) (how : Int) (h0 : 0 ≤ how) (h1 : how ≤ 255) (hn : ss.length ≤ 9) (hn0 : ss ≠ []) (hsm : ∀ s ∈ ss, s.size ≤ maxLen) (w : World) (hc : AtW w b off ss) (hT : Tab w) :
    Calls Tryz.prog 6 #[.slice (some ⟨b, off, none⟩) ss.length cap, .int .u8 how] w fun e w' => e = .returned (.bool true) ∧ Below w.heap.size w w' := by
  obtain ⟨r, hr, hr4⟩ : ∃ r : Nat, how % 4 = r ∧ r < 4 := ⟨(how % 4).toNat, by omega, by omega⟩
  have HA := Lib.hid (awake_any w hT)
  have HT := Lib.hid hT
  have HF := Lib.hid hT.lt
  have HC := Lib.hid hc
  have HSM := Lib.hid hsm
  have HN0 := Lib.hid hn0
  have hlen0 : ss.length ≠ 0 := by intro e; exact hn0 (List.eq_nil_of_length_eq_zero e)
  have hl1 : ¬ (9 : Int) < (ss.length : Int) := by omega
  have hl2 : ((ss.length : Int) == 0) = false := by simp; omega
  have hl3 : ¬ ((ss.length : Int) = 0) := by omega
  have HR := Lib.hid hr
  have hmod : how.tmod 4 = (r : Int) := by rw [Int.tmod_eq_emod_of_nonneg h0]; exact hr
  clear hT hc hsm hn0 hr
  go_enter Tryz.func6, Tryz.ntmps6
  go_wp2_with fail
  refine HA.out.mono ?_; rintro e w1 ⟨rfl, hb⟩
  have HB := Lib.hid hb
  clear hb
  go_wp2_with fail
  go_loopg [6, 7] ss.length (fun g s6 s7 wx => Below w.heap.size w wx ∧ ∃ i : Nat, i + g = ss.length ∧ s7 = .int .i64 i ∧ s6 = .string (vtx (sepB r).data.toList ss i) ∧ Hid (∀ j (h : j < ss.length), j < i → goodW ss[j]))
  case atStart => exact ⟨HB.out, 0, by omega, rfl, rfl, fun j _ h => by omega⟩
  case round =>
    obtain ⟨hbw, i, hig, rfl, rfl, hrel⟩ := hrel
    have HBW := Lib.hid hbw
    clear hbw
    cases gk with
    | succ g =>
      have hi : i < ss.length := by omega
      have hci : wr.cell? ⟨b, off + i, none⟩ = some (.string ss[i]) := (HBW.out.cell (show (⟨b, off + i, none⟩ : Addr).block < w.heap.size from block_lt_of_cell (HC.out i hi))).trans (HC.out i hi)
      have hbl : b < wr.heap.size := block_lt_of_cell hci
      obtain ⟨s, hs⟩ : ∃ s, ss[i] = s := ⟨_, rfl⟩
      rw [hs] at hci
      have hsz : s.size ≤ maxLen := by rw [← hs]; exact HSM.out _ (List.getElem_mem hi)
      unfold maxLen at hsz
      have HS := Lib.hid hs
      clear hs
      by_cases hq : 20 < s.size
      · have hq1 : (20 : Int) < (s.size : Int) := by omega
        clear hrel hq
        go_wp2_with fail
        go_ret
        exact ⟨rfl, HBW.out⟩
      · have hq1 : ¬ (20 : Int) < (s.size : Int) := by omega
        by_cases he : s = ⟨#[]⟩
        · subst he
          clear hrel
          go_wp2_with fail
          go_ret
          exact ⟨rfl, HBW.out⟩
        · have hv0 : (s.toList == []) = false := by
            have := ne_empty he
            rw [Lib.toList_data]; simpa using this
          have HE := Lib.hid he
          clear he
          go_wp2_with fail
          go_loopg [8] s.size (fun g s8 wx => wx = wr ∧ ∃ k : Nat, k + g = s.size ∧ s8 = .int .i64 k ∧ Hid (∀ j (h : j < s.size), j < k → 97 ≤ s[j].toNat ∧ s[j].toNat ≤ 122))
          case atStart => exact ⟨rfl, 0, by omega, rfl, fun j _ h => by omega⟩
          case round =>
            obtain ⟨rfl, k, hkg, rfl, hrel2⟩ := hrel
            cases gk with
            | succ g2 =>
              have hk : k < s.size := by omega
              by_cases hlo : s[k].toNat < 97
              · have hlo1 : (s[k].toNat : Int) < 97 := by omega
                clear hrel2 hlo
                go_wp2_with fail
                go_ret
                exact ⟨rfl, HBW.out⟩
              · have hlo1 : ¬ (s[k].toNat : Int) < 97 := by omega
                by_cases hhi : 122 < s[k].toNat
                · have hhi1 : (122 : Int) < (s[k].toNat : Int) := by omega
                  clear hrel2 hlo hhi
                  go_wp2_with fail
                  go_ret
                  exact ⟨rfl, HBW.out⟩
                · have hhi1 : ¬ (122 : Int) < (s[k].toNat : Int) := by omega
                  have HLO := Lib.hid hlo
                  have HHI := Lib.hid hhi
                  have HR2 := Lib.hid hrel2.out
                  clear hrel2 hlo hhi
                  go_wp2_with fail
                  go_roundg g2
                  case measure => omega
                  case rel => exact ⟨rfl, k + 1, by omega, rfl, fun j hj hjk => by
                    rcases Nat.lt_or_ge j k with q | q
                    · exact HR2.out j hj q
                    · obtain rfl : j = k := by omega
                      have h1 := HLO.out
                      have h2 := HHI.out
                      omega⟩
            | zero =>
              obtain rfl : k = s.size := by omega
              have hgood : goodW s := ⟨by omega, ne_empty HE.out, fun j hj => hrel2.out j hj hj⟩
              have HG := Lib.hid hgood
              have HREL := Lib.hid hrel.out
              have hvs := vtx_size (sepB r) (sepB_facts r).2.2.2 ss i (by omega) (fun j hj hji => (HREL.out j hj hji).1)
              have hnext := vtx_succ (sepB r) ss i hi
              rw [HS.out] at hnext
              obtain ⟨V, hV⟩ : ∃ V, vtx (sepB r).data.toList ss i = V := ⟨_, rfl⟩
              rw [hV] at hvs hnext ⊢
              have hz : ∀ n : Nat, n ≤ 60 → ¬ 9223372036854775807 < V.size + n ∧ V.size + n ≤ 9223372036854775807 ∧ ¬ 9223372036854775807 < V.size + n + s.size ∧ V.size + n + s.size ≤ 9223372036854775807 := by omega
              have hz0 : ¬ 9223372036854775807 < V.size + s.size ∧ V.size + s.size ≤ 9223372036854775807 := by omega
              have hz1 := hz 1 (by omega)
              have hz2 := hz 2 (by omega)
              have HNX := Lib.hid hnext
              have hrel' : Hid (∀ j (h : j < ss.length), j < i + 1 → goodW ss[j]) := fun j hj hji => by
                rcases Nat.lt_or_ge j i with q | q
                · exact HREL.out j hj q
                · obtain rfl : j = i := by omega
                  rw [HS.out]; exact HG.out
              clear hrel hrel2 hgood hvs hnext hV hz HREL HE HG
              by_cases hi0 : 0 < i
              · have hi1 : (0 : Int) < (i : Int) := by omega
                have hnx : Hid (vtx (sepB r).data.toList ss (i + 1) = V ++ sepB r ++ s) := by unfold Hid; rw [HNX.out, if_pos hi0]
                have hfin : Hid (∀ wx T, Below wr.heap.size wr wx → V ++ sepB r ++ s = T → Below w.heap.size w wx ∧ ∃ i' : Nat, i' + g = ss.length ∧ Value.int .i64 ((i : Int) + 1) = .int .i64 i' ∧ Value.string T = .string (vtx (sepB r).data.toList ss i') ∧ Hid (∀ j (h : j < ss.length), j < i' → goodW ss[j])) := fun wx T hbx hT => ⟨HBW.out.trans (hbx.mono HBW.out.size), i + 1, by omega, by go_num, by rw [hnx.out, hT], hrel'⟩
                clear HNX hnx hrel'
                rcases (show r = 0 ∨ r = 1 ∨ r = 2 ∨ r = 3 by omega) with rfl | rfl | rfl | rfl
                all_goals
                  simp only [sepB] at hfin
                  go_wp2_with fail
                  go_roundg g
                  case measure => omega
                  case rel => exact hfin.out _ _ ((Below.refl _ _).alloc (Nat.le_refl _) _) rfl
              · have hi1 : ¬ (0 : Int) < (i : Int) := by omega
                have hnx : Hid (vtx (sepB r).data.toList ss (i + 1) = V ++ s) := by unfold Hid; rw [HNX.out, if_neg hi0]
                have hfin : Hid (∀ T, V ++ s = T → Below w.heap.size w wr ∧ ∃ i' : Nat, i' + g = ss.length ∧ Value.int .i64 ((i : Int) + 1) = .int .i64 i' ∧ Value.string T = .string (vtx (sepB r).data.toList ss i') ∧ Hid (∀ j (h : j < ss.length), j < i' → goodW ss[j])) := fun T hT => ⟨HBW.out, i + 1, by omega, by go_num, by rw [hnx.out, hT], hrel'⟩
                clear HNX hnx hrel' hi0
                go_wp2_with fail
                go_roundg g
                case measure => omega
                case rel => exact hfin.out _ rfl
    | zero =>
      obtain rfl : i = ss.length := by omega
      have hgood : ∀ s ∈ ss, goodW s := fun s hs => by
        obtain ⟨j, hj, rfl⟩ := List.getElem_of_mem hs
        exact hrel.out j hj hj
      have HG20 : Hid (∀ s ∈ ss, s.size ≤ 20) := fun s hs => (hgood s hs).1
      obtain ⟨p1, p2, p3, p4⟩ := sepB_facts r
      have hvs := vtx_size (sepB r) p4 ss ss.length (Nat.le_refl _) (fun j hj _ => (hrel.out j hj hj).1)
      obtain ⟨⟨hM1, hM2⟩, m2, hM3⟩ := split_joined (sepB r) p1 p2 p3 ss HN0.out hgood
      obtain ⟨V, hV⟩ : ∃ V, vtx (sepB r).data.toList ss ss.length = V := ⟨_, rfl⟩
      rw [hV] at hvs hM1 hM2 hM3 ⊢
      have hVs : V.size ≤ 198 := by omega
      have hVl : V.data.toList.length ≤ 198 := by simpa using hVs
      obtain ⟨M, hM⟩ : ∃ M, splitR (axb V.data.toList) blL = M := ⟨_, rfl⟩
      rw [hM] at hM1
      have hM2' : ∀ i (h : i < M.length), M[i].1 = fieldT (ssL ss) i := by
        intro i h
        have := hM2 i (by rw [hM]; exact h)
        simpa only [hM] using this
      have HM := Lib.hid hM
      have HM1 := Lib.hid hM1
      have HM2 := Lib.hid hM2'
      have HM3 := Lib.hid hM3
      have HVL := Lib.hid hVl
      have hz : ∀ n : Nat, n ≤ 60 → ¬ 9223372036854775807 < n + V.size ∧ n + V.size ≤ 9223372036854775807 ∧ ¬ 9223372036854775807 < n + V.size + 1 ∧ n + V.size + 1 ≤ 9223372036854775807 := by omega
      have hz1 := hz 1 (by omega)
      clear hrel hgood p1 p2 p3 p4 hvs hM1 hM2 hM2' hM3 hV hM hVs hVl hz
      go_wp2_with fail
      refine (def_set V _).mono ?_; rintro x w2 ⟨va2, nv2, cv2, rfl, hE2, hb2⟩
      go_wp2_with fail
      obtain ⟨W2, hW2⟩ : ∃ W2, w2.alloc (.cells #[.slice va2 nv2 cv2, .slice none 0 0, .int .i64 0, .string ⟨#[]⟩] 28) = W2 := ⟨_, rfl⟩
      have r1 : RowIs W2 w2.heap.size 28 [.slice va2 nv2 cv2, .slice none 0 0, .int .i64 0, .string ⟨#[]⟩] := by rw [← hW2]; exact RowIs.new w2 _ _
      have B1 : Below w.heap.size w W2 := by rw [← hW2]; exact (HBW.out.trans (hb2.mono HBW.out.size)).alloc (HBW.out.trans (hb2.mono HBW.out.size)).size _
      have E1 : EnvA W2 (.slice va2 nv2 cv2) (.slice none 0 0) (envD (some V.data.toList)) := by rw [← hW2]; exact EnvA.below (hE2.keep (S' := fun _ => True) (Nat.le_refl _) fun b _ _ => ⟨rfl, trivial⟩) ((Below.refl _ _).alloc (Nat.le_refl _) _)
      have HF1 := Lib.hid (sp_fields (envD (some V.data.toList)) V.data.toList (envD_st _).1 (envD_st _).2 (envD_get _) (by have := HVL.out; omega) (by have := envD_few (some V.data.toList); omega) va2 nv2 cv2 none 0 0 W2 E1 (HT.out.below HF.out B1))
      rw [envD_ifs, HM.out] at HF1
      have HR1 := Lib.hid r1
      have HB1 := Lib.hid B1
      have HE1 := Lib.hid E1
      rw [hW2]
      clear hW2 r1 B1 E1 hE2 hb2
      refine HF1.out.mono ?_; rintro x w3 ⟨a3, k3, va3, nv3, cv3, aa3, na3, ca3, rfl, ho3, hb3⟩
      obtain ⟨c0, c1, c2, c3, f0, f1, f2, f3, lt1⟩ := four_facts (HR1.out.below hb3)
      clear HF1
      rw [HM1.out] at ho3 ⊢
      go_wp2_with fail
      obtain ⟨W3, hW3⟩ : ∃ W3, (w3.alloc (.cells #[.slice va3 nv3 cv3, .slice aa3 na3 ca3, .int .i64 0, .string ⟨#[]⟩] 28)).alloc (.cells #[.int .i64 0, .string ⟨#[]⟩] 33) = W3 := ⟨_, rfl⟩
      obtain ⟨re3, rf3, bb3⟩ := two_boxes [.slice va3 nv3 cv3, .slice aa3 na3 ca3, .int .i64 0, .string ⟨#[]⟩] [.int .i64 0, .string ⟨#[]⟩] 28 33 hW3
      rw [hW3]
      clear hW3
      have b3 : Below W2.heap.size W2 W3 := hb3.trans (bb3.mono hb3.size)
      have HS2 := Lib.hid (sp_set2 V.data.toList va2 nv2 cv2 none 0 0 W3 (HE1.out.below b3))
      have HX3 := Lib.hid (And.intro b3 (And.intro rf3 (own_below ho3 bb3)))
      clear b3 rf3 re3 bb3 hb3 ho3 c0 c1 c2 c3 f0 f1 f2 f3 lt1
      refine HS2.out.mono ?_; rintro x w4 ⟨va4, nv4, cv4, rfl, hE4, hb4⟩
      have b24 := HX3.out.1.trans (hb4.mono HX3.out.1.size)
      have HF2 := Lib.hid (sp_fields (envS V.data.toList) V.data.toList rfl rfl (envS_get _) (by have := HVL.out; omega) (by rw [envS_is]; simp) va4 nv4 cv4 none 0 0 w4 hE4 (HT.out.below HF.out (HB1.out.trans (b24.mono HB1.out.size))))
      rw [envS_ifs, HM3.out] at HF2
      clear HS2 hE4 b24
      go_wp2_with fail
      refine HF2.out.mono ?_; rintro x w5 ⟨a5, k5, va5, nv5, cv5, aa5, na5, ca5, rfl, ho5, hb5⟩
      have h1l : ([([65] ++ V.data.toList ++ [66], m2)] : List RowT).length = 1 := rfl
      rw [h1l] at ho5 ⊢
      obtain ⟨q5, rfl, hq5, -⟩ := field_at ho5 0 Nat.one_pos
      have hs5 : (⟨(([([65] ++ V.data.toList ++ [66], m2)] : List RowT)[0].1).toArray⟩ : ByteArray) = ⟨#[65]⟩ ++ V ++ ⟨#[66]⟩ := by
        apply ByteArray.ext; simp
      rw [hs5] at hq5
      have hml : 0 < M.length := by have := HM1.out; omega
      obtain ⟨q3, rfl, -, -⟩ := field_at HX3.out.2.2 0 hml
      have hm3 : ∀ i, i < ss.length → W3.cell? ⟨q3, i * 2, none⟩ = some (.string ⟨(fieldT (ssL ss) i).toArray⟩) := by
        intro i hi
        have hi' : i < M.length := by have := HM1.out; omega
        obtain ⟨q', e, h1, -⟩ := field_at HX3.out.2.2 i hi'
        cases e
        rw [HM2.out i hi'] at h1
        exact h1
      have b34 := hb4.trans (hb5.mono hb4.size)
      have hq50 : q5 < w5.heap.size := block_lt_of_cell hq5
      have hq30 : q3 < w5.heap.size := Nat.lt_of_lt_of_le (block_lt_of_cell (hm3 0 (by omega))) b34.size
      have bA : Below w5.heap.size w5 ((w5.alloc (.cells #[.slice va5 nv5 cv5, .slice aa5 na5 ca5, .int .i64 0, .string ⟨#[]⟩] 28)).alloc (.cells #[.int .i64 0, .string ⟨#[]⟩] 33)) := below_two (Below.refl _ w5) (Nat.le_refl _) (.cells #[.slice va5 nv5 cv5, .slice aa5 na5 ca5, .int .i64 0, .string ⟨#[]⟩] 28) (.cells #[.int .i64 0, .string ⟨#[]⟩] 33)
      obtain ⟨i30, i31, i32, i33, i34⟩ := two_facts (((HX3.out.2.1.below b34).alloc (.cells #[.slice va5 nv5 cv5, .slice aa5 na5 ca5, .int .i64 0, .string ⟨#[]⟩] 28)).alloc (.cells #[.int .i64 0, .string ⟨#[]⟩] 33))
      have hq51 : ((w5.alloc (.cells #[.slice va5 nv5 cv5, .slice aa5 na5 ca5, .int .i64 0, .string ⟨#[]⟩] 28)).alloc (.cells #[.int .i64 0, .string ⟨#[]⟩] 33)).cell? ⟨q5, 0, none⟩ = some (.string (⟨#[65]⟩ ++ V ++ ⟨#[66]⟩)) := (bA.cell (show q5 < w5.heap.size from hq50)).trans hq5
      have b25 := HX3.out.1.trans (b34.mono HX3.out.1.size)
      have bw5 := HB1.out.trans (b25.mono HB1.out.size)
      have HBF : Hid (Below w.heap.size w ((w5.alloc (.cells #[.slice va5 nv5 cv5, .slice aa5 na5 ca5, .int .i64 0, .string ⟨#[]⟩] 28)).alloc (.cells #[.int .i64 0, .string ⟨#[]⟩] 33))) := below_two bw5 bw5.size (.cells #[.slice va5 nv5 cv5, .slice aa5 na5 ca5, .int .i64 0, .string ⟨#[]⟩] 28) (.cells #[.int .i64 0, .string ⟨#[]⟩] 33)
      have HMT : Hid (∀ i, i < ss.length → ((w5.alloc (.cells #[.slice va5 nv5 cv5, .slice aa5 na5 ca5, .int .i64 0, .string ⟨#[]⟩] 28)).alloc (.cells #[.int .i64 0, .string ⟨#[]⟩] 33)).cell? ⟨q3, i * 2, none⟩ = some (.string ⟨(fieldT (ssL ss) i).toArray⟩)) := fun i hi =>
        ((b34.trans (bA.mono b34.size)).cell (show q3 < W3.heap.size from block_lt_of_cell (hm3 i hi))).trans (hm3 i hi)
      have HCT : Hid (AtW ((w5.alloc (.cells #[.slice va5 nv5 cv5, .slice aa5 na5 ca5, .int .i64 0, .string ⟨#[]⟩] 28)).alloc (.cells #[.int .i64 0, .string ⟨#[]⟩] 33)) b off ss) := fun i hi => (HBF.out.cell (show (⟨b, off + i, none⟩ : Addr).block < w.heap.size from block_lt_of_cell (HC.out i hi))).trans (HC.out i hi)
      have hwl : IntKind.i64.wrap ((ss.length : Int) - 1) = (ss.length : Int) - 1 := wrap_small _ (by omega) (by omega)
      clear HF2 HX3 HR1 HE1 HB1 hb4 hb5 ho5 hq5 hs5 hm3 b34 bA b25 bw5 h1l
      go_wp2_with fail
      obtain ⟨WE, hWE⟩ : ∃ WE, ((w5.alloc (.cells #[.slice va5 nv5 cv5, .slice aa5 na5 ca5, .int .i64 0, .string ⟨#[]⟩] 28)).alloc (.cells #[.int .i64 0, .string ⟨#[]⟩] 33)) = WE := ⟨_, rfl⟩
      rw [hWE] at HBF HMT HCT ⊢
      clear hWE hq51 hq50 hq30 i30 i31 i32 i33 i34
      go_loopg [17] ss.length (fun g s17 wx => wx = WE ∧ ∃ i : Nat, i + g = ss.length ∧ s17 = .int .i64 i)
      case atStart => exact ⟨rfl, 0, by omega, rfl⟩
      case round =>
        obtain ⟨rfl, i, hig, rfl⟩ := hrel
        cases gk with
        | zero =>
          obtain rfl : i = ss.length := by omega
          go_wp2_with fail
          go_ret
          exact ⟨rfl, HBF.out⟩
        | succ g =>
          have hi : i < ss.length := by omega
          have hci := HCT.out i hi
          have hbl : b < wr.heap.size := block_lt_of_cell hci
          have hmi := HMT.out i hi
          have hft := fieldB_is ss i hi
          rw [hft] at hmi
          have hss : ss[i].size ≤ 20 := HG20.out _ (List.getElem_mem hi)
          obtain ⟨s, hs⟩ : ∃ s, ss[i] = s := ⟨_, rfl⟩
          rw [hs] at hci hmi hss
          have hz : ¬ 9223372036854775807 < 1 + s.size ∧ 1 + s.size ≤ 9223372036854775807 ∧ ¬ 9223372036854775807 < 1 + s.size + 1 ∧ 1 + s.size + 1 ≤ 9223372036854775807 ∧ ¬ 9223372036854775807 < s.size + 1 ∧ s.size + 1 ≤ 9223372036854775807 := by omega
          clear hft hs
          by_cases hf : i = 0
          · have hf1 : ((i : Int) == 0) = true := by simp; omega
            have hf2 : (i : Int) = 0 := by omega
            by_cases hl : i + 1 = ss.length
            · have hl1 : ((i : Int) == (ss.length : Int) - 1) = true := by simp; omega
              have hl2 : (i : Int) = (ss.length : Int) - 1 := by omega
              rw [if_pos hf, if_pos hl] at hmi
              have HFI := Lib.hid hf
              have HLI := Lib.hid hl
              clear hf hl hf2 hl2
              go_wp2_with fail
              go_roundg g
              case measure => omega
              case rel => exact ⟨rfl, i + 1, by omega, by go_num⟩
            · have hl1 : ((i : Int) == (ss.length : Int) - 1) = false := by simp; omega
              rw [if_pos hf, if_neg hl] at hmi
              clear hf hl hf2
              go_wp2_with fail
              go_roundg g
              case measure => omega
              case rel => exact ⟨rfl, i + 1, by omega, by go_num⟩
          · have hf1 : ((i : Int) == 0) = false := by simp; omega
            by_cases hl : i + 1 = ss.length
            · have hl1 : ((i : Int) == (ss.length : Int) - 1) = true := by simp; omega
              rw [if_neg hf, if_pos hl] at hmi
              clear hf hl
              go_wp2_with fail
              go_roundg g
              case measure => omega
              case rel => exact ⟨rfl, i + 1, by omega, by go_num⟩
            · have hl1 : ((i : Int) == (ss.length : Int) - 1) = false := by simp; omega
              rw [if_neg hf, if_neg hl] at hmi
              clear hf hl
              go_wp2_with fail
              go_roundg g
              case measure => omega
              case rel => exact ⟨rfl, i + 1, by omega, by go_num⟩
theorem law_splits (a : Option Addr) (len cap : Nat) (ss : List ByteArray) (how : Int) (h0 : 0 ≤ how) (h1 : how ≤ 255) (w : World) (hv : IsStrs w a len cap ss) (hT : Tab w) :
    Calls Tryz.prog 6 #[.slice a len cap, .int .u8 how] w fun e w' => e = .returned (.bool true) ∧ Below w.heap.size w w' := by
  have hl : len ≤ 9223372036854775807 := by
    have h2 := hv.len
    have h3 := hv.few
    unfold maxLen at h3
    omega
  by_cases h : 9 < len ∨ len = 0
  · exact splits_out a len cap how h hl w hT
  · have hlen := hv.len
    subst hlen
    rcases hv.cells with hc | ⟨b, off, rfl, hc⟩
    · exact absurd (.inr (by rw [hc]; rfl)) h
    · exact splits_main b off cap ss how h0 h1 (by omega) (by intro e; exact h (.inr (by rw [e]; rfl))) hv.short w hc hT
end Go.Proofs.YtkmpbkhlcapbgaaGreatDoor
