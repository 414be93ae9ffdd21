/-
  DERIVED. Plain: what a value is parted into at blanks (ExpandSplits). No program in sight. Plain: what ExpandDefault's words come to. No program in sight. Plain: ExpandDefault's Env, and what its words come to in it. No program in sight.
-/
import Derived.Test.YtkmpbkhlcapbgaaGreatDoorZ16
import Derived.Test.YtkmpbkhlcapbgaaGreatDoorZ44
namespace Go.Proofs.YtkmpbkhlcapbgaaGreatDoor
def blL : List UInt8 := [32, 9, 10]
/-- Blanks behind a field. -/
theorem fold_blank : ∀ (sep : List UInt8) (_ : ∀ x ∈ sep, blL.contains x = true) (L : List RowT),
    foldF blL (ofR sep 115) ⟨L, ([], []), false, true⟩ = ⟨L, ([], []), false, true⟩ := by
  intro sep
  induction sep with
  | nil => intro _ L; rfl
  | cons a sep ih =>
    intro h L
    have ha : blL.contains a = true := h a (by simp)
    have := ih (fun x hx => h x (List.mem_cons_of_mem _ hx)) L
    unfold foldF ofR at this ⊢
    rw [List.length_cons, List.replicate_succ, List.zip_cons_cons, List.foldl_cons]
    have ht : FieldsT.take blL ⟨L, ([], []), false, true⟩ (a, 115) = ⟨L, ([], []), false, true⟩ := by
      have hb : [32, 9, 10].contains a = true := ha
      simp only [FieldsT.take, ha, hb, FieldsT.sep]
      rfl
    rw [ht]
    exact this
theorem fold_sep (sep : List UInt8) (h0 : sep ≠ []) (h : ∀ x ∈ sep, blL.contains x = true) (L : List RowT) (now : RowT) :
    foldF blL (ofR sep 115) ⟨L, now, true, false⟩ = ⟨L ++ [now], ([], []), false, true⟩ := by
  cases sep with
  | nil => exact absurd rfl h0
  | cons a sep =>
    have ha : blL.contains a = true := h a (by simp)
    have := fold_blank sep (fun x hx => h x (List.mem_cons_of_mem _ hx)) (L ++ [now])
    unfold foldF ofR at this ⊢
    rw [List.length_cons, List.replicate_succ, List.zip_cons_cons, List.foldl_cons]
    have ht : FieldsT.take blL ⟨L, now, true, false⟩ (a, 115) = ⟨L ++ [now], ([], []), false, true⟩ := by
      have hb : [32, 9, 10].contains a = true := ha
      simp only [FieldsT.take, ha, hb, FieldsT.sep]
      rfl
    rw [ht]
    exact this
theorem fold_word (ifs s : List UInt8) (h0 : s ≠ []) (h : ∀ x ∈ s, ifs.contains x = false) (F : FieldsT) :
    foldF ifs (ofR s 115) F = ⟨F.l, (F.now.1 ++ s, F.now.2 ++ List.replicate s.length 115), true, false⟩ := by
  unfold foldF ofR
  rw [fold_one ifs 115 (by decide) (by decide) s (fun _ => h), if_neg h0]
theorem ofR_append (a b : List UInt8) (c : UInt8) : ofR (a ++ b) c = joinR (ofR a c) (ofR b c) := by
  unfold ofR joinR; simp
theorem ofR_len (a : List UInt8) (c : UInt8) : (ofR a c).1.length = (ofR a c).2.length := by simp [ofR]
theorem fold_of (ifs a b : List UInt8) (c : UInt8) (F : FieldsT) : foldF ifs (ofR (a ++ b) c) F = foldF ifs (ofR b c) (foldF ifs (ofR a c) F) := by
  rw [ofR_append, fold_join ifs _ _ (ofR_len _ _)]
/-- The words behind the first one, each with a separator ahead. -/
def restL (sep : List UInt8) (l : List (List UInt8)) : List UInt8 := l.flatMap fun x => sep ++ x
theorem fold_rest (sep : List UInt8) (h0 : sep ≠ []) (hs : ∀ x ∈ sep, blL.contains x = true) : ∀ (l : List (List UInt8)) (_ : ∀ w ∈ l, w ≠ [] ∧ ∀ x ∈ w, blL.contains x = false) (L : List RowT) (now : RowT),
    ∃ (L2 : List RowT) (now2 : RowT), foldF blL (ofR (restL sep l) 115) ⟨L, now, true, false⟩ = ⟨L2, now2, true, false⟩ ∧ L2.map (·.1) ++ [now2.1] = L.map (·.1) ++ now.1 :: l := by
  intro l
  induction l with
  | nil => intro _ L now; exact ⟨L, now, rfl, rfl⟩
  | cons w l ih =>
    intro h L now
    obtain ⟨hw0, hw⟩ := h w (by simp)
    obtain ⟨L2, n2, e1, e2⟩ := ih (fun x hx => h x (List.mem_cons_of_mem _ hx)) (L ++ [now]) (w, List.replicate w.length 115)
    refine ⟨L2, n2, ?_, ?_⟩
    · have e : restL sep (w :: l) = sep ++ (w ++ restL sep l) := by simp [restL]
      rw [e, fold_of, fold_sep sep h0 hs, fold_of, fold_word blL w hw0 hw]
      simpa using e1
    · rw [e2]; simp
/-- A letter of its own ahead, the value, a letter behind. -/
def axb (v : List UInt8) : RowT := putR (putR (putR ([], []) [65] 108) v 115) [66] 113
theorem axb_fold (ifs v : List UInt8) (hv : v ≠ []) : ∀ L now, foldF ifs (ofR v 115) ⟨[], ([65], [108]), true, false⟩ = ⟨L, now, true, false⟩ → splitR (axb v) ifs = L ++ [(now.1 ++ [66], now.2 ++ [113])] := by
  intro L now h
  have e1 : putR ([], []) [65] 108 = ([65], [108]) := rfl
  have e2 : putR ([65], [108]) v 115 = joinR ([65], [108]) (ofR v 115) := by
    unfold putR; rw [if_neg (fun h => hv h.1)]
  have hlen : (joinR ([65], [108]) (ofR v 115)).1.length = (joinR ([65], [108]) (ofR v 115)).2.length := by simp [joinR, ofR]
  have h3 := fold_put ifs (joinR ([65], [108]) (ofR v 115)) hlen [66] ⟨[], ([], []), false, false⟩
  have h4 : foldF ifs ([65], [108]) ⟨[], ([], []), false, false⟩ = ⟨[], ([65], [108]), true, false⟩ := by
    simp [foldF, FieldsT.take]
  have e3 : splitR (axb v) ifs = ((foldF ifs (putR (joinR ([65], [108]) (ofR v 115)) [66] 113) ⟨[], ([], []), false, false⟩).stop false).l := by
    unfold axb splitR foldF; rw [e1, e2]
  rw [e3, h3, fold_join ifs _ _ rfl, h4, h]
  simp [FieldsT.stop]
theorem split_words (sep w : List UInt8) (l : List (List UInt8)) (h0 : sep ≠ []) (hs : ∀ x ∈ sep, blL.contains x = true) (hl : ∀ w' ∈ w :: l, w' ≠ [] ∧ ∀ x ∈ w', blL.contains x = false) :
    ∃ (L : List (List UInt8)) (z : List UInt8), (splitR (axb (w ++ restL sep l)) blL).map (·.1) = L ++ [z ++ [66]] ∧ L ++ [z] = (65 :: w) :: l := by
  obtain ⟨hw0, hw⟩ := hl w (by simp)
  obtain ⟨L2, n2, e1, e2⟩ := fold_rest sep h0 hs l (fun x hx => hl x (List.mem_cons_of_mem _ hx)) [] ([65] ++ w, [108] ++ List.replicate w.length 115)
  refine ⟨L2.map (·.1), n2.1, ?_, by rw [e2]; rfl⟩
  rw [axb_fold blL (w ++ restL sep l) (by simp [hw0]) L2 n2 (by rw [fold_of, fold_word blL w hw0 hw]; exact e1)]
  simp
theorem split_none (ifs v : List UInt8) (hv : v ≠ []) (h : ∀ x ∈ v, ifs.contains x = false) : (splitR (axb v) ifs).map (·.1) = [[65] ++ v ++ [66]] := by
  rw [axb_fold ifs v hv [] ([65] ++ v, [108] ++ List.replicate v.length 115) (by rw [fold_word ifs v hv h])]
  rfl
end Go.Proofs.YtkmpbkhlcapbgaaGreatDoor
namespace Go.Proofs.YtkmpbkhlcapbgaaGreatDoor
variable (P : Par)
theorem some2_quoted (w : List UInt8) : ((putR ([], []) w 113).1, some2 (putR ([], []) w 113).2) = putR ([], []) w 113 := by
  unfold putR
  split
  · rfl
  · simp [joinR, ofR, some2, List.map_replicate]
/-- The five operations with a quoted word, at a name that has a value or none. -/
theorem default_one (e : EnvT) (op t w : List UInt8) (hn : isName t = true) (ho : op ∈ aloneL) (h1 : ((e.get t).getD []).length ≤ 1000) (h2 : w.length ≤ 1000) (k : Int) (hk : doesP op ((e.get t).getD []) (e.get t).isSome = k) (hk4 : k ≠ 4) (hv : e.vars.length ≤ 999999) :
    ∃ r, partsE P 6 e ([], []) [.mk 3 t op false [.mk 2 w [] false []]] = some (.ok (if k = 3 then e.set t w else e) r) ∧ r.1.length = r.2.length ∧ flatR r = if k = 1 then (e.get t).getD [] else if k = 2 ∨ k = 3 then w else [] := by
  have hw : partsE P 4 e ([], []) [.mk 2 w [] false []] = some (.ok e (putR ([], []) w 113)) := parts_one P 2 e _ _ _ _ (part_quo P 2 e ([], []) w [] false [] (by show 0 + w.length + 1 ≤ _; omega) (by omega))
  have hl := putR_length ([], []) w 113
  have hl0 : (putR ([], []) w 113).1.length ≤ 1001 := by have : (([], []) : RowT).1.length = 0 := rfl; omega
  have hf : flatR (putR ([], []) w 113) = w := flatR_put w 113 (by decide)
  have key : ∃ r, condE P 4 e ([], []) t op false [.mk 2 w [] false []] = some (.ok (if k = 3 then e.set t w else e) r) ∧ r.1.length = r.2.length ∧ flatR r = if k = 1 then (e.get t).getD [] else if k = 2 ∨ k = 3 then w else [] := by
    unfold condE
    rw [hk]
    by_cases k1 : k = 1
    · subst k1
      refine ⟨putR ([], []) ((e.get t).getD []) 115, ?_, put_len _ rfl _ _, flatR_put _ _ (by decide)⟩
      rw [if_pos rfl, if_neg (by decide)]
      exact keepR_some (by have := putR_length ([], []) ((e.get t).getD []) (sortC false); have : (([], []) : RowT).1.length = 0 := rfl; omega) (by omega)
    · rw [if_neg k1]
      by_cases k2 : k = 2
      · subst k2
        refine ⟨joinR ([], []) (putR ([], []) w 113), ?_, ?_, ?_⟩
        · rw [if_pos rfl, hw, if_neg (show ¬ (2 : Int) = 3 by decide)]
          simp only [some2_quoted, Bool.false_eq_true, if_false]
          exact keepR_some (by rw [joinR_length]; show 0 + _ ≤ _; omega) (by omega)
        · have := put_len ([], []) rfl w 113
          simpa [joinR] using this
        · rw [flatR_join _ _ rfl, hf]; rfl
      · rw [if_neg k2]
        by_cases k3 : k = 3
        · subst k3
          refine ⟨putR ([], []) w 115, ?_, put_len _ rfl _ _, flatR_put _ _ (by decide)⟩
          rw [if_pos rfl, hw, if_pos rfl]
          simp only [hf]
          exact keepR_some (by have := putR_length ([], []) w (sortC false); have : (([], []) : RowT).1.length = 0 := rfl; omega) (by have := set_length e t w; omega)
        · refine ⟨putR ([], []) [] 115, ?_, rfl, ?_⟩
          · rw [if_neg k3, if_neg hk4, if_neg k3]
            exact keepR_some (by decide) (by omega)
          · rw [if_neg k1, if_neg (fun h => h.elim k2 k3), flatR_put _ _ (by decide)]
  obtain ⟨r, h, h3, h4⟩ := key
  exact ⟨r, parts_one P 4 e _ _ _ _ (by rw [part_cond P 4 e ([], []) t op false _ hn ho]; exact h), h3, h4⟩
/-- What should be set: its value, or a fault. -/
theorem fail_one (e : EnvT) (t : List UInt8) (hn : isName t = true) (h1 : ((e.get t).getD []).length ≤ 1000) (hv : e.vars.length ≤ 999999) :
    partsE P 6 e ([], []) [.mk 3 t [58, 63] false []] = if ((e.get t).isSome && !((e.get t).getD []).isEmpty) = true then some (.ok e (putR ([], []) ((e.get t).getD []) 115)) else some (.fault 23 t) := by
  have hc : condE P 4 e ([], []) t [58, 63] false [] = if ((e.get t).isSome && !((e.get t).getD []).isEmpty) = true then some (.ok e (putR ([], []) ((e.get t).getD []) 115)) else some (.fault 23 t) := by
    unfold condE
    have hd : doesP [58, 63] ((e.get t).getD []) (e.get t).isSome = if ((e.get t).isSome && !((e.get t).getD []).isEmpty) = true then 1 else 4 := by
      simp [doesP, doesT, Lib.trimPrefix, Lib.hasPrefix, List.isPrefixOf]
    rw [hd]
    split
    · rw [if_pos rfl]
      exact keepR_some (by have := putR_length ([], []) ((e.get t).getD []) (sortC false); have : (([], []) : RowT).1.length = 0 := rfl; omega) (by omega)
    · rw [if_neg (by decide), if_neg (by decide), if_neg (by decide), if_pos rfl]
  have hp : partE P 5 e ([], []) (.mk 3 t [58, 63] false []) = condE P 4 e ([], []) t [58, 63] false [] := part_cond P 4 e ([], []) t [58, 63] false [] hn (by decide)
  rw [hc] at hp
  split
  · rename_i h
    rw [if_pos h] at hp
    exact parts_one P 4 e _ _ _ _ hp
  · rename_i h
    rw [if_neg h] at hp
    exact parts_fault P 4 e _ _ _ _ _ hp
end Go.Proofs.YtkmpbkhlcapbgaaGreatDoor
namespace Go.Proofs.YtkmpbkhlcapbgaaGreatDoor
/-- The Env of ExpandDefault: x, or nothing. -/
def envD (x : Option (List UInt8)) : EnvT := match x with | some v => E0.set [120] v | none => E0
theorem envD_is (x : Option (List UInt8)) : envD x = ⟨match x with | some v => [([120], v)] | none => [], [], 0, []⟩ := by
  cases x
  · rfl
  · rfl
theorem envD_get (x : Option (List UInt8)) : (envD x).get [120] = x := by
  cases x with
  | none => rfl
  | some v => rfl
theorem envD_few (x : Option (List UInt8)) : (envD x).vars.length ≤ 1 := by
  rw [envD_is]
  cases x <;> simp
theorem set_name (e : EnvT) (s v : List UInt8) (h : isName s = true) : e.set s v = { e with vars := setV e.vars s v } := by unfold EnvT.set; rw [if_pos h]
theorem envD_set (x : Option (List UInt8)) (w : List UInt8) : ((envD x).set [120] w).get [120] = some w := by
  cases x with
  | none => rfl
  | some v => rfl
theorem name_x : isName [120] = true := by decide
theorem dead_is (op : List UInt8) (k : Int) (x : Option (List UInt8)) (hk : doesP op (x.getD []) x.isSome = k) : doesP op (((envD x).get [120]).getD []) ((envD x).get [120]).isSome = k := by rw [envD_get]; exact hk
/-- What one of the five comes to: the text, and the Env. -/
theorem default_five (x : Option (List UInt8)) (op w : List UInt8) (ho : op ∈ aloneL) (h1 : (x.getD []).length ≤ 1000) (h2 : w.length ≤ 1000) (k : Int) (hk : doesP op (x.getD []) x.isSome = k) (hk4 : k ≠ 4) :
    ∃ r, partsE P0 6 (envD x) ([], []) [.mk 3 [120] op false [.mk 2 w [] false []]] = some (.ok (if k = 3 then (envD x).set [120] w else envD x) r) ∧ flatR r = if k = 1 then x.getD [] else if k = 2 ∨ k = 3 then w else [] := by
  have h := default_one P0 (envD x) op [120] w name_x ho (by rw [envD_get]; exact h1) h2 k (dead_is op k x hk) hk4 (by have := envD_few x; omega)
  rw [envD_get] at h
  obtain ⟨r, a, _, b⟩ := h
  exact ⟨r, a, b⟩
/-- What is asked whether it is there. -/
theorem default_fail (x : Option (List UInt8)) (h1 : (x.getD []).length ≤ 1000) :
    partsE P0 6 (envD x) ([], []) [.mk 3 [120] [58, 63] false []] = if (x.isSome && !(x.getD []).isEmpty) = true then some (.ok (envD x) (putR ([], []) (x.getD []) 115)) else some (.fault 23 [120]) := by
  have h := fail_one P0 (envD x) [120] name_x (by rw [envD_get]; exact h1) (by have := envD_few x; omega)
  rw [envD_get] at h
  exact h
/-- How each operation does. -/
theorem does_tab (x : Option (List UInt8)) : doesP [58, 45] (x.getD []) x.isSome = (if (x.isSome && !(x.getD []).isEmpty) = true then 1 else 2) ∧ doesP [45] (x.getD []) x.isSome = (if x.isSome = true then 1 else 2) ∧
    doesP [58, 61] (x.getD []) x.isSome = (if (x.isSome && !(x.getD []).isEmpty) = true then 1 else 3) ∧ doesP [58, 43] (x.getD []) x.isSome = (if (x.isSome && !(x.getD []).isEmpty) = true then 2 else 5) ∧
    doesP [43] (x.getD []) x.isSome = (if x.isSome = true then 2 else 5) := by
  cases x with
  | none => exact ⟨rfl, rfl, rfl, rfl, rfl⟩
  | some v =>
    cases v with
    | nil => exact ⟨rfl, rfl, rfl, rfl, rfl⟩
    | cons a t => exact ⟨rfl, rfl, rfl, rfl, rfl⟩
theorem small_def (op w : List UInt8) (ho : op ∈ aloneL) (hw : w.length ≤ 1000000) : smallL [.mk 3 [120] op false [.mk 2 w [] false []]] := by
  have h1 : ∀ o ∈ aloneL, o.length ≤ 1000000 ∧ (trimsF o).1 = false := by decide
  rw [smallL_cons, smallL_nil, smallP_mk, smallL_cons, smallL_nil, smallP_mk, smallL_nil]
  exact ⟨⟨by decide, (h1 op ho).1, (h1 op ho).2, ⟨hw, by simp, by decide, trivial⟩, trivial⟩, trivial⟩
theorem small_fail : smallL [.mk 3 [120] [58, 63] false []] := by
  rw [smallL_cons, smallL_nil, smallP_mk, smallL_nil]
  exact ⟨⟨by decide, by decide, by decide, trivial⟩, trivial⟩
/-- The text of a word of ExpandDefault, as the law writes it. -/
def wordD (op : List UInt8) (w : ByteArray) : ByteArray := ⟨([36, 123, 120] ++ op).toArray⟩ ++ (⟨#[39]⟩ ++ w ++ ⟨#[39]⟩) ++ ⟨#[125]⟩
theorem wordD_list (op : List UInt8) (w : ByteArray) : (wordD op w).data.toList = [36, 123, 120] ++ op ++ 39 :: (w.data.toList ++ [39, 125]) := by
  simp [wordD]
theorem wordD_size (op : List UInt8) (w : ByteArray) : (wordD op w).size = op.length + w.size + 6 := by
  have : (wordD op w).size = (wordD op w).data.toList.length := by simp
  rw [this, wordD_list]
  simp
  omega
end Go.Proofs.YtkmpbkhlcapbgaaGreatDoor
