/-
  DERIVED. Plain: two numbers in parentheses, with an operation between, as the parser has them. No program in sight.
-/
import Derived.Test.YtdfpijbngbfjaaaGreatDoorEd
namespace Go.Proofs.YtdfpijbngbfjaaaGreatDoor
open Go.RowKit
theorem sign_of_drop {a b : List UInt8} (h : dropB a = dropB b) : signF a = signF b := by unfold signF; rw [h]
theorem drop_twice (l : List UInt8) : dropB (dropB l) = dropB l := signF_dropB l
theorem rowF_step (f d i : Nat) (l : List UInt8) : rowF (f + 1) d i l = if i = 10 then aheadF f d l else match rowF f d (i + 1) l with | none => none | some (a, l1) => loopF f d i a l1 := by rw [rowF]; rfl
theorem loopF_step (f d i : Nat) (a : Tree) (l : List UInt8) : loopF (f + 1) d i a l = if signF l = [] ∨ inRow i (signF l) = false then some (a, dropB l) else match rowF f d (i + 1) ((dropB l).drop (signF l).length) with | none => none | some (b, l2) => loopF f d i (.node (signF l) [a, b]) l2 := by rw [loopF]; rfl
theorem aheadF_step (f d : Nat) (l : List UInt8) : aheadF (f + 1) d l = if signF l = [33] ∨ signF l = [126] ∨ signF l = [43] ∨ signF l = [45] then (if d = 40 then none else match aheadF f (d + 1) ((dropB l).drop 1) with | none => none | some (a, l1) => some (.node (signF l) [a], l1))
    else if signF l = [40] then (if d = 40 then none else match anyF f (d + 1) ((dropB l).drop 1) with | none => none | some (a, l1) => match passF [41] l1 with | (false, _) => none | (true, l2) => some (a, l2)) else oneF l := by rw [aheadF]; rfl
theorem anyF_plain {f d : Nat} {l l1 l2 : List UInt8} {a : Tree} (h : rowF f d 0 l = some (a, l1)) (hp : passF [63] l1 = (false, l2)) : anyF (f + 1) d l = some (a, l2) := by rw [anyF, h]; simp only [hp]
/-- What stands alone is handed on through the rows whose signs are not next. -/
theorem row_skip (f d : Nat) (l l1 : List UInt8) (a : Tree) (h : aheadF f d l = some (a, l1)) : ∀ k, k ≤ 10 → (∀ j, 10 - k ≤ j → j < 10 → signF l1 = [] ∨ inRow j (signF l1) = false) → ∃ l2, dropB l2 = dropB l1 ∧ rowF (f + 1 + k) d (10 - k) l = some (a, l2)
  | 0, _, _ => ⟨l1, rfl, by rw [show f + 1 + 0 = f + 1 from rfl, show 10 - 0 = 10 from rfl, rowF_step, if_pos rfl]; exact h⟩
  | k + 1, hk, hs => by
    obtain ⟨l2, h2, e⟩ := row_skip f d l l1 a h k (by omega) (fun j h1 h2 => hs j (by omega) h2)
    refine ⟨dropB l2, by rw [drop_twice, h2], ?_⟩
    have hi : ¬ (10 - (k + 1) = 10) := by omega
    have hn : 10 - (k + 1) + 1 = 10 - k := by omega
    have hse := sign_of_drop h2
    rw [show f + 1 + (k + 1) = f + 1 + k + 1 by omega, rowF_step, if_neg hi, hn, e]
    have hf : f + 1 + k = (f + k) + 1 := by omega
    simp only
    rw [hf]
    rw [loopF_step, hse, if_pos (hs _ (Nat.le_refl _) (by omega))]
theorem row_at_level (f d r : Nat) (hr : r ≤ 10) (l l1 : List UInt8) (a : Tree) (h : aheadF f d l = some (a, l1)) (hs : ∀ j, r ≤ j → j < 10 → signF l1 = [] ∨ inRow j (signF l1) = false) : ∃ l2, dropB l2 = dropB l1 ∧ rowF (f + 11 - r) d r l = some (a, l2) := by
  obtain ⟨l2, h2, e⟩ := row_skip f d l l1 a h (10 - r) (by omega) (fun j h1 h2 => hs j (by omega) h2)
  rw [show f + 1 + (10 - r) = f + 11 - r by omega, show 10 - (10 - r) = r by omega] at e
  exact ⟨l2, h2, e⟩
/-- Two operands about a sign of row r, the second one last. -/
theorem row_two (f d r : Nat) (hr : r < 10) (op l l1 l3 : List UInt8) (a b : Tree) (h1 : aheadF (f + 1) d l = some (a, l1)) (hop : signF l1 = op) (hne : op ≠ []) (hin : inRow r op = true) (hout : ∀ j, r < j → j < 10 → inRow j op = false)
    (h2 : aheadF f d ((dropB l1).drop op.length) = some (b, l3)) (hend : signF l3 = []) : ∃ l4, signF l4 = [] ∧ dropB l4 = dropB l3 ∧ rowF (f + 12 - r) d r l = some (.node op [a, b], l4) := by
  obtain ⟨p, hp, e1⟩ := row_at_level (f + 1) d (r + 1) (by omega) l l1 a h1 (fun j hj h => .inr (by rw [hop]; exact hout j (by omega) h))
  obtain ⟨q, hq, e2⟩ := row_at_level f d (r + 1) (by omega) _ l3 b h2 (fun j _ _ => .inl hend)
  have hsp : signF p = op := by rw [← hop]; exact sign_of_drop hp
  have hsq : signF q = [] := by rw [← hend]; exact sign_of_drop hq
  refine ⟨dropB q, ?_, by rw [drop_twice, hq], ?_⟩
  · rw [← hsq]; exact sign_of_drop (drop_twice q)
  have g1 : f + 12 - r = (f + 1 + 11 - (r + 1)) + 1 := by omega
  have g2 : f + 1 + 11 - (r + 1) = (f + 11 - (r + 1)) + 1 := by omega
  have g3 : f + 11 - (r + 1) = (f + 9 - r) + 1 := by omega
  rw [g1, rowF_step, if_neg (by omega), e1]
  simp only
  rw [g2, loopF_step, hsp, if_neg (by simp [hne, hin]), hp, e2]
  simp only
  rw [g3, loopF_step, if_pos (.inl hsq)]
/-- A row at the end of the text is what each lesser one is. -/
theorem row_down (f d : Nat) (l l4 : List UInt8) (t : Tree) (hs : signF l4 = []) : ∀ r, r < 10 → rowF (f + 1) d r l = some (t, l4) → ∃ l5, signF l5 = [] ∧ dropB l5 = dropB l4 ∧ rowF (f + 1 + r) d 0 l = some (t, l5) := by
  intro r
  induction r generalizing f l4 with
  | zero => intro _ h; exact ⟨l4, hs, rfl, h⟩
  | succ r ih =>
    intro hr h
    have hs2 : signF (dropB l4) = [] := by rw [← hs]; exact sign_of_drop (drop_twice l4)
    have e : rowF (f + 1 + 1) d r l = some (t, dropB l4) := by
      rw [rowF_step, if_neg (by omega), h]
      simp only
      rw [loopF_step, if_pos (.inl hs)]
    obtain ⟨l5, h5, h6, e5⟩ := ih (f + 1) (dropB l4) hs2 (by omega) e
    exact ⟨l5, h5, by rw [h6, drop_twice], by rw [show f + 1 + (r + 1) = f + 1 + 1 + r by omega]; exact e5⟩
/-! ### A number, in parentheses -/
def numTree (x : Int) : Tree := if x < 0 then .node [45] [.num (-x)] else .num x
theorem digit_sign (d : Nat) (h : d < 10) (t : List UInt8) : signF ((48 + UInt8.ofNat d) :: t) = [] ∧ dropB ((48 + UInt8.ofNat d) :: t) = (48 + UInt8.ofNat d) :: t ∧ wordU (48 + UInt8.ofNat d) = true ∧ (48 + UInt8.ofNat d : UInt8) ≠ 36 := by
  rcases (show d = 0 ∨ d = 1 ∨ d = 2 ∨ d = 3 ∨ d = 4 ∨ d = 5 ∨ d = 6 ∨ d = 7 ∨ d = 8 ∨ d = 9 by omega) with rfl | rfl | rfl | rfl | rfl | rfl | rfl | rfl | rfl | rfl
  all_goals exact ⟨rfl, rfl, rfl, by decide⟩
theorem take_dec (n : Nat) (rest : List UInt8) : (decN n ++ 41 :: rest).takeWhile wordU = decN n := by
  have h : ∀ l : List UInt8, (∀ c ∈ l, wordU c = true) → (l ++ 41 :: rest).takeWhile wordU = l := by
    intro l
    induction l with
    | nil => intro _; rfl
    | cons c l ih =>
      intro h
      rw [List.cons_append, List.takeWhile_cons_of_pos (h c (List.mem_cons_self ..)), ih (fun c hc => h c (List.mem_cons_of_mem _ hc))]
  refine h _ fun c hc => ?_
  obtain ⟨d, hd, rfl⟩ := decN_dig n c hc
  exact (digit_sign d hd []).2.2.1
theorem ahead_dec (f d n : Nat) (hn : (n : Int) ≤ maxI) (rest : List UInt8) : aheadF (f + 1) d (decN n ++ 41 :: rest) = some (.num n, 41 :: rest) := by
  have hone : oneF (decN n ++ 41 :: rest) = some (.num n, 41 :: rest) ∧ signF (decN n ++ 41 :: rest) = [] := by
    cases hd : decN n with
    | nil => exact absurd hd (decN_ne n)
    | cons c t =>
      obtain ⟨k, hk, rfl⟩ := decN_dig n c (by rw [hd]; exact List.mem_cons_self ..)
      obtain ⟨h1, h2, h3, h4⟩ := digit_sign k hk (t ++ 41 :: rest)
      have hl : longF ((48 + UInt8.ofNat k) :: t ++ 41 :: rest) = (decN n).length := by unfold longF; rw [← hd, take_dec]
      refine ⟨?_, h1⟩
      unfold oneF
      rw [List.cons_append, h2]
      split
      · rename_i u hu
        exact absurd (List.cons.inj hu).1 h4
      · rename_i u _ hu
        exact absurd (List.cons.inj hu).1 h4
      · rw [← List.cons_append, hl, ← hd, List.take_left, List.drop_left, dec_digits n hn]
  rw [aheadF_step, hone.2, if_neg (by decide), if_neg (by decide), hone.1]
theorem ahead_num (f d : Nat) (hd : d < 40) (x : Int) (h0 : -9223372036854775807 ≤ x) (h1 : x ≤ 9223372036854775807) (rest : List UInt8) : aheadF (f + 2) d (numL x ++ 41 :: rest) = some (numTree x, 41 :: rest) := by
  by_cases hx : x < 0
  · obtain ⟨n, rfl⟩ : ∃ n : Nat, x = -(n : Int) := ⟨(-x).toNat, by omega⟩
    rw [numL_neg n (by omega)]
    have hs : signF ((45 :: decN n) ++ 41 :: rest) = [45] := rfl
    rw [aheadF_step, hs, if_pos (by simp), if_neg (by omega)]
    have e : (dropB ((45 :: decN n) ++ 41 :: rest)).drop 1 = decN n ++ 41 :: rest := rfl
    rw [e, ahead_dec f (d + 1) n (by rw [maxI_eq]; omega)]
    unfold numTree
    rw [if_pos hx]
    simp
  · obtain ⟨n, rfl⟩ : ∃ n : Nat, x = (n : Int) := ⟨x.toNat, by omega⟩
    rw [numL_nat n, ahead_dec (f + 1) d n (by rw [maxI_eq]; omega)]
    unfold numTree
    rw [if_neg hx]
theorem close_sign (t : List UInt8) : signF (41 :: t) = [41] := rfl
theorem close_rows : ∀ j : Fin 10, inRow j.1 [41] = false := by decide
theorem ahead_paren_num (f d : Nat) (hd : d < 39) (x : Int) (h0 : -9223372036854775807 ≤ x) (h1 : x ≤ 9223372036854775807) (rest : List UInt8) : aheadF (f + 15) d (40 :: (numL x ++ 41 :: rest)) = some (numTree x, rest) := by
  have hs : signF (40 :: (numL x ++ 41 :: rest)) = [40] := rfl
  obtain ⟨l2, hl2, e⟩ := row_at_level (f + 2) (d + 1) 0 (by omega) _ _ _ (ahead_num f (d + 1) (by omega) x h0 h1 rest) (fun j _ hj => .inr (by rw [close_sign]; exact close_rows ⟨j, hj⟩))
  have hs2 : signF l2 = [41] := by rw [← close_sign rest]; exact sign_of_drop hl2
  have ea : anyF (f + 14) (d + 1) (numL x ++ 41 :: rest) = some (numTree x, dropB l2) := by
    exact anyF_plain e (by unfold passF; rw [hs2, if_neg (by decide)])
  rw [aheadF_step, hs, if_neg (by decide), if_pos rfl, if_neg (by omega)]
  have e1 : (dropB (40 :: (numL x ++ 41 :: rest))).drop 1 = numL x ++ 41 :: rest := rfl
  rw [e1, ea]
  have hp : passF [41] (dropB l2) = (true, rest) := by
    unfold passF
    rw [sign_of_drop (drop_twice l2), hs2, if_pos rfl, drop_twice, hl2]
    rfl
  simp only [hp]
/-! ### ArithShort's third expression -/
def lvlS : List Nat := [8, 8, 9, 9, 9, 7, 7, 4, 2, 3, 6, 5]
theorem lvl_all : ∀ j : Fin 12, lvlS.getD j.1 0 < 10 ∧ opsS.getD j.1 [] ≠ [] ∧ inRow (lvlS.getD j.1 0) (opsS.getD j.1 []) = true ∧ ∀ i : Fin 10, lvlS.getD j.1 0 < i.1 → inRow i.1 (opsS.getD j.1 []) = false := by decide +kernel
theorem op_next (j : Nat) (hj : j < 12) (t : List UInt8) : signF (opsS.getD j [] ++ 40 :: t) = opsS.getD j [] ∧ (dropB (opsS.getD j [] ++ 40 :: t)).drop (opsS.getD j []).length = 40 :: t := by
  rcases (show j = 0 ∨ j = 1 ∨ j = 2 ∨ j = 3 ∨ j = 4 ∨ j = 5 ∨ j = 6 ∨ j = 7 ∨ j = 8 ∨ j = 9 ∨ j = 10 ∨ j = 11 by omega) with rfl | rfl | rfl | rfl | rfl | rfl | rfl | rfl | rfl | rfl | rfl | rfl
  all_goals exact ⟨rfl, rfl⟩
theorem parse_nums (j : Nat) (hj : j < 12) (x y : Int) (x0 : -9223372036854775807 ≤ x) (x1 : x ≤ 9223372036854775807) (y0 : -9223372036854775807 ≤ y) (y1 : y ≤ 9223372036854775807) :
    parseF 60 (40 :: (numL x ++ 41 :: (opsS.getD j [] ++ 40 :: (numL y ++ 41 :: [])))) = some (.node (opsS.getD j []) [numTree x, numTree y]) := by
  obtain ⟨hr, hne, hin, hout⟩ := lvl_all ⟨j, hj⟩
  obtain ⟨o1, o2⟩ := op_next j hj (numL y ++ 41 :: [])
  have h1 := ahead_paren_num 33 0 (by omega) x x0 x1 (opsS.getD j [] ++ 40 :: (numL y ++ 41 :: []))
  have h2 := ahead_paren_num 32 0 (by omega) y y0 y1 []
  rw [← o2] at h2
  obtain ⟨l4, s4, d4, e4⟩ := row_two 47 0 (lvlS.getD j 0) hr (opsS.getD j []) _ _ [] _ _ h1 o1 hne hin (fun i h3 h4 => hout ⟨i, h4⟩ h3) h2 rfl
  obtain ⟨l5, s5, d5, e5⟩ := row_down (58 - lvlS.getD j 0) 0 _ l4 _ s4 (lvlS.getD j 0) hr (by rw [show 58 - lvlS.getD j 0 + 1 = 47 + 12 - lvlS.getD j 0 by have := hr; simp only at this; omega]; exact e4)
  rw [show 58 - lvlS.getD j 0 + 1 + lvlS.getD j 0 = 59 by have := hr; simp only at this; omega] at e5
  have hp : passF [63] l5 = (false, dropB l5) := by unfold passF; rw [s5, if_neg (by decide)]
  have ea : anyF 60 0 (40 :: (numL x ++ 41 :: (opsS.getD j [] ++ 40 :: (numL y ++ 41 :: [])))) = some (.node (opsS.getD j []) [numTree x, numTree y], dropB l5) := by
    exact anyF_plain e5 hp
  unfold parseF
  rw [ea]
  simp only
  rw [d5, d4]
  rfl
theorem ev_numTree (l : List (ByteArray × ByteArray)) (f : Nat) (x : Int) (h0 : -9223372036854775807 ≤ x) (h1 : x ≤ 9223372036854775807) : evF l (f + 2) (numTree x) = .ok x := by
  unfold numTree
  by_cases hx : x < 0
  · rw [if_pos hx]
    refine (ev_un l (p := -x) rfl rfl).trans ?_
    show Res.ok (wrap64 (-(-x))) = _
    rw [Int.neg_neg, wrap64_id (by omega) h1]
  · rw [if_neg hx]; rfl
theorem ev_short (l : List (ByteArray × ByteArray)) (j : Nat) (hj : j < 12) (x y : Int) (ha : valF l [97] = some x) (hb : valF l [98] = some y) : evF l 20 (shortT j) = doesF (opsS.getD j []) x y := by
  have hm : binL.contains (opsS.getD j []) = true := by simpa using (short_tree j hj).2.2
  exact ev_bin l hm (by show (match valF l [97] with | some n => Res.ok n | none => .bad) = _; rw [ha]) (by show (match valF l [98] with | some n => Res.ok n | none => .bad) = _; rw [hb])
theorem ev_nums (l : List (ByteArray × ByteArray)) (j : Nat) (hj : j < 12) (x y : Int) (x0 : -9223372036854775807 ≤ x) (x1 : x ≤ 9223372036854775807) (y0 : -9223372036854775807 ≤ y) (y1 : y ≤ 9223372036854775807) : evF l 20 (.node (opsS.getD j []) [numTree x, numTree y]) = doesF (opsS.getD j []) x y := by
  have hm : binL.contains (opsS.getD j []) = true := by simpa using (short_tree j hj).2.2
  exact ev_bin l hm (ev_numTree l 17 x x0 x1) (ev_numTree l 17 y y0 y1)
theorem parse_cd : parseF 60 [99, 43, 100] = some (.node [43] [.var [99], .var [100]]) := isTree_eq (by decide +kernel)
end Go.Proofs.YtdfpijbngbfjaaaGreatDoor
