/-
  DERIVED. The plain law of picking: names that are put in one by one, each at its place, and none twice, are the sorted ones without what stands twice. No program in sight.
-/
import Derived.Lib.SlicesCompact
namespace Go.Proofs.Ytmcaphmgjhkgfaa.Gl
open Go
abbrev Bs := List UInt8
/-- Strictly rising. -/
def Up (l : List Bs) : Prop := l.Pairwise (· < ·)
theorem lt_of_le_ne {a b : Bs} (h : a ≤ b) (hn : a ≠ b) : a < b := by
  rcases List.le_iff_lt_or_eq.1 h with h | h
  · exact h
  · exact absurd h hn
theorem lt_lt {a b c : Bs} (h : a < b) (h2 : b < c) : a < c := List.lt_trans h h2
theorem lt_irr (a : Bs) : ¬ a < a := List.lt_irrefl a
theorem lt_or_eq_or (a b : Bs) : a < b ∨ a = b ∨ b < a := by
  rcases List.le_total a b with h | h
  · rcases List.le_iff_lt_or_eq.1 h with h | h
    · exact .inl h
    · exact .inr (.inl h)
  · rcases List.le_iff_lt_or_eq.1 h with h | h
    · exact .inr (.inr h)
    · exact .inr (.inl h.symm)
theorem up_ext : ∀ (l r : List Bs), Up l → Up r → (∀ x, x ∈ l ↔ x ∈ r) → l = r := by
  intro l
  induction l with
  | nil =>
    intro r _ _ h
    cases r with
    | nil => rfl
    | cons y r => exact absurd ((h y).2 (by simp)) (by simp)
  | cons x l ih =>
    intro r hl hr h
    cases r with
    | nil => exact absurd ((h x).1 (by simp)) (by simp)
    | cons y r =>
      unfold Up at hl hr
      rw [List.pairwise_cons] at hl hr
      have hxy : x = y := by
        rcases List.mem_cons.1 ((h x).1 (by simp)) with e | e
        · exact e
        · rcases List.mem_cons.1 ((h y).2 (by simp)) with e2 | e2
          · exact e2.symm
          · exact absurd (lt_lt (hl.1 y e2) (hr.1 x e)) (lt_irr x)
      subst hxy
      congr 1
      refine ih r hl.2 hr.2 fun z => ⟨fun hz => ?_, fun hz => ?_⟩
      · rcases List.mem_cons.1 ((h z).1 (by simp [hz])) with e | e
        · subst e; exact absurd (hl.1 z hz) (lt_irr z)
        · exact e
      · rcases List.mem_cons.1 ((h z).2 (by simp [hz])) with e | e
        · subst e; exact absurd (hr.1 z hz) (lt_irr z)
        · exact e
theorem compact_up (d : Array Bs) (hs : ∀ i j, i < j → j < d.size → d[i]! ≤ d[j]!) : ∀ m, m ≤ d.size → Up (Lib.compactUpTo d m) ∧ ∀ x, x ∈ Lib.compactUpTo d m ↔ ∃ j, j < m ∧ d[j]! = x := by
  intro m
  induction m with
  | zero => intro _; refine ⟨by simp [Up, Lib.compactUpTo], fun x => ⟨fun h => by simp [Lib.compactUpTo] at h, fun ⟨j, h, _⟩ => by omega⟩⟩
  | succ m ih =>
    intro hm
    obtain ⟨h1, h2⟩ := ih (by omega)
    rw [Lib.compactUpTo_succ]
    cases hk : Lib.keeps d m with
    | false =>
      have hk' : m ≠ 0 ∧ d[m]! = d[m - 1]! := by
        unfold Lib.keeps at hk
        have := of_decide_eq_false hk
        simp only [not_or, Classical.not_not] at this
        exact this
      simp only [Bool.false_eq_true, if_false, List.append_nil]
      refine ⟨h1, fun x => ⟨fun h => ?_, fun ⟨j, hj, e⟩ => ?_⟩⟩
      · obtain ⟨j, hj, e⟩ := (h2 x).1 h; exact ⟨j, by omega, e⟩
      · by_cases hj2 : j < m
        · exact (h2 x).2 ⟨j, hj2, e⟩
        · obtain rfl : j = m := by omega
          exact (h2 x).2 ⟨j - 1, by omega, by rw [← hk'.2]; exact e⟩
    | true =>
      simp only [if_true]
      refine ⟨?_, fun x => ?_⟩
      · unfold Up
        rw [List.pairwise_append]
        refine ⟨h1, by simp, fun a ha b hb => ?_⟩
        simp only [List.mem_singleton] at hb; subst hb
        obtain ⟨j, hj, rfl⟩ := (h2 a).1 ha
        have hne : d[m]! ≠ d[m - 1]! := by
          unfold Lib.keeps at hk
          rcases of_decide_eq_true hk with h | h
          · omega
          · exact h
        have h3 : d[m - 1]! < d[m]! := lt_of_le_ne (hs (m - 1) m (by omega) (by omega)) (fun e => hne e.symm)
        by_cases e : j = m - 1
        · subst e; exact h3
        · rcases List.le_iff_lt_or_eq.1 (hs j (m - 1) (by omega) (by omega)) with h4 | h4
          · exact lt_lt h4 h3
          · rw [h4]; exact h3
      · rw [List.mem_append, h2]
        constructor
        · rintro (⟨j, hj, e⟩ | h)
          · exact ⟨j, by omega, e⟩
          · simp only [List.mem_singleton] at h; exact ⟨m, by omega, h.symm⟩
        · rintro ⟨j, hj, e⟩
          by_cases hj2 : j < m
          · exact .inl ⟨j, hj2, e⟩
          · obtain rfl : j = m := by omega
            right; simp [e]
/-- Sorted, and each once. -/
def sortC (l : List Bs) : List Bs := Lib.compact (l.mergeSort fun x y => decide (x ≤ y))
theorem sortC_up (l : List Bs) : Up (sortC l) ∧ ∀ x, x ∈ sortC l ↔ x ∈ l := by
  unfold sortC Lib.compact
  obtain ⟨s, hs⟩ : ∃ s, s = l.mergeSort fun x y => decide (x ≤ y) := ⟨_, rfl⟩
  rw [← hs]
  have hp : s.Pairwise fun x y => (decide (x ≤ y)) = true := by
    rw [hs]
    exact List.pairwise_mergeSort (fun a b c h1 h2 => by simp only [decide_eq_true_eq] at *; exact List.le_trans h1 h2) (fun a b => by simp only [Bool.or_eq_true, decide_eq_true_eq]; exact List.le_total a b) l
  have hm : ∀ x, x ∈ s ↔ x ∈ l := fun x => by rw [hs]; exact List.mem_mergeSort
  have h := compact_up s.toArray (fun i j hij hj => by
    have hj' : j < s.length := by simpa using hj
    have := List.pairwise_iff_getElem.1 hp i j (by omega) hj' hij
    simp only [decide_eq_true_eq] at this
    simpa [hj', show i < s.length by omega] using this) s.length (by simp)
  refine ⟨h.1, fun x => ?_⟩
  rw [h.2 x, ← hm]
  constructor
  · rintro ⟨j, hj, e⟩
    have : s[j] = x := by simpa [hj] using e
    rw [← this]; exact List.getElem_mem hj
  · intro hx
    obtain ⟨j, hj, e⟩ := List.getElem_of_mem hx
    exact ⟨j, hj, by simpa [hj] using e⟩
/-- A name put in at its place. -/
def insAt (x : Bs) : List Bs → Nat
  | [] => 0
  | y :: r => if y < x then insAt x r + 1 else 0
theorem insAt_le (x : Bs) : ∀ l, insAt x l ≤ l.length := by
  intro l
  induction l with
  | nil => simp [insAt]
  | cons y r ih => simp only [insAt]; split <;> simp <;> omega
theorem insAt_low (x : Bs) : ∀ (l : List Bs) (i : Nat) (h : i < l.length), i < insAt x l → l[i] < x := by
  intro l
  induction l with
  | nil => intro i h; simp at h
  | cons y r ih =>
    intro i h hi
    simp only [insAt] at hi
    split at hi
    · cases i with
      | zero => assumption
      | succ i => simp; exact ih i _ (by omega)
    · omega
theorem insAt_at (x : Bs) : ∀ (l : List Bs) (h : insAt x l < l.length), ¬ l[insAt x l] < x := by
  intro l
  induction l with
  | nil => intro h; simp at h
  | cons y r ih =>
    intro h
    by_cases hy : y < x
    · have e : insAt x (y :: r) = insAt x r + 1 := by simp [insAt, hy]
      simp only [e] at h ⊢
      exact ih (by simpa using h)
    · have e : insAt x (y :: r) = 0 := by simp [insAt, hy]
      simp only [e]
      exact hy
theorem insAt_of (x : Bs) (l : List Bs) (k : Nat) (hk : k ≤ l.length) (h1 : ∀ i (h : i < l.length), i < k → l[i] < x) (h2 : ∀ h : k < l.length, ¬ l[k] < x) : k = insAt x l := by
  rcases Nat.lt_trichotomy k (insAt x l) with h | h | h
  · have := insAt_le x l
    exact absurd (insAt_low x l k (by omega) h) (h2 (by omega))
  · exact h
  · exact absurd (h1 _ (by omega) h) (insAt_at x l (by omega))
def insF (x : Bs) (l : List Bs) : List Bs := if l[insAt x l]? = some x then l else l.take (insAt x l) ++ [x] ++ l.drop (insAt x l)
theorem insF_up (x : Bs) (l : List Bs) (h : Up l) : Up (insF x l) ∧ ∀ y, y ∈ insF x l ↔ y = x ∨ y ∈ l := by
  unfold insF
  split
  · rename_i he
    refine ⟨h, fun y => ⟨.inr, ?_⟩⟩
    rintro (rfl | h)
    · exact List.mem_of_getElem? he
    · exact h
  · rename_i he
    have hle := insAt_le x l
    refine ⟨?_, fun y => ?_⟩
    · unfold Up
      rw [List.append_assoc, List.pairwise_append]
      have ht : (l.take (insAt x l)).Pairwise (· < ·) := List.Pairwise.sublist (List.take_sublist _ _) h
      have hd : (l.drop (insAt x l)).Pairwise (· < ·) := List.Pairwise.sublist (List.drop_sublist _ _) h
      have hlow : ∀ a ∈ l.take (insAt x l), a < x := fun a ha => by
        obtain ⟨i, hi, rfl⟩ := List.getElem_of_mem ha
        rw [List.getElem_take]
        rw [List.length_take] at hi
        exact insAt_low x l i (by omega) (by omega)
      have hhigh : ∀ b ∈ l.drop (insAt x l), x < b := fun b hb => by
        obtain ⟨i, hi, rfl⟩ := List.getElem_of_mem hb
        rw [List.getElem_drop]
        rw [List.length_drop] at hi
        have h0 := insAt_at x l (by omega)
        have hx0 : x < l[insAt x l] := by
          rcases lt_or_eq_or x l[insAt x l] with h | h | h
          · exact h
          · rw [List.getElem?_eq_getElem (by omega)] at he
            exact absurd (by rw [← h]) he
          · exact absurd h h0
        cases i with
        | zero => simpa using hx0
        | succ i => exact lt_lt hx0 (List.pairwise_iff_getElem.1 h _ _ _ _ (by omega))
      refine ⟨ht, ?_, ?_⟩
      · rw [List.singleton_append, List.pairwise_cons]
        exact ⟨hhigh, hd⟩
      · intro a ha b hb
        rw [List.singleton_append, List.mem_cons] at hb
        rcases hb with rfl | hb
        · exact hlow a ha
        · exact lt_lt (hlow a ha) (hhigh b hb)
    · rw [List.append_assoc, List.mem_append, List.singleton_append, List.mem_cons]
      have hsp : y ∈ l ↔ y ∈ l.take (insAt x l) ∨ y ∈ l.drop (insAt x l) := by
        rw [← List.mem_append, List.take_append_drop]
      rw [hsp]
      constructor
      · rintro (h | h | h)
        · exact .inr (.inl h)
        · exact .inl h
        · exact .inr (.inr h)
      · rintro (h | h | h)
        · exact .inr (.inl h)
        · exact .inl h
        · exact .inr (.inr h)
/-- Names put in one by one. -/
def insAll (ns : List Bs) : List Bs := ns.foldl (fun l x => insF x l) []
theorem insAll_snoc (ns : List Bs) (x : Bs) : insAll (ns ++ [x]) = insF x (insAll ns) := by simp [insAll]
theorem insAll_go : ∀ (ns : List Bs) (l : List Bs), Up l → Up (ns.foldl (fun l x => insF x l) l) ∧ ∀ y, y ∈ ns.foldl (fun l x => insF x l) l ↔ y ∈ ns ∨ y ∈ l := by
  intro ns
  induction ns with
  | nil => intro l h; exact ⟨h, fun y => by simp⟩
  | cons x ns ih =>
    intro l h
    have h1 := insF_up x l h
    have h2 := ih (insF x l) h1.1
    refine ⟨h2.1, fun y => ?_⟩
    rw [List.foldl_cons, h2.2 y, h1.2 y, List.mem_cons]
    constructor
    · rintro (h | h | h)
      · exact .inl (.inr h)
      · exact .inl (.inl h)
      · exact .inr h
    · rintro ((h | h) | h)
      · exact .inr (.inl h)
      · exact .inl h
      · exact .inr (.inr h)
theorem insAll_eq (ns : List Bs) : insAll ns = sortC ns := by
  have h1 := insAll_go ns [] (by simp [Up])
  have h2 := sortC_up ns
  exact up_ext _ _ h1.1 h2.1 fun x => by
    rw [h2.2 x]; show x ∈ ns.foldl _ [] ↔ _
    rw [h1.2 x]; simp
theorem insF_length (x : Bs) (l : List Bs) : (insF x l).length ≤ l.length + 1 := by
  unfold insF; split
  · omega
  · have := insAt_le x l; simp; omega
theorem insAll_length (ns : List Bs) : (insAll ns).length ≤ ns.length := by
  suffices h : ∀ (ns l : List Bs), (ns.foldl (fun l x => insF x l) l).length ≤ ns.length + l.length by simpa [insAll] using h ns []
  intro ns
  induction ns with
  | nil => intro l; simp
  | cons x ns ih => intro l; have := ih (insF x l); have := insF_length x l; simp at *; omega
end Go.Proofs.Ytmcaphmgjhkgfaa.Gl
