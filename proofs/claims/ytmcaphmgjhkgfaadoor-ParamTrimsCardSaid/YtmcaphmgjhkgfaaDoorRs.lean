/-
  DERIVED. The plain side of the document's glob: where a member ends, where a set ends and what it holds, told by the program's own set; rows of what is matched from a place on. No program in sight.
-/
import Derived.Test.YtmcaphmgjhkgfaaDoorGs
namespace Go.Proofs.YtmcaphmgjhkgfaaDoor.Gl
open Go
def memF (t m : ByteArray) (k : Nat) : Nat := if dash t m k then k + 3 else k + 1
def memP (t m : ByteArray) (k : Nat) : Int × Int := if dash t m k then (bt t k, bt t (k + 2)) else (bt t k, bt t k)
theorem memP_eq (t m : ByteArray) (k : Nat) : memP t m k = (bt t k, bt t (memF t m k - 1)) := by
  unfold memP memF; cases dash t m k <;> simp
theorem memF_gt (t m : ByteArray) (k : Nat) : k < memF t m k ∧ memF t m k ≤ k + 3 := by unfold memF; split <;> omega
theorem memF_le (t m : ByteArray) (k : Nat) (h : k < t.size) : memF t m k ≤ t.size := by
  unfold memF; split
  · rename_i h1; simp only [dash, Bool.and_eq_true, decide_eq_true_eq] at h1; omega
  · omega
theorem setLoop_out {t m : ByteArray} {first k : Nat} {sp : List (Int × Int)} (h : ¬ k < t.size) : setLoop t m first k sp = none := by rw [setLoop, dif_neg h]
theorem setLoop_shut {t m : ByteArray} {first k : Nat} {sp : List (Int × Int)} (h : k < t.size) (h1 : first < k) (h2 : isB t m k 93 = true) : setLoop t m first k sp = some (sp, k + 1) := by
  rw [setLoop, dif_pos h, if_pos (by simp [h1, h2])]
theorem setLoop_on {t m : ByteArray} {first k : Nat} {sp : List (Int × Int)} (h : k < t.size) (h1 : ¬ first < k ∨ isB t m k 93 = false) : setLoop t m first k sp = setLoop t m first (memF t m k) (sp ++ [memP t m k]) := by
  rw [setLoop, dif_pos h, if_neg (by rcases h1 with h1 | h1 <;> simp [h1])]
  unfold memF memP
  cases dash t m k <;> simp
/-- Where the set ends that begins at a place; below 0: none does. -/
def endF (t m : ByteArray) (i : Nat) : Int := match setAt t m i with | some r => (r.2 : Int) | none => -1
theorem setAt_loop (t m : ByteArray) (i : Nat) : setAt t m i = (setLoop t m (setFirst t m i) (setFirst t m i) []).map fun r => (⟨3, 0, isB t m (i + 1) 33, r.1⟩, r.2) := rfl
theorem endF_some {t m : ByteArray} {i n : Nat} {sp : List (Int × Int)} (h : setLoop t m (setFirst t m i) (setFirst t m i) [] = some (sp, n)) : endF t m i = n := by
  unfold endF; rw [setAt_loop, h]; rfl
theorem endF_none {t m : ByteArray} {i : Nat} (h : setLoop t m (setFirst t m i) (setFirst t m i) [] = none) : endF t m i = -1 := by
  unfold endF; rw [setAt_loop, h]; rfl
/-- At a head of the document's loop over members: behind the first. -/
def Run (t m : ByteArray) (i k : Nat) (sp : List (Int × Int)) : Prop :=
  setFirst t m i < k ∧ setLoop t m (setFirst t m i) (setFirst t m i) [] = setLoop t m (setFirst t m i) k sp
theorem Run.start (t m : ByteArray) (i : Nat) : Run t m i (memF t m (setFirst t m i)) [memP t m (setFirst t m i)] := by
  refine ⟨(memF_gt _ _ _).1, ?_⟩
  by_cases h : setFirst t m i < t.size
  · rw [setLoop_on h (.inl (by omega))]; rfl
  · rw [setLoop_out h, setLoop_out]
    have := (memF_gt t m (setFirst t m i)).1
    omega
theorem Run.step {t m : ByteArray} {i k : Nat} {sp : List (Int × Int)} (h : Run t m i k sp) (hk : k < t.size) (h2 : isB t m k 93 = false) : Run t m i (memF t m k) (sp ++ [memP t m k]) :=
  ⟨by have := (memF_gt t m k).1; have := h.1; omega, by rw [h.2, setLoop_on hk (.inr h2)]⟩
theorem Run.shut {t m : ByteArray} {i k : Nat} {sp : List (Int × Int)} (h : Run t m i k sp) (hk : k < t.size) (h2 : isB t m k 93 = true) : endF t m i = ((k + 1 : Nat) : Int) :=
  endF_some (by rw [h.2, setLoop_shut hk h.1 h2])
theorem Run.out {t m : ByteArray} {i k : Nat} {sp : List (Int × Int)} (h : Run t m i k sp) (hk : ¬ k < t.size) : endF t m i = -1 :=
  endF_none (by rw [h.2, setLoop_out hk])
/-- At a head of the document's second loop over members: a set is known to end. -/
def RunIn (t m : ByteArray) (i k : Nat) (sp : List (Int × Int)) (l : List (Int × Int)) (to : Nat) : Prop :=
  (setFirst t m i = k ∨ setFirst t m i < k) ∧ setLoop t m (setFirst t m i) k sp = some (l, to) ∧ (setFirst t m i < k ∨ k + 1 < to)
theorem setLoop_gt' {t m : ByteArray} {first k : Nat} {sp l : List (Int × Int)} {to : Nat} (h : setLoop t m first k sp = some (l, to)) : k < t.size ∧ k < to ∧ to ≤ t.size := by
  have h1 := setLoop_gt t m first _ k sp _ (Nat.le_refl _) h
  refine ⟨?_, h1.1, h1.2.1⟩
  have := h1.1; have := h1.2.1; simp at *; omega
theorem RunIn.start {t m : ByteArray} {i : Nat} {l : List (Int × Int)} {to : Nat} (h : setLoop t m (setFirst t m i) (setFirst t m i) [] = some (l, to)) : RunIn t m i (setFirst t m i) [] l to := by
  refine ⟨.inl rfl, h, .inr ?_⟩
  have h1 := setLoop_gt' h
  rw [setLoop_on h1.1 (.inl (by omega))] at h
  have h2 := setLoop_gt' h
  have := (memF_gt t m (setFirst t m i)).1
  omega
theorem RunIn.step {t m : ByteArray} {i k : Nat} {sp l : List (Int × Int)} {to : Nat} (h : RunIn t m i k sp l to) (hk : k + 1 < to) : RunIn t m i (memF t m k) (sp ++ [memP t m k]) l to := by
  obtain ⟨h1, h2, _⟩ := h
  have hk1 := setLoop_gt' h2
  have hm := (memF_gt t m k).1
  have h3 : ¬ setFirst t m i < k ∨ isB t m k 93 = false := by
    rcases h1 with h1 | h1
    · left; omega
    · right
      cases e : isB t m k 93 with
      | false => rfl
      | true =>
        rw [setLoop_shut hk1.1 h1 e] at h2
        cases h2; omega
  rw [setLoop_on hk1.1 h3] at h2
  exact ⟨.inr (by omega), h2, .inl (by omega)⟩
theorem RunIn.fin {t m : ByteArray} {i k : Nat} {sp l : List (Int × Int)} {to : Nat} (h : RunIn t m i k sp l to) (hk : ¬ k + 1 < to) : sp = l := by
  obtain ⟨h1, h2, h3⟩ := h
  have hf : setFirst t m i < k := by omega
  have hk1 := setLoop_gt' h2
  cases e : isB t m k 93 with
  | true => rw [setLoop_shut hk1.1 hf e] at h2; cases h2; rfl
  | false =>
    rw [setLoop_on hk1.1 (.inr e)] at h2
    have := setLoop_gt' h2
    have := (memF_gt t m k).1
    omega
theorem RunIn.lt {t m : ByteArray} {i k : Nat} {sp l : List (Int × Int)} {to : Nat} (h : RunIn t m i k sp l to) : k < t.size ∧ k < to ∧ to ≤ t.size := setLoop_gt' h.2.1
def inP (x : Int) (p : Int × Int) : Bool := decide (p.1 ≤ x) && decide (x ≤ p.2)
/-! ### Rows from a place on -/
theorem drop_cons (s : List Int) (k : Nat) (h : k < s.length) : s.drop k = s[k] :: s.drop (k + 1) := List.drop_eq_getElem_cons h
theorem M_any_step {g : Sg} (h : g.kind = 2) (r : List Sg) (s : List Int) (k : Nat) (hk : k < s.length) : M (g :: r) (s.drop k) = (M r (s.drop k) || M (g :: r) (s.drop (k + 1))) := by
  rw [Bool.eq_iff_iff, Bool.or_eq_true, M_cons_any h, M_cons_any h]
  constructor
  · rintro ⟨n, hn, h1⟩
    cases n with
    | zero => left; simpa using h1
    | succ n =>
      right
      refine ⟨n, by simp at hn ⊢; omega, ?_⟩
      rw [List.drop_drop] at h1 ⊢
      rw [show k + 1 + n = k + (n + 1) from by omega]; exact h1
  · rintro (h1 | ⟨n, hn, h1⟩)
    · exact ⟨0, Nat.zero_le _, by simpa using h1⟩
    · refine ⟨n + 1, by simp at hn ⊢; omega, ?_⟩
      rw [List.drop_drop] at h1 ⊢
      rw [show k + (n + 1) = k + 1 + n from by omega]; exact h1
theorem M_any_end {g : Sg} (h : g.kind = 2) (r : List Sg) (s : List Int) : M (g :: r) (s.drop s.length) = M r (s.drop s.length) := by
  rw [List.drop_length, Bool.eq_iff_iff, M_cons_any h]
  constructor
  · rintro ⟨n, hn, h1⟩; simp at h1; exact h1
  · intro h1; exact ⟨0, Nat.zero_le _, h1⟩
theorem M_one_step {g : Sg} (h : g.kind ≠ 2) (r : List Sg) (s : List Int) (k : Nat) (hk : k < s.length) : M (g :: r) (s.drop k) = (g.has s[k] && M r (s.drop (k + 1))) := by
  rw [drop_cons s k hk]; simp only [M, if_neg h]
theorem M_one_end {g : Sg} (h : g.kind ≠ 2) (r : List Sg) (s : List Int) : M (g :: r) (s.drop s.length) = false := by
  rw [List.drop_length]; simp only [M, if_neg h]
theorem M_nil_row (s : List Int) (k : Nat) (hk : k ≤ s.length) : M [] (s.drop k) = decide (k = s.length) := by
  rw [Bool.eq_iff_iff]; simp [M]; omega
end Go.Proofs.YtmcaphmgjhkgfaaDoor.Gl
