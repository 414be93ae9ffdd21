/-
  DERIVED. The plain functions of package glob: what a pattern's bytes, signs and sets are, and what they match. No program in sight.
-/
import Derived.Laws.Strings
namespace Go.Proofs.YtmcaphmgjhkgfaaDoor.Gl
open Go
/-- A text's byte at a place as a number; 0 behind its end. -/
def bt (s : ByteArray) (k : Nat) : Int := if h : k < s.size then ((s[k]'h).toNat : Int) else 0
theorem get_bt (s : ByteArray) : ∀ (n : Nat) (h : n < s.size), ((s[n]'h).toNat : Int) = bt s n := fun n h => by unfold bt; rw [dif_pos h]
theorem bt_nonneg (s : ByteArray) (k : Nat) : 0 ≤ bt s k := by unfold bt; split <;> omega
theorem bt_le (s : ByteArray) (k : Nat) : bt s k ≤ 255 := by
  unfold bt; split
  · have := (s[k]).toNat_lt; omega
  · omega
/-- Is a byte of a pattern quoted? -/
def quotedB (m : ByteArray) (i : Nat) : Bool := decide (i < m.size) && (bt m i == 113)
/-- Does a sign stand at a place? -/
def isB (t m : ByteArray) (i : Nat) (c : Int) : Bool := decide (i < t.size) && (bt t i == c) && !quotedB m i
/-- A sign: 0 itself, 1 any one byte, 2 any bytes, 3 a set. -/
structure Sg where
  kind : Nat
  c : Int
  neg : Bool
  span : List (Int × Int)
def Sg.has (g : Sg) (x : Int) : Bool :=
  if g.kind = 0 then g.c == x else if g.kind = 3 then (g.span.any fun p => decide (p.1 ≤ x) && decide (x ≤ p.2)) != g.neg else true
def dash (t m : ByteArray) (k : Nat) : Bool := isB t m (k + 1) 45 && decide (k + 2 < t.size) && !isB t m (k + 2) 93
/-- The members of a set from a place on, and where it ends. -/
def setLoop (t m : ByteArray) (first k : Nat) (sp : List (Int × Int)) : Option (List (Int × Int) × Nat) :=
  if _h : k < t.size then
    if decide (first < k) && isB t m k 93 then some (sp, k + 1)
    else if dash t m k then setLoop t m first (k + 3) (sp ++ [(bt t k, bt t (k + 2))]) else setLoop t m first (k + 1) (sp ++ [(bt t k, bt t k)])
  else none
termination_by t.size - k
/-- Where the members of a set begin. -/
def setFirst (t m : ByteArray) (i : Nat) : Nat := if isB t m (i + 1) 33 then i + 2 else i + 1
/-- The set that begins at a place, and where it ends. -/
def setAt (t m : ByteArray) (i : Nat) : Option (Sg × Nat) :=
  (setLoop t m (setFirst t m i) (setFirst t m i) []).map fun r => (⟨3, 0, isB t m (i + 1) 33, r.1⟩, r.2)
theorem setLoop_gt (t m : ByteArray) (first : Nat) : ∀ (d k : Nat) (sp : List (Int × Int)) (r : List (Int × Int) × Nat), t.size - k ≤ d → setLoop t m first k sp = some r → k < r.2 ∧ r.2 ≤ t.size ∧ r.1.length + k ≤ sp.length + r.2 := by
  intro d
  induction d with
  | zero =>
    intro k sp r hd h
    rw [setLoop, dif_neg (by omega)] at h
    cases h
  | succ d ih =>
    intro k sp r hd h
    rw [setLoop] at h
    split at h
    · split at h
      · cases h; simp; omega
      · split at h
        · have := ih (k + 3) _ r (by omega) h; simp at this; omega
        · have := ih (k + 1) _ r (by omega) h; simp at this; omega
    · cases h
theorem setFirst_gt (t m : ByteArray) (i : Nat) : i < setFirst t m i := by unfold setFirst; split <;> omega
theorem setAt_gt {t m : ByteArray} {i : Nat} {r : Sg × Nat} (h : setAt t m i = some r) : i < r.2 ∧ r.2 ≤ t.size := by
  unfold setAt at h
  rw [Option.map_eq_some_iff] at h
  obtain ⟨q, hq, rfl⟩ := h
  have := setLoop_gt t m _ _ _ _ _ (Nat.le_refl _) hq
  have := setFirst_gt t m i
  exact ⟨by simp; omega, by simp; omega⟩
/-- The signs of a pattern from a place on. -/
def signsFrom (t m : ByteArray) (i : Nat) : List Sg :=
  if h : i < t.size then
    if isB t m i 42 then ⟨2, 0, false, []⟩ :: signsFrom t m (i + 1)
    else if isB t m i 63 then ⟨1, 0, false, []⟩ :: signsFrom t m (i + 1)
    else if isB t m i 91 then
      match hs : setAt t m i with
      | some r => r.1 :: signsFrom t m r.2
      | none => ⟨0, 91, false, []⟩ :: signsFrom t m (i + 1)
    else ⟨0, bt t i, false, []⟩ :: signsFrom t m (i + 1)
  else []
termination_by t.size - i
decreasing_by
  all_goals first
    | omega
    | (have := setAt_gt hs; omega)
theorem signs_end {t m : ByteArray} {i : Nat} (h : ¬ i < t.size) : signsFrom t m i = [] := by rw [signsFrom, dif_neg h]
theorem signs_star {t m : ByteArray} {i : Nat} (h : i < t.size) (h1 : isB t m i 42 = true) : signsFrom t m i = ⟨2, 0, false, []⟩ :: signsFrom t m (i + 1) := by rw [signsFrom, dif_pos h, if_pos h1]
theorem signs_one {t m : ByteArray} {i : Nat} (h : i < t.size) (h1 : isB t m i 42 = false) (h2 : isB t m i 63 = true) : signsFrom t m i = ⟨1, 0, false, []⟩ :: signsFrom t m (i + 1) := by
  rw [signsFrom, dif_pos h, if_neg (by simp [h1]), if_pos h2]
theorem signs_set {t m : ByteArray} {i : Nat} {r : Sg × Nat} (h : i < t.size) (h1 : isB t m i 42 = false) (h2 : isB t m i 63 = false) (h3 : isB t m i 91 = true) (hs : setAt t m i = some r) : signsFrom t m i = r.1 :: signsFrom t m r.2 := by
  rw [signsFrom, dif_pos h, if_neg (by simp [h1]), if_neg (by simp [h2]), if_pos h3]
  split
  · rename_i r' hr
    obtain rfl := Option.some.inj (hs.symm.trans hr)
    rfl
  · rename_i hr
    rw [hs] at hr; cases hr
theorem signs_noset {t m : ByteArray} {i : Nat} (h : i < t.size) (h1 : isB t m i 42 = false) (h2 : isB t m i 63 = false) (h3 : isB t m i 91 = true) (hs : setAt t m i = none) : signsFrom t m i = ⟨0, 91, false, []⟩ :: signsFrom t m (i + 1) := by
  rw [signsFrom, dif_pos h, if_neg (by simp [h1]), if_neg (by simp [h2]), if_pos h3]
  split
  · rename_i r' hr
    rw [hs] at hr; cases hr
  · rfl
theorem signs_self {t m : ByteArray} {i : Nat} (h : i < t.size) (h1 : isB t m i 42 = false) (h2 : isB t m i 63 = false) (h3 : isB t m i 91 = false) : signsFrom t m i = ⟨0, bt t i, false, []⟩ :: signsFrom t m (i + 1) := by
  rw [signsFrom, dif_pos h, if_neg (by simp [h1]), if_neg (by simp [h2]), if_neg (by simp [h3])]
theorem signs_length (t m : ByteArray) : ∀ (d i : Nat), t.size - i ≤ d → (signsFrom t m i).length ≤ t.size - i := by
  intro d
  induction d with
  | zero => intro i hd; rw [signs_end (by omega)]; simp
  | succ d ih =>
    intro i hd
    by_cases h : i < t.size
    · have h1 := ih (i + 1) (by omega)
      cases e1 : isB t m i 42
      · cases e2 : isB t m i 63
        · cases e3 : isB t m i 91
          · rw [signs_self h e1 e2 e3]; simp; omega
          · cases hs : setAt t m i with
            | none => rw [signs_noset h e1 e2 e3 hs]; simp; omega
            | some r =>
              have := setAt_gt hs
              have := ih r.2 (by omega)
              rw [signs_set h e1 e2 e3 hs]; simp; omega
        · rw [signs_one h e1 e2]; simp; omega
      · rw [signs_star h e1]; simp; omega
    · rw [signs_end h]; simp
/-- Does a text match signs, one behind the other? -/
def M : List Sg → List Int → Bool
  | [], s => s.isEmpty
  | g :: r, s => if g.kind = 2 then (List.range (s.length + 1)).any (fun n => M r (s.drop n)) else match s with | [] => false | c :: s' => g.has c && M r s'
/-- A text's bytes as numbers. -/
def bl (s : ByteArray) : List Int := s.data.toList.map fun b => (b.toNat : Int)
theorem bl_length (s : ByteArray) : (bl s).length = s.size := by simp [bl]
theorem bl_get (s : ByteArray) (k : Nat) (h : k < s.size) : (bl s)[k]'(by rw [bl_length]; exact h) = bt s k := by
  unfold bt; rw [dif_pos h]; simp [bl]; rfl
/-- Whether a text is one of a pattern's. -/
def matchF (t m : ByteArray) (s : List Int) : Bool := M (signsFrom t m 0) s
/-- Whether a pattern means itself alone. -/
def plainF (t m : ByteArray) : Bool := (signsFrom t m 0).all fun g => g.kind == 0
/-! ### A sign more at the end -/
theorem M_cons_any {g : Sg} (h : g.kind = 2) (r : List Sg) (s : List Int) : M (g :: r) s = true ↔ ∃ n, n ≤ s.length ∧ M r (s.drop n) = true := by
  simp only [M, if_pos h, List.any_eq_true, List.mem_range]
  exact ⟨fun ⟨n, hn, h⟩ => ⟨n, by omega, h⟩, fun ⟨n, hn, h⟩ => ⟨n, by omega, h⟩⟩
theorem M_cons_one {g : Sg} (h : g.kind ≠ 2) (r : List Sg) (s : List Int) : M (g :: r) s = true ↔ ∃ c s', s = c :: s' ∧ g.has c = true ∧ M r s' = true := by
  simp only [M, if_neg h]
  cases s with
  | nil => simp
  | cons c s' => simp only [Bool.and_eq_true]; exact ⟨fun ⟨a, b⟩ => ⟨c, s', rfl, a, b⟩, fun ⟨_, _, e, a, b⟩ => by cases e; exact ⟨a, b⟩⟩
theorem M_append (gs hs : List Sg) : ∀ s : List Int, M (gs ++ hs) s = true ↔ ∃ a b, s = a ++ b ∧ M gs a = true ∧ M hs b = true := by
  induction gs with
  | nil =>
    intro s
    simp only [List.nil_append, M]
    constructor
    · intro h; exact ⟨[], s, rfl, rfl, h⟩
    · rintro ⟨a, b, rfl, ha, hb⟩
      rw [List.isEmpty_iff] at ha; subst ha; exact hb
  | cons g r ih =>
    intro s
    rw [List.cons_append]
    by_cases h : g.kind = 2
    · rw [M_cons_any h]
      constructor
      · rintro ⟨n, hn, h1⟩
        obtain ⟨a, b, e, ha, hb⟩ := (ih _).1 h1
        refine ⟨s.take n ++ a, b, ?_, ?_, hb⟩
        · rw [List.append_assoc, ← e, List.take_append_drop]
        · rw [M_cons_any h]
          refine ⟨n, by simp; omega, ?_⟩
          rw [List.drop_append_of_le_length (by simp; omega), List.drop_of_length_le (by simp; omega)]
          exact ha
      · rintro ⟨a, b, rfl, ha, hb⟩
        obtain ⟨n, hn, h1⟩ := (M_cons_any h _ _).1 ha
        refine ⟨n, by simp; omega, (ih _).2 ⟨a.drop n, b, ?_, h1, hb⟩⟩
        rw [List.drop_append_of_le_length hn]
    · rw [M_cons_one h]
      constructor
      · rintro ⟨c, s', rfl, hc, h1⟩
        obtain ⟨a, b, rfl, ha, hb⟩ := (ih _).1 h1
        exact ⟨c :: a, b, rfl, (M_cons_one h _ _).2 ⟨c, a, rfl, hc, ha⟩, hb⟩
      · rintro ⟨a, b, rfl, ha, hb⟩
        obtain ⟨c, s', rfl, hc, h1⟩ := (M_cons_one h _ _).1 ha
        exact ⟨c, s' ++ b, rfl, hc, (ih _).2 ⟨s', b, rfl, h1, hb⟩⟩
theorem M_single_any {g : Sg} (h : g.kind = 2) (b : List Int) : M [g] b = true := by
  rw [M_cons_any h]; exact ⟨b.length, Nat.le_refl _, by simp [M]⟩
theorem M_single_one {g : Sg} (h : g.kind ≠ 2) (b : List Int) : M [g] b = true ↔ ∃ c, b = [c] ∧ g.has c = true := by
  rw [M_cons_one h]
  constructor
  · rintro ⟨c, s', rfl, hc, h1⟩
    simp [M] at h1; subst h1; exact ⟨c, rfl, hc⟩
  · rintro ⟨c, rfl, hc⟩; exact ⟨c, [], rfl, hc, rfl⟩
theorem snoc_any_zero {g : Sg} (h : g.kind = 2) (gs : List Sg) : M (gs ++ [g]) [] = M gs [] := by
  rw [Bool.eq_iff_iff, M_append]
  constructor
  · rintro ⟨a, b, e, ha, _⟩
    obtain ⟨rfl, rfl⟩ := List.append_eq_nil_iff.1 e.symm
    exact ha
  · intro ha; exact ⟨[], [], rfl, ha, M_single_any h []⟩
theorem snoc_any {g : Sg} (h : g.kind = 2) (gs : List Sg) (s : List Int) (i : Nat) (hi : i < s.length) :
    M (gs ++ [g]) (s.take (i + 1)) = (M gs (s.take (i + 1)) || M (gs ++ [g]) (s.take i)) := by
  have hs : s.take (i + 1) = s.take i ++ [s[i]] := List.take_succ_eq_append_getElem hi
  rw [Bool.eq_iff_iff, Bool.or_eq_true, M_append, M_append]
  constructor
  · rintro ⟨a, b, e, ha, _⟩
    rcases List.eq_nil_or_concat b with rfl | ⟨b', x, rfl⟩
    · left; rw [e, List.append_nil]; exact ha
    · right
      rw [hs] at e
      have e' : s.take i ++ [s[i]] = (a ++ b') ++ [x] := by rw [e]; simp
      have := List.append_inj_left' e' rfl
      exact ⟨a, b', this, ha, M_single_any h _⟩
  · rintro (h1 | ⟨a, b, e, ha, _⟩)
    · exact ⟨s.take (i + 1), [], by simp, h1, M_single_any h _⟩
    · exact ⟨a, b ++ [s[i]], by rw [hs, e]; simp, ha, M_single_any h _⟩
theorem snoc_one_zero {g : Sg} (h : g.kind ≠ 2) (gs : List Sg) : M (gs ++ [g]) [] = false := by
  rw [← Bool.not_eq_true, M_append]
  rintro ⟨a, b, e, _, hb⟩
  obtain ⟨rfl, rfl⟩ := List.append_eq_nil_iff.1 e.symm
  obtain ⟨c, e, _⟩ := (M_single_one h _).1 hb
  cases e
theorem snoc_one {g : Sg} (h : g.kind ≠ 2) (gs : List Sg) (s : List Int) (i : Nat) (hi : i < s.length) :
    M (gs ++ [g]) (s.take (i + 1)) = (M gs (s.take i) && g.has s[i]) := by
  have hs : s.take (i + 1) = s.take i ++ [s[i]] := List.take_succ_eq_append_getElem hi
  rw [Bool.eq_iff_iff, Bool.and_eq_true, M_append, hs]
  constructor
  · rintro ⟨a, b, e, ha, hb⟩
    obtain ⟨c, rfl, hc⟩ := (M_single_one h _).1 hb
    have h1 := List.append_inj_left' e rfl
    have h2 := List.append_inj_right' e rfl
    cases h2
    rw [h1]; exact ⟨ha, hc⟩
  · rintro ⟨ha, hc⟩
    exact ⟨s.take i, [s[i]], rfl, ha, (M_single_one h _).2 ⟨_, rfl, hc⟩⟩
end Go.Proofs.YtmcaphmgjhkgfaaDoor.Gl
