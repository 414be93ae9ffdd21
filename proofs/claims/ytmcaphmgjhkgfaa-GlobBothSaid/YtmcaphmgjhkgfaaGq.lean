/-
  DERIVED. The plain law of quoting: a text, quoted, matches itself alone; with a star behind what begins with it; with two stars about it what has it. No program in sight.
-/
import Derived.Test.YtmcaphmgjhkgfaaGg
namespace Go.Proofs.Ytmcaphmgjhkgfaa
open Go Gl
def selfS (c : Int) : Sg := ⟨0, c, false, []⟩
def starS : Sg := ⟨2, 0, false, []⟩
theorem bl_append (a b : ByteArray) : bl (a ++ b) = bl a ++ bl b := by simp [bl]
theorem bl_inj {a b : ByteArray} (h : bl a = bl b) : a = b := by
  have h2 : a.data.toList = b.data.toList := by
    unfold bl at h
    refine (List.map_inj_right ?_).1 h
    intro x y hxy
    have : x.toNat = y.toNat := by omega
    exact UInt8.toNat_inj.1 this
  rw [← Lib.mk_data a, ← Lib.mk_data b, h2]
theorem toList_eq (a b : ByteArray) : (a.toList == b.toList) = decide (bl a = bl b) := by
  rw [Bool.eq_iff_iff, beq_iff_eq, decide_eq_true_eq, Lib.toList_data, Lib.toList_data]
  constructor
  · intro h; unfold bl; rw [h]
  · intro h; rw [bl_inj h]
theorem bt_at (x : ByteArray) (l : List Int) (h : bl x = l) (k : Nat) (hk : k < l.length) : bt x k = l[k] := by
  subst h
  have : k < x.size := by rw [bl_length] at hk; exact hk
  rw [bl_get x k this]
theorem isB_quoted {t m : ByteArray} {i : Nat} (h : quotedB m i = true) (c : Int) : isB t m i c = false := by simp [isB, h]
/-- Over what is quoted each byte is a sign of its own. -/
theorem signs_run (t m : ByteArray) : ∀ (d i : Nat), i + d ≤ t.size → (∀ k, i ≤ k → k < i + d → quotedB m k = true) → signsFrom t m i = (((bl t).drop i).take d).map selfS ++ signsFrom t m (i + d) := by
  intro d
  induction d with
  | zero => intro i _ _; simp
  | succ d ih =>
    intro i hi hq
    have h0 := hq i (Nat.le_refl _) (by omega)
    have hlt : i < t.size := by omega
    rw [signs_self hlt (isB_quoted h0 _) (isB_quoted h0 _) (isB_quoted h0 _), ih (i + 1) (by omega) (fun k h1 h2 => hq k (by omega) (by omega))]
    have e : ((bl t).drop i).take (d + 1) = bt t i :: ((bl t).drop (i + 1)).take d := by
      rw [List.drop_eq_getElem_cons (by rw [bl_length]; exact hlt), List.take_succ_cons, bl_get t i hlt]
    rw [e, List.map_cons, List.cons_append, show i + (d + 1) = i + 1 + d from by omega]
    rfl
theorem M_selfs (l x : List Int) : M (l.map selfS) x = true ↔ x = l := by
  induction l generalizing x with
  | nil => simp [M]
  | cons c l ih =>
    rw [List.map_cons, M_cons_one (by show (0 : Nat) ≠ 2; decide)]
    constructor
    · rintro ⟨c', x', rfl, hc, hx⟩
      have : c = c' := by simpa [selfS, Sg.has] using hc
      rw [this, (ih x').1 hx]
    · rintro rfl
      exact ⟨c, l, rfl, by simp [selfS, Sg.has], (ih l).2 rfl⟩
/-- The mask that quotes n bytes. -/
def qm (n : Nat) : ByteArray := ⟨(List.replicate n 113).toArray⟩
theorem qm_size (n : Nat) : (qm n).size = n := by simp [qm, ByteArray.size]
theorem qm_succ (n : Nat) : qm n ++ ⟨#[113]⟩ = qm (n + 1) := by
  unfold qm
  rw [mk_append (List.replicate n 113) [113], ← List.replicate_succ']
theorem bl_qm (n : Nat) : bl (qm n) = List.replicate n 113 := by simp [bl, qm]
theorem qm_quoted {n i : Nat} (h : i < n) : quotedB (qm n) i = true := by
  unfold quotedB
  rw [qm_size, bt_at _ _ (bl_qm n) i (by simpa using h)]
  simp [h]
theorem signs_q (s : ByteArray) : signsFrom s (qm s.size) 0 = (bl s).map selfS := by
  rw [signs_run s (qm s.size) s.size 0 (by omega) (fun k _ h => qm_quoted (by omega)), signs_end (by omega), List.drop_zero, List.take_of_length_le (by rw [bl_length]; exact Nat.le_refl _), List.append_nil]
theorem size_append (a b : ByteArray) : (a ++ b).size = a.size + b.size := by simp
theorem signs_qs (s : ByteArray) : signsFrom (s ++ ⟨#[42]⟩) (qm s.size) 0 = (bl s).map selfS ++ [starS] := by
  have hsz : (s ++ (⟨#[42]⟩ : ByteArray)).size = s.size + 1 := by rw [size_append]; rfl
  have hbl : bl (s ++ (⟨#[42]⟩ : ByteArray)) = bl s ++ [42] := by rw [bl_append]; rfl
  rw [signs_run _ (qm s.size) s.size 0 (by omega) (fun k _ h => qm_quoted (by omega)), hbl, List.drop_zero, List.take_append_of_le_length (by rw [bl_length]; exact Nat.le_refl _), List.take_of_length_le (by rw [bl_length]; exact Nat.le_refl _), Nat.zero_add]
  congr 1
  have h1 : isB (s ++ ⟨#[42]⟩) (qm s.size) s.size 42 = true := by
    simp only [isB, quotedB, Bool.and_eq_true, decide_eq_true_eq, beq_iff_eq, Bool.not_eq_true', Bool.and_eq_false_iff, decide_eq_false_iff_not]
    refine ⟨⟨by omega, ?_⟩, .inl (by rw [qm_size]; omega)⟩
    rw [bt_at _ _ hbl s.size (by simp [bl_length])]
    rw [List.getElem_append_right (by rw [bl_length]; exact Nat.le_refl _)]; simp
  rw [signs_star (by omega) h1, signs_end (by omega)]
  rfl
theorem signs_sqs (s : ByteArray) : signsFrom (⟨#[42]⟩ ++ s ++ ⟨#[42]⟩) (⟨#[108]⟩ ++ qm s.size) 0 = starS :: ((bl s).map selfS ++ [starS]) := by
  have hsz : ((⟨#[42]⟩ : ByteArray) ++ s ++ (⟨#[42]⟩ : ByteArray)).size = s.size + 2 := by rw [size_append, size_append]; show 1 + s.size + 1 = _; omega
  have hbl : bl ((⟨#[42]⟩ : ByteArray) ++ s ++ (⟨#[42]⟩ : ByteArray)) = 42 :: (bl s ++ [42]) := by rw [bl_append, bl_append]; rfl
  have hmsz : ((⟨#[108]⟩ : ByteArray) ++ qm s.size).size = s.size + 1 := by rw [size_append, qm_size]; show 1 + s.size = _; omega
  have hmbl : bl ((⟨#[108]⟩ : ByteArray) ++ qm s.size) = 108 :: List.replicate s.size 113 := by rw [bl_append, bl_qm]; rfl
  have h0 : isB (⟨#[42]⟩ ++ s ++ ⟨#[42]⟩) (⟨#[108]⟩ ++ qm s.size) 0 42 = true := by
    simp only [isB, quotedB, Bool.and_eq_true, decide_eq_true_eq, beq_iff_eq, Bool.not_eq_true', Bool.and_eq_false_iff, decide_eq_false_iff_not]
    refine ⟨⟨by omega, ?_⟩, .inr ?_⟩
    · rw [bt_at _ _ hbl 0 (by simp)]; rfl
    · rw [bt_at _ _ hmbl 0 (by simp)]; rfl
  rw [signs_star (by omega) h0]
  congr 1
  rw [signs_run _ _ s.size 1 (by omega) (fun k h1 h2 => by
    unfold quotedB
    rw [hmsz, bt_at _ _ hmbl k (by simp; omega)]
    obtain ⟨k', rfl⟩ : ∃ k', k = k' + 1 := ⟨k - 1, by omega⟩
    simp; omega), hbl]
  rw [List.drop_succ_cons, List.drop_zero, List.take_append_of_le_length (by rw [bl_length]; exact Nat.le_refl _), List.take_of_length_le (by rw [bl_length]; exact Nat.le_refl _)]
  congr 1
  have h1 : isB (⟨#[42]⟩ ++ s ++ ⟨#[42]⟩) (⟨#[108]⟩ ++ qm s.size) (1 + s.size) 42 = true := by
    simp only [isB, quotedB, Bool.and_eq_true, decide_eq_true_eq, beq_iff_eq, Bool.not_eq_true', Bool.and_eq_false_iff, decide_eq_false_iff_not]
    refine ⟨⟨by omega, ?_⟩, .inl (by rw [hmsz]; omega)⟩
    rw [bt_at _ _ hbl (1 + s.size) (by simp [bl_length]; omega)]
    simp only [show 1 + s.size = s.size + 1 from by omega, List.getElem_cons_succ]
    rw [List.getElem_append_right (by rw [bl_length]; exact Nat.le_refl _)]; simp
  rw [signs_star (by omega) h1, signs_end (by omega)]
  rfl
/-! ### What they match -/
theorem plain_q (s : ByteArray) : plainF s (qm s.size) = true := by
  unfold plainF; rw [signs_q, List.all_map, List.all_eq_true]; intro x _; rfl
theorem match_q (s t : ByteArray) : (s.toList == t.toList) = matchF s (qm s.size) (bl t) := by
  rw [toList_eq, Bool.eq_iff_iff, decide_eq_true_eq]; unfold matchF; rw [signs_q, M_selfs]
  exact eq_comm
theorem match_qs {s t : ByteArray} : (decide (s.size ≤ t.size) && ((t.extract 0 s.size).toList == s.toList)) = matchF (s ++ ⟨#[42]⟩) (qm s.size) (bl t) := by
  rw [toList_eq, Bool.eq_iff_iff]; unfold matchF; rw [signs_qs, M_append, Bool.and_eq_true, decide_eq_true_eq, decide_eq_true_eq, bl_extract, List.drop_zero, Nat.sub_zero]
  constructor
  · rintro ⟨_, h⟩
    exact ⟨bl s, (bl t).drop s.size, by rw [← h, List.take_append_drop], (M_selfs _ _).2 rfl, M_single_any rfl _⟩
  · rintro ⟨a, b, e, ha, _⟩
    rw [(M_selfs _ _).1 ha] at e
    have hl := congrArg List.length e
    rw [List.length_append, bl_length, bl_length] at hl
    refine ⟨by omega, ?_⟩
    rw [e, List.take_append_of_le_length (by rw [bl_length]; exact Nat.le_refl _), List.take_of_length_le (by rw [bl_length]; exact Nat.le_refl _)]
/-- Does a text lie in another one, below a place? -/
def hasN (s t : ByteArray) (n : Nat) : Bool := (List.range n).any fun i => (t.extract i (i + s.size)).toList == s.toList
theorem hasN_succ (s t : ByteArray) (n : Nat) : hasN s t (n + 1) = (hasN s t n || ((t.extract n (n + s.size)).toList == s.toList)) := by
  unfold hasN; rw [List.range_succ, List.any_append]; simp
theorem match_sqs {s t : ByteArray} {n : Nat} (hn : ¬ n + s.size ≤ t.size) (hn2 : n = 0 ∨ n + s.size ≤ t.size + 1) : hasN s t n = matchF (⟨#[42]⟩ ++ s ++ ⟨#[42]⟩) (⟨#[108]⟩ ++ qm s.size) (bl t) := by
  rw [Bool.eq_iff_iff]; unfold matchF hasN; rw [signs_sqs, M_cons_any rfl, List.any_eq_true]
  constructor
  · rintro ⟨i, hi, h⟩
    have hi' := List.mem_range.1 hi
    rw [toList_eq, decide_eq_true_eq, bl_extract, show i + s.size - i = s.size from by omega] at h
    refine ⟨i, by rw [bl_length]; omega, ?_⟩
    rw [M_append]
    exact ⟨bl s, ((bl t).drop i).drop s.size, by rw [← h, List.take_append_drop], (M_selfs _ _).2 rfl, M_single_any rfl _⟩
  · rintro ⟨i, hi, h⟩
    rw [M_append] at h
    obtain ⟨a, b, e, ha, _⟩ := h
    rw [(M_selfs _ _).1 ha] at e
    have hl := congrArg List.length e
    rw [List.length_append, List.length_drop, bl_length, bl_length] at hl
    rw [bl_length] at hi
    refine ⟨i, List.mem_range.2 (by omega), ?_⟩
    rw [toList_eq, decide_eq_true_eq, bl_extract, show i + s.size - i = s.size from by omega, e, List.take_append_of_le_length (by rw [bl_length]; exact Nat.le_refl _), List.take_of_length_le (by rw [bl_length]; exact Nat.le_refl _)]
end Go.Proofs.Ytmcaphmgjhkgfaa
