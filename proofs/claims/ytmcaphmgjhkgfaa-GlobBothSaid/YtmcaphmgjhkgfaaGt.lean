/-
  DERIVED. The plain law of two patterns, one behind the other: where the first one holds no opening bracket its signs stand ahead of the second one's. No program in sight.
-/
import Derived.Test.YtmcaphmgjhkgfaaGq
import Derived.Test.YtmcaphmgjhkgfaaRs
import Derived.KernelRfl
namespace Go.Proofs.Ytmcaphmgjhkgfaa
open Go Gl
section
variable {t m u n : ByteArray}
theorem bt_app_lt {k : Nat} (h : k < t.size) : bt (t ++ u) k = bt t k := by
  rw [bt_at (t ++ u) (bl t ++ bl u) (bl_append t u) k (by simp [bl_length]; omega), List.getElem_append_left (by rw [bl_length]; exact h), bl_get t k h]
theorem bt_app_ge {k : Nat} (h : k < u.size) : bt (t ++ u) (t.size + k) = bt u k := by
  rw [bt_at (t ++ u) (bl t ++ bl u) (bl_append t u) (t.size + k) (by simp [bl_length]; omega), List.getElem_append_right (by rw [bl_length]; omega)]
  simp only [bl_length, Nat.add_sub_cancel_left]
  rw [bl_get u k h]
theorem quoted_lt (hm : m.size = t.size) {k : Nat} (h : k < t.size) : quotedB (m ++ n) k = quotedB m k := by
  unfold quotedB; rw [size_append, bt_app_lt (by omega)]
  rw [decide_eq_true (show k < m.size + n.size by omega), decide_eq_true (show k < m.size by omega)]
theorem quoted_ge (hm : m.size = t.size) (k : Nat) : quotedB (m ++ n) (t.size + k) = quotedB n k := by
  unfold quotedB; rw [size_append, ← hm]
  by_cases h : k < n.size
  · rw [bt_app_ge h, decide_eq_true (show m.size + k < m.size + n.size by omega), decide_eq_true h]
  · rw [decide_eq_false (show ¬ m.size + k < m.size + n.size by omega), decide_eq_false h]; rfl
theorem isB_lt (hm : m.size = t.size) {k : Nat} (h : k < t.size) (c : Int) : isB (t ++ u) (m ++ n) k c = isB t m k c := by
  unfold isB; rw [quoted_lt hm h, size_append, bt_app_lt h]
  rw [decide_eq_true (show k < t.size + u.size by omega), decide_eq_true h]
theorem isB_ge (hm : m.size = t.size) (k : Nat) (c : Int) : isB (t ++ u) (m ++ n) (t.size + k) c = isB u n k c := by
  unfold isB; rw [quoted_ge hm k, size_append]
  by_cases h : k < u.size
  · rw [bt_app_ge h, decide_eq_true (show t.size + k < t.size + u.size by omega), decide_eq_true h]
  · rw [decide_eq_false (show ¬ t.size + k < t.size + u.size by omega), decide_eq_false h]; rfl
theorem dash_ge (hm : m.size = t.size) (k : Nat) : dash (t ++ u) (m ++ n) (t.size + k) = dash u n k := by
  unfold dash; rw [Nat.add_assoc, isB_ge hm, Nat.add_assoc, isB_ge hm, size_append]
  congr 2
  rw [decide_eq_decide]; omega
theorem memF_ge (hm : m.size = t.size) (k : Nat) : memF (t ++ u) (m ++ n) (t.size + k) = t.size + memF u n k := by
  unfold memF; rw [dash_ge hm]; split <;> omega
theorem memP_ge (hm : m.size = t.size) {k : Nat} (h : k < u.size) : memP (t ++ u) (m ++ n) (t.size + k) = memP u n k := by
  unfold memP; rw [dash_ge hm, bt_app_ge h]
  cases hd : dash u n k
  · rfl
  · simp only [dash, Bool.and_eq_true, decide_eq_true_eq] at hd
    rw [Nat.add_assoc, bt_app_ge hd.1.2]
theorem setLoop_ge (hm : m.size = t.size) (first : Nat) : ∀ (d k : Nat) (sp : List (Int × Int)), u.size - k ≤ d →
    setLoop (t ++ u) (m ++ n) (t.size + first) (t.size + k) sp = (setLoop u n first k sp).map fun r => (r.1, t.size + r.2) := by
  intro d
  induction d with
  | zero =>
    intro k sp hd
    rw [setLoop_out (by rw [size_append]; omega), setLoop_out (by omega)]; rfl
  | succ d ih =>
    intro k sp hd
    by_cases h : k < u.size
    · by_cases h2 : first < k ∧ isB u n k 93 = true
      · rw [setLoop_shut (by rw [size_append]; omega) (by omega) (by rw [isB_ge hm]; exact h2.2), setLoop_shut h h2.1 h2.2]; simp; omega
      · have h3 : ¬ first < k ∨ isB u n k 93 = false := by
          by_cases h4 : first < k
          · right; cases e : isB u n k 93
            · rfl
            · exact absurd ⟨h4, e⟩ h2
          · exact .inl h4
        have := memF_gt u n k
        rw [setLoop_on (by rw [size_append]; omega) (by rw [isB_ge hm]; rcases h3 with h3 | h3; exact .inl (by omega); exact .inr h3), setLoop_on h h3, memF_ge hm, memP_ge hm h, ih _ _ (by omega)]
    · rw [setLoop_out (by rw [size_append]; omega), setLoop_out h]; rfl
theorem setFirst_ge (hm : m.size = t.size) (i : Nat) : setFirst (t ++ u) (m ++ n) (t.size + i) = t.size + setFirst u n i := by
  unfold setFirst; rw [Nat.add_assoc, isB_ge hm]; split <;> omega
theorem setAt_ge (hm : m.size = t.size) (i : Nat) : setAt (t ++ u) (m ++ n) (t.size + i) = (setAt u n i).map fun r => (r.1, t.size + r.2) := by
  rw [setAt_loop, setAt_loop, setFirst_ge hm, setLoop_ge hm _ _ _ _ (Nat.le_refl _), Nat.add_assoc, isB_ge hm]
  cases setLoop u n (setFirst u n i) (setFirst u n i) [] <;> rfl
theorem signs_ge (hm : m.size = t.size) : ∀ (d i : Nat), u.size - i ≤ d → signsFrom (t ++ u) (m ++ n) (t.size + i) = signsFrom u n i := by
  intro d
  induction d with
  | zero => intro i hd; rw [signs_end (by rw [size_append]; omega), signs_end (by omega)]
  | succ d ih =>
    intro i hd
    by_cases h : i < u.size
    · have hb : t.size + i < (t ++ u).size := by rw [size_append]; omega
      have hn := ih (i + 1) (by omega)
      rw [← Nat.add_assoc] at hn
      cases e1 : isB u n i 42
      · cases e2 : isB u n i 63
        · cases e3 : isB u n i 91
          · rw [signs_self h e1 e2 e3, signs_self hb (by rw [isB_ge hm]; exact e1) (by rw [isB_ge hm]; exact e2) (by rw [isB_ge hm]; exact e3), hn, bt_app_ge h]
          · cases hs : setAt u n i with
            | none => rw [signs_noset h e1 e2 e3 hs, signs_noset hb (by rw [isB_ge hm]; exact e1) (by rw [isB_ge hm]; exact e2) (by rw [isB_ge hm]; exact e3) (by rw [setAt_ge hm, hs]; rfl), hn]
            | some r =>
              have := setAt_gt hs
              rw [signs_set h e1 e2 e3 hs, signs_set (r := (r.1, t.size + r.2)) hb (by rw [isB_ge hm]; exact e1) (by rw [isB_ge hm]; exact e2) (by rw [isB_ge hm]; exact e3) (by rw [setAt_ge hm, hs]; rfl), ih r.2 (by omega)]
        · rw [signs_one h e1 e2, signs_one hb (by rw [isB_ge hm]; exact e1) (by rw [isB_ge hm]; exact e2), hn]
      · rw [signs_star h e1, signs_star hb (by rw [isB_ge hm]; exact e1), hn]
    · rw [signs_end (by rw [size_append]; omega), signs_end h]
theorem signs_lt (hm : m.size = t.size) (ho : ∀ k, k < t.size → bt t k ≠ 91) : ∀ (d i : Nat), t.size - i ≤ d → i ≤ t.size → signsFrom (t ++ u) (m ++ n) i = signsFrom t m i ++ signsFrom u n 0 := by
  intro d
  induction d with
  | zero =>
    intro i hd hi
    obtain rfl : i = t.size := by omega
    rw [signs_end (t := t) (m := m) (by omega), List.nil_append]
    exact signs_ge hm _ 0 (Nat.le_refl _)
  | succ d ih =>
    intro i hd hi
    by_cases h : i < t.size
    · have hb : i < (t ++ u).size := by rw [size_append]; omega
      have hn := ih (i + 1) (by omega) (by omega)
      have e3 : isB t m i 91 = false := by
        cases e : isB t m i 91
        · rfl
        · simp only [isB, Bool.and_eq_true, beq_iff_eq] at e; exact absurd e.1.2 (ho i h)
      cases e1 : isB t m i 42
      · cases e2 : isB t m i 63
        · rw [signs_self h e1 e2 e3, signs_self hb (by rw [isB_lt hm h]; exact e1) (by rw [isB_lt hm h]; exact e2) (by rw [isB_lt hm h]; exact e3), hn, bt_app_lt h]; rfl
        · rw [signs_one h e1 e2, signs_one hb (by rw [isB_lt hm h]; exact e1) (by rw [isB_lt hm h]; exact e2), hn]; rfl
      · rw [signs_star h e1, signs_star hb (by rw [isB_lt hm h]; exact e1), hn]; rfl
    · obtain rfl : i = t.size := by omega
      rw [signs_end (t := t) (m := m) (by omega), List.nil_append]
      exact signs_ge hm _ 0 (Nat.le_refl _)
/-- Does a pattern hold an opening bracket, below a place? -/
def openF (t : ByteArray) (k : Nat) : Bool := (List.range k).any fun i => bt t i == 91
theorem openF_succ (t : ByteArray) (k : Nat) : openF t (k + 1) = (openF t k || (bt t k == 91)) := by
  unfold openF; rw [List.range_succ, List.any_append]; simp
theorem both_match {s x : ByteArray} (hm : m.size = t.size) (ho : openF t t.size = false) (h1 : matchF t m (bl s) = true) (h2 : matchF u n (bl x) = true) : matchF (t ++ u) (m ++ n) (bl (s ++ x)) = true := by
  unfold matchF at *
  rw [signs_lt hm (fun k hk e => by
    unfold openF at ho
    rw [← Bool.not_eq_true] at ho
    exact ho (List.any_eq_true.2 ⟨k, List.mem_range.2 hk, by simp [e]⟩)) _ 0 (Nat.le_refl _) (Nat.zero_le _), bl_append, M_append]
  exact ⟨_, _, rfl, h1, h2⟩
end
theorem set_yes : signsFrom ⟨#[91, 97, 45, 109, 93]⟩ ⟨#[]⟩ 0 = [⟨3, 0, false, [(97, 109)]⟩] := by kernel_rfl
theorem set_no : signsFrom ⟨#[91, 33, 97, 45, 109, 93]⟩ ⟨#[]⟩ 0 = [⟨3, 0, true, [(97, 109)]⟩] := by kernel_rfl
theorem sign_one : signsFrom ⟨#[63]⟩ ⟨#[]⟩ 0 = [⟨1, 0, false, []⟩] := by kernel_rfl
def oneB (c : Int) : ByteArray := ⟨[UInt8.ofNat c.toNat].toArray⟩
theorem bl_oneB {c : Int} (h0 : 0 ≤ c) (h1 : c ≤ 255) : bl (oneB c) = [c] := by
  simp [bl, oneB]; omega
theorem match_yes {c : Int} (h0 : 0 ≤ c) (h1 : c ≤ 255) : matchF ⟨#[91, 97, 45, 109, 93]⟩ ⟨#[]⟩ (bl (oneB c)) = (decide (97 ≤ c) && decide (c ≤ 109)) := by
  unfold matchF; rw [bl_oneB h0 h1, set_yes]; simp [M, Sg.has]
theorem match_no {c : Int} (h0 : 0 ≤ c) (h1 : c ≤ 255) : matchF ⟨#[91, 33, 97, 45, 109, 93]⟩ ⟨#[]⟩ (bl (oneB c)) = !(decide (97 ≤ c) && decide (c ≤ 109)) := by
  unfold matchF; rw [bl_oneB h0 h1, set_no]; simp [M, Sg.has]
theorem match_one {c : Int} (h0 : 0 ≤ c) (h1 : c ≤ 255) : matchF ⟨#[63]⟩ ⟨#[]⟩ (bl (oneB c)) = true := by
  unfold matchF; rw [bl_oneB h0 h1, sign_one]; simp [M, Sg.has]
end Go.Proofs.Ytmcaphmgjhkgfaa
