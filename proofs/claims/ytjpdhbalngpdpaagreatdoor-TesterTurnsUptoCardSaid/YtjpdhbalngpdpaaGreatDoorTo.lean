/-
  DERIVED. Plain: what the law TesterTurns says of what Decide comes to.
-/
import Derived.Test.YtjpdhbalngpdpaaGreatDoorTn
namespace Go.Proofs.YtjpdhbalngpdpaaGreatDoor
/-- An operation that compares. -/
def isOp (l : List UInt8) : Prop := l = [61] ∨ l = [33, 61] ∨ l = [45, 101, 113] ∨ l = [45, 110, 101] ∨ l = [45, 108, 116] ∨ l = [45, 108, 101] ∨ l = [45, 103, 116] ∨ l = [45, 103, 101]
theorem compare_no (a : ByteArray) (op : List UInt8) (b : ByteArray) (h : ¬ isOp op) : (compareF a op b).2 = false := by
  unfold isOp at h
  unfold compareF cmpOp
  simp only [not_or] at h
  obtain ⟨h1, h2, h3, h4, h5, h6, h7, h8⟩ := h
  simp [h1, h2, h3, h4, h5, h6, h7, h8]
def bang : ByteArray := ⟨#[33]⟩
theorem turns_dec (ss : List ByteArray) (h1 : 0 < ss.length) (h2 : ss.length ≤ 3) (h3 : ∀ op b, ss = [op, b] → ¬ isOp op.data.toList) : decF (bang :: ss) = turnedF (decF ss) := by
  match ss, h1, h2, h3 with
  | [s], _, _, _ => rfl
  | [op, b], _, _, h3 =>
    have h := compare_no bang op.data.toList b (h3 op b rfl)
    show dec3F bang op b = turnedF (twoF op.data.toList b)
    unfold dec3F
    rw [h]
    rfl
  | [a, op, b], _, _, _ => rfl
theorem dec_same (a b : ByteArray) : decF [a, ⟨#[61]⟩, b] = ⟨truthF (decide (bl a = bl b)), AskT.none, false⟩ := rfl
theorem dec_other (a b : ByteArray) : decF [a, ⟨#[33, 61]⟩, b] = ⟨truthF (!decide (bl a = bl b)), AskT.none, false⟩ := rfl
theorem truth_sum (t : Bool) : truthF t + truthF (!t) = 1 := by cases t <;> rfl
/-- What less, and not less, come to: neither, both; or the one or the other. -/
theorem dec_less (a b : ByteArray) : (decF [a, ⟨#[45, 108, 116]⟩, b] = ⟨2, AskT.none, false⟩ ∧ decF [a, ⟨#[45, 103, 101]⟩, b] = ⟨2, AskT.none, false⟩) ∨
    ∃ t, decF [a, ⟨#[45, 108, 116]⟩, b] = ⟨truthF t, AskT.none, false⟩ ∧ decF [a, ⟨#[45, 103, 101]⟩, b] = ⟨truthF (!t), AskT.none, false⟩ := by
  show (dec3F a ⟨#[45, 108, 116]⟩ b = _ ∧ dec3F a ⟨#[45, 103, 101]⟩ b = _) ∨ ∃ t, dec3F a ⟨#[45, 108, 116]⟩ b = _ ∧ dec3F a ⟨#[45, 103, 101]⟩ b = _
  have e1 : compareF a [45, 108, 116] b = if (tnumF a).2 && (tnumF b).2 then (truthF (decide ((tnumF a).1 < (tnumF b).1)), true) else (2, true) := by simp [compareF, cmpOp]
  have e2 : compareF a [45, 103, 101] b = if (tnumF a).2 && (tnumF b).2 then (truthF (decide ((tnumF b).1 ≤ (tnumF a).1)), true) else (2, true) := by simp [compareF, cmpOp]
  have d1 : dec3F a ⟨#[45, 108, 116]⟩ b = ⟨(compareF a [45, 108, 116] b).1, AskT.none, false⟩ := by
    unfold dec3F
    rw [if_pos (by show (compareF a [45, 108, 116] b).2 = true; rw [e1]; split <;> rfl)]
  have d2 : dec3F a ⟨#[45, 103, 101]⟩ b = ⟨(compareF a [45, 103, 101] b).1, AskT.none, false⟩ := by
    unfold dec3F
    rw [if_pos (by show (compareF a [45, 103, 101] b).2 = true; rw [e2]; split <;> rfl)]
  rw [d1, d2, e1, e2]
  cases (tnumF a).2 && (tnumF b).2
  · exact .inl ⟨rfl, rfl⟩
  · refine .inr ⟨decide ((tnumF a).1 < (tnumF b).1), rfl, ?_⟩
    have : decide ((tnumF b).1 ≤ (tnumF a).1) = !decide ((tnumF a).1 < (tnumF b).1) := by
      by_cases h : (tnumF a).1 < (tnumF b).1
      · simp [h]
      · simp [h]; omega
    simp [this]
theorem in02_dec (ss : List ByteArray) : In02 (decF ss) := by
  match ss with
  | [] => exact ⟨by show (0 : Int) ≤ 1; omega, by show (1 : Int) ≤ 2; omega⟩
  | [a] => exact in02_dec1 a
  | [a, b] => exact in02_two _ _
  | [a, b, c] => exact in02_dec3 _ _ _
  | [a, b, c, d] =>
    show In02 (dec4F a b c d)
    unfold dec4F
    split
    · exact in02_turned (in02_dec3 _ _ _)
    · exact ⟨by show (0 : Int) ≤ 2; omega, by show (2 : Int) ≤ 2; omega⟩
  | _ :: _ :: _ :: _ :: _ :: _ => exact ⟨by show (0 : Int) ≤ 2; omega, by show (2 : Int) ≤ 2; omega⟩
end Go.Proofs.YtjpdhbalngpdpaaGreatDoor
