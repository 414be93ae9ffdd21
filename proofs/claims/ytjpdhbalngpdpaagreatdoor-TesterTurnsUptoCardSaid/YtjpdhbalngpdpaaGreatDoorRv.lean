/-
  DERIVED. The walks of the reference's truth, turn, number, three (kinetoscoperef17).
-/
import Derived.Test.YtjpdhbalngpdpaaGreatDoorTh
import Derived.Test.YtjpdhbalngpdpaaGreatDoorNc
namespace Go.Proofs.YtjpdhbalngpdpaaGreatDoor
open Go.RowKit
/-- What the reference hands back. -/
def refV (d : DecT) : Value := .agg #[.int .i64 d.n, .bool d.asks, .bool d.ask.neg, .string d.ask.op, .string d.ask.path]
theorem rtruth_any (b : Bool) (w : World) :
    Calls Tryz.prog 21 #[.bool b] w fun e w' => e = .returned (refV ⟨truthF b, AskT.none, false⟩) ∧ Below w.heap.size w w' := by
  cases b
  all_goals
    go_enter Tryz.func21, Tryz.ntmps21
    go_wp2_with fail
  · exact bodyPost_ret (v := refV ⟨1, AskT.none, false⟩) (by simp [results, Tryz.results21, go_sem, refV, AskT.none]) rfl ⟨rfl, by go_grown⟩
  · exact bodyPost_ret (v := refV ⟨0, AskT.none, false⟩) (by simp [results, Tryz.results21, go_sem, refV, AskT.none]) rfl ⟨rfl, by go_grown⟩
theorem rtruth_at (b : Bool) (n : Int) (h : truthF b = n) (w : World) :
    Calls Tryz.prog 21 #[.bool b] w fun e w' => e = .returned (.agg #[.int .i64 n, .bool false, .bool false, .string ⟨#[]⟩, .string ⟨#[]⟩]) ∧ Below w.heap.size w w' := by
  subst h; exact rtruth_any b w
set_option maxRecDepth 100000 in
set_option maxHeartbeats 4000000 in
theorem rturn_any (n : Int) (h0 : 0 ≤ n) (h1 : n ≤ 2) (neg : Bool) (op path : ByteArray) (asks : Bool) (r : DecT) (hr : turnedF ⟨n, ⟨neg, op, path⟩, asks⟩ = r) (w : World) :
    Calls Tryz.prog 23 #[.agg #[.int .i64 n, .bool asks, .bool neg, .string op, .string path]] w fun e w' => e = .returned (refV r) ∧ Below w.heap.size w w' := by
  have HR := Lib.hid hr; clear hr
  cases asks
  · by_cases h2 : n = 2
    · have hn : ¬ n < 2 := by omega
      have HV : Hid (r = ⟨n, ⟨neg, op, path⟩, false⟩) := by unfold Hid; rw [← HR.out]; unfold turnedF; simp [h2]
      clear h2
      go_enter Tryz.func23, Tryz.ntmps23
      go_wp2_with fail
      exact bodyPost_ret (v := refV ⟨n, ⟨neg, op, path⟩, false⟩) (by simp [results, Tryz.results23, go_sem, refV]) rfl ⟨by rw [HV.out], by go_grown⟩
    · have hn : n < 2 := by omega
      have HV : Hid (r = ⟨1 - n, ⟨neg, op, path⟩, false⟩) := by unfold Hid; rw [← HR.out]; unfold turnedF; simp [h2]
      clear h2
      go_enter Tryz.func23, Tryz.ntmps23
      go_wp2_with fail
      exact bodyPost_ret (v := refV ⟨1 - n, ⟨neg, op, path⟩, false⟩) (by simp [results, Tryz.results23, go_sem, refV]) rfl ⟨by rw [HV.out], by go_grown⟩
  · have HV : Hid (r = ⟨n, ⟨!neg, op, path⟩, true⟩) := by unfold Hid; rw [← HR.out]; rfl
    go_enter Tryz.func23, Tryz.ntmps23
    go_wp2_with fail
    exact bodyPost_ret (v := refV ⟨n, ⟨!neg, op, path⟩, true⟩) (by simp [results, Tryz.results23, go_sem, refV]) rfl ⟨by rw [HV.out], by go_grown⟩
/-- Whether one of the first bytes is no blank. -/
def someB (s : ByteArray) (i : Nat) : Bool := (s.data.toList.take i).any fun c => !blankU c
theorem someB_zero (s : ByteArray) : someB s 0 = false := by simp [someB]
theorem someB_succ (s : ByteArray) (i : Nat) (h : i < s.size) : someB s (i + 1) = (someB s i || !blankB (bt s i)) := by
  unfold someB
  have e := Lib.data_getElem? s i h
  rw [List.take_add_one, e, ← get_bt s i h]
  simp [blankU_eq]
theorem dropWhile_nil {α : Type} (p : α → Bool) : ∀ l : List α, l.dropWhile p = [] ↔ ∀ x ∈ l, p x = true
  | [] => by simp
  | a :: l => by
    simp only [List.dropWhile_cons, List.mem_cons, forall_eq_or_imp]
    cases h : p a
    · simp
    · simp [dropWhile_nil p l]
theorem cutR_nil {α : Type} (p : α → Bool) (l : List α) : cutR p l = [] ↔ ∀ x ∈ l, p x = true := by
  unfold cutR
  rw [List.reverse_eq_nil_iff, dropWhile_nil]
  simp
theorem drop_all {α : Type} (p : α → Bool) : ∀ l : List α, (∀ x ∈ l.dropWhile p, p x = true) ↔ ∀ x ∈ l, p x = true
  | [] => by simp
  | a :: l => by
    rw [List.dropWhile_cons]
    split
    · rename_i h
      simp [drop_all p l, h]
    · rfl
theorem someB_all (s : ByteArray) : someB s s.size = decide (0 < (trimB s).size) := by
  unfold someB
  rw [List.take_of_length_le (by rw [Lib.size_eq]; exact Nat.le_refl _), Bool.eq_iff_iff, decide_eq_true_eq, Lib.size_eq, trimB_eq, List.length_pos_iff, ne_eq, cutR_nil, drop_all, List.any_eq_true]
  constructor
  · rintro ⟨x, hx, h⟩ hall
    rw [hall x hx] at h
    cases h
  · intro h
    exact Classical.byContradiction fun hn => h fun x hx => by
      cases hb : blankU x with
      | true => rfl
      | false => exact absurd ⟨x, hx, by rw [hb]; rfl⟩ hn
/-- The reference's number, without its blanks' look. -/
theorem rnum_at (s : ByteArray) (hs : s.size ≤ 9223372036854775800) (R : Option Int) (hR : numberF s = R) (w : World) :
    Calls Tryz.prog 56 #[.string s] w fun e w' => e = .returned (.tuple #[.int .i64 (R.getD 0), .bool R.isSome]) ∧ w = w' := by
  subst hR; exact rnumber_any s hs w
set_option maxRecDepth 100000 in
set_option maxHeartbeats 4000000 in
theorem rnum17 (s : ByteArray) (hs : s.size ≤ 281474976710656) (x : Int) (b : Bool) (hr : tnumF s = (x, b)) (w : World) :
    Calls Tryz.prog 37 #[.string s] w fun e w' => e = .returned (.tuple #[.int .i64 x, .bool b]) ∧ w = w' := by
  obtain ⟨R, hR⟩ : ∃ R, numberF s = R := ⟨_, rfl⟩
  have HN := Lib.hid (rnum_at s (by omega) R hR)
  have HX : Hid (R.getD 0 = x ∧ (R.isSome && someB s s.size) = b) := by
    unfold tnumF at hr; rw [hR, ← someB_all] at hr
    exact ⟨congrArg Prod.fst hr, congrArg Prod.snd hr⟩
  have hgs := get_bt s
  clear hr hR
  go_enter Tryz.func37, Tryz.ntmps37
  go_wp2_with fail
  refine (HN.out _).mono ?_; rintro e w1 ⟨rfl, rfl⟩
  obtain ⟨y, hy⟩ : ∃ y, y = R.getD 0 := ⟨_, rfl⟩
  obtain ⟨c, hc⟩ : ∃ c, c = R.isSome := ⟨_, rfl⟩
  rw [← hy, ← hc]
  rw [← hy, ← hc] at HX
  clear hy hc HN
  go_wp2_with fail
  go_loopg [6, 7] s.size (fun g s6 s7 wx => wx = w ∧ ∃ i : Nat, i + g = s.size ∧ s6 = .bool (someB s i) ∧ s7 = .int .i64 i)
  case atStart => exact ⟨rfl, 0, by omega, by rw [someB_zero], rfl⟩
  case round =>
    obtain ⟨rfl, i, hig, rfl, rfl⟩ := hrel
    cases gk with
    | zero =>
      obtain rfl : i = s.size := by omega
      obtain ⟨t, ht⟩ : ∃ t, t = someB s s.size := ⟨_, rfl⟩
      rw [← ht]
      rw [← ht] at HX
      clear ht
      cases c
      · go_wp2_with fail
        go_ret2
        exact ⟨by rw [← HX.out.1, ← HX.out.2]; rfl, rfl⟩
      · go_wp2_with fail
        go_ret2
        exact ⟨by rw [← HX.out.1, ← HX.out.2]; rfl, rfl⟩
    | succ g =>
      have hi : i < s.size := by omega
      have hsc := someB_succ s i hi
      obtain ⟨t, ht⟩ : ∃ t, t = someB s i := ⟨_, rfl⟩
      rw [← ht] at hsc
      rw [← ht]
      clear ht
      have HS := Lib.hid hsc
      clear hsc
      cases t
      · by_cases e1 : bt s i = 32
        · have q1 : (bt s i != 32) = false := by simp [e1]
          go_wp2_with fail
          go_roundg g
          case measure => omega
          case rel => exact ⟨rfl, i + 1, by omega, by rw [HS.out, e1]; rfl, rfl⟩
        · have q1 : (bt s i != 32) = true := by simp [e1]
          by_cases e2 : bt s i = 9
          · have q2 : (bt s i != 9) = false := by simp [e2]
            go_wp2_with fail
            go_roundg g
            case measure => omega
            case rel => exact ⟨rfl, i + 1, by omega, by rw [HS.out, e2]; rfl, rfl⟩
          · have q2 : (bt s i != 9) = true := by simp [e2]
            by_cases e3 : bt s i = 10
            · have q3 : (bt s i != 10) = false := by simp [e3]
              go_wp2_with fail
              go_roundg g
              case measure => omega
              case rel => exact ⟨rfl, i + 1, by omega, by rw [HS.out, e3]; rfl, rfl⟩
            · have q3 : (bt s i != 10) = true := by simp [e3]
              go_wp2_with fail
              go_roundg g
              case measure => omega
              case rel => exact ⟨rfl, i + 1, by omega, by rw [HS.out]; simp [blankB, e1, e2, e3], rfl⟩
      · go_wp2_with fail
        go_roundg g
        case measure => omega
        case rel => exact ⟨rfl, i + 1, by omega, by rw [HS.out]; rfl, rfl⟩
end Go.Proofs.YtjpdhbalngpdpaaGreatDoor
