/-
  DERIVED. The walk of the document's in: is a byte one of a set's.
-/
import Derived.Test.YtmcaphmgjhkgfaaDoorRa
namespace Go.Proofs.YtmcaphmgjhkgfaaDoor
open Go.RowKit Gl
def InAt (t m : ByteArray) (i : Nat) (x : Int) (l : List (Int × Int)) (to : Nat) (w : World) (g : Nat) (k is : Value) (wr : World) : Prop :=
  ∃ (n : Nat) (sp : List (Int × Int)), k = .int .i64 n ∧ n ≤ 4000000000 ∧ Hid (RunIn t m i n sp l to) ∧ is = .bool (sp.any (inP x)) ∧ w = wr ∧ to - n ≤ g
theorem inAt_step {t m : ByteArray} {i : Nat} {x : Int} {l : List (Int × Int)} {to : Nat} {w : World} {g n : Nat} {sp : List (Int × Int)} {b : Bool} (HR : RunIn t m i n sp l to) (hn : n ≤ 3000000000) (hl : n + 1 < to)
    (hb : (sp.any (inP x) || inP x (memP t m n)) = b) (hg : to - n ≤ g) : InAt t m i x l to w (g - 1) (.int .i64 (memF t m n)) (.bool b) w := by
  have := memF_gt t m n
  exact ⟨_, _, rfl, by omega, HR.step hl, by rw [← hb, List.any_append]; simp, rfl, by omega⟩
set_option maxHeartbeats 8000000 in
theorem rin_go (t m : ByteArray) (ht : t.size ≤ 1000000000) (i : Nat) (hi : i ≤ 1000000000) (x : Int) (l : List (Int × Int)) (to : Nat) (hs : setLoop t m (setFirst t m i) (setFirst t m i) [] = some (l, to)) (neg : Bool) (hneg : isB t m (i + 1) 33 = neg) (w : World) :
    Calls Tryd.prog 41 #[.string t, .string m, .int .i64 i, .int .i64 to, .int .u8 x] w fun e w' => e = .returned (.bool ((l.any (inP x)) != neg)) ∧ w = w' := by
  have hst := RunIn.start hs
  have hto := hst.lt
  obtain ⟨F, hF⟩ : ∃ F, F = setFirst t m i := ⟨_, rfl⟩
  have hF2 : Hid (F = if neg then i + 2 else i + 1) := by unfold Hid; rw [hF]; unfold setFirst; rw [hneg]
  rw [← hF] at hst hto
  have hFi : i + 1 ≤ F ∧ F ≤ i + 2 := by rw [hF2.out]; split <;> omega
  have HN := Lib.hid hneg; have HST := Lib.hid hst
  have hgt := get_bt t
  have HS : Hid (InAt t m i x l to w to (.int .i64 F) (.bool false) w) := ⟨F, [], rfl, by omega, HST, rfl, rfl, by omega⟩
  clear hneg hst hs hF HST
  have hcs : (neg = false ∧ F = i + 1) ∨ (neg = true ∧ F = i + 2) := by
    have h := hF2.out
    cases neg
    · exact .inl ⟨rfl, h⟩
    · exact .inr ⟨rfl, h⟩
  clear hF2
  rcases hcs with ⟨rfl, rfl⟩ | ⟨rfl, rfl⟩
  all_goals
    go_enter Tryd.func41, Tryd.ntmps41
    go_wp2_with fail
    refine (ris_is t m _ (i + 1) (by omega) _ _ HN.out _).mono ?_; rintro e w1 ⟨rfl, rfl⟩
    go_wp2_with fail
    go_loopg [11, 13, 14] to (fun g k is _ wr => InAt t m i x l to w g k is wr)
    case atStart => exact HS.out
    case round =>
      obtain ⟨n, sp, rfl, hn, HR, rfl, rfl, hg⟩ := hrel
      have HG := Lib.hid hg; clear hg HS
      have hlt := HR.out.lt
      by_cases hl : n + 1 < to
      · have hl2 : (n : Int) < (to : Int) - 1 := by omega
        have hm := memF_gt t m n
        have hml := memF_le t m n hlt.1
        obtain ⟨q, hq⟩ : ∃ q, q + 1 = memF t m n := ⟨memF t m n - 1, by omega⟩
        have hmp : Hid (memP t m n = (bt t n, bt t q)) := by unfold Hid; rw [memP_eq, ← hq]; rfl
        have hgo : Hid (∀ b, (sp.any (inP x) || inP x (memP t m n)) = b → InAt t m i x l to w (gk - 1) (.int .i64 ((q : Int) + 1)) (.bool b) w) := fun b hb => by
          have := inAt_step (w := w) HR.out (by omega) hl hb HG.out
          rw [← hq] at this; exact this
        rw [hmp.out] at hgo
        have HQ := Lib.hid hq
        have hqs : q < t.size := by omega
        clear hm hml hq hmp
        obtain ⟨s0, hs0⟩ : ∃ s0, s0 = sp.any (inP x) := ⟨_, rfl⟩
        rw [← hs0] at hgo; rw [← hs0]
        clear hs0
        have hpos : 0 < gk := by have := HG.out; omega
        cases s0
        · by_cases h1 : bt t n ≤ x
          · by_cases h2 : x ≤ bt t q
            · go_wp2_with fail
              refine (rmember_at t m ht _ n (by omega) (by omega) _).mono ?_; rintro e w1 ⟨rfl, rfl⟩
              rw [← HQ.out]
              go_wp2_with fail
              go_roundg (gk - 1)
              case measure => omega
              case rel => exact hgo.out true (by simp [inP, h1, h2])
            · go_wp2_with fail
              refine (rmember_at t m ht _ n (by omega) (by omega) _).mono ?_; rintro e w1 ⟨rfl, rfl⟩
              rw [← HQ.out]
              go_wp2_with fail
              go_roundg (gk - 1)
              case measure => omega
              case rel => exact hgo.out _ (by simp [inP, h1])
          · go_wp2_with fail
            refine (rmember_at t m ht _ n (by omega) (by omega) _).mono ?_; rintro e w1 ⟨rfl, rfl⟩
            rw [← HQ.out]
            go_wp2_with fail
            go_roundg (gk - 1)
            case measure => omega
            case rel => exact hgo.out false (by simp [inP]; omega)
        · go_wp2_with fail
          refine (rmember_at t m ht _ n (by omega) (by omega) _).mono ?_; rintro e w1 ⟨rfl, rfl⟩
          rw [← HQ.out]
          go_wp2_with fail
          go_roundg (gk - 1)
          case measure => omega
          case rel => exact hgo.out true (by simp)
      · have he := HR.out.fin hl
        subst he
        have hl2 : ¬ (n : Int) < (to : Int) - 1 := by omega
        obtain ⟨s0, hs0⟩ : ∃ s0, s0 = sp.any (inP x) := ⟨_, rfl⟩
        have HS0 := Lib.hid hs0; clear hs0
        rw [← HS0.out]
        cases s0
        all_goals
          go_wp2_with fail
          go_ret
          exact ⟨by rw [← HS0.out]; rfl, rfl⟩
/-- As the set says it. -/
theorem rin_any (t m : ByteArray) (ht : t.size ≤ 1000000000) (i : Nat) (hi : i ≤ 1000000000) (x : Int) (r : Sg × Nat) (hs : setAt t m i = some r) (w : World) :
    Calls Tryd.prog 41 #[.string t, .string m, .int .i64 i, .int .i64 r.2, .int .u8 x] w fun e w' => e = .returned (.bool (r.1.has x)) ∧ w = w' := by
  rw [setAt_loop, Option.map_eq_some_iff] at hs
  obtain ⟨q, hq, rfl⟩ := hs
  exact rin_go t m ht i hi x q.1 q.2 hq _ rfl w
end Go.Proofs.YtmcaphmgjhkgfaaDoor
