/-
  DERIVED. How an argument of type []string is opened: its elements. No walk here. Set at what is no name; the law's few, of what it is asked without a word.
-/
import Derived.Test.YtkmpbkhlcapbgaaGreatDoorZ47
import Derived.Deep.Strs
import Derived.Test.YtkmpbkhlcapbgaaGreatDoorZ16
import Derived.Deep.LoopGhost
namespace Go.Proofs.YtkmpbkhlcapbgaaGreatDoor
open Go.ChangeShapes Go.WideShapes Go.ChangeAt Go.RowKit Go.Deep
variable {H : Type} {enc : TypeId × Value → H}
/-- A slice of texts in memory. -/
structure IsStrs (W : World) (a : Option Addr) (len cap : Nat) (ss : List ByteArray) : Prop where
  len : len = ss.length
  cap : ss.length ≤ cap
  few : ss.length ≤ maxLen
  short : ∀ s ∈ ss, s.size ≤ maxLen
  cells : ss = [] ∨ ∃ b off, a = some ⟨b, off, none⟩ ∧ ∀ i (h : i < ss.length), W.cell? ⟨b, off + i, none⟩ = some (.string ss[i])
theorem isStrs_of {P : Program} {W : World} {t e : TypeId} {base : Nat} {spare : Nat → Bool} {held : Bool} {a : Option Addr} {len cap : Nat} {d : DataW H} {p : List MemPlace} (ht : P.underlying t = some (.slice e)) (he : P.underlying e = some .string) (hc : P.cellsOf e = 1)
    (h : DataW.Trod enc P W base spare held t (.slice a len cap) d p) : ∃ ss, IsStrs W a len cap ss := by
  obtain ⟨fuel, hf⟩ := h
  rcases open_strs ht he hc hf with ⟨hcs, _⟩ | ⟨ad, len', cap', m, Sx, hcs, _, hl, hm, hmm, _, hx⟩
  · simp [Value.cells] at hcs
    obtain ⟨rfl, rfl, rfl⟩ := hcs
    exact ⟨[], rfl, Nat.le_refl _, by simp, fun s hs => by simp at hs, .inl rfl⟩
  · simp [Value.cells] at hcs
    obtain ⟨rfl, rfl, rfl⟩ := hcs
    have hlm : len ≤ m := by rw [hmm]; split <;> omega
    refine ⟨(List.range len).map Sx, by simp, by simpa using hl, by simp; omega, fun s hs => ?_, ?_⟩
    · obtain ⟨i, hi, rfl⟩ := List.mem_map.1 hs
      exact (hx i (by have := List.mem_range.1 hi; omega)).2
    · by_cases h0 : len = 0
      · left; simp [h0]
      · right
        have h1 := World.cell?_spot (hx 0 (by omega)).1
        obtain ⟨b, o, sp⟩ := ad
        have h2 : sp = none := by simpa [Addr.add] using h1
        subst h2
        refine ⟨b, o, rfl, fun i hi => ?_⟩
        have hi' : i < len := by simpa using hi
        have := (hx i (by omega)).1
        rw [show (⟨b, o, none⟩ : Addr).add i = ⟨b, o + i, none⟩ from by unfold Addr.add; split <;> simp_all] at this
        rw [this]; simp
end Go.Proofs.YtkmpbkhlcapbgaaGreatDoor
namespace Go.Proofs.YtkmpbkhlcapbgaaGreatDoor
open Go Go.RowKit
set_option maxRecDepth 100000 in
set_option maxHeartbeats 8000000 in
theorem set_no (s x : ByteArray) (hs : s.size ≤ 281474976710656) (hn : isName s.data.toList = false) (va : Option Addr) (nv cv : Nat) (aa : Option Addr) (na ca : Nat) (st : Int) (fl : ByteArray) (w : World) :
    Calls Tryz.prog 13 #[.agg #[.slice va nv cv, .slice aa na ca, .int .i64 st, .string fl], .string s, .string x] w fun r w' => r = .returned (.agg #[.slice va nv cv, .slice aa na ca, .int .i64 st, .string fl]) ∧ Below w.heap.size w w' := by
  have HN := Lib.hid (fun W => name_at s false hs hn W)
  clear hn hs
  go_enter Tryz.func13, Tryz.ntmps13
  go_wp2_with fail
  refine (HN.out _).mono ?_; rintro e w1 ⟨rfl, rfl⟩
  go_wp2_with fail
  exact bodyPost_ret (v := .agg #[.slice va nv cv, .slice aa na ca, .int .i64 st, .string fl]) (by simp [results, Tryz.results13, go_sem]) rfl ⟨rfl, by go_grown⟩
/-- A slice of pairs of texts in memory. -/
structure IsBinds (W : World) (a : Option Addr) (len cap : Nat) (L : List (ByteArray × ByteArray)) : Prop where
  len : len = L.length
  cap : L.length ≤ cap
  few : L.length ≤ maxLen
  short : ∀ p ∈ L, p.1.size ≤ maxLen ∧ p.2.size ≤ maxLen
  cells : L = [] ∨ ∃ b off, a = some ⟨b, off, none⟩ ∧ CellsV W b off L
structure FewOK (L : List (ByteArray × ByteArray)) (A : List ByteArray) : Prop where
  binds : ∀ p ∈ L, p.1.size ≤ 20 ∧ p.2.size ≤ 30
  args : ∀ a ∈ A, a.size ≤ 30
  l : L.length ≤ 12
  a : A.length ≤ 8
def FewPost (L : List (ByteArray × ByteArray)) (A : List ByteArray) (w : World) (e : Ending) (w' : World) : Prop := ∃ b : Bool, e = .returned (.bool b) ∧ (b = true → FewOK L A) ∧ w' = w
set_option maxRecDepth 100000 in
set_option maxHeartbeats 8000000 in
theorem few_any (a : Option Addr) (len cap : Nat) (L : List (ByteArray × ByteArray)) (a2 : Option Addr) (len2 cap2 : Nat) (A : List ByteArray) (w : World) (hL : IsBinds w a len cap L) (hA : IsStrs w a2 len2 cap2 A) :
    Calls Tryz.prog 10 #[.slice a len cap, .slice a2 len2 cap2, .string ⟨#[]⟩] w (FewPost L A w) := by
  obtain ⟨rfl, -, hf1, hs1, hc1⟩ := hL
  obtain ⟨rfl, -, hf2, hs2, hc2⟩ := hA
  have hll : L.length ≤ 9223372036854775807 := by unfold maxLen at hf1; omega
  have hal : A.length ≤ 9223372036854775807 := by unfold maxLen at hf2; omega
  have HC1 := Lib.hid hc1
  have HC2 := Lib.hid hc2
  clear hc1 hc2 hs1 hs2 hf1 hf2
  go_enter Tryz.func10, Tryz.ntmps10
  go_wp2_with fail
  go_loopg [7] L.length (fun g s7 wx => wx = w ∧ ∃ i : Nat, i + g = L.length ∧ s7 = .int .i64 i ∧ Hid (∀ j (h : j < L.length), j < i → L[j].1.size ≤ 20 ∧ L[j].2.size ≤ 30))
  case atStart => exact ⟨rfl, 0, by omega, rfl, fun j _ h => by omega⟩
  case round =>
    obtain ⟨rfl, i, hig, rfl, hrel⟩ := hrel
    cases gk with
    | succ g =>
      have hi : i < L.length := by omega
      obtain ⟨b, off, rfl, hc⟩ : ∃ b off, a = some ⟨b, off, none⟩ ∧ CellsV wr b off L := by
        rcases HC1.out with h | h
        · rw [h] at hi; simp at hi
        · exact h
      obtain ⟨c0, c1⟩ := hc i hi
      obtain ⟨s, hs⟩ : ∃ s, L[i].1 = s := ⟨_, rfl⟩
      obtain ⟨t, ht⟩ : ∃ t, L[i].2 = t := ⟨_, rfl⟩
      rw [hs] at c0
      rw [ht] at c1
      clear hc
      by_cases h1 : 20 < s.size
      · have h1' : (20 : Int) < (s.size : Int) := by omega
        clear hrel hs ht
        go_wp2_with fail
        go_ret
        exact ⟨false, rfl, (fun h => nomatch h), rfl⟩
      · have h1' : ¬ (20 : Int) < (s.size : Int) := by omega
        by_cases h2 : 30 < t.size
        · have h2' : (30 : Int) < (t.size : Int) := by omega
          clear hrel hs ht
          go_wp2_with fail
          go_ret
          exact ⟨false, rfl, (fun h => nomatch h), rfl⟩
        · have h2' : ¬ (30 : Int) < (t.size : Int) := by omega
          have hn : Hid (∀ j (h : j < L.length), j < i + 1 → L[j].1.size ≤ 20 ∧ L[j].2.size ≤ 30) := fun j hj hji => by
            rcases Nat.lt_or_ge j i with q | q
            · exact hrel.out j hj q
            · obtain rfl : j = i := by omega
              rw [hs, ht]; omega
          clear hrel hs ht h1 h2
          go_wp2_with fail
          go_roundg g
          case measure => omega
          case rel => exact ⟨rfl, i + 1, by omega, by go_num, hn⟩
    | zero =>
      obtain rfl : i = L.length := by omega
      have hb : ∀ p ∈ L, p.1.size ≤ 20 ∧ p.2.size ≤ 30 := fun p hp => by
        obtain ⟨j, hj, rfl⟩ := List.getElem_of_mem hp
        exact hrel.out j hj hj
      have HB := Lib.hid hb
      clear hb hrel
      go_wp2_with fail
      go_loopg [8] A.length (fun g s8 wx => wx = wr ∧ ∃ i : Nat, i + g = A.length ∧ s8 = .int .i64 i ∧ Hid (∀ j (h : j < A.length), j < i → A[j].size ≤ 30))
      case atStart => exact ⟨rfl, 0, by omega, rfl, fun j _ h => by omega⟩
      case round =>
        obtain ⟨rfl, i, hig2, rfl, hrel⟩ := hrel
        cases gk with
        | succ g =>
          have hi : i < A.length := by omega
          obtain ⟨b, off, rfl, hc⟩ : ∃ b off, a2 = some ⟨b, off, none⟩ ∧ ∀ i (h : i < A.length), wr.cell? ⟨b, off + i, none⟩ = some (.string A[i]) := by
            rcases HC2.out with h | h
            · rw [h] at hi; simp at hi
            · exact h
          have c0 := hc i hi
          obtain ⟨s, hs⟩ : ∃ s, A[i] = s := ⟨_, rfl⟩
          rw [hs] at c0
          clear hc
          by_cases h1 : 30 < s.size
          · have h1' : (30 : Int) < (s.size : Int) := by omega
            clear hrel hs
            go_wp2_with fail
            go_ret
            exact ⟨false, rfl, (fun h => nomatch h), rfl⟩
          · have h1' : ¬ (30 : Int) < (s.size : Int) := by omega
            have hn : Hid (∀ j (h : j < A.length), j < i + 1 → A[j].size ≤ 30) := fun j hj hji => by
              rcases Nat.lt_or_ge j i with q | q
              · exact hrel.out j hj q
              · obtain rfl : j = i := by omega
                rw [hs]; omega
            clear hrel hs h1
            go_wp2_with fail
            go_roundg g
            case measure => omega
            case rel => exact ⟨rfl, i + 1, by omega, by go_num, hn⟩
        | zero =>
          obtain rfl : i = A.length := by omega
          have ha : ∀ p ∈ A, p.size ≤ 30 := fun p hp => by
            obtain ⟨j, hj, rfl⟩ := List.getElem_of_mem hp
            exact hrel.out j hj hj
          have HA := Lib.hid ha
          clear ha hrel
          go_wp2_with fail
          go_loopg [9, 10] 0 (fun g s9 s10 wx => wx = wr ∧ s9 = .int .i64 0 ∧ s10 = .int .i64 0)
          case atStart => exact ⟨rfl, rfl, rfl⟩
          case round =>
            obtain ⟨rfl, rfl, rfl⟩ := hrel
            by_cases h1 : L.length ≤ 12
            · have h1' : (L.length : Int) ≤ 12 := by omega
              by_cases h2 : A.length ≤ 8
              · have h2' : (A.length : Int) ≤ 8 := by omega
                have HK : Hid (FewOK L A) := ⟨HB.out, HA.out, h1, h2⟩
                clear h1 h2
                go_wp2_with fail
                go_ret
                exact ⟨true, rfl, fun _ => HK.out, rfl⟩
              · have h2' : ¬ (A.length : Int) ≤ 8 := by omega
                clear h1 h2
                go_wp2_with fail
                go_ret
                exact ⟨false, rfl, (fun h => nomatch h), rfl⟩
            · have h1' : ¬ (L.length : Int) ≤ 12 := by omega
              clear h1
              go_wp2_with fail
              go_ret
              exact ⟨false, rfl, (fun h => nomatch h), rfl⟩
end Go.Proofs.YtkmpbkhlcapbgaaGreatDoor
