/-
  DERIVED. How an argument of type []string is opened: its elements. No walk here.
-/
import Derived.Test.YtmcaphmgjhkgfaaLift
import Derived.Test.YtmcaphmgjhkgfaaGh
import Derived.Deep.Strs
namespace Go.Proofs.Ytmcaphmgjhkgfaa
open Go.ChangeShapes Go.WideShapes Go.ChangeAt Go.RowKit Go.Deep
variable {H : Type} {enc : TypeId × Value → H}
def IsStrs (W : World) (a : Option Addr) (len cap : Nat) (ss : List ByteArray) : Prop := StrsAt W (.slice a len cap) ss ∧ ss.length ≤ maxLen ∧ ∀ s ∈ ss, s.size ≤ maxLen
theorem isStrs_of {P : Program} {W : World} {t e : TypeId} {base : Nat} {spare : Nat → Bool} {held : Bool} {a : Option Addr} {len cap : Nat} {d : DataW H} {p : List MemPlace} (ht : P.underlying t = some (.slice e)) (he : P.underlying e = some .string) (hc : P.cellsOf e = 1)
    (h : DataW.Trod enc P W base spare held t (.slice a len cap) d p) : ∃ ss, IsStrs W a len cap ss := by
  obtain ⟨fuel, hf⟩ := h
  rcases open_strs ht he hc hf with ⟨hcs, _⟩ | ⟨ad, len', cap', m, Sx, hcs, _, hl, hm, hmm, _, hx⟩
  · simp [Value.cells] at hcs
    obtain ⟨rfl, rfl, rfl⟩ := hcs
    exact ⟨[], ⟨none, 0, rfl, .inl rfl⟩, by simp, fun s hs => by simp at hs⟩
  · simp [Value.cells] at hcs
    obtain ⟨rfl, rfl, rfl⟩ := hcs
    have hlm : len ≤ m := by rw [hmm]; split <;> omega
    refine ⟨(List.range len).map Sx, ⟨some ad, cap, by simp, ?_⟩, by simp; omega, fun s hs => ?_⟩
    · by_cases h0 : len = 0
      · left; simp [h0]
      · right
        have h1 := World.cell?_spot (hx 0 (by omega)).1
        obtain ⟨b, o, sp⟩ := ad
        have h2 : sp = none := by simpa [Addr.add] using h1
        subst h2
        refine ⟨b, o, rfl, fun i hi => ?_⟩
        have hi' : i < len := by simpa using hi
        have := (hx i (by omega)).1
        rw [show (⟨b, o, none⟩ : Addr).add i = ⟨b, o + i, none⟩ from by unfold Addr.add; split <;> simp_all] at this
        rw [this]; simp
    · obtain ⟨i, hi, rfl⟩ := List.mem_map.1 hs
      exact (hx i (by have := List.mem_range.1 hi; omega)).2
end Go.Proofs.Ytmcaphmgjhkgfaa
