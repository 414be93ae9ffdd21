/-
  DERIVED. A row of variables in memory; the walk of arith's value.
-/
import Derived.Test.YtdfpijbngbfjaaaGreatDoorAd
import Derived.Test.YtdfpijbngbfjaaaGreatDoorDn
import Derived.Deep.LoopGhost
namespace Go.Proofs.YtdfpijbngbfjaaaGreatDoor
open Go.RowKit
/-- A slice of variables that lies in memory: their names and texts. -/
def VarsAt (w : World) (v : Value) (l : List (ByteArray × ByteArray)) : Prop :=
  ∃ (a : Option Addr) (cap : Nat), v = .slice a l.length cap ∧ l.length ≤ cap ∧ l.length ≤ 1000000000 ∧ (∀ p ∈ l, p.2.size ≤ 1000000000) ∧
    (l = [] ∨ ∃ b off, a = some ⟨b, off, none⟩ ∧ ∀ i (h : i < l.length), w.cell? ⟨b, off + i * 2, none⟩ = some (.string l[i].1) ∧ w.cell? ⟨b, off + i * 2 + 1, none⟩ = some (.string l[i].2))
theorem VarsAt.below {w w' : World} {v : Value} {l : List (ByteArray × ByteArray)} (h : VarsAt w v l) (hb : Below w.heap.size w w') : VarsAt w' v l := by
  obtain ⟨a, cap, hv, hcap, hn, hs, h⟩ := h
  refine ⟨a, cap, hv, hcap, hn, hs, ?_⟩
  rcases h with h | ⟨b, off, ha, hc⟩
  · exact .inl h
  · exact .inr ⟨b, off, ha, fun i hi => ⟨(hb.cell (block_lt_of_cell (hc i hi).1)).trans (hc i hi).1, (hb.cell (block_lt_of_cell (hc i hi).2)).trans (hc i hi).2⟩⟩
/-- What a name comes to; 'none' says nothing. -/
def valF : List (ByteArray × ByteArray) → List UInt8 → Option Int
  | [], _ => some 0
  | p :: l, x => if p.1.data.toList = x then numberF p.2 else valF l x
theorem drop_get {α : Type} (l : List α) (i : Nat) (h : i < l.length) : l.drop i = l[i] :: l.drop (i + 1) := List.drop_eq_getElem_cons h
set_option maxRecDepth 100000 in
set_option maxHeartbeats 4000000 in
theorem value_any (x : ByteArray) (l : List (ByteArray × ByteArray)) (r : Int) (hr : valF l x.data.toList = some r) (v : Value) (w : World) (hv : VarsAt w v l) (hE : Env w) :
    Calls Tryz.prog 30 #[.string x, v] w fun e w' => e = .returned (.int .i64 r) ∧ Below w.heap.size w w' := by
  obtain ⟨a, cap, rfl, hcap, hn, hs, hc⟩ := hv
  rcases hc with rfl | ⟨b, off, rfl, hc⟩
  · simp [valF] at hr
    subst hr
    clear hcap hn hs
    go_enter Tryz.func30, Tryz.ntmps30
    go_wp2_with fail
    go_loopg [11] 0 (fun gk s11 wx => wx = w ∧ s11 = .int .i64 0)
    case atStart => exact ⟨rfl, rfl⟩
    case round =>
      obtain ⟨rfl, rfl⟩ := hrel
      go_wp2_with fail
      go_ret
      exact ⟨rfl, Below.refl _ _⟩
  · have HC := Lib.hid hc
    have HS := Lib.hid hs
    have HR := Lib.hid hr
    have HE := Lib.hid hE
    obtain ⟨N, hN⟩ : ∃ N, l.length = N := ⟨_, rfl⟩
    rw [hN] at hcap hn
    have HN := Lib.hid hN
    rw [hN]
    have hcap' : (N : Int) ≤ (cap : Int) := by omega
    have hnb : (N : Int) ≤ 1000000000 := by omega
    clear hc hs hr hE hN hcap
    go_enter Tryz.func30, Tryz.ntmps30
    go_wp2_with fail
    go_loopg [11] N (fun gk s11 wx => Below w.heap.size w wx ∧ ∃ i : Nat, i + gk = N ∧ s11 = .int .i64 i ∧ Hid (valF (l.drop i) x.data.toList = some r))
    case atStart => exact ⟨Below.refl _ _, 0, by omega, rfl, HR⟩
    case round =>
      obtain ⟨hB, i, hik, rfl, hv⟩ := hrel
      cases gk with
      | zero =>
        obtain rfl : i = N := by omega
        have h0 : Hid (r = 0) := by
          have h := hv.out
          rw [List.drop_of_length_le (by rw [HN.out]; exact Nat.le_refl _)] at h
          simp [valF] at h
          exact h.symm
        have hnl : ¬ (i : Int) < (i : Int) := by omega
        clear hv
        go_wp2_with fail
        go_ret
        exact ⟨by rw [h0.out]; rfl, hB⟩
      | succ gk =>
        have hiN : i < N := by omega
        have hiz : (i : Int) < (N : Int) := by omega
        have hw1 : IntKind.i64.wrap ((i : Int) + 1) = (i : Int) + 1 := wrap_small _ (by omega) (by omega)
        have hil : i < l.length := by rw [HN.out]; exact hiN
        obtain ⟨⟨nm, vl⟩, hp⟩ : ∃ p, l[i] = p := ⟨_, rfl⟩
        have cc := HC.out i hil
        have hsv := HS.out _ (List.getElem_mem hil)
        rw [hp] at cc hsv
        have hvv := hv.out
        rw [drop_get l i hil, hp] at hvv
        have c0 : wr.cell? ⟨b, off + i * 2, none⟩ = some (.string nm) := (hB.cell (p := ⟨b, off + i * 2, none⟩) (block_lt_of_cell cc.1)).trans cc.1
        have c1 : wr.cell? ⟨b, off + i * 2 + 1, none⟩ = some (.string vl) := (hB.cell (p := ⟨b, off + i * 2 + 1, none⟩) (block_lt_of_cell cc.2)).trans cc.2
        have lb := block_lt_of_cell c0
        have HB := Lib.hid hB
        have hvs : vl.size ≤ 1000000000 := hsv
        by_cases hm : nm.data.toList = x.data.toList
        · have q : (nm.toList == x.toList) = true := by rw [Lib.toList_data, Lib.toList_data, hm]; simp
          have hnum : numberF vl = some r := by unfold valF at hvv; rw [if_pos hm] at hvv; exact hvv
          have HN2 := Lib.hid (number_any vl hvs trivial (some r) hnum)
          clear hp cc hil hv hB hvv hm hnum hsv hvs
          go_wp2_with fail
          refine (HN2.out _ (HE.out.keep (HB.out.alloc HB.out.size _))).mono ?_; rintro e w1 ⟨rfl, b1⟩
          have B1 := Lib.hid ((HB.out.alloc HB.out.size (.cells #[.string nm, .string vl] 25)).trans (b1.mono (by simp; have := HB.out.size; omega)))
          clear b1 c0 c1 lb
          go_wp2_with fail
          go_ret
          exact ⟨rfl, B1.out⟩
        · have q : (nm.toList == x.toList) = false := by rw [Lib.toList_data, Lib.toList_data]; simpa using hm
          have HV : Hid (valF (l.drop (i + 1)) x.data.toList = some r) := by unfold valF at hvv; rw [if_neg hm] at hvv; exact hvv
          clear hp cc hil hv hB hvv hm hsv hvs
          go_wp2_with fail
          go_roundg gk
          case measure => omega
          case rel => exact ⟨HB.out.alloc HB.out.size _, i + 1, by omega, rfl, HV⟩
end Go.Proofs.YtdfpijbngbfjaaaGreatDoor
