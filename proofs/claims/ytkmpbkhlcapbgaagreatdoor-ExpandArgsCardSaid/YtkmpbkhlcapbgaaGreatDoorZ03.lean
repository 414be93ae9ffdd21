/-
  DERIVED. The walk of slices.BinarySearchFunc at variables (two cells each), and of env's find.
-/
import Derived.Test.YtkmpbkhlcapbgaaGreatDoorZ02
import Derived.Lib.Hide
namespace Go.Proofs.YtkmpbkhlcapbgaaGreatDoor
open Go.RowKit
/-- Variables in memory. -/
def CellsV (w : World) (b off : Nat) (l : List (ByteArray × ByteArray)) : Prop := ∀ i (h : i < l.length), w.cell? ⟨b, off + i * 2, none⟩ = some (.string l[i].1) ∧ w.cell? ⟨b, off + i * 2 + 1, none⟩ = some (.string l[i].2)
/-- 'cnt' variables lie ahead of the name; whether the next one is it. -/
structure LowAt (l : List (ByteArray × ByteArray)) (s : ByteArray) (cnt : Nat) (fnd : Bool) : Prop where
  le : cnt ≤ l.length
  lo : ∀ t (h : t < l.length), t < cnt → cmpV l[t].1.data.toList s.data.toList < 0
  hi : ∀ t (h : t < l.length), cnt ≤ t → 0 ≤ cmpV l[t].1.data.toList s.data.toList
  is : ∀ h : cnt < l.length, fnd = decide (cmpV l[cnt].1.data.toList s.data.toList = 0)
  no : cnt = l.length → fnd = false
set_option maxRecDepth 100000 in
set_option maxHeartbeats 8000000 in
theorem bsf_any (s : ByteArray) (l : List (ByteArray × ByteArray)) (b off cap : Nat) (hcap : l.length ≤ cap) (hn : l.length ≤ 1000000000) (cnt : Nat) (fnd : Bool) (hl : LowAt l s cnt fnd) (B : Nat) (w : World) (hc : CellsV w b off l)
    (hb : w.cell? ⟨B, 0, none⟩ = some (.func (.func 53) #[] #[])) :
    Calls Tryz.prog 54 #[.slice (some ⟨b, off, none⟩) l.length cap, .string s, .func (.func 55) #[] #[.pointer (some ⟨B, 0, none⟩)]] w fun e w' =>
      e = .returned (.tuple #[.int .i64 (cnt : Nat), .bool fnd]) ∧ Below w.heap.size w w' := by
  have HC := Lib.hid hc
  have HL := Lib.hid hl
  have HB := Lib.hid hb
  have lB := block_lt_of_cell hb
  obtain ⟨N, hN⟩ : ∃ N, l.length = N := ⟨_, rfl⟩
  rw [hN] at hcap hn
  have HN := Lib.hid hN
  rw [hN]
  have hcap' : (N : Int) ≤ (cap : Int) := by omega
  have hnb : (N : Int) ≤ 1000000000 := by omega
  have hle : cnt ≤ N := hN ▸ hl.le
  clear hc hl hb hN hcap
  have HF : Hid (∀ (n x : ByteArray) (W : World), Below w.heap.size w W → Calls Tryz.prog 55 #[.agg #[.string n, .string x], .string s, .pointer (some ⟨B, 0, none⟩)] W fun e w' => e = .returned (.int .i64 (cmpV n.data.toList s.data.toList)) ∧ Below W.heap.size W w') :=
    fun n x W hW => find1_any s n x B W ((hW.cell lB).trans HB.out)
  clear HB
  go_enter Tryz.func54, Tryz.ntmps54
  go_wp2_with fail
  go_loopg [9, 10] N (fun gk s9 s10 wx => Below w.heap.size w wx ∧ ∃ lo hi : Nat, s9 = .int .i64 lo ∧ s10 = .int .i64 hi ∧ lo ≤ cnt ∧ cnt ≤ hi ∧ hi ≤ N ∧ hi - lo ≤ gk)
  case atStart => exact ⟨Below.refl _ _, 0, N, rfl, rfl, by omega, by omega, by omega, by omega⟩
  case round =>
    obtain ⟨hW, lo, hi, rfl, rfl, h1, h2, h3, h4⟩ := hrel
    by_cases hlt : lo < hi
    · obtain ⟨m, hm⟩ : ∃ m, (lo + hi) / 2 = m := ⟨_, rfl⟩
      have hmN : m < l.length := by rw [HN.out]; omega
      obtain ⟨n, hnn⟩ : ∃ n, l[m].1 = n := ⟨_, rfl⟩
      obtain ⟨x, hxx⟩ : ∃ x, l[m].2 = x := ⟨_, rfl⟩
      have hcl := HC.out m hmN
      rw [hnn, hxx] at hcl
      have c0 : wr.cell? ⟨b, off + m * 2, none⟩ = some (.string n) := (hW.cell (block_lt_of_cell hcl.1)).trans hcl.1
      have c1 : wr.cell? ⟨b, off + m * 2 + 1, none⟩ = some (.string x) := (hW.cell (block_lt_of_cell hcl.2)).trans hcl.2
      have hlo : m < cnt → cmpV n.data.toList s.data.toList < 0 := fun h => hnn ▸ HL.out.lo m hmN h
      have hhi : cnt ≤ m → 0 ≤ cmpV n.data.toList s.data.toList := fun h => hnn ▸ HL.out.hi m hmN h
      obtain ⟨c, hcv⟩ : ∃ c, cmpV n.data.toList s.data.toList = c := ⟨_, rfl⟩
      have hF := HF.out n x wr hW
      rw [hcv] at hF hlo hhi
      have HF1 := Lib.hid hF
      have HLO := Lib.hid hlo
      have HHI := Lib.hid hhi
      have HM := Lib.hid hm
      have hmi : ((lo : Int) + (hi : Int)) / 2 = (m : Int) := by omega
      have hm2 : (m : Int) < (N : Int) := by have := HN.out; omega
      clear hcl hnn hxx hcv hF hlo hhi hm hmN
      by_cases hneg : c < 0
      · go_wp2_with fail
        refine (HF1.out).mono ?_; rintro e w1 ⟨rfl, k1⟩
        have K := below_call k1 hW
        go_wp2_with fail
        go_roundg (hi - (m + 1))
        case measure => have := HM.out; omega
        case rel => exact ⟨K, m + 1, hi, by simp, rfl, by have := HHI.out; omega, h2, h3, Nat.le_refl _⟩
      · go_wp2_with fail
        refine (HF1.out).mono ?_; rintro e w1 ⟨rfl, k1⟩
        have K := below_call k1 hW
        go_wp2_with fail
        go_roundg (m - lo)
        case measure => have := HM.out; omega
        case rel => exact ⟨K, lo, m, rfl, rfl, h1, by have := HLO.out; omega, by omega, Nat.le_refl _⟩
    · obtain rfl : hi = lo := by omega
      obtain rfl : cnt = hi := by omega
      by_cases hlast : cnt < N
      · have hmN : cnt < l.length := by rw [HN.out]; omega
        obtain ⟨n, hnn⟩ : ∃ n, l[cnt].1 = n := ⟨_, rfl⟩
        obtain ⟨x, hxx⟩ : ∃ x, l[cnt].2 = x := ⟨_, rfl⟩
        have hcl := HC.out cnt hmN
        rw [hnn, hxx] at hcl
        have c0 : wr.cell? ⟨b, off + cnt * 2, none⟩ = some (.string n) := (hW.cell (block_lt_of_cell hcl.1)).trans hcl.1
        have c1 : wr.cell? ⟨b, off + cnt * 2 + 1, none⟩ = some (.string x) := (hW.cell (block_lt_of_cell hcl.2)).trans hcl.2
        have hfn := HL.out.is hmN
        rw [hnn] at hfn
        obtain ⟨c, hcv⟩ : ∃ c, cmpV n.data.toList s.data.toList = c := ⟨_, rfl⟩
        have hF := HF.out n x wr hW
        rw [hcv] at hF hfn
        have HF1 := Lib.hid hF
        have HFN := Lib.hid hfn
        clear hcl hnn hxx hcv hF hfn hmN
        by_cases hz : c = 0
        · subst hz
          go_wp2_with fail
          refine (HF1.out).mono ?_; rintro e w1 ⟨rfl, k1⟩
          have K := below_call k1 hW
          go_wp2_with fail
          go_ret2
          exact ⟨by rw [HFN.out]; simp, K⟩
        · go_wp2_with fail
          refine (HF1.out).mono ?_; rintro e w1 ⟨rfl, k1⟩
          have K := below_call k1 hW
          go_wp2_with fail
          go_ret2
          exact ⟨by rw [HFN.out]; simp [hz], K⟩
      · have HNO := Lib.hid (HL.out.no (by rw [HN.out]; omega))
        go_wp2_with fail
        go_ret2
        exact ⟨by rw [HNO.out]; simp, hW⟩
end Go.Proofs.YtkmpbkhlcapbgaaGreatDoor
