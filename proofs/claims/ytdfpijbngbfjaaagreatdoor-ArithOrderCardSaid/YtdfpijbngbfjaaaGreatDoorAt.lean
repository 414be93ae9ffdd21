/-
  DERIVED. The walks of arith's pass and need.
-/
import Derived.Test.YtdfpijbngbfjaaaGreatDoorAs
namespace Go.Proofs.YtdfpijbngbfjaaaGreatDoor
open Go.RowKit
theorem signF_prefix (l : List UInt8) : (signF l).isPrefixOf (dropB l) = true := by
  unfold signF
  cases h : signsL.find? (fun s => s.isPrefixOf (dropB l)) with
  | none => rfl
  | some t => exact List.find?_some (p := fun (s : List UInt8) => s.isPrefixOf (dropB l)) h
theorem sign_len {s u x : ByteArray} (hu : u.data.toList = dropB s.data.toList) (ht : signF s.data.toList = x.data.toList) : x.size ≤ u.size := by
  have h := signF_prefix s.data.toList
  rw [ht, ← hu] at h
  have h2 := (List.isPrefixOf_iff_prefix.1 h).length_le
  rw [Lib.size_eq, Lib.size_eq]
  exact h2
set_option maxRecDepth 100000 in
set_option maxHeartbeats 4000000 in
theorem pass_yes (g : Nat) (s u x : ByteArray) (d : Int) (hu : u.data.toList = dropB s.data.toList) (ht : signF s.data.toList = x.data.toList) (w : World)
    (hg : g ≠ 1) (hr : RowIs w g 40 [.string s, .int .i64 d]) (hS : SignsAt w) :
    Calls Tryz.prog 19 #[.pointer (some ⟨g, 0, none⟩), .string x] w fun e w' => e = .returned (.bool true) ∧ RowIs w' g 40 [.string (u.extract x.size u.size), .int .i64 d] ∧ Kept g w w' := by
  have HS := Lib.hid (sign_any g s u d hu x ht w hg hr hS)
  have q1 : (x.toList != x.toList) = false := by simp
  have hlen := sign_len hu ht
  have h1 : (0 : Int) ≤ (x.size : Int) := by omega
  have h2 : (x.size : Int) ≤ (u.size : Int) := by omega
  clear hu ht hr hS hg
  go_enter Tryz.func19, Tryz.ntmps19
  go_wp2_with fail
  refine HS.out.mono ?_; rintro e w1 ⟨rfl, r1, k1⟩
  have c1 : w1.cell? ⟨g, 0, none⟩ = some (.string u) := by rw [r1.cell]; rfl
  have f1 : w1.frozen? ⟨g, 0, none⟩ = false := r1.free _
  have l1 := r1.lt
  have HR1 := Lib.hid r1
  have HK1 := Lib.hid k1
  clear r1 k1
  go_wp2_with fail
  go_ret
  exact ⟨rfl, HR1.out.set 0 _, HK1.out.set 0 _⟩
set_option maxRecDepth 100000 in
set_option maxHeartbeats 4000000 in
theorem pass_no (g : Nat) (s u x : ByteArray) (d : Int) (hu : u.data.toList = dropB s.data.toList) (ht : signF s.data.toList ≠ x.data.toList) (w : World)
    (hg : g ≠ 1) (hr : RowIs w g 40 [.string s, .int .i64 d]) (hS : SignsAt w) :
    Calls Tryz.prog 19 #[.pointer (some ⟨g, 0, none⟩), .string x] w fun e w' => e = .returned (.bool false) ∧ RowIs w' g 40 [.string u, .int .i64 d] ∧ Kept g w w' := by
  obtain ⟨t, ht2⟩ : ∃ t : ByteArray, signF s.data.toList = t.data.toList := ⟨⟨(signF s.data.toList).toArray⟩, rfl⟩
  have HS := Lib.hid (sign_any g s u d hu t ht2 w hg hr hS)
  have q1 : (t.toList == x.toList) = false := by
    rw [Lib.toList_data, Lib.toList_data]
    exact beq_eq_false_iff_ne.2 fun e => ht (ht2.trans e)
  clear hu ht ht2 hr hS hg
  go_enter Tryz.func19, Tryz.ntmps19
  go_wp2_with fail
  refine HS.out.mono ?_; rintro e w1 ⟨rfl, r1, k1⟩
  go_wp2_with fail
  go_ret
  exact ⟨rfl, r1, k1⟩
set_option maxRecDepth 100000 in
set_option maxHeartbeats 4000000 in
theorem need_yes (g : Nat) (s u x : ByteArray) (d : Int) (hu : u.data.toList = dropB s.data.toList) (ht : signF s.data.toList = x.data.toList) (w : World)
    (hg : g ≠ 1) (hr : RowIs w g 40 [.string s, .int .i64 d]) (hS : SignsAt w) :
    Calls Tryz.prog 22 #[.pointer (some ⟨g, 0, none⟩), .string x] w fun e w' => e = .returned (.tuple #[]) ∧ RowIs w' g 40 [.string (u.extract x.size u.size), .int .i64 d] ∧ Kept g w w' := by
  have HP := Lib.hid (pass_yes g s u x d hu ht w hg hr hS)
  clear hu ht hr hS hg
  go_enter Tryz.func22, Tryz.ntmps22
  go_wp2_with fail
  refine HP.out.mono ?_; rintro e w1 ⟨rfl, r1, k1⟩
  go_wp2_with fail
  (try simp only [Exit.inBlock, Exit.then])
  refine bodyPost_end (results_none rfl _ _ _) rfl ?_
  exact ⟨rfl, r1, k1⟩
end Go.Proofs.YtdfpijbngbfjaaaGreatDoor
