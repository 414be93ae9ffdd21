/-
  DERIVED. The walk of arith's name.
-/
import Derived.Test.YtdfpijbngbfjaaaGreatDoorAt
namespace Go.Proofs.YtdfpijbngbfjaaaGreatDoor
open Go.RowKit
theorem Kept.alloc {g : Nat} {w w' : World} (h : Kept g w w') (o : Obj) : Kept g w (w'.alloc o) := h.trans (.of ((Below.refl _ _).alloc (Nat.le_refl _) o))
/-- A name, as a tree in memory. -/
def varV (s : ByteArray) : Value := .agg #[.string ⟨#[36]⟩, .int .i64 0, .string s, .slice none 0 0]
set_option maxRecDepth 100000 in
set_option maxHeartbeats 4000000 in
theorem name_yes (g : Nat) (s : ByteArray) (d : Int) (n : Nat) (hs : s.size ≤ 281474976710656) (hn : longZ (bl s) = n) (h0 : 0 < n) (hA : nameAll (bl (s.extract 0 n)) true = true) (w : World)
    (hr : RowIs w g 40 [.string s, .int .i64 d]) :
    Calls Tryz.prog 91 #[.pointer (some ⟨g, 0, none⟩)] w fun e w' => e = .returned (varV (s.extract 0 n)) ∧ RowIs w' g 40 [.string (s.extract n s.size), .int .i64 d] ∧ Kept g w w' := by
  have HL := Lib.hid (long_any s hs n hn)
  have hle : n ≤ s.size := by rw [← hn, ← bl_length]; exact longZ_le _
  have hsz : (s.extract 0 n).size = n := by rw [ByteArray.size_extract]; omega
  have HN := Lib.hid (name_any (s.extract 0 n) (by omega) true hA true (by rw [hsz]; simp [h0]))
  have c0 : w.cell? ⟨g, 0, none⟩ = some (.string s) := by rw [hr.cell]; rfl
  have f0 : w.frozen? ⟨g, 0, none⟩ = false := hr.free _
  have lg := hr.lt
  have h1 : (0 : Int) ≤ (n : Int) := by omega
  have h2 : (n : Int) ≤ (s.size : Int) := by omega
  have HR := Lib.hid hr
  clear hr hn hA hsz hs h0
  go_enter Tryz.func91, Tryz.ntmps91
  go_wp2_with fail
  refine (HL.out _).mono ?_; rintro e w1 ⟨rfl, rfl⟩
  go_wp2_with fail
  refine (HN.out _).mono ?_; rintro e w1 ⟨rfl, rfl⟩
  go_wp2_with fail
  exact bodyPost_ret (v := varV (s.extract 0 n)) (by simp [results, Tryz.results91, go_sem, varV]) rfl ⟨rfl, ((HR.out.set 0 _).alloc _).alloc _, ((((Kept.refl g w).set 0 _).alloc _).alloc _)⟩
end Go.Proofs.YtdfpijbngbfjaaaGreatDoor
