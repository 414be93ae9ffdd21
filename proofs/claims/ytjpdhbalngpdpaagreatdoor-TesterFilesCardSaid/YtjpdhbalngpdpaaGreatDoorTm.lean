/-
  DERIVED. The law TesterFiles's walk, joined.
-/
import Derived.Test.YtjpdhbalngpdpaaGreatDoorTl
namespace Go.Proofs.YtjpdhbalngpdpaaGreatDoor
open Go.RowKit
theorem law_files (path : ByteArray) (hp : path.size ≤ maxLen) (z : Int) (z0 : 0 ≤ z) (z1 : z ≤ 255) (kind err n m : Int) (text : ByteArray) (sl : Option Addr) (sn sc : Nat) (sig : Int) (w : World) (hE : Env w) :
    Calls Tryz.prog 6 #[.string path, .int .u8 z, ansV kind err n m text sl sn sc sig] w
      fun e w' => e = .returned (.bool true) ∧ Below w.heap.size w w' := by
  have h := Int.tmod_eq_emod_of_nonneg (b := 3) z0
  have hc : z.tmod 3 = 0 ∨ z.tmod 3 = 1 ∨ z.tmod 3 = 2 := by omega
  rcases hc with hc | hc | hc
  · exact law_files_0 path hp z hc z0 z1 kind err n m text sl sn sc sig w hE
  · exact law_files_1 path hp z hc z0 z1 kind err n m text sl sn sc sig w hE
  · exact law_files_2 path hp z hc z0 z1 kind err n m text sl sn sc sig w hE
end Go.Proofs.YtjpdhbalngpdpaaGreatDoor
