/-
  DERIVED. Small lemmas that the walks of this seat share: what a world keeps below a block, a string of one byte made of a new slice. No program in sight.
-/
import Derived.WalkKit
import Derived.Laws.BytesArg
namespace Go.Proofs.YtdfpijbngbfjaaaGreatDoor
open Go.RowKit
theorem bcell {W w1 : World} (hb : Below W.heap.size W w1) : (∀ b o, b < W.heap.size → w1.cell? ⟨b, o, none⟩ = W.cell? ⟨b, o, none⟩) ∧ (∀ b o, b < W.heap.size → w1.frozen? ⟨b, o, none⟩ = W.frozen? ⟨b, o, none⟩) :=
  ⟨fun b o h => hb.cell (p := ⟨b, o, none⟩) h, fun b o h => hb.frozen (p := ⟨b, o, none⟩) h⟩
/-- 'string(b)' of a slice of one byte. -/
theorem run_str1 {P : Program} {src dst e : TypeId} (hs : P.underlying src = some (.slice e)) (he : P.underlying e = some (.int .u8)) (hd : P.underlying dst = some .string) (w : World) (b cap : Nat) (x : Int)
    (hc : w.cell? ⟨b, 0, none⟩ = some (.int .u8 x)) :
    Sem.run P (convert src dst (.slice (some ⟨b, 0, none⟩) 1 cap)) w = .ok (.string ⟨[UInt8.ofNat x.toNat].toArray⟩) w := by
  have := run_convert_bytes_arg (P := P) w src e hs he b 0 1 cap [x] rfl (fun i hi => by
    obtain rfl : i = 0 := by omega
    simpa using hc) dst hd
  rw [this]
  rfl
/-- Behind a call that leaves what lay below its own beginning. -/
theorem below_call {w w0 w1 : World} (hb : Below w0.heap.size w0 w1) (h : Below w.heap.size w w0) : Below w.heap.size w w1 := h.trans (hb.mono h.size)
theorem below_call_alloc {w w0 w1 : World} (hb : Below w0.heap.size w0 w1) (h : Below w.heap.size w w0) (o : Obj) : Below w.heap.size w (w1.alloc o) := (below_call hb h).alloc (Nat.le_trans h.size hb.size) o
theorem mk_append (a b : List UInt8) : ((⟨a.toArray⟩ : ByteArray) ++ (⟨b.toArray⟩ : ByteArray)) = ⟨(a ++ b).toArray⟩ := by
  apply ByteArray.ext
  simp
theorem ret_str {a b : List UInt8} (h : a = b) : Ending.returned (.string ⟨a.toArray⟩) = .returned (.string ⟨b.toArray⟩) := by rw [h]
theorem ret_int {k : IntKind} {a b : Int} (h : a = b) : Ending.returned (.int k a) = .returned (.int k b) := by rw [h]
end Go.Proofs.YtdfpijbngbfjaaaGreatDoor
