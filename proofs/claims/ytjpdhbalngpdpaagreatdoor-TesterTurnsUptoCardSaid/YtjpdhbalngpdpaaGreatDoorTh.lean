/-
  DERIVED. The walks of the tester's Decide at four; at any number.
-/
import Derived.Test.YtjpdhbalngpdpaaGreatDoorTg
namespace Go.Proofs.YtjpdhbalngpdpaaGreatDoor
open Go.RowKit
set_option maxRecDepth 100000 in
set_option maxHeartbeats 1000000 in
theorem dec4_not (a op b : ByteArray) (hn : CmpOk a op b) (r : DecT) (hq : turnedF (dec3F a op b) = r) (v : Value) (w : World) (hv : StrsAt w v [⟨#[33]⟩, a, op, b]) (hE : Env w) :
    Calls Tryz.prog 11 #[v] w fun e w' => e = .returned (.tuple #[.int .i64 r.n, .agg #[.bool r.ask.neg, .string r.ask.op, .string r.ask.path], .bool r.asks]) ∧ Below w.heap.size w w' := by
  have hv0 := hv
  obtain ⟨p, cap, rfl, hcap, hc⟩ := hv
  rcases hc with hc | ⟨bk, off, rfl, hc⟩
  · cases hc
  have hy := strs_tail hv0; clear hv0
  have c0 : w.cell? ⟨bk, off, none⟩ = some (.string ⟨#[33]⟩) := hc 0 (by simp)
  have l0 := block_lt_of_cell c0
  obtain ⟨d, hd⟩ : ∃ d, dec3F a op b = d := ⟨_, rfl⟩
  have hrng : In02 d := hd ▸ in02_dec3 _ _ _
  rw [hd] at hq
  have H1 := Lib.hid (fun W hW => dec3_any a op b hn d hd (.slice (some ⟨bk, off + 1, none⟩) 3 (cap - 1)) W hW)
  have H2 := Lib.hid (turned_at d r hrng.1 hrng.2 hq)
  have HY := Lib.hid hy
  have HE := Lib.hid hE
  have hcap' : (4 : Int) ≤ (cap : Int) := by simp at hcap; omega
  have hcap'' : ¬ cap = 1 := by omega
  clear hc hcap hn hE hd hrng hq hy
  go_enter Tryz.func11, Tryz.ntmps11
  go_wp2_with fail
  have hb0 := (Below.refl w.heap.size w).alloc (Nat.le_refl _) (.cells #[.bool false, .string ⟨#[]⟩, .string ⟨#[]⟩] 25)
  refine (H1.out _ (HY.out.below hb0) (HE.out.keep hb0)).mono ?_; rintro e w1 ⟨rfl, hb1⟩
  have r1 := (RowIs.new w 25 [.bool false, .string ⟨#[]⟩, .string ⟨#[]⟩]).below hb1
  have B1 := hb0.trans (hb1.mono (by simp))
  clear hb1 hb0
  go_wp2_with fail
  refine (H2.out _).mono ?_; rintro e w2 ⟨rfl, hb2⟩
  obtain ⟨k0, k1, k2, f0, f1, f2, l2⟩ := ask_facts (r1.below hb2)
  have B2 := B1.trans (hb2.mono B1.size)
  go_wp2_with fail
  exact bodyPost_ret (v := r.val) (by simp [results, Tryz.results11, go_sem, DecT.val, k0, k1, k2]) rfl ⟨rfl, ((B2.setCell (Nat.le_refl _) _).setCell (Nat.le_refl _) _).setCell (Nat.le_refl _) _⟩
set_option maxRecDepth 100000 in
set_option maxHeartbeats 1000000 in
theorem dec4_else (a b c d : ByteArray) (ha : a.data.toList ≠ [33]) (v : Value) (w : World) (hv : StrsAt w v [a, b, c, d]) :
    Calls Tryz.prog 11 #[v] w fun e w' => e = .returned (.tuple #[.int .i64 2, .agg #[.bool false, .string ⟨#[]⟩, .string ⟨#[]⟩], .bool false]) ∧ Below w.heap.size w w' := by
  obtain ⟨p, cap, rfl, hcap, hc⟩ := hv
  rcases hc with hc | ⟨bk, off, rfl, hc⟩
  · cases hc
  have c0 : w.cell? ⟨bk, off, none⟩ = some (.string a) := hc 0 (by simp)
  have l0 := block_lt_of_cell c0
  have g : (a.toList == [33]) = false := by rw [Lib.toList_data]; simpa using ha
  have hcap' : (4 : Int) ≤ (cap : Int) := by simp at hcap; omega
  clear hc hcap ha
  go_enter Tryz.func11, Tryz.ntmps11
  go_wp2_with fail
  exact bodyPost_ret (v := DecT.val ⟨2, AskT.none, false⟩) (by simp [results, Tryz.results11, go_sem, DecT.val, AskT.none]) rfl ⟨rfl, by go_grown⟩
/-- What Decide asks of its texts: those that are compared as numbers. -/
def DecOk : List ByteArray → Prop
  | [a, b, c] => CmpOk a b c
  | [_, b, c, d] => CmpOk b c d
  | _ => True
theorem dec_any (ss : List ByteArray) (hok : DecOk ss) (r : DecT) (hr : decF ss = r) (v : Value) (w : World) (hv : StrsAt w v ss) (hE : Env w) :
    Calls Tryz.prog 11 #[v] w fun e w' => e = .returned (.tuple #[.int .i64 r.n, .agg #[.bool r.ask.neg, .string r.ask.op, .string r.ask.path], .bool r.asks]) ∧ Below w.heap.size w w' := by
  subst hr
  match ss, hok, hv with
  | [], _, hv => exact dec0_any v w hv
  | [a], _, hv => exact dec1_any a v w hv
  | [a, b], _, hv => exact dec2_any a b _ rfl v w hv
  | [a, b, c], hok, hv => exact dec3_any a b c hok _ rfl v w hv hE
  | [a, b, c, d], hok, hv =>
    by_cases h : a.data.toList = [33]
    · have := is33 a h
      subst this
      exact dec4_not b c d hok _ (by simp [decF, dec4F]) v w hv hE
    · simp only [decF, dec4F, h, if_false]
      exact dec4_else a b c d h v w hv
  | a :: b :: c :: d :: e :: l, _, hv => exact decN_any _ (by simp) v w hv
end Go.Proofs.YtjpdhbalngpdpaaGreatDoor
