/-
  DERIVED. The walks of the tester's Decide at three, at four, at more.
-/
import Derived.Test.YtjpdhbalngpdpaaGreatDoorTe
namespace Go.Proofs.YtjpdhbalngpdpaaGreatDoor
open Go.RowKit
theorem StrsAt.tail {P : Program} {w : World} {v : Value} {s : ByteArray} {ss : List ByteArray} (h : StrsAt w v (s :: ss)) (t : TypeId) (ht : P.underlying t = some (.slice (P.elem t))) (hs : ∀ w', (sizeOf (P.elem t)).run P w' = .ok 1 w') :
    ∃ y, (∀ w', (Instr.slice t v (some (.int .i64 1)) none none).run P w' = .ok y w') ∧ StrsAt w y ss := by
  obtain ⟨a, cap, rfl, hcap, h⟩ := h
  rcases h with h | ⟨b, off, rfl, hc⟩
  · cases h
  have hl : (s :: ss).length = ss.length + 1 := rfl
  refine ⟨.slice (if cap = 1 then some ⟨b, off, none⟩ else some ⟨b, off + 1, none⟩) ss.length (cap - 1), fun w' => ?_, ?_⟩
  · rw [run_slice_l w' t _ (s :: ss).length cap ht .i64 1 (by omega) (by simp only [List.length_cons]; omega), hs w']
    simp only [Result.andThen, sliced, List.length_cons]
    by_cases hc1 : cap = 1
    · simp [hc1]
    · simp [hc1, Addr.add]
  · refine ⟨_, cap - 1, rfl, by simp only [List.length_cons] at hcap; omega, ?_⟩
    by_cases hc1 : cap = 1
    · left
      simp only [List.length_cons] at hcap
      exact List.length_eq_zero_iff.1 (by omega)
    · right
      refine ⟨b, off + 1, by rw [if_neg hc1], fun i hi => ?_⟩
      have := hc (i + 1) (by simp; omega)
      simp only [List.getElem_cons_succ] at this
      rw [show off + 1 + i = off + (i + 1) by omega]; exact this
def dec3F (a op b : ByteArray) : DecT :=
  if (compareF a op.data.toList b).2 then ⟨(compareF a op.data.toList b).1, AskT.none, false⟩ else if a.data.toList = [33] then turnedF (twoF op.data.toList b) else ⟨2, AskT.none, false⟩
def dec4F (a b c d : ByteArray) : DecT := if a.data.toList = [33] then turnedF (dec3F b c d) else ⟨2, AskT.none, false⟩
def decF : List ByteArray → DecT
  | [] => ⟨1, AskT.none, false⟩
  | [a] => dec1F a
  | [a, b] => twoF a.data.toList b
  | [a, b, c] => dec3F a b c
  | [a, b, c, d] => dec4F a b c d
  | _ => ⟨2, AskT.none, false⟩
def In02 (d : DecT) : Prop := 0 ≤ d.n ∧ d.n ≤ 2
theorem in02_turned {d : DecT} (h : In02 d) : In02 (turnedF d) := by
  unfold In02 turnedF at *; split
  · exact h
  · simp only; split <;> omega
theorem in02_dec1 (s : ByteArray) : In02 (dec1F s) := truthF_le _
theorem in02_two (op : List UInt8) (s : ByteArray) : In02 (twoF op s) := by
  unfold twoF
  split
  · exact in02_turned (in02_dec1 s)
  split
  · exact truthF_le _
  split
  · exact truthF_le _
  split <;> simp [In02]
theorem in02_compare (a : ByteArray) (op : List UInt8) (b : ByteArray) : 0 ≤ (compareF a op b).1 ∧ (compareF a op b).1 ≤ 2 := by
  unfold compareF
  split
  · exact truthF_le _
  split
  · exact truthF_le _
  split
  · simp
  split
  · exact truthF_le _
  · simp
theorem in02_dec3 (a op b : ByteArray) : In02 (dec3F a op b) := by
  unfold dec3F
  split
  · exact in02_compare a _ b
  split
  · exact in02_turned (in02_two _ _)
  · simp [In02]
set_option maxRecDepth 100000 in
set_option maxHeartbeats 8000000 in
/-- More than four. -/
theorem decN_any (ss : List ByteArray) (hl : 4 < ss.length) (v : Value) (w : World) (hv : StrsAt w v ss) :
    Calls Tryz.prog 11 #[v] w fun e w' => e = .returned (DecT.val ⟨2, AskT.none, false⟩) ∧ Below w.heap.size w w' := by
  obtain ⟨a, cap, rfl, hcap, hc⟩ := hv
  obtain ⟨n, hn⟩ : ∃ n, ss.length = n := ⟨_, rfl⟩
  rw [hn] at hl ⊢
  have g0 : ((n : Int) == 0) = false := by simp; omega
  have g1 : ((n : Int) == 1) = false := by simp; omega
  have g2 : ((n : Int) == 2) = false := by simp; omega
  have g3 : ((n : Int) == 3) = false := by simp; omega
  have g4 : ((n : Int) == 4) = false := by simp; omega
  clear hc hcap hn hl
  go_enter Tryz.func11, Tryz.ntmps11
  go_wp2_with fail
  exact bodyPost_ret (v := DecT.val ⟨2, AskT.none, false⟩) (by simp [results, Tryz.results11, go_sem, DecT.val, AskT.none]) rfl ⟨rfl, by go_grown⟩
/-- What holds while Decide's region of three draws. -/
def LawE (w : World) (b off : Nat) (s t u : ByteArray) (wx : World) : Prop :=
  w.cell? ⟨b, off, none⟩ = some (.string s) ∧ w.cell? ⟨b, off + 1, none⟩ = some (.string t) ∧ w.cell? ⟨b, off + 2, none⟩ = some (.string u) ∧ Env w ∧ Below w.heap.size w wx ∧ RowIs wx w.heap.size 25 [.bool false, .string ⟨#[]⟩, .string ⟨#[]⟩]
theorem LawE.start {w : World} {b off : Nat} {s t u : ByteArray} (h0 : w.cell? ⟨b, off, none⟩ = some (.string s)) (h1 : w.cell? ⟨b, off + 1, none⟩ = some (.string t)) (h2 : w.cell? ⟨b, off + 2, none⟩ = some (.string u)) (hE : Env w) : LawE w b off s t u (w.alloc (.cells #[.bool false, .string ⟨#[]⟩, .string ⟨#[]⟩] 25)) :=
  ⟨h0, h1, h2, hE, (Below.refl _ _).alloc (Nat.le_refl _) _, RowIs.new _ _ _⟩
theorem LawE.next {w wx wy : World} {b off : Nat} {s t u : ByteArray} (h : LawE w b off s t u wx) (hb : Below wx.heap.size wx wy) : LawE w b off s t u wy := by
  obtain ⟨h0, h1, h2, hE, hB, hr⟩ := h
  exact ⟨h0, h1, h2, hE, hB.trans (hb.mono hB.size), hr.below hb⟩
theorem LawE.drew {w wx : World} {b off : Nat} {s t u : ByteArray} (h : LawE w b off s t u wx) : LawE w b off s t u wx.drew := h.next (Below.refl _ _).drew
theorem LawE.env {w wx : World} {b off : Nat} {s t u : ByteArray} (h : LawE w b off s t u wx) : Env wx := h.2.2.2.1.keep h.2.2.2.2.1
theorem LawE.facts {w wx : World} {b off : Nat} {s t u : ByteArray} (h : LawE w b off s t u wx) : wx.cell? ⟨b, off, none⟩ = some (.string s) ∧ wx.cell? ⟨b, off + 1, none⟩ = some (.string t) ∧ wx.cell? ⟨b, off + 2, none⟩ = some (.string u) := by
  obtain ⟨h0, h1, h2, hE, hB, hr⟩ := h
  exact ⟨(hB.cell (p := ⟨b, off, none⟩) (block_lt_of_cell h0)).trans h0, (hB.cell (p := ⟨b, off + 1, none⟩) (block_lt_of_cell h1)).trans h1, (hB.cell (p := ⟨b, off + 2, none⟩) (block_lt_of_cell h2)).trans h2⟩
theorem LawE.all {w wx : World} {b off : Nat} {s t u : ByteArray} (h : LawE w b off s t u wx) : wx.cell? ⟨b, off, none⟩ = some (.string s) ∧ wx.cell? ⟨b, off + 1, none⟩ = some (.string t) ∧ wx.cell? ⟨b, off + 2, none⟩ = some (.string u) ∧ LawE w b off s t u wx := ⟨h.facts.1, h.facts.2.1, h.facts.2.2, h⟩
/-- What Decide at three asks of its texts. -/
def CmpOk (a op b : ByteArray) : Prop := numOp op.data.toList → (a.size ≤ 1000000000 ∧ b.size ≤ 1000000000) ∧ Ascii a ∧ Ascii b
set_option maxRecDepth 100000 in
set_option maxHeartbeats 8000000 in
theorem dec3_yes (a op b : ByteArray) (hn : CmpOk a op b) (n : Int) (hr : compareF a op.data.toList b = (n, true)) (v : Value) (w : World) (hv : StrsAt w v [a, op, b]) (hE : Env w) :
    Calls Tryz.prog 11 #[v] w fun e w' => e = .returned (.tuple #[.int .i64 n, .agg #[.bool false, .string ⟨#[]⟩, .string ⟨#[]⟩], .bool false]) ∧ Below w.heap.size w w' := by
  obtain ⟨p, cap, rfl, hcap, hc⟩ := hv
  rcases hc with hc | ⟨bk, off, rfl, hc⟩
  · cases hc
  have c0 : w.cell? ⟨bk, off, none⟩ = some (.string a) := hc 0 (by simp)
  have c1 : w.cell? ⟨bk, off + 1, none⟩ = some (.string op) := hc 1 (by simp)
  have c2 : w.cell? ⟨bk, off + 2, none⟩ = some (.string b) := hc 2 (by simp)
  have L0 := (LawE.start c0 c1 c2 hE).drew
  have HC := Lib.hid (compares_any a op b hn n true hr)
  have hcap' : (3 : Int) ≤ (cap : Int) := by simp at hcap; omega
  clear hc hcap hr c0 c1 c2 hn hE
  go_enter Tryz.func11, Tryz.ntmps11
  go_wp2_with fail
  go_region_held3 (fun wx => wx.cell? ⟨bk, off, none⟩ = some (.string a) ∧ wx.cell? ⟨bk, off + 1, none⟩ = some (.string op) ∧ wx.cell? ⟨bk, off + 2, none⟩ = some (.string b) ∧ LawE w bk off a op b wx) (exact LawE.all (by assumption))
    ((go_at_call 19; refine (HC.out _ (LawE.env (by assumption))).mono ?_; rintro e wn ⟨rfl, hb⟩; have hn := LawE.next (by assumption) hb))
  all_goals
    obtain ⟨k0, k1, k2, f0, f1, f2, l2⟩ := ask_facts hn.2.2.2.2.2
    go_wp2_with fail
    exact bodyPost_ret (v := DecT.val ⟨n, AskT.none, false⟩) (by simp [results, Tryz.results11, go_sem, DecT.val, AskT.none, k0, k1, k2]) rfl ⟨rfl, ((hn.2.2.2.2.1.setCell (Nat.le_refl _) _).setCell (Nat.le_refl _) _).setCell (Nat.le_refl _) _⟩

end Go.Proofs.YtjpdhbalngpdpaaGreatDoor
