/-
  DERIVED. The walks of the reference's Decide (kinetoscoperef17) at four texts, at more; at any number.
-/
import Derived.Test.YtjpdhbalngpdpaaGreatDoorRz
namespace Go.Proofs.YtjpdhbalngpdpaaGreatDoor
open Go.RowKit
set_option maxRecDepth 100000 in
set_option maxHeartbeats 4000000 in
theorem rd4_not (a op b : ByteArray) (ha : a.size ≤ 281474976710656) (hb : b.size ≤ 281474976710656) (r : DecT) (hr : turnedF (dec3F a op b) = r) (v : Value) (w : World) (hv : StrsAt w v [⟨#[33]⟩, a, op, b]) :
    Calls Tryz.prog 12 #[v] w (RefPost r w) := by
  have hv0 := hv
  obtain ⟨p, cap, rfl, hcap, hc⟩ := hv
  rcases hc with hc | ⟨bk, off, rfl, hc⟩
  · cases hc
  have HY := Lib.hid (strs_tail hv0); clear hv0
  have c0 : w.cell? ⟨bk, off, none⟩ = some (.string ⟨#[33]⟩) := hc 0 (by simp)
  have l0 := block_lt_of_cell c0
  have hcap' : (4 : Int) ≤ (cap : Int) := by simp at hcap; omega
  have hcap'' : ¬ cap = 1 := by simp at hcap; omega
  obtain ⟨d, hd⟩ : ∃ d, dec3F a op b = d := ⟨_, rfl⟩
  have hrng : In02 d := hd ▸ in02_dec3 _ _ _
  rw [hd] at hr
  have H1 := Lib.hid (fun W hW => hd ▸ rd3_any a op b ha hb (.slice (some ⟨bk, off + 1, none⟩) 3 (cap - 1)) W hW)
  have H2 := Lib.hid (rturn_at d r hrng hr)
  clear hc hcap hd hrng hr
  go_enter Tryz.func12, Tryz.ntmps12
  go_wp2_with fail
  refine (H1.out _ (HY.out.below (refW_below w))).mono ?_; rintro e w1 ⟨rfl, hb1⟩
  have r1 := (refW_row w).below hb1
  have B1 := (refW_below w).trans (hb1.mono (by simp))
  clear hb1
  go_wp2_with fail
  refine (H2.out _).mono ?_; rintro e w2 ⟨rfl, hb2⟩
  obtain ⟨k0, k1, k2, k3, k4, f0, f1, f2, f3, f4, l1⟩ := ref_facts (r1.below hb2)
  have B2 := B1.trans (hb2.mono B1.size)
  clear hb2 r1 B1
  go_wp2_with fail
  exact bodyPost_ret (v := refV r) (by simp [results, Tryz.results12, go_sem, refV, k0, k1, k2, k3, k4]) rfl (.of rfl (set5 B2 _ _ _ _ _))
set_option maxRecDepth 100000 in
set_option maxHeartbeats 4000000 in
theorem rd4_else (a b c d : ByteArray) (h1 : a.data.toList ≠ [33]) (v : Value) (w : World) (hv : StrsAt w v [a, b, c, d]) :
    Calls Tryz.prog 12 #[v] w (RefPost ⟨2, AskT.none, false⟩ w) := by
  obtain ⟨p, cap, rfl, hcap, hc⟩ := hv
  rcases hc with hc | ⟨bk, off, rfl, hc⟩
  · cases hc
  have c0 : w.cell? ⟨bk, off, none⟩ = some (.string a) := hc 0 (by simp)
  have l0 := block_lt_of_cell c0
  have g1 : (a.toList == [33]) = false := by rw [Lib.toList_data]; simpa using h1
  have hcap' : (4 : Int) ≤ (cap : Int) := by simp at hcap; omega
  clear hc hcap h1
  go_enter Tryz.func12, Tryz.ntmps12
  go_wp2_with fail
  exact bodyPost_ret (v := refV ⟨2, AskT.none, false⟩) (by simp [results, Tryz.results12, go_sem, refV, AskT.none]) rfl (.of rfl (by go_grown))
set_option maxRecDepth 100000 in
set_option maxHeartbeats 4000000 in
theorem rdN (ss : List ByteArray) (hl : 4 < ss.length) (v : Value) (w : World) (hv : StrsAt w v ss) :
    Calls Tryz.prog 12 #[v] w (RefPost ⟨2, AskT.none, false⟩ w) := by
  obtain ⟨a, cap, rfl, hcap, hc⟩ := hv
  obtain ⟨n, hn⟩ : ∃ n, ss.length = n := ⟨_, rfl⟩
  rw [hn] at hl ⊢
  have g0 : ((n : Int) == 0) = false := by simp; omega
  have g1 : ((n : Int) == 1) = false := by simp; omega
  have g2 : ((n : Int) == 2) = false := by simp; omega
  have g3 : ((n : Int) == 3) = false := by simp; omega
  have g4 : ¬ (n : Int) < 5 := by omega
  clear hc hcap hn hl
  go_enter Tryz.func12, Tryz.ntmps12
  go_wp2_with fail
  exact bodyPost_ret (v := refV ⟨2, AskT.none, false⟩) (by simp [results, Tryz.results12, go_sem, refV, AskT.none]) rfl (.of rfl (by go_grown))
/-- What the reference's Decide comes to. -/
theorem rd_any (ss : List ByteArray) (hs : ∀ s ∈ ss, s.size ≤ 281474976710656) (r : DecT) (hr : decF ss = r) (v : Value) (w : World) (hv : StrsAt w v ss) :
    Calls Tryz.prog 12 #[v] w (RefPost r w) := by
  subst hr
  match ss, hs, hv with
  | [], _, hv => exact rd0 v w hv
  | [a], _, hv => exact rd1 a v w hv
  | [a, b], _, hv => exact rd2_any a b v w hv
  | [a, b, c], hs, hv => exact rd3_any a b c (hs a (by simp)) (hs c (by simp)) v w hv
  | [a, b, c, d], hs, hv =>
    by_cases h : a.data.toList = [33]
    · have := is33 a h
      subst this
      exact rd4_not b c d (hs b (by simp)) (hs d (by simp)) _ (by simp [decF, dec4F]) v w hv
    · simp only [decF, dec4F, h, if_false]
      exact rd4_else a b c d h v w hv
  | a :: b :: c :: d :: e :: l, _, hv => exact rdN _ (by simp) v w hv
end Go.Proofs.YtjpdhbalngpdpaaGreatDoor
