/-
  DERIVED. The walks of the reference's Decide (kinetoscoperef17) at two texts: printed by gen_rdec.py.
-/
import Derived.Test.YtjpdhbalngpdpaaGreatDoorRx
namespace Go.Proofs.YtjpdhbalngpdpaaGreatDoor
open Go.RowKit
set_option maxRecDepth 100000 in
set_option maxHeartbeats 8000000 in
theorem rd2_not (t : ByteArray) (r : DecT) (hr : turnedF (dec1F t) = r) (v : Value) (w : World) (hv : StrsAt w v [⟨#[33]⟩, t]) : Calls Tryz.prog 12 #[v] w (RefPost r w) := by
  have hv0 := hv
  obtain ⟨p, cap, rfl, hcap, hc⟩ := hv
  rcases hc with hc | ⟨bk, off, rfl, hc⟩
  · cases hc
  have c0 : w.cell? ⟨bk, off, none⟩ = some (.string ⟨#[33]⟩) := hc 0 (by simp)
  have c1 : w.cell? ⟨bk, off + 1, none⟩ = some (.string t) := hc 1 (by simp)
  have l0 := block_lt_of_cell c0
  have hcap' : (2 : Int) ≤ (cap : Int) := by simp at hcap; omega
  have hcap'' : ¬ cap = 1 := by omega
  have HY := Lib.hid (strs_tail hv0); clear hv0
  obtain ⟨d, hd⟩ : ∃ d, dec1F t = d := ⟨_, rfl⟩
  have hrng : In02 d := hd ▸ in02_dec1 _
  rw [hd] at hr
  have H1 := Lib.hid (fun W hW => hd ▸ rd1 t (.slice (some ⟨bk, off + 1, none⟩) 1 (cap - 1)) W hW)
  have H2 := Lib.hid (rturn_at d r hrng hr)
  clear hd hrng hr
  clear hc hcap
  go_enter Tryz.func12, Tryz.ntmps12
  go_wp2_with fail
  refine (H1.out _ (HY.out.below (refW_below w))).mono ?_; rintro e w1 ⟨rfl, hb1⟩
  have r1 := (refW_row w).below hb1
  have B1 := (refW_below w).trans (hb1.mono (by simp))
  clear hb1
  go_wp2_with fail
  refine (H2.out _).mono ?_; rintro e w2 ⟨rfl, hb2⟩
  obtain ⟨k0, k1, k2, k3, k4, f0, f1, f2, f3, f4, l1⟩ := ref_facts (r1.below hb2)
  have B2 := B1.trans (hb2.mono B1.size)
  clear hb2 r1 B1
  go_wp2_with fail
  exact bodyPost_ret (v := refV r) (by simp [results, Tryz.results12, go_sem, refV, k0, k1, k2, k3, k4]) rfl (.of rfl (set5 B2 _ _ _ _ _))
set_option maxRecDepth 100000 in
set_option maxHeartbeats 8000000 in
theorem rd2_n (s : ByteArray) (r : DecT) (hr : twoF [45, 110] s = r) (v : Value) (w : World) (hv : StrsAt w v [⟨#[45, 110]⟩, s]) : Calls Tryz.prog 12 #[v] w (RefPost r w) := by
  obtain ⟨p, cap, rfl, hcap, hc⟩ := hv
  rcases hc with hc | ⟨bk, off, rfl, hc⟩
  · cases hc
  have c0 : w.cell? ⟨bk, off, none⟩ = some (.string ⟨#[45, 110]⟩) := hc 0 (by simp)
  have c1 : w.cell? ⟨bk, off + 1, none⟩ = some (.string s) := hc 1 (by simp)
  have l0 := block_lt_of_cell c0
  have hcap' : (2 : Int) ≤ (cap : Int) := by simp at hcap; omega
  have hcap'' : ¬ cap = 1 := by omega
  have hem := empty_iff s
  obtain ⟨t, ht⟩ : ∃ t, decide (0 < s.size) = t := ⟨_, rfl⟩
  obtain ⟨n, hn⟩ : ∃ n, truthF (t) = n := ⟨_, rfl⟩
  have HD : Hid (r = ⟨n, AskT.none, false⟩) := by unfold Hid; rw [← hr]; simp [twoF, ht, hn]
  have HT := Lib.hid (rtruth_at (t) n hn)
  rw [ht] at hem
  clear ht hn hr
  clear hc hcap
  go_enter Tryz.func12, Tryz.ntmps12
  go_wp2_with fail
  refine (HT.out _).mono ?_; rintro e w1 ⟨rfl, hb1⟩
  obtain ⟨k0, k1, k2, k3, k4, f0, f1, f2, f3, f4, l1⟩ := ref_facts ((refW_row w).below hb1)
  have B1 := (refW_below w).trans (hb1.mono (by simp))
  clear hb1
  go_wp2_with fail
  exact bodyPost_ret (v := refV ⟨n, AskT.none, false⟩) (by simp [results, Tryz.results12, go_sem, refV, AskT.none, k0, k1, k2, k3, k4]) rfl (.of HD.out (set5 B1 _ _ _ _ _))
set_option maxRecDepth 100000 in
set_option maxHeartbeats 8000000 in
theorem rd2_z (s : ByteArray) (r : DecT) (hr : twoF [45, 122] s = r) (v : Value) (w : World) (hv : StrsAt w v [⟨#[45, 122]⟩, s]) : Calls Tryz.prog 12 #[v] w (RefPost r w) := by
  obtain ⟨p, cap, rfl, hcap, hc⟩ := hv
  rcases hc with hc | ⟨bk, off, rfl, hc⟩
  · cases hc
  have c0 : w.cell? ⟨bk, off, none⟩ = some (.string ⟨#[45, 122]⟩) := hc 0 (by simp)
  have c1 : w.cell? ⟨bk, off + 1, none⟩ = some (.string s) := hc 1 (by simp)
  have l0 := block_lt_of_cell c0
  have hcap' : (2 : Int) ≤ (cap : Int) := by simp at hcap; omega
  have hcap'' : ¬ cap = 1 := by omega
  have hem := empty_iff s
  obtain ⟨t, ht⟩ : ∃ t, decide (0 < s.size) = t := ⟨_, rfl⟩
  obtain ⟨n, hn⟩ : ∃ n, truthF (!t) = n := ⟨_, rfl⟩
  have HD : Hid (r = ⟨n, AskT.none, false⟩) := by unfold Hid; rw [← hr]; simp [twoF, ht, hn]
  have HT := Lib.hid (rtruth_at (!t) n hn)
  rw [ht] at hem
  clear ht hn hr
  clear hc hcap
  go_enter Tryz.func12, Tryz.ntmps12
  go_wp2_with fail
  refine (HT.out _).mono ?_; rintro e w1 ⟨rfl, hb1⟩
  obtain ⟨k0, k1, k2, k3, k4, f0, f1, f2, f3, f4, l1⟩ := ref_facts ((refW_row w).below hb1)
  have B1 := (refW_below w).trans (hb1.mono (by simp))
  clear hb1
  go_wp2_with fail
  exact bodyPost_ret (v := refV ⟨n, AskT.none, false⟩) (by simp [results, Tryz.results12, go_sem, refV, AskT.none, k0, k1, k2, k3, k4]) rfl (.of HD.out (set5 B1 _ _ _ _ _))
set_option maxRecDepth 100000 in
set_option maxHeartbeats 8000000 in
theorem rd2_e (s : ByteArray) (r : DecT) (hr : twoF [45, 101] s = r) (v : Value) (w : World) (hv : StrsAt w v [⟨#[45, 101]⟩, s]) : Calls Tryz.prog 12 #[v] w (RefPost r w) := by
  obtain ⟨p, cap, rfl, hcap, hc⟩ := hv
  rcases hc with hc | ⟨bk, off, rfl, hc⟩
  · cases hc
  have c0 : w.cell? ⟨bk, off, none⟩ = some (.string ⟨#[45, 101]⟩) := hc 0 (by simp)
  have c1 : w.cell? ⟨bk, off + 1, none⟩ = some (.string s) := hc 1 (by simp)
  have l0 := block_lt_of_cell c0
  have hcap' : (2 : Int) ≤ (cap : Int) := by simp at hcap; omega
  have hcap'' : ¬ cap = 1 := by omega
  have l1 := block_lt_of_cell c1
  have HD : Hid (r = ⟨0, ⟨false, ⟨#[45, 101]⟩, s⟩, true⟩) := by unfold Hid; rw [← hr]; simp [twoF]
  clear hr
  clear hc hcap
  go_enter Tryz.func12, Tryz.ntmps12
  go_wp2_with fail
  go_region
  all_goals
    go_wp2_with fail
    exact bodyPost_ret (v := refV ⟨0, ⟨false, ⟨#[45, 101]⟩, s⟩, true⟩) (by simp [results, Tryz.results12, go_sem, refV]) rfl (.of HD.out (by go_grown))
set_option maxRecDepth 100000 in
set_option maxHeartbeats 8000000 in
theorem rd2_f (s : ByteArray) (r : DecT) (hr : twoF [45, 102] s = r) (v : Value) (w : World) (hv : StrsAt w v [⟨#[45, 102]⟩, s]) : Calls Tryz.prog 12 #[v] w (RefPost r w) := by
  obtain ⟨p, cap, rfl, hcap, hc⟩ := hv
  rcases hc with hc | ⟨bk, off, rfl, hc⟩
  · cases hc
  have c0 : w.cell? ⟨bk, off, none⟩ = some (.string ⟨#[45, 102]⟩) := hc 0 (by simp)
  have c1 : w.cell? ⟨bk, off + 1, none⟩ = some (.string s) := hc 1 (by simp)
  have l0 := block_lt_of_cell c0
  have hcap' : (2 : Int) ≤ (cap : Int) := by simp at hcap; omega
  have hcap'' : ¬ cap = 1 := by omega
  have l1 := block_lt_of_cell c1
  have HD : Hid (r = ⟨0, ⟨false, ⟨#[45, 102]⟩, s⟩, true⟩) := by unfold Hid; rw [← hr]; simp [twoF]
  clear hr
  clear hc hcap
  go_enter Tryz.func12, Tryz.ntmps12
  go_wp2_with fail
  go_region
  all_goals
    go_wp2_with fail
    exact bodyPost_ret (v := refV ⟨0, ⟨false, ⟨#[45, 102]⟩, s⟩, true⟩) (by simp [results, Tryz.results12, go_sem, refV]) rfl (.of HD.out (by go_grown))
set_option maxRecDepth 100000 in
set_option maxHeartbeats 8000000 in
theorem rd2_d (s : ByteArray) (r : DecT) (hr : twoF [45, 100] s = r) (v : Value) (w : World) (hv : StrsAt w v [⟨#[45, 100]⟩, s]) : Calls Tryz.prog 12 #[v] w (RefPost r w) := by
  obtain ⟨p, cap, rfl, hcap, hc⟩ := hv
  rcases hc with hc | ⟨bk, off, rfl, hc⟩
  · cases hc
  have c0 : w.cell? ⟨bk, off, none⟩ = some (.string ⟨#[45, 100]⟩) := hc 0 (by simp)
  have c1 : w.cell? ⟨bk, off + 1, none⟩ = some (.string s) := hc 1 (by simp)
  have l0 := block_lt_of_cell c0
  have hcap' : (2 : Int) ≤ (cap : Int) := by simp at hcap; omega
  have hcap'' : ¬ cap = 1 := by omega
  have l1 := block_lt_of_cell c1
  have HD : Hid (r = ⟨0, ⟨false, ⟨#[45, 100]⟩, s⟩, true⟩) := by unfold Hid; rw [← hr]; simp [twoF]
  clear hr
  clear hc hcap
  go_enter Tryz.func12, Tryz.ntmps12
  go_wp2_with fail
  go_region
  all_goals
    go_wp2_with fail
    exact bodyPost_ret (v := refV ⟨0, ⟨false, ⟨#[45, 100]⟩, s⟩, true⟩) (by simp [results, Tryz.results12, go_sem, refV]) rfl (.of HD.out (by go_grown))
set_option maxRecDepth 100000 in
set_option maxHeartbeats 8000000 in
theorem rd2_else (a s : ByteArray) (h1 : a.data.toList ≠ [33]) (h2 : a.data.toList ≠ [45, 110]) (h3 : a.data.toList ≠ [45, 122]) (h4 : a.data.toList ≠ [45, 101]) (h5 : a.data.toList ≠ [45, 102]) (h6 : a.data.toList ≠ [45, 100]) (v : Value) (w : World) (hv : StrsAt w v [a, s]) : Calls Tryz.prog 12 #[v] w (RefPost ⟨2, AskT.none, false⟩ w) := by
  obtain ⟨p, cap, rfl, hcap, hc⟩ := hv
  rcases hc with hc | ⟨bk, off, rfl, hc⟩
  · cases hc
  have c0 : w.cell? ⟨bk, off, none⟩ = some (.string a) := hc 0 (by simp)
  have c1 : w.cell? ⟨bk, off + 1, none⟩ = some (.string s) := hc 1 (by simp)
  have l0 := block_lt_of_cell c0
  have hcap' : (2 : Int) ≤ (cap : Int) := by simp at hcap; omega
  have hcap'' : ¬ cap = 1 := by omega
  have g1 : (a.toList == [33]) = false := by rw [Lib.toList_data]; simpa using h1
  have g2 : (a.toList == [45, 110]) = false := by rw [Lib.toList_data]; simpa using h2
  have g3 : (a.toList == [45, 122]) = false := by rw [Lib.toList_data]; simpa using h3
  have g4 : (a.toList == [45, 101]) = false := by rw [Lib.toList_data]; simpa using h4
  have g5 : (a.toList == [45, 102]) = false := by rw [Lib.toList_data]; simpa using h5
  have g6 : (a.toList == [45, 100]) = false := by rw [Lib.toList_data]; simpa using h6
  clear h1 h2 h3 h4 h5 h6
  clear hc hcap
  go_enter Tryz.func12, Tryz.ntmps12
  go_wp2_with fail
  exact bodyPost_ret (v := refV ⟨2, AskT.none, false⟩) (by simp [results, Tryz.results12, go_sem, refV, AskT.none]) rfl (.of rfl (by go_grown))
theorem rd2_any (a s : ByteArray) (v : Value) (w : World) (hv : StrsAt w v [a, s]) : Calls Tryz.prog 12 #[v] w (RefPost (twoF a.data.toList s) w) := by
  obtain ⟨l, hl⟩ : ∃ l, a.data.toList = l := ⟨_, rfl⟩
  by_cases h1 : l = [33]
  · obtain rfl : a = ⟨#[33]⟩ := by rw [← Lib.mk_data a, hl, h1]
    exact rd2_not s _ (by simp [twoF]) v w hv
  by_cases h2 : l = [45, 110]
  · obtain rfl : a = ⟨#[45, 110]⟩ := by rw [← Lib.mk_data a, hl, h2]
    exact rd2_n s _ rfl v w hv
  by_cases h3 : l = [45, 122]
  · obtain rfl : a = ⟨#[45, 122]⟩ := by rw [← Lib.mk_data a, hl, h3]
    exact rd2_z s _ rfl v w hv
  by_cases h4 : l = [45, 101]
  · obtain rfl : a = ⟨#[45, 101]⟩ := by rw [← Lib.mk_data a, hl, h4]
    exact rd2_e s _ rfl v w hv
  by_cases h5 : l = [45, 102]
  · obtain rfl : a = ⟨#[45, 102]⟩ := by rw [← Lib.mk_data a, hl, h5]
    exact rd2_f s _ rfl v w hv
  by_cases h6 : l = [45, 100]
  · obtain rfl : a = ⟨#[45, 100]⟩ := by rw [← Lib.mk_data a, hl, h6]
    exact rd2_d s _ rfl v w hv
  have e : twoF a.data.toList s = ⟨2, AskT.none, false⟩ := by rw [hl]; simp [twoF, h1, h2, h3, h4, h5, h6]
  rw [e]
  exact rd2_else a s (hl ▸ h1) (hl ▸ h2) (hl ▸ h3) (hl ▸ h4) (hl ▸ h5) (hl ▸ h6) v w hv
end Go.Proofs.YtjpdhbalngpdpaaGreatDoor
