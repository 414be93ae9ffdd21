/-
  DERIVED. The walks of the tester's Decide at three, behind the compare.
-/
import Derived.Test.YtjpdhbalngpdpaaGreatDoorTf
namespace Go.Proofs.YtjpdhbalngpdpaaGreatDoor
open Go.RowKit
theorem strs_tail {w : World} {b off cap : Nat} {s : ByteArray} {ss : List ByteArray} (h : StrsAt w (.slice (some ⟨b, off, none⟩) (s :: ss).length cap) (s :: ss)) : StrsAt w (.slice (some ⟨b, off + 1, none⟩) ss.length (cap - 1)) ss := by
  obtain ⟨a, cap, hv, hcap, h⟩ := h
  cases hv
  rcases h with h | ⟨b, off, e, hc⟩
  · cases h
  cases e
  refine ⟨_, _, rfl, by simp only [List.length_cons] at hcap; omega, .inr ⟨b, off + 1, rfl, fun i hi => ?_⟩⟩
  have := hc (i + 1) (by simp; omega)
  simp only [List.getElem_cons_succ] at this
  rw [show off + 1 + i = off + (i + 1) by omega]; exact this
theorem is33 (a : ByteArray) (h : a.data.toList = [33]) : a = ⟨#[33]⟩ := by
  rw [← Lib.mk_data a, h]
theorem two_at (s t : ByteArray) (r : DecT) (hr : twoF s.data.toList t = r) (v : Value) (w : World) (hv : StrsAt w v [s, t]) :
    Calls Tryz.prog 11 #[v] w fun e w' => e = .returned (.tuple #[.int .i64 r.n, .agg #[.bool r.ask.neg, .string r.ask.op, .string r.ask.path], .bool r.asks]) ∧ Below w.heap.size w w' := dec2_any s t r hr v w hv
set_option maxRecDepth 100000 in
set_option maxHeartbeats 1000000 in
theorem dec3_not (op b : ByteArray) (hn : CmpOk ⟨#[33]⟩ op b) (n : Int) (hr : compareF ⟨#[33]⟩ op.data.toList b = (n, false)) (r : DecT) (hq : turnedF (twoF op.data.toList b) = r) (v : Value) (w : World) (hv : StrsAt w v [⟨#[33]⟩, op, b]) (hE : Env w) :
    Calls Tryz.prog 11 #[v] w fun e w' => e = .returned (.tuple #[.int .i64 r.n, .agg #[.bool r.ask.neg, .string r.ask.op, .string r.ask.path], .bool r.asks]) ∧ Below w.heap.size w w' := by
  have hv0 := hv
  obtain ⟨p, cap, rfl, hcap, hc⟩ := hv
  rcases hc with hc | ⟨bk, off, rfl, hc⟩
  · cases hc
  have hy := strs_tail hv0; clear hv0
  have c0 : w.cell? ⟨bk, off, none⟩ = some (.string ⟨#[33]⟩) := hc 0 (by simp)
  have c1 : w.cell? ⟨bk, off + 1, none⟩ = some (.string op) := hc 1 (by simp)
  have c2 : w.cell? ⟨bk, off + 2, none⟩ = some (.string b) := hc 2 (by simp)
  have L0 := (LawE.start c0 c1 c2 hE).drew
  have HC := Lib.hid (compares_any ⟨#[33]⟩ op b hn n false hr)
  obtain ⟨d, hd⟩ : ∃ d, twoF op.data.toList b = d := ⟨_, rfl⟩
  have hrng : In02 d := hd ▸ in02_two _ _
  rw [hd] at hq
  have H1 := Lib.hid (fun W hW => two_at op b d hd (.slice (some ⟨bk, off + 1, none⟩) 2 (cap - 1)) W hW)
  have H2 := Lib.hid (turned_at d r hrng.1 hrng.2 hq)
  have HY := Lib.hid hy
  have hcap' : (3 : Int) ≤ (cap : Int) := by simp at hcap; omega
  have hcap'' : ¬ cap = 1 := by omega
  clear hc hcap hr c0 c1 c2 hn hE hd hrng hq hy
  go_enter Tryz.func11, Tryz.ntmps11
  go_wp2_with fail
  go_region_held3 (fun wx => wx.cell? ⟨bk, off, none⟩ = some (.string ⟨#[33]⟩) ∧ wx.cell? ⟨bk, off + 1, none⟩ = some (.string op) ∧ wx.cell? ⟨bk, off + 2, none⟩ = some (.string b) ∧ LawE w bk off ⟨#[33]⟩ op b wx) (exact LawE.all (by assumption))
    ((go_at_call 19; refine (HC.out _ (LawE.env (by assumption))).mono ?_; rintro e wn ⟨rfl, hb⟩; have hn := LawE.next (by assumption) hb))
  all_goals
    have k3 := hn.facts.1
    go_wp2_with fail
    refine (H1.out _ (HY.out.below hn.2.2.2.2.1)).mono ?_; rintro e w1 ⟨rfl, hb1⟩
    have hn1 := hn.next hb1
    go_wp2_with fail
    refine (H2.out _).mono ?_; rintro e w2 ⟨rfl, hb2⟩
    have hn2 := hn1.next hb2
    obtain ⟨k0, k1, k2, f0, f1, f2, l2⟩ := ask_facts hn2.2.2.2.2.2
    go_wp2_with fail
    exact bodyPost_ret (v := r.val) (by simp [results, Tryz.results11, go_sem, DecT.val, k0, k1, k2]) rfl ⟨rfl, ((hn2.2.2.2.2.1.setCell (Nat.le_refl _) _).setCell (Nat.le_refl _) _).setCell (Nat.le_refl _) _⟩
set_option maxRecDepth 100000 in
set_option maxHeartbeats 1000000 in
theorem dec3_else (a op b : ByteArray) (ha : a.data.toList ≠ [33]) (hn : CmpOk a op b) (n : Int) (hr : compareF a op.data.toList b = (n, false)) (v : Value) (w : World) (hv : StrsAt w v [a, op, b]) (hE : Env w) :
    Calls Tryz.prog 11 #[v] w fun e w' => e = .returned (.tuple #[.int .i64 2, .agg #[.bool false, .string ⟨#[]⟩, .string ⟨#[]⟩], .bool false]) ∧ Below w.heap.size w w' := by
  obtain ⟨p, cap, rfl, hcap, hc⟩ := hv
  rcases hc with hc | ⟨bk, off, rfl, hc⟩
  · cases hc
  have c0 : w.cell? ⟨bk, off, none⟩ = some (.string a) := hc 0 (by simp)
  have c1 : w.cell? ⟨bk, off + 1, none⟩ = some (.string op) := hc 1 (by simp)
  have c2 : w.cell? ⟨bk, off + 2, none⟩ = some (.string b) := hc 2 (by simp)
  have L0 := (LawE.start c0 c1 c2 hE).drew
  have HC := Lib.hid (compares_any a op b hn n false hr)
  have g : (a.toList == [33]) = false := by rw [Lib.toList_data]; simpa using ha
  have hcap' : (3 : Int) ≤ (cap : Int) := by simp at hcap; omega
  clear hc hcap hr c0 c1 c2 hn hE ha
  go_enter Tryz.func11, Tryz.ntmps11
  go_wp2_with fail
  go_region_held3 (fun wx => wx.cell? ⟨bk, off, none⟩ = some (.string a) ∧ wx.cell? ⟨bk, off + 1, none⟩ = some (.string op) ∧ wx.cell? ⟨bk, off + 2, none⟩ = some (.string b) ∧ LawE w bk off a op b wx) (exact LawE.all (by assumption))
    ((go_at_call 19; refine (HC.out _ (LawE.env (by assumption))).mono ?_; rintro e wn ⟨rfl, hb⟩; have hn := LawE.next (by assumption) hb))
  all_goals
    have k3 := hn.facts.1
    obtain ⟨k0, k1, k2, f0, f1, f2, l2⟩ := ask_facts hn.2.2.2.2.2
    go_wp2_with fail
    exact bodyPost_ret (v := DecT.val ⟨2, AskT.none, false⟩) (by simp [results, Tryz.results11, go_sem, DecT.val, AskT.none, k0, k1, k2]) rfl ⟨rfl, ((hn.2.2.2.2.1.setCell (Nat.le_refl _) _).setCell (Nat.le_refl _) _).setCell (Nat.le_refl _) _⟩
theorem dec3_any (a op b : ByteArray) (hn : CmpOk a op b) (r : DecT) (hr : dec3F a op b = r) (v : Value) (w : World) (hv : StrsAt w v [a, op, b]) (hE : Env w) :
    Calls Tryz.prog 11 #[v] w fun e w' => e = .returned (.tuple #[.int .i64 r.n, .agg #[.bool r.ask.neg, .string r.ask.op, .string r.ask.path], .bool r.asks]) ∧ Below w.heap.size w w' := by
  subst hr
  obtain ⟨⟨n, is⟩, hc⟩ : ∃ q, compareF a op.data.toList b = q := ⟨_, rfl⟩
  unfold dec3F
  rw [hc]
  cases is
  · by_cases h : a.data.toList = [33]
    · have := is33 a h
      subst this
      exact dec3_not op b hn n hc _ (by simp) v w hv hE
    · simp only [h, if_false]
      exact dec3_else a op b h hn n hc v w hv hE
  · exact dec3_yes a op b hn n hc v w hv hE
end Go.Proofs.YtjpdhbalngpdpaaGreatDoor
