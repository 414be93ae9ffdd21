/-
  DERIVED. The walks of the tester's Decide at no and one argument, of two, of Decide at two.
-/
import Derived.Test.YtjpdhbalngpdpaaGreatDoorTc
import Derived.Deep.RegionHeld3
import Derived.Outline
namespace Go.Proofs.YtjpdhbalngpdpaaGreatDoor
open Go.RowKit
/-- A slice of strings that lies in memory: its elements. -/
def StrsAt (w : World) (v : Value) (ss : List ByteArray) : Prop :=
  ∃ (a : Option Addr) (cap : Nat), v = .slice a ss.length cap ∧ ss.length ≤ cap ∧ (ss = [] ∨ ∃ b off, a = some ⟨b, off, none⟩ ∧ ∀ i (h : i < ss.length), w.cell? ⟨b, off + i, none⟩ = some (.string ss[i]))
theorem StrsAt.below {w w' : World} {v : Value} {ss : List ByteArray} (h : StrsAt w v ss) (hb : Below w.heap.size w w') : StrsAt w' v ss := by
  obtain ⟨a, cap, hv, hcap, h⟩ := h
  refine ⟨a, cap, hv, hcap, ?_⟩
  rcases h with h | ⟨b, off, ha, hc⟩
  · exact .inl h
  · exact .inr ⟨b, off, ha, fun i hi => (hb.cell (block_lt_of_cell (hc i hi))).trans (hc i hi)⟩
def dec1F (s : ByteArray) : DecT := ⟨truthF (decide (0 < s.size)), AskT.none, false⟩
def twoF (op : List UInt8) (s : ByteArray) : DecT :=
  if op = [33] then turnedF (dec1F s) else if op = [45, 110] then ⟨truthF (decide (0 < s.size)), AskT.none, false⟩ else if op = [45, 122] then ⟨truthF (!decide (0 < s.size)), AskT.none, false⟩
  else if op = [45, 101] ∨ op = [45, 102] ∨ op = [45, 100] then ⟨0, ⟨false, ⟨op.toArray⟩, s⟩, true⟩ else ⟨2, AskT.none, false⟩
set_option maxRecDepth 100000 in
set_option maxHeartbeats 4000000 in
theorem dec1_any (s : ByteArray) (v : Value) (w : World) (hv : StrsAt w v [s]) :
    Calls Tryz.prog 11 #[v] w fun e w' => e = .returned (dec1F s).val ∧ Below w.heap.size w w' := by
  obtain ⟨a, cap, rfl, hcap, hc⟩ := hv
  rcases hc with hc | ⟨b, off, rfl, hc⟩
  · cases hc
  have c0 : w.cell? ⟨b, off, none⟩ = some (.string s) := hc 0 (by simp)
  have l0 := block_lt_of_cell c0
  clear hc hcap
  have hem := empty_iff s
  obtain ⟨t, ht⟩ : ∃ t, decide (0 < s.size) = t := ⟨_, rfl⟩
  have HD : Hid (dec1F s = ⟨truthF t, AskT.none, false⟩) := by unfold Hid dec1F; rw [ht]
  rw [ht] at hem
  clear ht
  go_enter Tryz.func11, Tryz.ntmps11
  go_wp2_with fail
  refine (truth_any t _).mono ?_; rintro e w1 ⟨rfl, rfl⟩
  obtain ⟨q, hq⟩ : ∃ q, q = truthF t := ⟨_, rfl⟩
  rw [← hq] at HD
  rw [← hq]
  clear hq
  go_wp2_with fail
  exact bodyPost_ret (v := DecT.val ⟨q, AskT.none, false⟩) (by simp [results, Tryz.results11, go_sem, DecT.val, AskT.none]) rfl ⟨by rw [HD.out], by go_grown⟩
theorem dec1_at (s : ByteArray) (r : DecT) (hr : dec1F s = r) (v : Value) (w : World) (hv : StrsAt w v [s]) :
    Calls Tryz.prog 11 #[v] w fun e w' => e = .returned (.tuple #[.int .i64 r.n, .agg #[.bool r.ask.neg, .string r.ask.op, .string r.ask.path], .bool r.asks]) ∧ Below w.heap.size w w' := by
  subst hr; exact dec1_any s v w hv
theorem new_strs1 (w : World) (e : TypeId) (s : ByteArray) (B : Nat) (hB : B = w.heap.size) : StrsAt (w.alloc (.cells #[.string s] e)) (.slice (some ⟨B, 0, none⟩) 1 1) [s] := by
  subst hB
  exact ⟨_, 1, rfl, Nat.le_refl _, .inr ⟨w.heap.size, 0, rfl, fun i hi => by
    obtain rfl : i = 0 := by simpa using hi
    simp⟩⟩
theorem turned_at (d r : DecT) (h0 : 0 ≤ d.n) (h1 : d.n ≤ 2) (hr : turnedF d = r) (w : World) :
    Calls Tryz.prog 20 #[.int .i64 d.n, .agg #[.bool d.ask.neg, .string d.ask.op, .string d.ask.path], .bool d.asks] w fun e w' => e = .returned (.tuple #[.int .i64 r.n, .agg #[.bool r.ask.neg, .string r.ask.op, .string r.ask.path], .bool r.asks]) ∧ Below w.heap.size w w' :=
  turned_any d.n h0 h1 d.ask.neg d.ask.op d.ask.path d.asks r hr w
theorem truthF_le (b : Bool) : 0 ≤ truthF b ∧ truthF b ≤ 2 := by cases b <;> simp [truthF]
theorem ask_facts {W : World} {b e : Nat} {x y z : Value} (r : RowIs W b e [x, y, z]) :
    W.cell? ⟨b, 0, none⟩ = some x ∧ W.cell? ⟨b, 1, none⟩ = some y ∧ W.cell? ⟨b, 2, none⟩ = some z ∧ W.frozen? ⟨b, 0, none⟩ = false ∧ W.frozen? ⟨b, 1, none⟩ = false ∧ W.frozen? ⟨b, 2, none⟩ = false ∧ b < W.heap.size :=
  ⟨by rw [r.cell]; rfl, by rw [r.cell]; rfl, by rw [r.cell]; rfl, r.free _, r.free _, r.free _, r.lt⟩
/-- How the walk of two ends. -/
def TwoPost (r : DecT) (w : World) (e : Ending) (w' : World) : Prop := e = .returned r.val ∧ Below w.heap.size w w'
set_option maxRecDepth 100000 in
set_option maxHeartbeats 8000000 in
theorem two_not (s : ByteArray) (r : DecT) (hr : twoF [33] s = r) (w : World) :
    Calls Tryz.prog 18 #[.string ⟨#[33]⟩, .string s] w (TwoPost r w) := by
  obtain ⟨d, hd⟩ : ∃ d, dec1F s = d := ⟨_, rfl⟩
  have hrng : 0 ≤ d.n ∧ d.n ≤ 2 := by rw [← hd]; exact truthF_le _
  have H1 := Lib.hid (dec1_at s d hd)
  have hrr : turnedF d = r := by rw [← hr, ← hd]; rfl
  have H2 := Lib.hid (turned_at d r hrng.1 hrng.2 hrr)
  clear hr hd hrr hrng
  go_enter Tryz.func18, Tryz.ntmps18
  go_wp2_with fail
  refine (H1.out _ _ (new_strs1 _ _ _ _ (by simp))).mono ?_; rintro e w1 ⟨rfl, hb1⟩
  have r1 := ((RowIs.new w 25 [.bool false, .string ⟨#[]⟩, .string ⟨#[]⟩]).alloc (.cells #[.string s] 9)).below hb1
  have B1 := (((Below.refl w.heap.size w).alloc (Nat.le_refl _) (.cells #[.bool false, .string ⟨#[]⟩, .string ⟨#[]⟩] 25)).alloc (by simp) (.cells #[.string s] 9)).trans (hb1.mono (by simp; omega))
  clear hb1
  go_wp2_with fail
  refine (H2.out _).mono ?_; rintro e w2 ⟨rfl, hb2⟩
  obtain ⟨k0, k1, k2, f0, f1, f2, l2⟩ := ask_facts (r1.below hb2)
  have B2 := B1.trans (hb2.mono B1.size)
  clear r1 B1 hb2
  go_wp2_with fail
  exact bodyPost_ret (v := r.val) (by simp [results, Tryz.results18, go_sem, DecT.val, k0, k1, k2]) rfl ⟨rfl, ((B2.setCell (Nat.le_refl _) _).setCell (Nat.le_refl _) _).setCell (Nat.le_refl _) _⟩
set_option maxRecDepth 100000 in
set_option maxHeartbeats 8000000 in
theorem two_n (s : ByteArray) (r : DecT) (hr : twoF [45, 110] s = r) (w : World) :
    Calls Tryz.prog 18 #[.string ⟨#[45, 110]⟩, .string s] w (TwoPost r w) := by
  have hem := empty_iff s
  obtain ⟨t, ht⟩ : ∃ t, decide (0 < s.size) = t := ⟨_, rfl⟩
  have HR : Hid (r = ⟨truthF t, AskT.none, false⟩) := by unfold Hid; rw [← hr]; simp [twoF, ht]
  rw [ht] at hem
  clear ht hr
  go_enter Tryz.func18, Tryz.ntmps18
  go_wp2_with fail
  refine (truth_any t _).mono ?_; rintro e w1 ⟨rfl, rfl⟩
  obtain ⟨q, hq⟩ : ∃ q, q = truthF t := ⟨_, rfl⟩
  rw [← hq] at HR
  rw [← hq]
  clear hq
  go_wp2_with fail
  exact bodyPost_ret (v := DecT.val ⟨q, AskT.none, false⟩) (by simp [results, Tryz.results18, go_sem, DecT.val, AskT.none]) rfl ⟨by rw [HR.out], by go_grown⟩
set_option maxRecDepth 100000 in
set_option maxHeartbeats 8000000 in
theorem two_z (s : ByteArray) (r : DecT) (hr : twoF [45, 122] s = r) (w : World) :
    Calls Tryz.prog 18 #[.string ⟨#[45, 122]⟩, .string s] w (TwoPost r w) := by
  have hem := empty_iff s
  obtain ⟨t, ht⟩ : ∃ t, decide (0 < s.size) = t := ⟨_, rfl⟩
  have HR : Hid (r = ⟨truthF (!t), AskT.none, false⟩) := by unfold Hid; rw [← hr]; simp [twoF, ht]
  rw [ht] at hem
  clear ht hr
  go_enter Tryz.func18, Tryz.ntmps18
  go_wp2_with fail
  refine (truth_any (!t) _).mono ?_; rintro e w1 ⟨rfl, rfl⟩
  obtain ⟨q, hq⟩ : ∃ q, q = truthF (!t) := ⟨_, rfl⟩
  rw [← hq] at HR
  rw [← hq]
  clear hq
  go_wp2_with fail
  exact bodyPost_ret (v := DecT.val ⟨q, AskT.none, false⟩) (by simp [results, Tryz.results18, go_sem, DecT.val, AskT.none]) rfl ⟨by rw [HR.out], by go_grown⟩
set_option maxRecDepth 100000 in
set_option maxHeartbeats 8000000 in
theorem two_e (s : ByteArray) (r : DecT) (hr : twoF [45, 101] s = r) (w : World) :
    Calls Tryz.prog 18 #[.string ⟨#[45, 101]⟩, .string s] w (TwoPost r w) := by
  have HR : Hid (r = ⟨0, ⟨false, ⟨#[45, 101]⟩, s⟩, true⟩) := by unfold Hid; rw [← hr]; simp [twoF]
  clear hr
  go_enter Tryz.func18, Tryz.ntmps18
  go_wp2_with fail
  exact bodyPost_ret (v := DecT.val ⟨0, ⟨false, ⟨#[45, 101]⟩, s⟩, true⟩) (by simp [results, Tryz.results18, go_sem, DecT.val]) rfl ⟨by rw [HR.out], by go_grown⟩
set_option maxRecDepth 100000 in
set_option maxHeartbeats 8000000 in
theorem two_f (s : ByteArray) (r : DecT) (hr : twoF [45, 102] s = r) (w : World) :
    Calls Tryz.prog 18 #[.string ⟨#[45, 102]⟩, .string s] w (TwoPost r w) := by
  have HR : Hid (r = ⟨0, ⟨false, ⟨#[45, 102]⟩, s⟩, true⟩) := by unfold Hid; rw [← hr]; simp [twoF]
  clear hr
  go_enter Tryz.func18, Tryz.ntmps18
  go_wp2_with fail
  exact bodyPost_ret (v := DecT.val ⟨0, ⟨false, ⟨#[45, 102]⟩, s⟩, true⟩) (by simp [results, Tryz.results18, go_sem, DecT.val]) rfl ⟨by rw [HR.out], by go_grown⟩
set_option maxRecDepth 100000 in
set_option maxHeartbeats 8000000 in
theorem two_d (s : ByteArray) (r : DecT) (hr : twoF [45, 100] s = r) (w : World) :
    Calls Tryz.prog 18 #[.string ⟨#[45, 100]⟩, .string s] w (TwoPost r w) := by
  have HR : Hid (r = ⟨0, ⟨false, ⟨#[45, 100]⟩, s⟩, true⟩) := by unfold Hid; rw [← hr]; simp [twoF]
  clear hr
  go_enter Tryz.func18, Tryz.ntmps18
  go_wp2_with fail
  exact bodyPost_ret (v := DecT.val ⟨0, ⟨false, ⟨#[45, 100]⟩, s⟩, true⟩) (by simp [results, Tryz.results18, go_sem, DecT.val]) rfl ⟨by rw [HR.out], by go_grown⟩
set_option maxRecDepth 100000 in
set_option maxHeartbeats 8000000 in
theorem two_else (l : List UInt8) (s : ByteArray) (h1 : l ≠ [33]) (h2 : l ≠ [45, 110]) (h3 : l ≠ [45, 122]) (h4 : l ≠ [45, 101]) (h5 : l ≠ [45, 102]) (h6 : l ≠ [45, 100]) (r : DecT) (hr : twoF l s = r) (w : World) :
    Calls Tryz.prog 18 #[.string ⟨l.toArray⟩, .string s] w (TwoPost r w) := by
  have HR : Hid (r = ⟨2, AskT.none, false⟩) := by unfold Hid; rw [← hr]; simp [twoF, h1, h2, h3, h4, h5, h6]
  have g1 : (l == [33]) = false := by simpa using h1
  have g2 : (l == [45, 110]) = false := by simpa using h2
  have g3 : (l == [45, 122]) = false := by simpa using h3
  have g4 : (l == [45, 101]) = false := by simpa using h4
  have g5 : (l == [45, 102]) = false := by simpa using h5
  have g6 : (l == [45, 100]) = false := by simpa using h6
  clear hr h1 h2 h3 h4 h5 h6
  go_enter Tryz.func18, Tryz.ntmps18
  go_wp2_with fail
  exact bodyPost_ret (v := DecT.val ⟨2, AskT.none, false⟩) (by simp [results, Tryz.results18, go_sem, DecT.val, AskT.none]) rfl ⟨by rw [HR.out], by go_grown⟩
theorem two_any (op s : ByteArray) (r : DecT) (hr : twoF op.data.toList s = r) (w : World) :
    Calls Tryz.prog 18 #[.string op, .string s] w fun e w' => e = .returned (.tuple #[.int .i64 r.n, .agg #[.bool r.ask.neg, .string r.ask.op, .string r.ask.path], .bool r.asks]) ∧ Below w.heap.size w w' := by
  obtain ⟨l, hl⟩ : ∃ l, op.data.toList = l := ⟨_, rfl⟩
  obtain rfl : op = ⟨l.toArray⟩ := by rw [← hl, Lib.mk_data]
  rw [hl] at hr
  clear hl
  by_cases h1 : l = [33]
  · subst h1; exact two_not s r hr w
  by_cases h2 : l = [45, 110]
  · subst h2; exact two_n s r hr w
  by_cases h3 : l = [45, 122]
  · subst h3; exact two_z s r hr w
  by_cases h4 : l = [45, 101]
  · subst h4; exact two_e s r hr w
  by_cases h5 : l = [45, 102]
  · subst h5; exact two_f s r hr w
  by_cases h6 : l = [45, 100]
  · subst h6; exact two_d s r hr w
  exact two_else l s h1 h2 h3 h4 h5 h6 r hr w
end Go.Proofs.YtjpdhbalngpdpaaGreatDoor
