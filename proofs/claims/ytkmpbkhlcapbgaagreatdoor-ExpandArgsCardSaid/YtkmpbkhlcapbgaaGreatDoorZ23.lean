/-
  DERIVED. The walk of word's brace: a length; a parameter alone.
-/
import Derived.Test.YtkmpbkhlcapbgaaGreatDoorZ22
import Derived.Deep.RegionWith
namespace Go.Proofs.YtkmpbkhlcapbgaaGreatDoor
open Go Go.RowKit
def BracePost (g : Nat) (v : Value) (d : Nat) (p : PartT) (u : ByteArray) (n : Nat) (w : World) (e : Ending) (w' : World) : Prop :=
  ∃ (t op : ByteArray) (a : Option Addr) (m c : Nat), e = .returned (.agg #[.int .i64 3, .string t, .string op, .bool false, .slice a m c]) ∧ OneAt w' (fun b => w.heap.size ≤ b) p 3 t op false (.slice a m c) ∧ Wr g v u d w' ∧ Kept g w w' ∧ t.size + u.size < n
theorem five_facts {W : World} {b e : Nat} {x0 x1 x2 x3 x4 : Value} (r : RowIs W b e [x0, x1, x2, x3, x4]) :
    W.cell? ⟨b, 0, none⟩ = some x0 ∧ W.cell? ⟨b, 1, none⟩ = some x1 ∧ W.cell? ⟨b, 2, none⟩ = some x2 ∧ W.cell? ⟨b, 3, none⟩ = some x3 ∧ W.cell? ⟨b, 4, none⟩ = some x4 ∧
    W.frozen? ⟨b, 0, none⟩ = false ∧ W.frozen? ⟨b, 1, none⟩ = false ∧ W.frozen? ⟨b, 2, none⟩ = false ∧ W.frozen? ⟨b, 3, none⟩ = false ∧ W.frozen? ⟨b, 4, none⟩ = false ∧ b < W.heap.size :=
  ⟨by rw [r.cell]; rfl, by rw [r.cell]; rfl, by rw [r.cell]; rfl, by rw [r.cell]; rfl, by rw [r.cell]; rfl, r.free _, r.free _, r.free _, r.free _, r.free _, r.lt⟩
/-- A reader of a text, of its own. -/
theorem in_new0 {w : World} {g : Nat} {v : Value} {s : ByteArray} {d : Nat} (hr : Wr g v s d w) (s1 : ByteArray) (h1 : s1.size ≤ 1000000000) :
    Wr w.heap.size (.slice none 0 0) s1 0 (w.alloc (.cells #[.slice none 0 0, .string s1, .int .i64 0] 90)) := by
  have b : Below w.heap.size w (w.alloc (.cells #[.slice none 0 0, .string s1, .int .i64 0] 90)) := (Below.refl _ w).alloc (Nat.le_refl _) _
  have hl := hr.row.lt
  have hf := hr.far
  exact ⟨RowIs.new w _ _, h1, by omega, ⟨Nat.lt_trans hf.1 hl, Nat.lt_trans hf.2 hl⟩, hr.tab.below ⟨Nat.lt_trans hf.1 hl, Nat.lt_trans hf.2 hl⟩ b⟩
abbrev zeroP0 : List Value := [.int .i64 0, .string ⟨#[]⟩, .string ⟨#[]⟩, .bool false, .slice none 0 0]
/-- What brace carries: its reader, its result, its part. -/
structure Bc (g : Nat) (v : Value) (s : ByteArray) (d : Nat) (t op : ByteArray) (wv : Value) (w0 w : World) : Prop where
  rd : Wr g v s d w
  kept : Kept g w0 w
  res : RowIs w w0.heap.size 92 zeroP0
  par : RowIs w (w0.heap.size + 1) 92 [.int .i64 3, .string t, .string op, .bool false, wv]
  gw : g < w0.heap.size
theorem Bc.start {g : Nat} {v : Value} {s : ByteArray} {d : Nat} {w : World} (hr : Wr g v s d w) : Bc g v s d ⟨#[]⟩ ⟨#[]⟩ (.slice none 0 0) w ((w.alloc (.cells #[.int .i64 0, .string ⟨#[]⟩, .string ⟨#[]⟩, .bool false, .slice none 0 0] 92)).alloc (.cells #[.int .i64 3, .string ⟨#[]⟩, .string ⟨#[]⟩, .bool false, .slice none 0 0] 92)) := by
  have k := ((Kept.refl g w).alloc (.cells #[.int .i64 0, .string ⟨#[]⟩, .string ⟨#[]⟩, .bool false, .slice none 0 0] 92)).alloc (.cells #[.int .i64 3, .string ⟨#[]⟩, .string ⟨#[]⟩, .bool false, .slice none 0 0] 92)
  refine ⟨hr.next k ((hr.row.alloc _).alloc _) hr.size, k, (RowIs.new w _ zeroP0).alloc _, ?_, hr.row.lt⟩
  have := RowIs.new (w.alloc (.cells #[.int .i64 0, .string ⟨#[]⟩, .string ⟨#[]⟩, .bool false, .slice none 0 0] 92)) 92 [.int .i64 3, .string ⟨#[]⟩, .string ⟨#[]⟩, .bool false, .slice none 0 0]
  simpa using this
theorem Bc.next {g : Nat} {v v' : Value} {s s' : ByteArray} {d : Nat} {t op : ByteArray} {wv : Value} {w0 w w' : World} (h : Bc g v s d t op wv w0 w) (k : Kept g w w') (r : Wr g v' s' d w') : Bc g v' s' d t op wv w0 w' :=
  have := h.gw
  ⟨r, h.kept.trans k, k.row h.res (by omega), k.row h.par (by omega), h.gw⟩
theorem Bc.below {g : Nat} {v : Value} {s : ByteArray} {d : Nat} {t op : ByteArray} {wv : Value} {w0 w w' : World} (h : Bc g v s d t op wv w0 w) (k : Below w.heap.size w w') : Bc g v s d t op wv w0 w' :=
  h.next (Kept.of k) (h.rd.next (Kept.of k) (h.rd.row.below k) h.rd.size)
theorem Bc.setP {g : Nat} {v : Value} {s : ByteArray} {d : Nat} {t op : ByteArray} {wv : Value} {w0 w : World} (h : Bc g v s d t op wv w0 w) (j : Nat) (u : Value) {t' op' : ByteArray} {wv' : Value} (e : ([.int .i64 3, .string t, .string op, .bool false, wv] : List Value).set j u = [.int .i64 3, .string t', .string op', .bool false, wv']) :
    Bc g v s d t' op' wv' w0 (w.setCell ⟨w0.heap.size + 1, j, none⟩ u) := by
  have hg := h.gw
  have b := (Below.refl (w0.heap.size + 1) w).setCell (p := ⟨w0.heap.size + 1, j, none⟩) (Nat.le_refl _) u
  have hf := h.rd.far
  refine ⟨⟨h.rd.row.other (by show g ≠ w0.heap.size + 1; omega) u, h.rd.size, h.rd.deep, h.rd.far, h.rd.tab.below ⟨Nat.lt_trans hf.1 (by omega), Nat.lt_trans hf.2 (by omega)⟩ b⟩, h.kept.new (Nat.le_succ _) j u, h.res.other (by show w0.heap.size ≠ w0.heap.size + 1; omega) u, ?_, hg⟩
  have := h.par.set j u
  rw [e] at this
  exact this
theorem Bc.finish {g : Nat} {v : Value} {s : ByteArray} {d : Nat} {t op : ByteArray} {wv : Value} {w0 w : World} (h : Bc g v s d t op wv w0 w) (W' : World)
    (hW : (((((w.setCell ⟨w0.heap.size, 0, none⟩ (.int .i64 3)).setCell ⟨w0.heap.size, 1, none⟩ (.string t)).setCell ⟨w0.heap.size, 2, none⟩ (.string op)).setCell ⟨w0.heap.size, 3, none⟩ (.bool false)).setCell ⟨w0.heap.size, 4, none⟩ wv) = W') :
    RowIs W' w0.heap.size 92 [.int .i64 3, .string t, .string op, .bool false, wv] ∧ Wr g v s d W' ∧ Kept g w0 W' ∧ w.heap.size ≤ W'.heap.size ∧ ∀ b, b ≠ w0.heap.size → W'.heap[b]? = w.heap[b]? := by
  have hg := h.gw
  have k := ((((h.kept.new (Nat.le_refl _) 0 (.int .i64 3)).new (Nat.le_refl _) 1 (.string t)).new (Nat.le_refl _) 2 (.string op)).new (Nat.le_refl _) 3 (.bool false)).new (Nat.le_refl _) 4 wv
  have hne : g ≠ w0.heap.size := by omega
  have b := ((((((Below.refl w0.heap.size w).setCell (p := ⟨w0.heap.size, 0, none⟩) (Nat.le_refl _) (.int .i64 3)).setCell (p := ⟨w0.heap.size, 1, none⟩) (Nat.le_refl _) (.string t)).setCell (p := ⟨w0.heap.size, 2, none⟩) (Nat.le_refl _) (.string op)).setCell (p := ⟨w0.heap.size, 3, none⟩) (Nat.le_refl _) (.bool false)).setCell (p := ⟨w0.heap.size, 4, none⟩) (Nat.le_refl _) wv)
  have hf := h.rd.far
  have r := ((((h.res.set 0 (.int .i64 3)).set 1 (.string t)).set 2 (.string op)).set 3 (.bool false)).set 4 wv
  have rg := ((((h.rd.row.other (a := ⟨w0.heap.size, 0, none⟩) hne (.int .i64 3)).other (a := ⟨w0.heap.size, 1, none⟩) hne (.string t)).other (a := ⟨w0.heap.size, 2, none⟩) hne (.string op)).other (a := ⟨w0.heap.size, 3, none⟩) hne (.bool false)).other (a := ⟨w0.heap.size, 4, none⟩) hne wv
  rw [hW] at k b r rg
  refine ⟨r, ⟨rg, h.rd.size, h.rd.deep, h.rd.far, h.rd.tab.below ⟨Nat.lt_trans hf.1 hg, Nat.lt_trans hf.2 hg⟩ b⟩, k, b.size, fun x hx => ?_⟩
  rw [← hW]
  repeat (refine (Below.heap_setCell _ _ _ _ hx).trans ?_)
  rfl
theorem take_one (w : World) (S : Nat → Prop) (k : Nat) (s1 : ByteArray) (n : Nat) (op : ByteArray) (q : Bool) : OneAt w S (.mk k (s1.data.toList.take n) op.data.toList q []) k (s1.extract 0 n) op q (.slice none 0 0) := by
  have := plain_one w S k (s1.extract 0 n) op q
  rw [Lib.extract_data] at this
  simpa using this
set_option maxRecDepth 100000 in
set_option maxHeartbeats 4000000 in
theorem brace_len (d g : Nat) (v : Value) (s s1 u : ByteArray) (n : Nat) (w : World) (hr : Wr g v s d w) (hs : s.data.toList = 35 :: s1.data.toList) (hn : wparF s1.data.toList = n) (h0 : 0 < n) (hb : (s1.data.toList.drop n).head? = some 125) (hu : u.data.toList = s1.data.toList.drop (n + 1)) :
    Calls Tryz.prog 102 #[.pointer (some ⟨g, 0, none⟩)] w (BracePost g v d (.mk 3 (s1.data.toList.take n) [108, 101, 110] false []) u s.size w) := by
  obtain ⟨r0, r1, r2, f0, f1, f2, lt0⟩ := three_facts hr.row
  have hsz : s.size = s1.size + 1 := by
    have e1 : s.size = s.data.toList.length := by simp
    have e2 : s1.size = s1.data.toList.length := by simp
    rw [e1, hs, e2]; rfl
  have hn1 : n + 1 ≤ s1.size := by
    have e2 : s1.size = s1.data.toList.length := by simp
    rw [e2]
    rcases Nat.lt_or_ge n s1.data.toList.length with h | h
    · exact h
    · rw [List.drop_of_length_le h] at hb; cases hb
  have es1 : s.extract 1 s.size = s1 := by rw [← Lib.mk_data (ByteArray.extract _ _ _), ← Lib.mk_data s1, Lib.extract_to_end, hs]; rfl
  have HH := Lib.hid (fun W (R : Wr g v s d W) => has_at g ⟨#[35]⟩ v s d true W R (by rw [head_is, hs]; rfl))
  have HPF := Lib.hid (fun W => (show Calls Tryz.prog 70 #[.string (s1.extract n s1.size), .string ⟨#[125]⟩] W fun e w' => e = .returned (.bool true) ∧ w' = W by
    have h := Tryz.strings_HasPrefix (s1.extract n s1.size) ⟨#[125]⟩ W
    have e : Lib.hasPrefix (s1.extract n s1.size).data.toList (⟨#[125]⟩ : ByteArray).data.toList = true := by
      show (⟨#[125]⟩ : ByteArray).data.toList.isPrefixOf (s1.extract n s1.size).data.toList = true
      rw [head_is, Lib.extract_to_end, hb]; simp
    rw [e] at h
    exact h))
  have HR := Lib.hid hr
  have hs1b : (1 : Int) ≤ (s.size : Int) := by omega
  have hnb : (n : Int) ≤ (s1.size : Int) := by omega
  have hn0 : (0 : Int) < (n : Int) := by omega
  have HSZ := Lib.hid hsz
  have HN1 := Lib.hid hn1
  have HWN := Lib.hid hn
  have HUU : Hid ((s1.extract n s1.size).extract 1 (s1.extract n s1.size).size = u) := by
    unfold Hid
    rw [← Lib.mk_data (ByteArray.extract _ 1 _), ← Lib.mk_data u, Lib.extract_to_end, Lib.extract_to_end, hu, List.drop_drop]
  have HUS : Hid (n + u.size < s.size) := by
    have e1 : u.size = u.data.toList.length := by simp
    have e2 : s1.size = s1.data.toList.length := by simp
    unfold Hid
    rw [e1, hu, List.length_drop, hsz, e2]
    rw [e2] at hn1
    omega
  clear hr hs hb hsz hn1 hn hu
  go_enter Tryz.func102, Tryz.ntmps102
  go_wp2_with fail
  have B1 := Bc.start HR.out
  obtain ⟨W1, hW1⟩ : ∃ W1, ((w.alloc (.cells #[.int .i64 0, .string ⟨#[]⟩, .string ⟨#[]⟩, .bool false, .slice none 0 0] 92)).alloc (.cells #[.int .i64 3, .string ⟨#[]⟩, .string ⟨#[]⟩, .bool false, .slice none 0 0] 92)) = W1 := ⟨_, rfl⟩
  rw [hW1] at B1 ⊢
  have HB1 := Lib.hid B1
  clear hW1 r0 r1 r2 f0 f1 f2
  obtain ⟨r0, r1, r2, f0, f1, f2, lt1⟩ := three_facts B1.rd.row
  clear B1
  refine (HH.out W1 HB1.out.rd).mono ?_; rintro e w1 ⟨rfl, rfl⟩
  go_wp2_with fail
  have R3 := in_new0 HB1.out.rd s1 (by have := HSZ.out; have := HR.out.size; omega)
  have B3 := HB1.out.below ((Below.refl W1.heap.size W1).alloc (Nat.le_refl _) (.cells #[.slice none 0 0, .string s1, .int .i64 0] 90))
  obtain ⟨W3, hW3⟩ : ∃ W3, W1.alloc (.cells #[.slice none 0 0, .string s1, .int .i64 0] 90) = W3 := ⟨_, rfl⟩
  rw [hW3] at R3 B3 ⊢
  have HPR := Lib.hid (parameter_at W1.heap.size (.slice none 0 0) s1 0 W3 R3)
  rw [HWN.out] at HPR
  obtain ⟨x0, x1, x2, y0, y1, y2, lt3⟩ := three_facts R3.row
  have HT1 := Lib.hid (take_at g 1 v s d W3 B3.rd (by have := HSZ.out; omega))
  rw [es1] at HT1
  have HB3 := Lib.hid B3
  clear hW3 R3 B3 r0 r1 r2 f0 f1 f2
  refine HPR.out.mono ?_; rintro e w1 ⟨rfl, rfl⟩
  go_wp2_with fail
  refine (HPF.out _).mono ?_; rintro e w1 ⟨rfl, hw1⟩; subst hw1
  go_wp2_with fail
  refine HT1.out.mono ?_; rintro e w4 ⟨rfl, R4, K4⟩
  have B4 := HB3.out.next K4 R4
  obtain ⟨p0, p1, p2, p3, p4, q0, q1, q2, q3, q4, ltp⟩ := five_facts B4.par
  have HB4 := Lib.hid B4
  clear R4 K4 B4 x0 x1 x2 y0 y1 y2
  go_wp2_with fail
  have B5 := HB4.out.setP 2 (.string ⟨#[108, 101, 110]⟩) (t' := ⟨#[]⟩) (op' := ⟨#[108, 101, 110]⟩) (wv' := .slice none 0 0) rfl
  have HT2 := Lib.hid (take_at g n v s1 d _ B5.rd (by have := HN1.out; omega))
  have HB5 := Lib.hid B5
  clear B5
  refine HT2.out.mono ?_; rintro e w6 ⟨rfl, R6, K6⟩
  have B6 := HB5.out.next K6 R6
  clear p0 p1 p2 p3 p4 q0 q1 q2 q3 q4
  obtain ⟨p0, p1, p2, p3, p4, q0, q1, q2, q3, q4, ltp6⟩ := five_facts B6.par
  have HB6 := Lib.hid B6
  clear R6 K6 B6
  go_wp2_with fail
  have B7 := HB6.out.setP 1 (.string (s1.extract 0 n)) (t' := s1.extract 0 n) (op' := ⟨#[108, 101, 110]⟩) (wv' := .slice none 0 0) rfl
  have hsz7 : (s1.extract n s1.size).size = s1.size - n := by rw [ByteArray.size_extract]; omega
  have HT3 := Lib.hid (take_at g 1 v (s1.extract n s1.size) d _ B7.rd (by have := HN1.out; omega))
  rw [HUU.out] at HT3
  have HB7 := Lib.hid B7
  have HS7 := Lib.hid hsz7
  clear B7 hsz7
  refine HT3.out.mono ?_; rintro e w8 ⟨rfl, R8, K8⟩
  have B8 := HB7.out.next K8 R8
  clear p0 p1 p2 p3 p4 q0 q1 q2 q3 q4
  obtain ⟨p0, p1, p2, p3, p4, q0, q1, q2, q3, q4, ltp8⟩ := five_facts B8.par
  obtain ⟨a0, a1, a2, a3, a4, b0, b1, b2, b3, b4, ltq8⟩ := five_facts B8.res
  have HB8 := Lib.hid B8
  clear R8 K8 B8
  go_wp2_with fail
  obtain ⟨W', hW'⟩ : ∃ W', (((((w8.setCell ⟨w.heap.size, 0, none⟩ (.int .i64 3)).setCell ⟨w.heap.size, 1, none⟩ (.string (s1.extract 0 n))).setCell ⟨w.heap.size, 2, none⟩ (.string ⟨#[108, 101, 110]⟩)).setCell ⟨w.heap.size, 3, none⟩ (.bool false)).setCell ⟨w.heap.size, 4, none⟩ (.slice none 0 0)) = W' := ⟨_, rfl⟩
  obtain ⟨rf, Rf, Kf, _, _⟩ := HB8.out.finish W' hW'
  rw [hW']
  obtain ⟨j0, j1, j2, j3, j4, _⟩ := five_facts rf
  exact bodyPost_ret (v := .agg #[.int .i64 3, .string (s1.extract 0 n), .string ⟨#[108, 101, 110]⟩, .bool false, .slice none 0 0]) (by simp [results, Tryz.results102, go_sem, j0, j1, j2, j3, j4]) rfl
    ⟨_, _, none, 0, 0, rfl, take_one W' _ 3 s1 n ⟨#[108, 101, 110]⟩ false, Rf, Kf, by rw [ByteArray.size_extract]; have := HUS.out; omega⟩
end Go.Proofs.YtkmpbkhlcapbgaaGreatDoor
