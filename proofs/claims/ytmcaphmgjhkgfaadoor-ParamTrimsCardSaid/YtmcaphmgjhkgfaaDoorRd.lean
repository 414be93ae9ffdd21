/-
  DERIVED. The document's row at every sign, told by the signs; its Match.
-/
import Derived.Test.YtmcaphmgjhkgfaaDoorRc
namespace Go.Proofs.YtmcaphmgjhkgfaaDoor
open Go.RowKit Gl
/-- What place j's row says. -/
def rowG (t m : ByteArray) (S : List Int) (j k : Nat) : Bool := M (signsFrom t m j) (S.drop k)
theorem isB_bt {t m : ByteArray} {i : Nat} {c : Int} (h : isB t m i c = true) : bt t i = c := by
  simp only [isB, Bool.and_eq_true, beq_iff_eq] at h; exact h.1.2
theorem row_any (t m s : ByteArray) (ht : t.size ≤ 1000000000) (hs : s.size ≤ 1000000000) (i : Nat) (hi : i < t.size) (B0 : Nat) (w : World)
    (hrows : ∀ j, i < j → j ≤ t.size → ∃ Bj, NextAt w B0 Bj s.size j (rowG t m (bl s) j)) :
    Calls Tryd.prog 29 #[.string t, .string m, .int .i64 i, .string s, .slice (some ⟨B0, 0, none⟩) (t.size + 1) (t.size + 1)] w (RowPost (rowG t m (bl s) i) s.size w) := by
  have hl := bl_length s
  obtain ⟨Bn, hn⟩ := hrows (i + 1) (by omega) (by omega)
  cases h1 : isB t m i 42
  · cases h2 : isB t m i 63
    · cases h3 : isB t m i 91
      · refine row_self t m s ht hs i hi B0 Bn (i + 1) (by omega) _ _ rfl h1 h2 false h3 (fun h => by cases h) ?_ ?_ w hn
        · intro k hk
          unfold rowG; rw [signs_self hi h1 h2 h3, M_one_step (by show (0 : Nat) ≠ 2; decide) _ _ _ (by omega), bl_get s k hk]; rfl
        · unfold rowG; rw [signs_self hi h1 h2 h3, ← hl]; exact M_one_end (by show (0 : Nat) ≠ 2; decide) _ _
      · cases hset : setAt t m i with
        | none =>
          refine row_self t m s ht hs i hi B0 Bn (i + 1) (by omega) _ _ rfl h1 h2 true h3 (fun _ => hset) ?_ ?_ w hn
          · intro k hk
            unfold rowG; rw [signs_noset hi h1 h2 h3 hset, M_one_step (by show (0 : Nat) ≠ 2; decide) _ _ _ (by omega), bl_get s k hk, isB_bt h3]; rfl
          · unfold rowG; rw [signs_noset hi h1 h2 h3 hset, ← hl]; exact M_one_end (by show (0 : Nat) ≠ 2; decide) _ _
        | some r =>
          obtain ⟨sg, to⟩ := r
          have hgt := setAt_gt hset
          simp only at hgt
          obtain ⟨Bp, hp⟩ := hrows to (by omega) (by omega)
          have hk3 : sg.kind ≠ 2 := by
            rw [setAt_loop, Option.map_eq_some_iff] at hset
            obtain ⟨q, _, e⟩ := hset
            cases e; show (3 : Nat) ≠ 2; decide
          refine row_set t m s ht hs i hi B0 Bp to (by omega) _ _ h1 h2 h3 sg hset ?_ ?_ w hp
          · intro k hk
            unfold rowG; rw [signs_set hi h1 h2 h3 hset, M_one_step hk3 _ _ _ (by omega), bl_get s k hk]
          · unfold rowG; rw [signs_set hi h1 h2 h3 hset, ← hl]; exact M_one_end hk3 _ _
    · refine row_some t m s ht hs i hi B0 Bn (i + 1) (by omega) _ _ rfl h1 h2 _ rfl ?_ ?_ w hn
      · intro k hk
        unfold rowG; rw [signs_one hi h1 h2, M_one_step (by show (1 : Nat) ≠ 2; decide) _ _ _ (by omega)]; rfl
      · unfold rowG; rw [signs_one hi h1 h2, ← hl]; exact M_one_end (by show (1 : Nat) ≠ 2; decide) _ _
  · refine row_star t m s ht hs i hi B0 Bn (i + 1) (by omega) _ _ rfl h1 _ _ rfl rfl ?_ ?_ w hn
    · intro k hk
      unfold rowG; rw [signs_star hi h1, M_any_step rfl _ _ _ (by omega)]
    · unfold rowG; rw [signs_star hi h1, ← hl]; exact M_any_end rfl _ _
theorem row_at (t m s : ByteArray) (ht : t.size ≤ 1000000000) (hs : s.size ≤ 1000000000) (z : Int) (i : Nat) (hz : z = (i : Int)) (hi : i < t.size) (B0 : Nat) (w : World)
    (hrows : ∀ j, i < j → j ≤ t.size → ∃ Bj, NextAt w B0 Bj s.size j (rowG t m (bl s) j)) :
    Calls Tryd.prog 29 #[.string t, .string m, .int .i64 z, .string s, .slice (some ⟨B0, 0, none⟩) (t.size + 1) (t.size + 1)] w (RowPost (rowG t m (bl s) i) s.size w) := by
  subst hz; exact row_any t m s ht hs i hi B0 w hrows
/-- At the head of a round of the document's Match: the rows from place n on are there. -/
def RowsRel (t m : ByteArray) (S : List Int) (L N : Nat) (w : World) (g : Nat) (k : Value) (wr : World) : Prop :=
  ∃ (n : Nat) (z : Int) (l : List Value), k = .int .i64 z ∧ z + 1 = (n : Int) ∧ n ≤ L ∧ l.length = L + 1 ∧ RowIs wr w.heap.size 51 l ∧
    (∀ j, n ≤ j → j ≤ L → ∃ Bj, Bj ≠ w.heap.size ∧ NextAt wr w.heap.size Bj N j (rowG t m S j)) ∧ Below w.heap.size w wr ∧ n ≤ g
theorem rows_step {t m : ByteArray} {S : List Int} {L N n : Nat} {l : List Value} {w wr w2 : World} (hn : n < L) (hl : l.length = L + 1) (hr : RowIs wr w.heap.size 51 l)
    (hrows : ∀ j, n + 1 ≤ j → j ≤ L → ∃ Bj, Bj ≠ w.heap.size ∧ NextAt wr w.heap.size Bj N j (rowG t m S j)) (hb : Below w.heap.size w wr)
    (h2 : RowIs w2 wr.heap.size 4 (fullOf (rowG t m S n) N)) (hb2 : Below wr.heap.size wr w2) :
    RowsRel t m S L N w n (.int .i64 ((n : Int) - 1)) (w2.setCell ⟨w.heap.size, n, none⟩ (.slice (some ⟨wr.heap.size, 0, none⟩) (N + 1) (N + 1))) := by
  have hlt := hr.lt
  have r2 := hr.below hb2
  have hne : wr.heap.size ≠ w.heap.size := by omega
  refine ⟨n, _, l.set n (.slice (some ⟨wr.heap.size, 0, none⟩) (N + 1) (N + 1)), rfl, by omega, by omega, by simpa using hl, r2.set n _, ?_, (hb.trans (hb2.mono hb.size)).setCell (Nat.le_refl _) _, Nat.le_refl _⟩
  intro j hj hjL
  by_cases e : j = n
  · subst e
    refine ⟨wr.heap.size, hne, ?_, h2.other (by exact hne) _⟩
    rw [(r2.set j _).cell, List.getElem?_set_self (by omega)]
  · obtain ⟨Bj, hB, hc, hr3⟩ := hrows j (by omega) hjL
    refine ⟨Bj, hB, ?_, (hr3.below hb2).other (by exact hB) _⟩
    rw [(r2.set n _).cell, List.getElem?_set_ne (by omega), ← hr.cell]; exact hc
theorem rows_start {t m : ByteArray} {S : List Int} {N : Nat} (hS : S.length = N) {w w1 w2 : World} (r1 : RowIs w1 w.heap.size 51 (List.replicate (t.size + 1) (.slice none 0 0))) (hb1 : Below w.heap.size w w1)
    (r2 : RowIs w2 w1.heap.size 4 (List.replicate (N + 1) (.bool false))) (hb2 : Below w1.heap.size w1 w2) :
    RowsRel t m S t.size N w t.size (.int .i64 ((t.size : Int) - 1)) ((w2.setCell ⟨w.heap.size, t.size, none⟩ (.slice (some ⟨w1.heap.size, 0, none⟩) (N + 1) (N + 1))).setCell ⟨w1.heap.size, N, none⟩ (.bool true)) := by
  have hlt := r1.lt
  have hne : w1.heap.size ≠ w.heap.size := by omega
  have r1' := (r1.below hb2).set t.size (.slice (some ⟨w1.heap.size, 0, none⟩) (N + 1) (N + 1))
  have r1'' := r1'.other (a := ⟨w1.heap.size, N, none⟩) (by exact hne.symm) (.bool true)
  have r2' := (r2.other (a := ⟨w.heap.size, t.size, none⟩) (by exact hne) (.slice (some ⟨w1.heap.size, 0, none⟩) (N + 1) (N + 1))).set N (.bool true)
  refine ⟨t.size, _, _, rfl, by omega, Nat.le_refl _, by simp, r1'', ?_, ((hb1.trans (hb2.mono hb1.size)).setCell (Nat.le_refl _) _).setCell (by exact Nat.le_of_lt hlt) _, Nat.le_refl _⟩
  intro j hj hjL
  obtain rfl : j = t.size := by omega
  refine ⟨w1.heap.size, hne, ?_, ?_⟩
  · rw [r1''.cell, List.getElem?_set_self (by simp)]
  · have e : fullOf (rowG t m S t.size) N = (List.replicate (N + 1) (Value.bool false)).set N (.bool true) := by
      rw [← backOf_start (rowG t m S t.size) N, backOf_set _ N N (Nat.le_refl _) true (by unfold rowG; rw [signs_end (by omega), M_nil_row _ _ (by omega)]; simp [hS])]
      unfold fullOf backOf
      refine List.map_congr_left fun x hx => ?_
      have := List.mem_range.1 hx
      rw [if_pos (Nat.zero_le _)]
      by_cases e : N ≤ x
      · rw [if_pos e]
      · rw [if_neg e]
        unfold rowG; rw [signs_end (by omega), M_nil_row _ _ (by omega)]; simp; omega
    rw [e]; exact r2'
set_option maxRecDepth 100000 in
set_option maxHeartbeats 8000000 in
theorem rmatch_any (t m s : ByteArray) (ht : t.size ≤ 1000000000) (hs : s.size ≤ 1000000000) (w : World) :
    Calls Tryd.prog 24 #[.string t, .string m, .int .i64 0, .string s] w fun e w' => e = .returned (.bool (matchF t m (bl s))) ∧ Below w.heap.size w w' := by
  have HL := Lib.hid (bl_length s)
  go_enter Tryd.func24, Tryd.ntmps24
  go_wp2_with (first | (at_make; refine wpList_mkrow _ rfl _ _ 53 rfl 51 _ 24 Tryd.underlying53 info40 rfl _ _ _ _ (t.size + 1) rfl rfl (by omega) (by omega) ⟨by omega, by unfold maxLen; omega⟩ w.heap.size rfl ?_; intro w1 r1 hb1 hlt1) | (at_make; refine wpList_mkrow _ rfl _ _ 51 rfl 4 _ 1 Tryd.underlying51 info4r rfl _ _ _ _ (s.size + 1) rfl rfl (by omega) (by omega) ⟨by omega, by unfold maxLen; omega⟩ w1.heap.size rfl ?_; intro w2 r2 hb2 hlt2; have f1 := (r1.below hb2).free t.size; have c1 : w2.cell? ⟨w.heap.size, t.size, none⟩ = some (.slice none 0 0) := by { rw [(r1.below hb2).cell]; simp }; have f2 := r2.free s.size; have c2 : w2.cell? ⟨w1.heap.size, s.size, none⟩ = some (.bool false) := by { rw [r2.cell]; simp }))
  have HST := Lib.hid (rows_start HL.out (m := m) r1 hb1 r2 hb2)
  clear r1 hb1 hlt1 r2 hb2 hlt2 f1 c1 f2 c2
  go_loopg [10] t.size (fun g k wr => RowsRel t m (bl s) t.size s.size w g k wr)
  case atStart => exact HST.out
  case round =>
    clear HST
    obtain ⟨n, z, l, rfl, hz, hn, hl, hr, hrows, hbel, hg⟩ := hrel
    have hw0 := hr.lt
    have HG := Lib.hid hg; clear hg
    have HLL := Lib.hid hl; clear hl
    rcases n with _ | n
    · obtain rfl : z = -1 := by omega
      obtain ⟨B, hB, hc, hr0⟩ := hrows 0 (Nat.le_refl _) (Nat.zero_le _)
      have c1 : wr.cell? ⟨B, 0, none⟩ = some (.bool (rowG t m (bl s) 0 0)) := (hr0.cell 0).trans (fullOf_at _ _ _ (Nat.zero_le _))
      have HV : Hid (rowG t m (bl s) 0 0 = matchF t m (bl s)) := by unfold Hid rowG; rw [List.drop_zero]; rfl
      clear hz hrows hr hr0
      go_wp2_with fail
      go_ret
      exact ⟨by rw [← HV.out]; rfl, hbel⟩
    · obtain rfl : z = (n : Int) := by omega
      have hf := hr.free n
      have HR := Lib.hid hr; have HRS := Lib.hid hrows
      have hnl : n < t.size := by omega
      clear hz hr hrows
      have HC := Lib.hid (row_any t m s ht hs n hnl w.heap.size wr (fun j h1 h2 => let ⟨B, _, h⟩ := HRS.out j h1 h2; ⟨B, h⟩))
      go_wp2_with fail
      refine HC.out.mono ?_
      rintro e w2 ⟨rfl, hr2, hb2⟩
      have HR2 := Lib.hid hr2; clear hr2 HC
      have r1 := HR.out.below hb2
      have hf2 := r1.free n
      have hlen : n < l.length := by have := HLL.out; omega
      have hc2 : w2.cell? ⟨w.heap.size, n, none⟩ = some l[n] := by rw [r1.cell]; exact List.getElem?_eq_getElem hlen
      have hw2 := r1.lt
      clear r1
      go_wp2_with fail
      go_roundg n
      case measure => have := HG.out; omega
      case rel => exact rows_step hnl HLL.out HR.out HRS.out hbel HR2.out hb2
end Go.Proofs.YtmcaphmgjhkgfaaDoor
