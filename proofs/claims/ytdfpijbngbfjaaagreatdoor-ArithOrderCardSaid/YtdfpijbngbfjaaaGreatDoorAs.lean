/-
  DERIVED. The walks of arith's sign, pass and need; what a reader's call leaves.
-/
import Derived.Test.YtdfpijbngbfjaaaGreatDoorAa
import Derived.Test.YtdfpijbngbfjaaaGreatDoorOwn
import Derived.Test.YtdfpijbngbfjaaaGreatDoorDn
import Derived.Deep.MidRow
namespace Go.Proofs.YtdfpijbngbfjaaaGreatDoor
open Go.RowKit
/-- All that was there is as it was, but for one block; more may be made. -/
structure Kept (g : Nat) (w w' : World) : Prop where
  os : w'.os = w.os
  tape : w'.tape = w.tape
  output : w'.output = w.output
  size : w.heap.size ≤ w'.heap.size
  block : ∀ k, k < w.heap.size → k ≠ g → w'.heap[k]? = w.heap[k]?
theorem Kept.refl (g : Nat) (w : World) : Kept g w w := ⟨rfl, rfl, rfl, Nat.le_refl _, fun _ _ _ => rfl⟩
theorem Kept.trans {g : Nat} {a b c : World} (h : Kept g a b) (k : Kept g b c) : Kept g a c :=
  ⟨k.os.trans h.os, k.tape.trans h.tape, k.output.trans h.output, Nat.le_trans h.size k.size, fun i hi hg => (k.block i (Nat.lt_of_lt_of_le hi h.size) hg).trans (h.block i hi hg)⟩
theorem Kept.of {g : Nat} {w w' : World} (h : Below w.heap.size w w') : Kept g w w' := ⟨h.os, h.tape, h.output, h.size, fun k hk _ => h.block k hk⟩
theorem Kept.set {g : Nat} {w w' : World} (h : Kept g w w') (j : Nat) (v : Value) : Kept g w (w'.setCell ⟨g, j, none⟩ v) :=
  h.trans (by
    have b := (Below.refl g w').setCell (p := ⟨g, j, none⟩) (Nat.le_refl _) v
    refine ⟨b.os, b.tape, b.output, b.size, fun k _ hg => ?_⟩
    by_cases hk : k < g
    · exact b.block k hk
    · unfold World.setCell
      split
      · show (Array.modify _ g _)[k]? = _
        rw [Array.getElem?_modify, if_neg (Ne.symm hg)]
      · show (Array.modify _ g _)[k]? = _
        rw [Array.getElem?_modify, if_neg (Ne.symm hg)])
theorem Kept.row {g b e : Nat} {w w' : World} {l : List Value} (h : Kept g w w') (hr : RowIs w b e l) (hb : b ≠ g) : RowIs w' b e l := by
  unfold RowIs; rw [h.block b hr.lt hb]; exact hr
/-- The signs' table. -/
def SignsAt (w : World) : Prop := ∀ i, i < 24 → w.cell? ⟨1, i, none⟩ = some (.string ⟨(signsL.getD i []).toArray⟩)
theorem trimL_any (s u : ByteArray) (hu : u.data.toList = dropB s.data.toList) (w : World) :
    Calls Tryz.prog 74 #[.string s, .string ⟨#[32, 9, 10]⟩] w fun e w' => e = .returned (.string u) ∧ Below w.heap.size w w' := by
  have h := Any.strings_TrimLeft_laid Tryz.lays161 (by kernel_rfl) s ⟨#[32, 9, 10]⟩ w (by decide) (ascii_list (by decide))
  have e : (⟨(Lib.trimLeftS s.data.toList (⟨#[32, 9, 10]⟩ : ByteArray).data.toList).toArray⟩ : ByteArray) = u := by
    rw [← Lib.mk_data u, hu]; rfl
  rw [e] at h
  exact h
theorem idx_at (cs : Array Value) (hs : cs.size = 24) (j : Nat) (v : Value) (h : cs[j]? = some v) (z : Int) (hz : z = (j : Int)) : ∀ w', (Instr.index 90 (.agg cs) (.int .i64 z)).run Tryz.prog w' = .ok v w' := fun w' => by
  subst hz
  obtain ⟨h1, _⟩ := Array.getElem?_eq_some_iff.1 h
  have hn : (0 : Int) ≤ (j : Int) ∧ (j : Int) < ((24 : Nat) : Int) := by omega
  simp [Instr.index, run_underlying Tryz.underlying90, asIntOf, hn, go_sem]
  rw [if_pos (by omega), h]
  rfl
theorem lit_at (i : Nat) (h : i < 24) : (#[.string ⟨#[124, 124]⟩, .string ⟨#[38, 38]⟩, .string ⟨#[61, 61]⟩, .string ⟨#[33, 61]⟩, .string ⟨#[60, 61]⟩, .string ⟨#[62, 61]⟩, .string ⟨#[60, 60]⟩, .string ⟨#[62, 62]⟩, .string ⟨#[124]⟩, .string ⟨#[94]⟩, .string ⟨#[38]⟩, .string ⟨#[60]⟩, .string ⟨#[62]⟩, .string ⟨#[43]⟩, .string ⟨#[45]⟩, .string ⟨#[42]⟩, .string ⟨#[47]⟩, .string ⟨#[37]⟩, .string ⟨#[33]⟩, .string ⟨#[126]⟩, .string ⟨#[63]⟩, .string ⟨#[58]⟩, .string ⟨#[40]⟩, .string ⟨#[41]⟩] : Array Value)[i]? = some (.string ⟨(signsL.getD i []).toArray⟩) := by
  rcases (show i = 0 ∨ i = 1 ∨ i = 2 ∨ i = 3 ∨ i = 4 ∨ i = 5 ∨ i = 6 ∨ i = 7 ∨ i = 8 ∨ i = 9 ∨ i = 10 ∨ i = 11 ∨ i = 12 ∨ i = 13 ∨ i = 14 ∨ i = 15 ∨ i = 16 ∨ i = 17 ∨ i = 18 ∨ i = 19 ∨ i = 20 ∨ i = 21 ∨ i = 22 ∨ i = 23 by omega) with rfl | rfl | rfl | rfl | rfl | rfl | rfl | rfl | rfl | rfl | rfl | rfl | rfl | rfl | rfl | rfl | rfl | rfl | rfl | rfl | rfl | rfl | rfl | rfl
  all_goals rfl
theorem find_at {α : Type} (p : α → Bool) (d : α) : ∀ (l : List α) (i : Nat), i < l.length → (∀ j, j < i → p (l.getD j d) = false) → p (l.getD i d) = true → l.find? p = some (l.getD i d)
  | [], i, h, _, _ => by simp at h
  | a :: l, 0, _, _, h => by simp at h; simp [h]
  | a :: l, i + 1, hl, hn, h => by
    have h0 : p a = false := hn 0 (by omega)
    rw [List.find?_cons_of_neg (by simp [h0])]
    exact find_at p d l i (by simpa using hl) (fun j hj => hn (j + 1) (by omega)) h
theorem find_no {α : Type} (p : α → Bool) (d : α) : ∀ (l : List α), (∀ j, j < l.length → p (l.getD j d) = false) → l.find? p = none
  | [], _ => rfl
  | a :: l, hn => by
    have h0 : p a = false := hn 0 (by simp)
    rw [List.find?_cons_of_neg (by simp [h0])]
    exact find_no p d l (fun j hj => hn (j + 1) (by simpa using hj))
theorem signF_at {u l : List UInt8} (hu : u = dropB l) {i : Nat} (hi : i < 24) (hn : ∀ j, j < i → (signsL.getD j []).isPrefixOf u = false) (h : (signsL.getD i []).isPrefixOf u = true) : signF l = signsL.getD i [] := by
  subst hu
  unfold signF
  rw [find_at (fun s => s.isPrefixOf (dropB l)) [] signsL i hi hn h]
  rfl
theorem signF_none {u l : List UInt8} (hu : u = dropB l) (hn : ∀ j, j < 24 → (signsL.getD j []).isPrefixOf u = false) : signF l = [] := by
  subst hu
  unfold signF
  rw [find_no (fun s => s.isPrefixOf (dropB l)) [] signsL (fun j hj => hn j hj)]
  rfl
theorem Kept.cell {g : Nat} {w w' : World} (h : Kept g w w') {p : Addr} {v : Value} (hp : p.block ≠ g) (c : w.cell? p = some v) : w'.cell? p = some v :=
  (World.cell?_of_block (w := w) (h.block p.block (block_lt_of_cell c) hp)).trans c
theorem signs_range {g : Nat} {w : World} (hg : g ≠ 1) (hS : SignsAt w) (u : ByteArray) : (w.setCell ⟨g, 0, none⟩ (.string u)).rangeAt 1 0 [.string ⟨#[124, 124]⟩, .string ⟨#[38, 38]⟩, .string ⟨#[61, 61]⟩, .string ⟨#[33, 61]⟩, .string ⟨#[60, 61]⟩, .string ⟨#[62, 61]⟩, .string ⟨#[60, 60]⟩, .string ⟨#[62, 62]⟩, .string ⟨#[124]⟩, .string ⟨#[94]⟩, .string ⟨#[38]⟩, .string ⟨#[60]⟩, .string ⟨#[62]⟩, .string ⟨#[43]⟩, .string ⟨#[45]⟩, .string ⟨#[42]⟩, .string ⟨#[47]⟩, .string ⟨#[37]⟩, .string ⟨#[33]⟩, .string ⟨#[126]⟩, .string ⟨#[63]⟩, .string ⟨#[58]⟩, .string ⟨#[40]⟩, .string ⟨#[41]⟩] := fun j v hv => by
  have hj : j < 24 := (List.getElem?_eq_some_iff.1 hv).1
  have h := lit_at j hj
  rw [List.getElem?_toArray] at h
  rw [h] at hv
  cases hv
  rw [Nat.zero_add]
  exact ((Kept.refl g w).set 0 _).cell (Ne.symm hg) (hS j hj)
theorem prefix_at (u : ByteArray) (i : Nat) (b : Bool) (hb : (signsL.getD i []).isPrefixOf u.data.toList = b) (w : World) :
    Calls Tryz.prog 36 #[.string u, .string ⟨(signsL.getD i []).toArray⟩] w fun e w' => e = .returned (.bool b) ∧ w' = w := by
  have h := Tryz.strings_HasPrefix u ⟨(signsL.getD i []).toArray⟩ w
  have e : Lib.hasPrefix u.data.toList (⟨(signsL.getD i []).toArray⟩ : ByteArray).data.toList = b := hb
  rw [e] at h
  exact h
set_option maxRecDepth 100000 in
set_option maxHeartbeats 4000000 in
theorem sign_any (g : Nat) (s u : ByteArray) (d : Int) (hu : u.data.toList = dropB s.data.toList) (t : ByteArray) (ht : signF s.data.toList = t.data.toList) (w : World)
    (hg : g ≠ 1) (hr : RowIs w g 40 [.string s, .int .i64 d]) (hS : SignsAt w) :
    Calls Tryz.prog 41 #[.pointer (some ⟨g, 0, none⟩)] w fun e w' => e = .returned (.string t) ∧ RowIs w' g 40 [.string u, .int .i64 d] ∧ Kept g w w' := by
  have HT := Lib.hid (trimL_any s u hu)
  have c0 : w.cell? ⟨g, 0, none⟩ = some (.string s) := by rw [hr.cell]; rfl
  have lg := hr.lt
  go_enter Tryz.func41, Tryz.ntmps41
  go_wp2_with fail
  refine (HT.out _).mono ?_; rintro e w1 ⟨rfl, b1⟩
  have r1 := hr.below b1
  have c1 : w1.cell? ⟨g, 0, none⟩ = some (.string s) := by rw [r1.cell]; rfl
  have f1 : w1.frozen? ⟨g, 0, none⟩ = false := r1.free _
  have l1 := r1.lt
  have hS1 : SignsAt w1 := fun i hi => (b1.cell (p := ⟨1, i, none⟩) (block_lt_of_cell (hS i hi))).trans (hS i hi)
  -- THE SIGNS
  have HRA : Hid ((w1.setCell ⟨g, 0, none⟩ (.string u)).rangeAt 1 0 [.string ⟨#[124, 124]⟩, .string ⟨#[38, 38]⟩, .string ⟨#[61, 61]⟩, .string ⟨#[33, 61]⟩, .string ⟨#[60, 61]⟩, .string ⟨#[62, 61]⟩, .string ⟨#[60, 60]⟩, .string ⟨#[62, 62]⟩, .string ⟨#[124]⟩, .string ⟨#[94]⟩, .string ⟨#[38]⟩, .string ⟨#[60]⟩, .string ⟨#[62]⟩, .string ⟨#[43]⟩, .string ⟨#[45]⟩, .string ⟨#[42]⟩, .string ⟨#[47]⟩, .string ⟨#[37]⟩, .string ⟨#[33]⟩, .string ⟨#[126]⟩, .string ⟨#[63]⟩, .string ⟨#[58]⟩, .string ⟨#[40]⟩, .string ⟨#[41]⟩]) := signs_range hg hS1 u
  have hgs : ¬ (1 = g) := Ne.symm hg
  have HR1 := Lib.hid r1
  have HB1 := Lib.hid b1
  have HU := Lib.hid hu
  have HS0 := Lib.hid ht
  clear hS1 hu ht r1 b1 hr hS c0 lg
  go_wp2_with (refine wpList_load_mid rfl 90 _ rfl 1 0 rfl [.string ⟨#[124, 124]⟩, .string ⟨#[38, 38]⟩, .string ⟨#[61, 61]⟩, .string ⟨#[33, 61]⟩, .string ⟨#[60, 61]⟩, .string ⟨#[62, 61]⟩, .string ⟨#[60, 60]⟩, .string ⟨#[62, 62]⟩, .string ⟨#[124]⟩, .string ⟨#[94]⟩, .string ⟨#[38]⟩, .string ⟨#[60]⟩, .string ⟨#[62]⟩, .string ⟨#[43]⟩, .string ⟨#[45]⟩, .string ⟨#[42]⟩, .string ⟨#[47]⟩, .string ⟨#[37]⟩, .string ⟨#[33]⟩, .string ⟨#[126]⟩, .string ⟨#[63]⟩, .string ⟨#[58]⟩, .string ⟨#[40]⟩, .string ⟨#[41]⟩] _ HRA.out Tryz.underlying90 rfl (by kernel_rfl) ?_)
  go_loopg [4, 14] 24 (fun k s4 s14 wx => wx = w1.setCell ⟨g, 0, none⟩ (.string u) ∧ ∃ i : Nat, i + k = 24 ∧ s14 = .int .i64 i ∧ Hid (∀ j, j < i → (signsL.getD j []).isPrefixOf u.data.toList = false))
  case atStart => exact ⟨rfl, 0, rfl, rfl, fun j hj => by omega⟩
  case round =>
    obtain ⟨rfl, i, hik, rfl, hrel⟩ := hrel
    have hfin : RowIs (w1.setCell ⟨g, 0, none⟩ (.string u)) g 40 [.string u, .int .i64 d] ∧ Kept g w (w1.setCell ⟨g, 0, none⟩ (.string u)) := ⟨HR1.out.set 0 (.string u), (Kept.of HB1.out).set 0 _⟩
    have HFIN := Lib.hid hfin
    clear hfin
    have cu : (w1.setCell ⟨g, 0, none⟩ (.string u)).cell? ⟨g, 0, none⟩ = some (.string u) := by rw [HFIN.out.1.cell]; rfl
    cases gk with
    | zero =>
      obtain rfl : i = 24 := by omega
      have HT0 : Hid (t = ⟨#[]⟩) := by
        unfold Hid
        rw [← Lib.mk_data t, ← HS0.out]
        have := signF_none (u := u.data.toList) HU.out (fun j hj => hrel.out j hj)
        rw [this]
      go_wp2_with fail
      go_ret
      exact ⟨by rw [HT0.out]; rfl, HFIN.out⟩
    | succ g2 =>
      obtain ⟨b, hb⟩ : ∃ b, (signsL.getD i []).isPrefixOf u.data.toList = b := ⟨_, rfl⟩
      have HP := Lib.hid (prefix_at u i b hb)
      have HB2 := Lib.hid hb
      clear hb
      have hi24 : i < 24 := by omega
      have hiz : (i : Int) < 24 := by omega
      have HI := idx_at #[.string ⟨#[124, 124]⟩, .string ⟨#[38, 38]⟩, .string ⟨#[61, 61]⟩, .string ⟨#[33, 61]⟩, .string ⟨#[60, 61]⟩, .string ⟨#[62, 61]⟩, .string ⟨#[60, 60]⟩, .string ⟨#[62, 62]⟩, .string ⟨#[124]⟩, .string ⟨#[94]⟩, .string ⟨#[38]⟩, .string ⟨#[60]⟩, .string ⟨#[62]⟩, .string ⟨#[43]⟩, .string ⟨#[45]⟩, .string ⟨#[42]⟩, .string ⟨#[47]⟩, .string ⟨#[37]⟩, .string ⟨#[33]⟩, .string ⟨#[126]⟩, .string ⟨#[63]⟩, .string ⟨#[58]⟩, .string ⟨#[40]⟩, .string ⟨#[41]⟩] rfl i (.string ⟨(signsL.getD i []).toArray⟩) (lit_at i hi24) (i : Int) rfl
      have HI2 := Lib.hid hi24
      clear hi24
      cases b
      · go_wp2_with fail
        refine (HP.out _).mono ?_; rintro e w2 ⟨rfl, hw⟩; subst hw
        go_wp2_with fail
        go_roundg g2
        case measure => omega
        case rel => exact ⟨rfl, i + 1, by omega, rfl, fun j hj => by
          rcases Nat.lt_succ_iff_lt_or_eq.1 hj with h | h
          · exact hrel.out j h
          · subst h; exact HB2.out⟩
      · have HT0 : Hid (t = ⟨(signsL.getD i []).toArray⟩) := by
          unfold Hid
          rw [← Lib.mk_data t, ← HS0.out, signF_at HU.out HI2.out (fun j hj => hrel.out j hj) HB2.out]
        go_wp2_with fail
        refine (HP.out _).mono ?_; rintro e w2 ⟨rfl, hw⟩; subst hw
        go_wp2_with fail
        go_ret
        exact ⟨by rw [HT0.out]; rfl, HFIN.out⟩
end Go.Proofs.YtdfpijbngbfjaaaGreatDoor
