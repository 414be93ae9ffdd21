/-
  DERIVED. The walk of layer 17's awake.
-/
import Derived.Test.YtjpdhbalngpdpaaGreatDoorTi
namespace Go.Proofs.YtjpdhbalngpdpaaGreatDoor
open Go.RowKit
theorem new_strs3 (w : World) (e : TypeId) (s t u : ByteArray) (B : Nat) (hB : B = w.heap.size) : StrsAt (w.alloc (.cells #[.string s, .string t, .string u] e)) (.slice (some ⟨B, 0, none⟩) 3 3) [s, t, u] := by
  subst hB
  have hr := RowIs.new w e [.string s, .string t, .string u]
  exact ⟨_, 3, rfl, Nat.le_refl _, .inr ⟨w.heap.size, 0, rfl, fun i hi => by
    rw [Nat.zero_add, hr.cell i]
    match i, hi with
    | 0, _ => rfl
    | 1, _ => rfl
    | 2, _ => rfl⟩⟩
theorem new_strs4 (w : World) (e : TypeId) (s t u v : ByteArray) (B : Nat) (hB : B = w.heap.size) : StrsAt (w.alloc (.cells #[.string s, .string t, .string u, .string v] e)) (.slice (some ⟨B, 0, none⟩) 4 4) [s, t, u, v] := by
  subst hB
  have hr := RowIs.new w e [.string s, .string t, .string u, .string v]
  exact ⟨_, 4, rfl, Nat.le_refl _, .inr ⟨w.heap.size, 0, rfl, fun i hi => by
    rw [Nat.zero_add, hr.cell i]
    match i, hi with
    | 0, _ => rfl
    | 1, _ => rfl
    | 2, _ => rfl
    | 3, _ => rfl⟩⟩
theorem ex1 : decF [⟨#[51]⟩, ⟨#[45, 108, 116]⟩, ⟨#[49, 48]⟩] = ⟨0, AskT.none, false⟩ := by kernel_rfl
theorem ex2 : decF [⟨#[33]⟩, ⟨#[97]⟩, ⟨#[61]⟩, ⟨#[97]⟩] = ⟨1, AskT.none, false⟩ := by kernel_rfl
theorem ex3 : decF [⟨#[33]⟩, ⟨#[45, 100]⟩, ⟨#[120]⟩] = ⟨0, ⟨true, ⟨#[45, 100]⟩, ⟨#[120]⟩⟩, true⟩ := by kernel_rfl
theorem ascii_of {s : ByteArray} (_h : s.data.toList.all (fun b => decide (b.toNat < 128)) = true) : Ascii s := trivial
theorem ok1 : DecOk [⟨#[51]⟩, ⟨#[45, 108, 116]⟩, ⟨#[49, 48]⟩] := fun _ => ⟨⟨by decide, by decide⟩, ascii_of (by decide), ascii_of (by decide)⟩
theorem ok2 : DecOk [⟨#[33]⟩, ⟨#[97]⟩, ⟨#[61]⟩, ⟨#[97]⟩] := fun _ => ⟨⟨by decide, by decide⟩, ascii_of (by decide), ascii_of (by decide)⟩
theorem ok3 : DecOk [⟨#[33]⟩, ⟨#[45, 100]⟩, ⟨#[120]⟩] := fun _ => ⟨⟨by decide, by decide⟩, ascii_of (by decide), ascii_of (by decide)⟩
theorem told_b (kind : Int) (w : World) :
    Calls Tryz.prog 13 #[.agg #[.bool true, .string ⟨#[45, 100]⟩, .string ⟨#[120]⟩], .agg #[.int .i64 kind, .int .i64 0, .int .i64 2, .int .i64 0, .string ⟨#[]⟩, .slice none 0 0, .int .i64 0]] w
      fun e w' => e = .returned (.int .i64 1) ∧ Below w.heap.size w w' :=
  told_any true ⟨#[45, 100]⟩ ⟨#[120]⟩ kind 0 2 0 ⟨#[]⟩ none 0 0 0 false (by decide) w
set_option maxRecDepth 100000 in
set_option maxHeartbeats 4000000 in
theorem awake_any (w : World) (hE : Env w) : Calls Tryz.prog 10 #[] w fun e w' => e = .returned (.bool true) ∧ Below w.heap.size w w' := by
  have H1 := Lib.hid (fun v W hv hE => dec_any _ ok1 _ ex1 v W hv hE)
  have H2 := Lib.hid (fun v W hv hE => dec_any _ ok2 _ ex2 v W hv hE)
  have H3 := Lib.hid (fun v W hv hE => dec_any _ ok3 _ ex3 v W hv hE)
  have HE := Lib.hid hE
  clear hE
  go_enter Tryz.func10, Tryz.ntmps10
  go_wp2_with fail
  have b0 := (Below.refl w.heap.size w).alloc (Nat.le_refl _) (.cells #[.string ⟨#[51]⟩, .string ⟨#[45, 108, 116]⟩, .string ⟨#[49, 48]⟩] 9)
  refine (H1.out _ _ (new_strs3 _ _ _ _ _ _ (by simp)) (HE.out.keep b0)).mono ?_; rintro e w1 ⟨rfl, hb1⟩
  have B1 := b0.trans (hb1.mono b0.size)
  clear b0 hb1
  go_wp2_with fail
  have b1 := (B1.alloc B1.size (.cells #[.bool false, .string ⟨#[]⟩, .string ⟨#[]⟩] 25)).alloc (by have := B1.size; simp; omega) (.cells #[.string ⟨#[33]⟩, .string ⟨#[97]⟩, .string ⟨#[61]⟩, .string ⟨#[97]⟩] 9)
  refine (H2.out _ _ (new_strs4 _ _ _ _ _ _ _ (by simp)) (HE.out.keep b1)).mono ?_; rintro e w2 ⟨rfl, hb2⟩
  have B2 := b1.trans (hb2.mono b1.size)
  clear b1 hb2 B1
  go_wp2_with fail
  have b2 := (B2.alloc B2.size (.cells #[.bool false, .string ⟨#[]⟩, .string ⟨#[]⟩] 25)).alloc (by have := B2.size; simp; omega) (.cells #[.string ⟨#[33]⟩, .string ⟨#[45, 100]⟩, .string ⟨#[120]⟩] 9)
  refine (H3.out _ _ (new_strs3 _ _ _ _ _ _ (by simp)) (HE.out.keep b2)).mono ?_; rintro e w3 ⟨rfl, hb3⟩
  have B3 := b2.trans (hb3.mono b2.size)
  clear b2 hb3 B2
  go_wp2_with fail
  have B4 := B3.alloc B3.size (.cells #[.bool true, .string ⟨#[45, 100]⟩, .string ⟨#[120]⟩] 25)
  refine (told_b _ _).mono ?_; rintro e w4 ⟨rfl, hb4⟩
  have B5 := B4.trans (hb4.mono B4.size)
  go_wp2_with fail
  go_ret
  exact ⟨rfl, B5⟩
end Go.Proofs.YtjpdhbalngpdpaaGreatDoor
