/-
  DERIVED. The walk of the laws' awake (kinetoscopelaw10): the document's examples.
-/
import Derived.Test.YtdfpijbngbfjaaaGreatDoorEb
namespace Go.Proofs.YtdfpijbngbfjaaaGreatDoor
open Go.RowKit
def resN : Res → Int
  | .ok n => n
  | _ => 0
def resE : Res → Int
  | .zero => 22
  | _ => 0
theorem eval_at (s : ByteArray) (hs : s.size ≤ 1000000000) (t : Tree) (hp : parseF 60 s.data.toList = some t) (l : List (ByteArray × ByteArray)) (R : Res) (hR : evF l 20 t = R) (hb : R ≠ .bad) (v : Value) (w : World) (hV : VarsAt w v l) (hT : Tabs w) :
    Calls Tryz.prog 8 #[.string s, v] w fun e w' => e = .returned (.tuple #[.int .i64 (resN R), .int .i64 (resE R)]) ∧ Below w.heap.size w w' := by
  cases R with
  | ok n => exact eval_ok 60 20 s hs t hp l n hR v w hV hT
  | zero => exact eval_zero 60 20 s hs t hp l hR v w hV hT
  | bad => exact absurd rfl hb
theorem VarsAt.nil (w : World) : VarsAt w (.slice none 0 0) [] := ⟨none, 0, rfl, Nat.le_refl _, by simp, fun p hp => (by cases hp), .inl rfl⟩
theorem VarsAt.one (w : World) (e : TypeId) (n x : ByteArray) (hx : x.size ≤ 1000000000) (B : Nat) (hB : B = w.heap.size) : VarsAt (w.alloc (.cells #[.string n, .string x] e)) (.slice (some ⟨B, 0, none⟩) 1 1) [(n, x)] := by
  subst hB
  refine ⟨_, 1, rfl, Nat.le_refl _, by simp, ?_, .inr ⟨w.heap.size, 0, rfl, fun i hi => ?_⟩⟩
  · intro p hp; simp only [List.mem_singleton] at hp; subst hp; exact hx
  · obtain rfl : i = 0 := by simpa using hi
    have r := RowIs.new w e [.string n, .string x]
    exact ⟨by rw [r.cell]; rfl, by rw [r.cell]; rfl⟩
theorem VarsAt.three (w : World) (e : TypeId) (n1 x1 n2 x2 n3 x3 : ByteArray) (h1 : x1.size ≤ 1000000000) (h2 : x2.size ≤ 1000000000) (h3 : x3.size ≤ 1000000000) (B : Nat) (hB : B = w.heap.size) :
    VarsAt (w.alloc (.cells #[.string n1, .string x1, .string n2, .string x2, .string n3, .string x3] e)) (.slice (some ⟨B, 0, none⟩) 3 3) [(n1, x1), (n2, x2), (n3, x3)] := by
  subst hB
  refine ⟨_, 3, rfl, Nat.le_refl _, by simp, ?_, .inr ⟨w.heap.size, 0, rfl, fun i hi => ?_⟩⟩
  · intro p hp
    simp only [List.mem_cons, List.not_mem_nil, or_false] at hp
    rcases hp with rfl | rfl | rfl <;> assumption
  · have r := RowIs.new w e [.string n1, .string x1, .string n2, .string x2, .string n3, .string x3]
    simp at hi
    rcases (show i = 0 ∨ i = 1 ∨ i = 2 by omega) with rfl | rfl | rfl
    · exact ⟨by rw [r.cell]; rfl, by rw [r.cell]; rfl⟩
    · exact ⟨by rw [r.cell]; rfl, by rw [r.cell]; rfl⟩
    · exact ⟨by rw [r.cell]; rfl, by rw [r.cell]; rfl⟩
theorem ev_a (w : World) (hT : Tabs w) : Calls Tryz.prog 8 #[.string ⟨#[49, 43, 50, 42, 51]⟩, .slice none 0 0] w fun e w' => e = .returned (.tuple #[.int .i64 7, .int .i64 0]) ∧ Below w.heap.size w w' :=
  eval_at _ (by decide) (.node [43] [.num 1, .node [42] [.num 2, .num 3]]) (isTree_eq (by decide +kernel)) [] (.ok 7) (by kernel_rfl) (by simp) _ w (.nil w) hT
theorem ev_b (w : World) (hT : Tabs w) : Calls Tryz.prog 8 #[.string ⟨#[120, 32, 63, 32, 49, 47, 48, 32, 58, 32, 53]⟩, .slice none 0 0] w fun e w' => e = .returned (.tuple #[.int .i64 5, .int .i64 0]) ∧ Below w.heap.size w w' :=
  eval_at _ (by decide) (.node [63] [.var [120], .node [47] [.num 1, .num 0], .num 5]) (isTree_eq (by decide +kernel)) [] (.ok 5) (by kernel_rfl) (by simp) _ w (.nil w) hT
theorem ev_c (w : World) (hT : Tabs w) : Calls Tryz.prog 8 #[.string ⟨#[49, 47, 48]⟩, .slice none 0 0] w fun e w' => e = .returned (.tuple #[.int .i64 0, .int .i64 22]) ∧ Below w.heap.size w w' :=
  eval_at _ (by decide) (.node [47] [.num 1, .num 0]) (isTree_eq (by decide +kernel)) [] .zero (by kernel_rfl) (by simp) _ w (.nil w) hT
theorem ev_d (v : Value) (w : World) (hV : VarsAt w v [(⟨#[120]⟩, ⟨#[32, 45, 52]⟩)]) (hT : Tabs w) : Calls Tryz.prog 8 #[.string ⟨#[36, 120, 43, 120]⟩, v] w fun e w' => e = .returned (.tuple #[.int .i64 (-8), .int .i64 0]) ∧ Below w.heap.size w w' :=
  eval_at _ (by decide) (.node [43] [.var [120], .var [120]]) (isTree_eq (by decide +kernel)) [(⟨#[120]⟩, ⟨#[32, 45, 52]⟩)] (.ok (-8)) (by kernel_rfl) (by simp) _ w hV hT
theorem ev_n (w : World) (hT : Tabs w) : Calls Tryz.prog 9 #[.string ⟨#[48, 120, 49, 70]⟩] w fun e w' => e = .returned (.tuple #[.int .i64 31, .bool true]) ∧ Below w.heap.size w w' :=
  number_any ⟨#[48, 120, 49, 70]⟩ (by decide) trivial (some 31) (by kernel_rfl) w hT.env
set_option maxRecDepth 100000 in
set_option maxHeartbeats 4000000 in
theorem awake_any (w : World) (hT : Tabs w) : Calls Tryz.prog 6 #[] w fun e w' => e = .returned (.bool true) ∧ Below w.heap.size w w' := by
  have HT := Lib.hid hT
  clear hT
  go_enter Tryz.func6, Tryz.ntmps6
  go_wp2_with fail
  refine (ev_a _ HT.out).mono ?_; rintro e w1 ⟨rfl, b1⟩
  have B1 := Lib.hid b1; clear b1
  go_wp2_with fail
  refine (ev_b _ (HT.out.keep B1.out)).mono ?_; rintro e w2 ⟨rfl, b2⟩
  have B2 := Lib.hid (B1.out.trans (b2.mono B1.out.size)); clear b2
  go_wp2_with fail
  refine (ev_c _ (HT.out.keep B2.out)).mono ?_; rintro e w3 ⟨rfl, b3⟩
  have B3 := Lib.hid (B2.out.trans (b3.mono B2.out.size)); clear b3
  go_wp2_with fail
  have B4 := Lib.hid (B3.out.alloc B3.out.size (.cells #[.string ⟨#[120]⟩, .string ⟨#[32, 45, 52]⟩] 25))
  refine (ev_d _ _ (.one _ _ _ _ (by decide) _ rfl) (HT.out.keep B4.out)).mono ?_; rintro e w5 ⟨rfl, b5⟩
  have B5 := Lib.hid (B4.out.trans (b5.mono B4.out.size)); clear b5
  go_wp2_with fail
  refine (ev_n _ (HT.out.keep B5.out)).mono ?_; rintro e w6 ⟨rfl, b6⟩
  have B6 := Lib.hid (B5.out.trans (b6.mono B5.out.size)); clear b6
  go_wp2_with fail
  go_ret
  exact ⟨rfl, B6.out⟩
end Go.Proofs.YtdfpijbngbfjaaaGreatDoor
