/-
  DERIVED. The contracts of the functions of package param and of its document, joined; the walks of the laws ParamDoes and ParamColons.
-/
import Derived.Test.YtmcaphmgjhkgfaaDoorPa
import Derived.Test.YtmcaphmgjhkgfaaDoorPb
import Derived.Test.YtmcaphmgjhkgfaaDoorPd
import Derived.Test.YtmcaphmgjhkgfaaDoorPr
import Derived.Test.YtmcaphmgjhkgfaaDoorPlain
import Derived.Lib.SmallJoins
namespace Go.Proofs.YtmcaphmgjhkgfaaDoor
open Go.RowKit Go.Sort
theorem gPow : Tryd.prog.globalNamed "internal/strconv.uint64pow10" = some 1 := by kernel_rfl
/-- What the walks ask of the library's variables. -/
structure Env (w : World) : Prop where
  max : ∃ m, w.cell? ⟨0, 0, none⟩ = some (.int .i64 m)
  pow : Lib.TabIs Tryd.prog w "internal/strconv.uint64pow10" .u64 Lib.pow10Tab
theorem Env.keep {w w' : World} (h : Env w) (hb : Below w.heap.size w w') : Env w' := by
  obtain ⟨⟨m, hm⟩, hp⟩ := h
  exact ⟨⟨m, (hb.cell (block_lt_of_cell hm)).trans hm⟩, Joins.tab_stays gPow hp hb (Nat.le_refl _)⟩
theorem below_grow (w : World) (q : Nat) (os : Array Obj) : Below w.heap.size w (grow (w.drewN q) os) :=
  ⟨rfl, rfl, rfl, by first | (simp [grow]; done) | (simp [grow]; omega), fun i hi => by
    show ((w.drewN q).heap ++ os)[i]? = _
    rw [Array.getElem?_append_left (by show i < w.heap.size; omega)]
    rfl⟩
theorem does_any (op value : ByteArray) (set : Bool) (w : World) (hE : Env w) :
    Calls Tryd.prog 7 #[.string op, .string value, .bool set] w fun e w' =>
      e = .returned (.int .i64 (doesF op.data.toList value.data.toList set)) ∧ Below w.heap.size w w' := by
  obtain ⟨m, hm⟩ := hE.max
  have HC : CutIs op (Lib.trimPrefix op.data.toList [58]) (Lib.hasPrefix op.data.toList [58]) := fun w =>
    (Tryd.strings_CutPrefix op ⟨#[58]⟩ w).mono fun e w' ⟨he, hw⟩ => ⟨he, hw.symm⟩
  have HK : ∀ b, Lib.contains [45, 61, 63, 43] (Lib.trimPrefix op.data.toList [58]) = b → HasIs (Lib.trimPrefix op.data.toList [58]) m b := fun b hb w hw =>
    (Tryd.strings_Contains ⟨#[45, 61, 63, 43]⟩ ⟨(Lib.trimPrefix op.data.toList [58]).toArray⟩ m w (by decide) hw).mono fun e w' ⟨he, hw⟩ => ⟨by rw [he]; simp only [hb], hw.symm⟩
  unfold doesF
  generalize Lib.trimPrefix op.data.toList [58] = name at *
  generalize Lib.hasPrefix op.data.toList [58] = colon at *
  by_cases hn : name = [45] ∨ name = [61] ∨ name = [63] ∨ name = [43]
  · have := does_lit name hn op value set colon m w hm HC (HK true (has_lit name hn))
    rw [Lib.toList_data] at this
    exact this
  · simp only [not_or] at hn
    obtain ⟨h1, h2, h3, h4⟩ := hn
    have n1 : (name == [45]) = false := by simpa using h1
    have n2 : (name == [61]) = false := by simpa using h2
    have n3 : (name == [63]) = false := by simpa using h3
    have n4 : (name == [43]) = false := by simpa using h4
    have := does_other name ⟨n1, n2, n3, n4⟩ op value set colon m w hm HC (fun hl => HK false (has_other name hl n1 n2 n3 n4))
    simpa [doesT, n1, n2, n3, n4] using this
theorem ref_any (op value : ByteArray) (set : Bool) (w : World) :
    Calls Tryd.prog 8 #[.string op, .string value, .bool set] w fun e w' =>
      e = .returned (.int .i64 (doesF op.data.toList value.data.toList set)) ∧ Below w.heap.size w w' := by
  have := ref_does op value set w
  rw [Lib.toList_data, Lib.toList_data, ← does_ref] at this
  exact this
set_option maxHeartbeats 400000 in
theorem trimsB_any (s : ByteArray) (w : World) :
    Calls Tryd.prog 9 #[.string s] w fun e w' => e = .returned (.bool (trimsF s.data.toList).1) ∧ Below w.heap.size w w' := by
  go_enter Tryd.func9, Tryd.ntmps9
  go_wp2_with fail
  refine (trims_any s _).mono ?_; rintro e w' ⟨rfl, hb⟩
  go_wp2_with fail
  go_ret
  exact ⟨rfl, hb⟩
set_option maxHeartbeats 400000 in
theorem len_any (s : ByteArray) (hs : s.size ≤ 2000) (w : World) (hE : Env w) :
    Calls Tryd.prog 10 #[.string s] w fun e w' => e = .returned (.string ⟨(Lib.decDigits s.size).toArray⟩) ∧ Below w.heap.size w w' := by
  have HI : Hid (Calls Tryd.prog 17 #[.int .i64 s.size] w fun e w' => e = .returned (.string ⟨(Lib.itoa s.size).toArray⟩) ∧ ∃ k os, w' = grow (w.drewN k) os) := Tryd.strconv_Itoa s.size (by omega) (by omega) w hE.pow
  clear hE
  go_enter Tryd.func10, Tryd.ntmps10
  go_wp2_with fail
  refine HI.out.mono ?_; rintro e w' ⟨rfl, k, os, rfl⟩
  go_wp2_with fail
  go_ret
  exact ⟨by simp [Lib.itoa_nonneg], below_grow _ _ _⟩
theorem does_at (op value : ByteArray) (set : Bool) (r : Int) (h : doesF op.data.toList value.data.toList set = r) (w : World) (hE : Env w) :
    Calls Tryd.prog 7 #[.string op, .string value, .bool set] w fun e w' => e = .returned (.int .i64 r) ∧ Below w.heap.size w w' := by
  subst h; exact does_any op value set w hE
theorem ref_at (op value : ByteArray) (set : Bool) (r : Int) (h : doesF op.data.toList value.data.toList set = r) (w : World) :
    Calls Tryd.prog 8 #[.string op, .string value, .bool set] w fun e w' => e = .returned (.int .i64 r) ∧ Below w.heap.size w w' := by
  subst h; exact ref_any op value set w
theorem trims_at (s : ByteArray) (b : Bool) (h : (trimsF s.data.toList).1 = b) (w : World) :
    Calls Tryd.prog 9 #[.string s] w fun e w' => e = .returned (.bool b) ∧ Below w.heap.size w w' := by
  subst h; exact trimsB_any s w
set_option maxHeartbeats 1000000 in
theorem awake_any (w : World) (hE : Env w) :
    Calls Tryd.prog 6 #[] w fun e w' => e = .returned (.bool true) ∧ Below w.heap.size w w' := by
  have B0 := Below.refl w.heap.size w
  go_enter Tryd.func6, Tryd.ntmps6
  go_wp2_with fail
  refine (does_at ⟨#[58, 45]⟩ ⟨#[]⟩ true 2 (by decide) _ hE).mono ?_; rintro e w1 ⟨rfl, hb⟩
  replace hE := hE.keep hb; have B1 := below_call hb B0; clear hb B0
  go_wp2_with fail
  refine (does_at ⟨#[45]⟩ ⟨#[]⟩ true 1 (by decide) _ hE).mono ?_; rintro e w2 ⟨rfl, hb⟩
  replace hE := hE.keep hb; have B0 := below_call hb B1; clear hb B1
  go_wp2_with fail
  refine (does_at ⟨#[61]⟩ ⟨#[120]⟩ false 3 (by decide) _ hE).mono ?_; rintro e w3 ⟨rfl, hb⟩
  replace hE := hE.keep hb; have B1 := below_call hb B0; clear hb B0
  go_wp2_with fail
  refine (does_at ⟨#[58, 63]⟩ ⟨#[]⟩ true 4 (by decide) _ hE).mono ?_; rintro e w4 ⟨rfl, hb⟩
  replace hE := hE.keep hb; have B0 := below_call hb B1; clear hb B1
  go_wp2_with fail
  refine (does_at ⟨#[]⟩ ⟨#[]⟩ false 5 (by decide) _ hE).mono ?_; rintro e w5 ⟨rfl, hb⟩
  replace hE := hE.keep hb; have B1 := below_call hb B0; clear hb B0
  go_wp2_with fail
  refine (trims_at ⟨#[37, 37]⟩ true (by decide) _).mono ?_; rintro e w6 ⟨rfl, hb⟩
  replace hE := hE.keep hb; have B0 := below_call hb B1; clear hb B1
  go_wp2_with fail
  refine (trims_at ⟨#[37, 58]⟩ false (by decide) _).mono ?_; rintro e w7 ⟨rfl, hb⟩
  replace hE := hE.keep hb; have B1 := below_call hb B0; clear hb B0
  go_wp2_with fail
  refine (len_any ⟨#[97, 98, 99]⟩ (by decide) _ hE).mono ?_; rintro e w8 ⟨rfl, hb⟩
  have B0 := below_call hb B1; clear hb B1
  rw [show Lib.decDigits (ByteArray.size ⟨#[97, 98, 99]⟩) = [51] from by simp [ByteArray.size, Lib.decDigits]]
  go_wp2
  go_ret
  exact ⟨rfl, B0⟩
end Go.Proofs.YtmcaphmgjhkgfaaDoor
