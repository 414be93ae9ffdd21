/-
  DERIVED. The walks of the library's ParseInt at base 0 and 64 bits, the inner one and the one that is called: the number, or some error.
-/
import Derived.Test.YtdfpijbngbfjaaaGreatDoorPu
import Derived.Test.YtdfpijbngbfjaaaGreatDoorShelf
import Derived.Lib.IfaceNeq
import Derived.Shelf.Strings.CaseAny
namespace Go.Proofs.YtdfpijbngbfjaaaGreatDoor
open Go.RowKit
/-- What the walks ask of the library's variables. -/
structure Env (w : World) : Prop where
  syn : ∃ ev, w.cell? ⟨6, 0, none⟩ = some ev ∧ (ev = .nilIface ∨ ∃ te pe, ev = .iface te pe)
  rng : ∃ ev, w.cell? ⟨7, 0, none⟩ = some ev ∧ (ev = .nilIface ∨ ∃ te pe, ev = .iface te pe)
  case : Lib.CaseVar 4 Lib.caseA w
  tabs : Lib.Utf8Tabs 2 3 w
theorem Env.keep {w w' : World} (h : Env w) (hb : Below w.heap.size w w') : Env w' := by
  obtain ⟨⟨e1, h1, k1⟩, ⟨e2, h2, k2⟩, h3, h4⟩ := h
  exact ⟨⟨e1, (hb.cell (block_lt_of_cell h1)).trans h1, k1⟩, ⟨e2, (hb.cell (block_lt_of_cell h2)).trans h2, k2⟩, Lib.CaseVar_below h3 hb, Utf8Tabs_below h4 hb⟩
/-- What ParseInt comes to, given what is gathered without a sign: the number, if it is one of 64 bits; or some error, of one of two kinds. -/
def PiPost (R : Option Int) (w : World) (e : Ending) (w' : World) : Prop :=
  Below w.heap.size w w' ∧ match (R.bind fun v => if v ≤ maxI then some v else none) with
  | some v => e = .returned (.tuple #[.int .i64 v, .nilIface])
  | none => ∃ x k : Int, (k = 1 ∨ k = 2) ∧ e = .returned (.tuple #[.int .i64 x, .iface 98 (.int .i64 k)])
theorem pi_some {w w' : World} {v x : Int} (hb : Below w.heap.size w w') (h1 : v ≤ maxI) (h : v = x) : PiPost (some v) w (.returned (.tuple #[.int .i64 x, .nilIface])) w' := by
  subst h; refine ⟨hb, ?_⟩; simp [h1]
theorem pi_big {w w' : World} {v x : Int} (hb : Below w.heap.size w w') (h1 : ¬ v ≤ maxI) : PiPost (some v) w (.returned (.tuple #[.int .i64 x, .iface 98 (.int .i64 1)])) w' := by
  refine ⟨hb, ?_⟩; simp only [Option.bind_some, if_neg h1]; exact ⟨x, 1, .inl rfl, rfl⟩
theorem pi_none {w w' : World} {x k : Int} (hb : Below w.heap.size w w') (hk : k = 1 ∨ k = 2) : PiPost none w (.returned (.tuple #[.int .i64 x, .iface 98 (.int .i64 k)])) w' := ⟨hb, x, k, hk, rfl⟩
theorem cmpE : (Tryz.prog.info? 98).map (·.comparable) = some true := by kernel_rfl
set_option maxRecDepth 100000 in
set_option maxHeartbeats 8000000 in
theorem pint_any (s : ByteArray) (hpos : 0 < s.size) (h43 : bt s 0 ≠ 43) (h45 : bt s 0 ≠ 45) (R : Option Int) (hR : ∀ v, R = some v → 0 ≤ v ∧ v ≤ maxU) (w : World)
    (hpu : ∀ w, Calls Tryz.prog 86 #[.string s, .int .i64 0, .int .i64 64] w (PuPost R w)) :
    Calls Tryz.prog 69 #[.string s, .int .i64 0, .int .i64 64] w (PiPost R w) := by
  have HPU := Lib.hid hpu
  have hgs := get_bt s
  have hem : s.toList.isEmpty = false := by rw [empty_iff]; simp [hpos]
  have c1 : (bt s 0 == 43) = false := by simp [h43]
  have c2 : (bt s 0 == 45) = false := by simp [h45]
  clear h43 h45 hpu
  have hsh : IntKind.u64.wrap 9223372036854775808 = 9223372036854775808 := by rw [IntKind.wrap_u64]; decide
  have hneq := fun (W : World) (a b : Int) => Lib.run_neq_iface_int (P := Tryz.prog) W (t := 67) (tx := 98) (k := .i64) a b Tryz.underlying67 cmpE Tryz.underlying98
  go_enter Tryz.func69, Tryz.ntmps69
  go_wp2_with fail
  refine (HPU.out _).mono ?_
  rintro e w1 ⟨hb, hp⟩
  cases R with
  | some v =>
    simp only at hp
    subst hp
    obtain ⟨hv0, hv1⟩ := hR v rfl
    rw [maxU_eq] at hv1
    clear hR HPU
    by_cases hv : v ≤ 9223372036854775807
    · have hlt : v < 9223372036854775808 := by omega
      go_wp2_with fail
      go_ret2
      exact pi_some hb (by rw [maxI_eq]; exact hv) (by first | rfl | omega)
    · have hge : 9223372036854775808 ≤ v := by omega
      go_wp2_with fail
      go_ret2
      exact pi_big hb (by rw [maxI_eq]; omega)
  | none =>
    simp only at hp
    obtain ⟨x, k, hk, rfl⟩ := hp
    clear hR HPU
    rcases hk with ⟨rfl, rfl⟩ | ⟨rfl, rfl⟩
    · go_wp2_with fail
      go_ret2
      exact pi_none hb (.inl rfl)
    · go_wp2_with fail
      go_ret2
      exact pi_none hb (.inr rfl)
/-- Some error, in new memory. -/
def ErrPost (w : World) (e : Ending) (w' : World) : Prop := Below w.heap.size w w' ∧ ∃ te pe, e = .returned (.iface te pe)
theorem toErr_any (s : ByteArray) (k : Int) (hk : k = 1 ∨ k = 2) (hs : s.size ≤ 281474976710656) (w : World) (hE : Env w) :
    Calls Tryz.prog 70 #[.string ⟨#[80, 97, 114, 115, 101, 73, 110, 116]⟩, .string s, .int .i64 0, .int .i64 64, .iface 98 (.int .i64 k)] w (ErrPost w) := by
  rcases hk with rfl | rfl
  · obtain ⟨ev, h1, h2⟩ := hE.rng
    exact (Tryz.strconv_toError_range _ s 0 64 ev w hs h1 h2).mono fun e w' ⟨N, he, _, _, hb⟩ => ⟨hb, _, _, he⟩
  · obtain ⟨ev, h1, h2⟩ := hE.syn
    exact (Tryz.strconv_toError_syntax _ s 0 64 ev w hs h1 h2).mono fun e w' ⟨N, he, _, _, hb⟩ => ⟨hb, _, _, he⟩
/-- What the called ParseInt comes to. -/
def PpPost (R : Option Int) (w : World) (e : Ending) (w' : World) : Prop :=
  Below w.heap.size w w' ∧ match R with
  | some v => e = .returned (.tuple #[.int .i64 v, .nilIface])
  | none => ∃ (x : Int) (te : TypeId) (pe : Value), e = .returned (.tuple #[.int .i64 x, .iface te pe])
theorem pp_none {w w' : World} {x : Int} {te : TypeId} {pe : Value} (hb : Below w.heap.size w w') : PpPost none w (.returned (.tuple #[.int .i64 x, .iface te pe])) w' := ⟨hb, x, te, pe, rfl⟩
theorem pp_some {w w' : World} {v : Int} (hb : Below w.heap.size w w') : PpPost (some v) w (.returned (.tuple #[.int .i64 v, .nilIface])) w' := ⟨hb, rfl⟩
set_option maxRecDepth 100000 in
set_option maxHeartbeats 4000000 in
theorem ppint_any (s : ByteArray) (hs : s.size ≤ 281474976710656) (R R' : Option Int) (hR : (R.bind fun v => if v ≤ maxI then some v else none) = R') (w : World) (hE : Env w)
    (hpi : ∀ w, Calls Tryz.prog 69 #[.string s, .int .i64 0, .int .i64 64] w (PiPost R w)) :
    Calls Tryz.prog 39 #[.string s, .int .i64 0, .int .i64 64] w (PpPost R' w) := by
  have HPI := Lib.hid hpi; have HE := Lib.hid hE; have HR := Lib.hid hR
  clear hpi hE hR
  go_enter Tryz.func39, Tryz.ntmps39
  go_wp2_with fail
  refine (HPI.out _).mono ?_
  rintro e w1 ⟨hb, hp⟩
  rw [HR.out] at hp
  cases R' with
  | some v =>
    simp only at hp
    subst hp
    go_wp2_with fail
    go_ret2
    exact pp_some hb
  | none =>
    simp only at hp
    obtain ⟨x, k, hk, rfl⟩ := hp
    have HT := Lib.hid (toErr_any s k hk hs w1 (HE.out.keep hb))
    go_wp2_with fail
    refine HT.out.mono ?_
    rintro e w2 ⟨hb2, te, pe, rfl⟩
    go_wp2_with fail
    go_ret2
    exact pp_none (hb.trans (hb2.mono hb.size))
end Go.Proofs.YtdfpijbngbfjaaaGreatDoor
