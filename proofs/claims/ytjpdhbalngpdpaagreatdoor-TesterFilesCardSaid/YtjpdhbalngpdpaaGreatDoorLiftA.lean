/-
  DERIVED. A parameter of type tester.Ask, or api.Answer, opened: its fields written out.
-/
import Derived.Test.YtjpdhbalngpdpaaGreatDoorLift
import Derived.Test.YtjpdhbalngpdpaaGreatDoorTi
import Derived.Deep.Fields
namespace Go.Proofs.YtjpdhbalngpdpaaGreatDoor
open Go.Deep Go.ChangeShapes Go.WideShapes Go.ChangeAt Go.RowKit Go.Joins
variable {H : Type} {enc : TypeId × Value → H}
theorem array7 {α : Type} {cs : Array α} (h : cs.size = 7) : ∃ c0 c1 c2 c3 c4 c5 c6, cs = #[c0, c1, c2, c3, c4, c5, c6] := by
  obtain ⟨l⟩ := cs
  match l, h with
  | [c0, c1, c2, c3, c4, c5, c6], _ => exact ⟨c0, c1, c2, c3, c4, c5, c6, rfl⟩
/-- A struct of one-cell fields, by value: its cells, and each one's reading. -/
theorem open_fields {P : Program} {w : World} {base : Nat} {spare : Nat → Bool} {held : Bool} {r : Reach} {b0 : Nat} {t : TypeId} {fs : Array Field} {v : Value} {d : DataW H} {p : List MemPlace}
    (hs : P.underlying t = some (.struct fs)) (hone : oneCellFields P fs = true) (hv : Value.okWide P w r b0 t v) (h : DataW.Trod enc P w base spare held t v d p) :
    ∃ cs : Array Value, v = .agg cs ∧ cs.size = P.cellsOf t ∧ ∃ n, ∀ (i : Nat) (f : Field) (c : Value), fs[i]? = some f → cs[i]? = some c → ∃ y, DataW.trod enc P w base spare held n f.type [c] = some y := by
  obtain ⟨cs, rfl, hsz⟩ := okWide_struct hs hv
  obtain ⟨fuel, hf⟩ := h
  obtain ⟨xs, n, _, _, _, hlen, hfs⟩ := DataW.trod_struct hs hf
  refine ⟨cs, rfl, hsz, n, fun i f c hi hc => ?_⟩
  have h0 := hfs i f hi
  obtain ⟨o, k⟩ := hone_of hone i f hi
  have e : ((Value.agg cs).cells.toList.drop f.offset).take (P.cellsOf f.type) = [c] := by
    rw [o, k]
    have hl : cs.toList[i]? = some c := by simpa using hc
    obtain ⟨hlt, rfl⟩ := List.getElem?_eq_some_iff.1 hl
    show (cs.toList.drop i).take 1 = _
    rw [List.drop_eq_getElem_cons hlt]; rfl
  rw [e, List.getElem?_eq_getElem (show i < xs.length by rw [hlen]; exact (Array.getElem?_eq_some_iff.1 hi).1)] at h0
  exact ⟨_, h0⟩
set_option maxRecDepth 100000 in
theorem open_ask {w : World} {base : Nat} {spare : Nat → Bool} {held : Bool} {r : Reach} {b0 : Nat} {v : Value} {d : DataW H} {p : List MemPlace}
    (hv : Value.okWide Tryz.prog w r b0 25 v) (h : DataW.Trod enc Tryz.prog w base spare held 25 v d p) :
    ∃ (b : Bool) (x y : ByteArray), v = .agg #[.bool b, .string x, .string y] := by
  obtain ⟨cs, rfl, hsz, n, hf⟩ := open_fields Tryz.underlying25 (by kernel_rfl) hv h
  obtain ⟨c0, c1, c2, rfl⟩ := array3 (hsz.trans (show Tryz.prog.cellsOf 25 = 3 by kernel_rfl))
  obtain ⟨y0, h0⟩ := hf 0 _ _ rfl rfl
  obtain ⟨y1, h1⟩ := hf 1 _ _ rfl rfl
  obtain ⟨y2, h2⟩ := hf 2 _ _ rfl rfl
  obtain ⟨b, e0, _⟩ := DataW.trod_bool Tryz.underlying4 h0
  obtain ⟨x, e1, _⟩ := DataW.trod_string Tryz.underlying9 h1
  obtain ⟨y, e2, _⟩ := DataW.trod_string Tryz.underlying9 h2
  simp only [List.cons.injEq, and_true] at e0 e1 e2
  subst e0 e1 e2
  exact ⟨b, x, y, rfl⟩
set_option maxRecDepth 100000 in
theorem open_ans {w : World} {base : Nat} {spare : Nat → Bool} {held : Bool} {r : Reach} {b0 : Nat} {v : Value} {d : DataW H} {p : List MemPlace}
    (hv : Value.okWide Tryz.prog w r b0 33 v) (h : DataW.Trod enc Tryz.prog w base spare held 33 v d p) :
    ∃ (kind err n m : Int) (text : ByteArray) (sl : Option Addr) (sn sc : Nat) (sig : Int), v = ansV kind err n m text sl sn sc sig := by
  obtain ⟨cs, rfl, hsz, n, hf⟩ := open_fields Tryz.underlying33 (by kernel_rfl) hv h
  obtain ⟨c0, c1, c2, c3, c4, c5, c6, rfl⟩ := array7 (hsz.trans (show Tryz.prog.cellsOf 33 = 7 by kernel_rfl))
  obtain ⟨y0, h0⟩ := hf 0 _ _ rfl rfl
  obtain ⟨y1, h1⟩ := hf 1 _ _ rfl rfl
  obtain ⟨y2, h2⟩ := hf 2 _ _ rfl rfl
  obtain ⟨y3, h3⟩ := hf 3 _ _ rfl rfl
  obtain ⟨y4, h4⟩ := hf 4 _ _ rfl rfl
  obtain ⟨y5, h5⟩ := hf 5 _ _ rfl rfl
  obtain ⟨y6, h6⟩ := hf 6 _ _ rfl rfl
  obtain ⟨kind, e0, _⟩ := DataW.trod_int Tryz.underlying3 h0
  obtain ⟨err, e1, _⟩ := DataW.trod_int Tryz.underlying3 h1
  obtain ⟨a, e2, _⟩ := DataW.trod_int Tryz.underlying2 h2
  obtain ⟨m, e3, _⟩ := DataW.trod_int Tryz.underlying2 h3
  obtain ⟨text, e4, _⟩ := DataW.trod_string Tryz.underlying9 h4
  obtain ⟨sl, sn, sc, e5⟩ := slice_form Tryz.underlying22 h5
  obtain ⟨sig, e6, _⟩ := DataW.trod_int Tryz.underlying3 h6
  simp only [List.cons.injEq, and_true] at e0 e1 e2 e3 e4 e5 e6
  subst e0 e1 e2 e3 e4 e5 e6
  exact ⟨kind, err, a, m, text, sl, sn, sc, sig, rfl⟩
end Go.Proofs.YtjpdhbalngpdpaaGreatDoor
