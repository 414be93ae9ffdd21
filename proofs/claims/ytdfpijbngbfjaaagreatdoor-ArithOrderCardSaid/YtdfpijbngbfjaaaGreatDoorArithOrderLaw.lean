/-
  DERIVED. The law ArithOrder: for every input the call returns true and leaves its arguments as they were; the tied card.
-/
import Derived.Test.YtdfpijbngbfjaaaGreatDoorLift
import Derived.Test.YtdfpijbngbfjaaaGreatDoorLiftR
import Derived.Test.YtdfpijbngbfjaaaGreatDoorEh
import Derived.Test.YtdfpijbngbfjaaaGreatDoorTie
import Derived.Test.YtdfpijbngbfjaaaGreatDoorCards
import Derived.SevenTiedAt
import Derived.Stop.LaidErr
import Derived.Lay
import Derived.Lib.SmallJoins
import Derived.Lib.LaidCase
import Derived.Lib.LaidU8T
import Derived.SliceStrings
namespace Go.Proofs.YtdfpijbngbfjaaaGreatDoor.arithOrder
open Go.ChangeShapes Go.WideShapes Go.ChangeAt Go.RowKit Go.Joins
open Go.ChangeMaps (open_string shut_string)
abbrev laidL : List (String × DataW Unit) := Rows.arithOrderRow.laid
theorem door_met (os : Os) (args : Array Value) : laidMetH Tryz.prog laidL ((World.laidAll Tryz.prog os laidL).forCall (fun _ _ => 0) ⟨#[], args, []⟩).memory := by
  rw [MakeChecks.laidMetH_plain _ _ _ (by kernel_rfl)]
  exact laidMet_laidAll _ (by kernel_rfl) (by kernel_rfl)
theorem gRng : Tryz.prog.globalNamed "strconv.ErrRange" = some 7 := by kernel_rfl
theorem gSyn : Tryz.prog.globalNamed "strconv.ErrSyntax" = some 6 := by kernel_rfl
theorem gSig : Tryz.prog.globalNamed "kinetoscope/arith.signs" = some 1 := by kernel_rfl
theorem gRow : Tryz.prog.globalNamed "kinetoscope/arith.rows" = some 0 := by kernel_rfl
theorem tRng : (Tryz.prog.globals[7]?).map (·.type) = some 67 := by kernel_rfl
theorem tSyn : (Tryz.prog.globals[6]?).map (·.type) = some 67 := by kernel_rfl
theorem tSig : (Tryz.prog.globals[1]?).map (·.type) = some 90 := by kernel_rfl
theorem tRow : (Tryz.prog.globals[0]?).map (·.type) = some 71 := by kernel_rfl
theorem starE : "*" ++ "errors.errorString" = "*errors.errorString" := by decide
theorem rowES : ∀ u, Tryz.prog.typeName? 3 u = some "*errors.errorString" → u = 132 := fun u h =>
  typeName_ptr_named (nm := "errors.errorString") (by rw [starE]; kernel_rfl) (by kernel_rfl) (by decide) u (by rw [starE]; exact h)
theorem dCase : Rows.laid_unicode_CaseRanges = Lib.caseData := by kernel_rfl
theorem dFirst : Rows.laid_unicode_utf8_first = Lib.firstData := by kernel_rfl
theorem dAccept : (Rows.laid_unicode_utf8_acceptRanges : DataW Unit) = Lib.acceptData := by kernel_rfl
theorem dSig : (Rows.laid_kinetoscope_arith_signs : DataW Unit) = strData signsL := by kernel_rfl
theorem dRow : (Rows.laid_kinetoscope_arith_rows : DataW Unit) = strData rowsL := by kernel_rfl
theorem env_of {W : World} (hL : laidMetH Tryz.prog laidL W) (hsh : W.ShapedOpen Tryz.prog) : Tabs W := by
  rw [MakeChecks.laidMetH_plain _ _ _ (by kernel_rfl)] at hL
  have h3 := Lib.laidMet.reads hL (.tail _ (.tail _ (.tail _ (.head _))))
  have h6 := Lib.laidMet.reads hL (.tail _ (.tail _ (.tail _ (.tail _ (.tail _ (.tail _ (.tail _ (.tail _ (.head _)))))))))
  have h7 := Lib.laidMet.reads hL (.tail _ (.tail _ (.tail _ (.tail _ (.tail _ (.tail _ (.tail _ (.tail _ (.tail _ (.head _))))))))))
  rw [dAccept] at h3
  rw [dCase] at h6
  rw [dFirst] at h7
  have hR := laidMet.tail (laidMet.tail (laidMet.tail (laidMet.tail hL)))
  have hS := laidMet.tail hR
  have hG := laidMet.tail hS
  have hO := laidMet.tail hG
  rw [dSig] at hG
  rw [dRow] at hO
  obtain ⟨a, s, hv, _⟩ := laid_sentinel hS gSyn tSyn Tryz.underlying67 rowES Tryz.underlying132 Tryz.underlying134 rfl rfl Tryz.underlying9 (by kernel_rfl) (by kernel_rfl)
  obtain ⟨a', s', hv', _⟩ := laid_sentinel hR gRng tRng Tryz.underlying67 rowES Tryz.underlying132 Tryz.underlying134 rfl rfl Tryz.underlying9 (by kernel_rfl) (by kernel_rfl)
  refine ⟨fun i hi => strs_of_head gSig tSig Tryz.underlying90 Tryz.underlying9 (by kernel_rfl) (by kernel_rfl) hG i hi, ⟨fun i hi => strs_of_head gRow tRow Tryz.underlying71 Tryz.underlying9 (by kernel_rfl) (by kernel_rfl) hO i hi, Tryz.laysM144.s1_3 W hsh⟩,
    ⟨_, by simpa using World.var?_cell gSyn hv 0, .inr ⟨_, _, rfl⟩⟩, ⟨_, by simpa using World.var?_cell gRng hv' 0, .inr ⟨_, _, rfl⟩⟩, ?_, ?_⟩
  · exact caseVar_of_reads (ρ := Tryz.lays159_ren) { Tryz.lays159 with } Tryz.lays159.t206 ⟨by kernel_rfl, by kernel_rfl, by kernel_rfl, by kernel_rfl, by kernel_rfl, by kernel_rfl⟩ h6
  · exact utf8Tabs_of_readsT (ρ := Tryz.lays159_ren) { Tryz.lays159 with } ⟨by kernel_rfl, by kernel_rfl, by kernel_rfl, by kernel_rfl, by kernel_rfl, by kernel_rfl, by kernel_rfl⟩ h7 h3
set_option maxRecDepth 100000 in
theorem lifted (os : Os) (started : os.Started) (H : Type) (enc : TypeId × Value → H) :
    ReturnsInHanded {} Tryz.checked os 4 .any (fun w args => (Rows.arithOrderSpec.pre enc Tryz.prog Tryz.f4 [] false w args ∧ laidMetH Tryz.prog laidL w) ∧ sizedMet enc Tryz.prog Tryz.f4 (OpenSpec.ofChange Rows.arithOrderSpec) false w args)
      (Rows.arithOrderSpec.post enc Tryz.prog Tryz.f4 false true false false) := by
  refine handed_and_shaped (C := Tryz.checked) (X := fun w _ => laidMetH Tryz.prog laidL w) (fun _ _ _ hh h => h.of_heap hh) own started (by kernel_rfl) Tryz.func4
    (ChangeSpec.witness_shaped (enc := enc) (C := Tryz.checked) (os := os) (X := fun w _ => laidMetH Tryz.prog laidL w) false (World.laidAll Tryz.prog os laidL) #[.int .i64 0, .int .i64 0, .int .i64 0, .int .u8 0, .int .u8 0] 8 (World.laidAll_os _ _ _) (World.shaped_of_ZipB (by kernel_rfl) (by kernel_rfl)) (by kernel_rfl) (by kernel_rfl) (by kernel_rfl) (door_met os _)) ?_
  intro W base args ds gs before hval0 hW hcnd hsz hL hsh _
  clear hcnd hsz
  have hval : ∀ (j : Nat) t v, Tryz.f4.params[j]? = some t → args[j]? = some v → Value.okWide Tryz.prog W .any base t v := hval0
  have hW' := hW
  obtain ⟨p, q, hA0, hV, rfl, hfz, hnd⟩ := hW
  have hA : DataW.TrodAll enc Tryz.prog W 0 (fun _ => true) true Tryz.f4.params.toList args.toList ds p := hA0
  rw [Tryz.params4] at hA hval
  obtain ⟨v0, vs0, d0, ds0, p0, q0, hargs, rfl, rfl, h0, r0⟩ := trodAll_cons hA
  obtain ⟨v1, vs1, d1, ds1, p1, q1, rfl, rfl, rfl, h1, r1⟩ := trodAll_cons r0
  obtain ⟨v2, vs2, d2, ds2, p2, q2, rfl, rfl, rfl, h2, r2⟩ := trodAll_cons r1
  obtain ⟨v3, vs3, d3, ds3, p3, q3, rfl, rfl, rfl, h3, r3⟩ := trodAll_cons r2
  obtain ⟨v4, vs4, d4, ds4, p4, q4, rfl, rfl, rfl, h4, r4⟩ := trodAll_cons r3
  obtain ⟨rfl, rfl, rfl⟩ := trodAll_nil r4
  obtain rfl : args = #[v0, v1, v2, v3, v4] := by cases args; simp_all
  obtain ⟨rfl, rfl⟩ := trodVars_none hV
  have k0 := h0
  have lt0 : ∀ x ∈ p0, x.block < W.heap.size := by obtain ⟨m, hm⟩ := k0; exact DataW.trod_lt m _ _ _ hm
  have k1 := h1
  have lt1 : ∀ x ∈ p1, x.block < W.heap.size := by obtain ⟨m, hm⟩ := k1; exact DataW.trod_lt m _ _ _ hm
  have k2 := h2
  have lt2 : ∀ x ∈ p2, x.block < W.heap.size := by obtain ⟨m, hm⟩ := k2; exact DataW.trod_lt m _ _ _ hm
  have k3 := h3
  have lt3 : ∀ x ∈ p3, x.block < W.heap.size := by obtain ⟨m, hm⟩ := k3; exact DataW.trod_lt m _ _ _ hm
  have k4 := h4
  have lt4 : ∀ x ∈ p4, x.block < W.heap.size := by obtain ⟨m, hm⟩ := k4; exact DataW.trod_lt m _ _ _ hm
  obtain ⟨a0, rfl, _, _, wf0⟩ := open_int Tryz.underlying2 (hval 0 2 v0 rfl rfl) h0
  have bd0 := bounds_i64 wf0
  obtain ⟨a1, rfl, _, _, wf1⟩ := open_int Tryz.underlying2 (hval 1 2 v1 rfl rfl) h1
  have bd1 := bounds_i64 wf1
  obtain ⟨a2, rfl, _, _, wf2⟩ := open_int Tryz.underlying2 (hval 2 2 v2 rfl rfl) h2
  have bd2 := bounds_i64 wf2
  obtain ⟨a3, rfl, _, _, wf3⟩ := open_int Tryz.underlying5 (hval 3 5 v3 rfl rfl) h3
  have bd3 := bounds_u8 wf3
  obtain ⟨a4, rfl, _, _, wf4⟩ := open_int Tryz.underlying5 (hval 4 5 v4 rfl rfl) h4
  have bd4 := bounds_u8 wf4
  clear hA0 hval0
  refine (law_order a0 bd0.1 bd0.2 a1 bd1.1 bd1.2 a2 bd2.1 bd2.2 a3 bd3.1 bd3.2 a4 bd4.1 bd4.2 W (env_of hL hsh)).mono fun e W' ⟨he, bel⟩ => ?_
  subst he
  exact ⟨_, rfl, _, _, _, [], _, [], hW', trodAll_mk1 (shut_bool Tryz.underlying4 _), (trodAll_cons_mk (Below.trod laidOut (by kernel_rfl) (of_decide_eq_true (by kernel_rfl)) k0 bel lt0) (trodAll_cons_mk (Below.trod laidOut (by kernel_rfl) (of_decide_eq_true (by kernel_rfl)) k1 bel lt1) (trodAll_cons_mk (Below.trod laidOut (by kernel_rfl) (of_decide_eq_true (by kernel_rfl)) k2 bel lt2) (trodAll_cons_mk (Below.trod laidOut (by kernel_rfl) (of_decide_eq_true (by kernel_rfl)) k3 bel lt3) (trodAll_cons_mk (Below.trod laidOut (by kernel_rfl) (of_decide_eq_true (by kernel_rfl)) k4 bel lt4) trodAll_mk0))))), rfl, bel.frame _, fun h => by cases h⟩
theorem row_holds : Rows.ArithOrderSaid :=
  OpenClaim.holds_of_wide 4 Tryz.f4 rfl rfl rfl rfl rfl rfl rfl ⟨rfl, rfl, rfl, rfl, rfl⟩ rfl rfl rfl rfl rfl (by kernel_rfl) Tryz.func4 (by kernel_rfl)
    (of_decide_eq_true (by kernel_rfl)) (by unfold Func.isWrapper; first | (rw [if_pos (by decide +kernel)]; kernel_rfl) | (rw [if_neg (by decide +kernel)]; exact ⟨rfl, rfl⟩))
    (fun os started H enc _ => lifted os started H enc)
theorem card_holds : Rows.ArithOrderCardSaid :=
  Claim7.holds_tied_plain_at .later [] [.data, .data, .data, .data, .sentinel, .sentinel, .data, .data, .pinned, .pinned] true (true, "c36b1958ba421e4ce2415623c5b98b6c4782b74ad702614d6796ac2e0070666f") true
    row_holds (fun _ h => by cases h) (by kernel_rfl) (fun _ h => by cases h) arithOrder_row_tie rfl ⟨rfl, rfl⟩ (by kernel_rfl) rfl
    (fun f fn hf hfn => by
      obtain rfl : f = 4 := Option.some.inj ((show Tryz.prog.funcNamed "kinetoscope/kinetoscopelaw10.ArithOrder" = some 4 by kernel_rfl).symm.trans hf) |>.symm
      obtain rfl : fn = Tryz.f4 := (Option.some.inj (Tryz.func4.symm.trans hfn)).symm
      exact ⟨by kernel_rfl, fun j t ht => by
        rw [Tryz.params4] at ht
        have hm : t ∈ [2, 2, 2, 5, 5] := by simpa using Array.mem_of_getElem? ht
        have hall : ([2, 2, 2, 5, 5].all fun u => !Tryz.prog.wantsStandIn u) = true := by kernel_rfl
        exact (show Tryz.prog.wantsStandIn t = false by simpa using List.all_eq_true.1 hall t hm)⟩)
    (by kernel_rfl)
#print axioms card_holds
end Go.Proofs.YtdfpijbngbfjaaaGreatDoor.arithOrder
