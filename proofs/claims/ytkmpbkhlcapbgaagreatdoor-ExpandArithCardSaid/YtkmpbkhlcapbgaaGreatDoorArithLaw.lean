/-
  DERIVED. The law ExpandArith: for every input the call returns true and leaves its arguments as they were; the tied card.
-/
import Derived.Test.YtkmpbkhlcapbgaaGreatDoorZ49
import Derived.Test.YtkmpbkhlcapbgaaGreatDoorZZx
import Derived.Test.YtkmpbkhlcapbgaaGreatDoorTie
import Derived.Test.YtkmpbkhlcapbgaaGreatDoorCards
import Derived.SevenTiedAt
import Derived.Stop.LaidErr
import Derived.Lay
import Derived.Lib.SmallJoins
import Derived.Lib.LaidCase
import Derived.Lib.LaidU8T
import Derived.SliceStrings
namespace Go.Proofs.YtkmpbkhlcapbgaaGreatDoor.expandArith
open Go.ChangeShapes Go.WideShapes Go.ChangeAt Go.RowKit Go.Joins
open Go.ChangeMaps (open_string shut_string)
abbrev laidL : List (String × DataW Unit) := Rows.expandArithRow.laid
theorem door_met (os : Os) (args : Array Value) : laidMetH Tryz.prog laidL ((World.laidAll Tryz.prog os laidL).forCall (fun _ _ => 0) ⟨#[], args, []⟩).memory := by
  rw [MakeChecks.laidMetH_plain _ _ _ (by kernel_rfl)]
  exact laidMet_laidAll _ (by kernel_rfl) (by kernel_rfl)
theorem gRng : Tryz.prog.globalNamed "strconv.ErrRange" = some 4 := by kernel_rfl
theorem gSyn : Tryz.prog.globalNamed "strconv.ErrSyntax" = some 3 := by kernel_rfl
theorem gSig : Tryz.prog.globalNamed "kinetoscope/arith.signs" = some 8 := by kernel_rfl
theorem gRow : Tryz.prog.globalNamed "kinetoscope/arith.rows" = some 5 := by kernel_rfl
theorem tRng : (Tryz.prog.globals[4]?).map (·.type) = some 116 := by kernel_rfl
theorem tSyn : (Tryz.prog.globals[3]?).map (·.type) = some 116 := by kernel_rfl
theorem tSig : (Tryz.prog.globals[8]?).map (·.type) = some 239 := by kernel_rfl
theorem tRow : (Tryz.prog.globals[5]?).map (·.type) = some 221 := by kernel_rfl
theorem tPow : (Tryz.prog.globals[2]?).map (·.type) = some 184 := by kernel_rfl
theorem gOps : Tryz.prog.globalNamed "kinetoscope/word.ops" = some 0 := by kernel_rfl
theorem tOps : (Tryz.prog.globals[0]?).map (·.type) = some 180 := by kernel_rfl
theorem dOps : (Rows.laid_kinetoscope_word_ops : DataW Unit) = strData wopsL := by kernel_rfl
theorem starE : "*" ++ "errors.errorString" = "*errors.errorString" := by decide
theorem rowES : ∀ u, Tryz.prog.typeName? 3 u = some "*errors.errorString" → u = 212 := fun u h =>
  typeName_ptr_named (nm := "errors.errorString") (by rw [starE]; kernel_rfl) (by kernel_rfl) (by decide) u (by rw [starE]; exact h)
theorem dCase : Rows.laid_unicode_CaseRanges = Lib.caseData := by kernel_rfl
theorem dFirst : Rows.laid_unicode_utf8_first = Lib.firstData := by kernel_rfl
theorem dAccept : (Rows.laid_unicode_utf8_acceptRanges : DataW Unit) = Lib.acceptData := by kernel_rfl
theorem dSig : (Rows.laid_kinetoscope_arith_signs : DataW Unit) = strData signsL := by kernel_rfl
theorem dRow : (Rows.laid_kinetoscope_arith_rows : DataW Unit) = strData rowsL := by kernel_rfl
theorem env_of {W : World} (hL : laidMetH Tryz.prog laidL W) (hsh : W.ShapedOpen Tryz.prog) : Full W := by
  rw [MakeChecks.laidMetH_plain _ _ _ (by kernel_rfl)] at hL
  have h3 := Lib.laidMet.reads hL (.tail _ (.tail _ (.tail _ (.head _))))
  have h6 := Lib.laidMet.reads hL (.tail _ (.tail _ (.tail _ (.tail _ (.tail _ (.tail _ (.tail _ (.tail _ (.tail _ (.head _))))))))))
  have h7 := Lib.laidMet.reads hL (.tail _ (.tail _ (.tail _ (.tail _ (.tail _ (.tail _ (.tail _ (.tail _ (.tail _ (.tail _ (.head _)))))))))))
  rw [dAccept] at h3
  rw [dCase] at h6
  rw [dFirst] at h7
  have hP := laidMet.tail (laidMet.tail hL)
  have hR := laidMet.tail (laidMet.tail hP)
  have hS := laidMet.tail hR
  have hG := laidMet.tail hS
  have hO := laidMet.tail hG
  have hW := laidMet.tail hO
  rw [dSig] at hG
  rw [dRow] at hO
  rw [dOps] at hW
  obtain ⟨a, s, hv, _⟩ := laid_sentinel hS gSyn tSyn Tryz.underlying116 rowES Tryz.underlying212 Tryz.underlying214 rfl rfl Tryz.underlying9 (by kernel_rfl) (by kernel_rfl)
  obtain ⟨a', s', hv', _⟩ := laid_sentinel hR gRng tRng Tryz.underlying116 rowES Tryz.underlying212 Tryz.underlying214 rfl rfl Tryz.underlying9 (by kernel_rfl) (by kernel_rfl)
  refine ⟨⟨fun i hi => strs_of_head gOps tOps Tryz.underlying180 Tryz.underlying9 (by kernel_rfl) (by kernel_rfl) hW i hi, Tryz.laysM144.s1_3 W hsh⟩,
    ⟨⟨fun i hi => strs_of_head gSig tSig Tryz.underlying239 Tryz.underlying9 (by kernel_rfl) (by kernel_rfl) hG i hi, ⟨fun i hi => strs_of_head gRow tRow Tryz.underlying221 Tryz.underlying9 (by kernel_rfl) (by kernel_rfl) hO i hi, Tryz.laysM144.s1_3 W hsh⟩,
    ⟨_, by simpa using World.var?_cell gSyn hv 0, .inr ⟨_, _, rfl⟩⟩, ⟨_, by simpa using World.var?_cell gRng hv' 0, .inr ⟨_, _, rfl⟩⟩, ?_, ?_⟩, ?_⟩⟩
  · exact caseVar_of_reads (ρ := Tryz.lays159_ren) { Tryz.lays159 with } Tryz.lays159.t206 ⟨by kernel_rfl, by kernel_rfl, by kernel_rfl, by kernel_rfl, by kernel_rfl, by kernel_rfl⟩ h6
  · exact utf8Tabs_of_readsT (ρ := Tryz.lays159_ren) { Tryz.lays159 with } ⟨by kernel_rfl, by kernel_rfl, by kernel_rfl, by kernel_rfl, by kernel_rfl, by kernel_rfl, by kernel_rfl⟩ h7 h3
  · exact Lib.tabIs_of_head gPow tPow Tryz.underlying184 Tryz.underlying147 (by kernel_rfl) (by kernel_rfl) hP
set_option maxRecDepth 100000 in
theorem lifted (os : Os) (started : os.Started) (H : Type) (enc : TypeId × Value → H) :
    ReturnsInHanded {} Tryz.checked os 7 .any (fun w args => (Rows.expandArithSpec.pre enc Tryz.prog Tryz.f7 [] false w args ∧ laidMetH Tryz.prog laidL w) ∧ sizedMet enc Tryz.prog Tryz.f7 (OpenSpec.ofChange Rows.expandArithSpec) false w args)
      (Rows.expandArithSpec.post enc Tryz.prog Tryz.f7 false true false false) := by
  refine handed_and_shaped (C := Tryz.checked) (X := fun w _ => laidMetH Tryz.prog laidL w) (fun _ _ _ hh h => h.of_heap hh) own started (by kernel_rfl) Tryz.func7
    (ChangeSpec.witness_shaped (enc := enc) (C := Tryz.checked) (os := os) (X := fun w _ => laidMetH Tryz.prog laidL w) false (World.laidAll Tryz.prog os laidL) #[.int .i64 0, .int .i64 0, .string ⟨#[]⟩] 8 (World.laidAll_os _ _ _) (World.shaped_of_ZipB (by kernel_rfl) (by kernel_rfl)) (by kernel_rfl) (by kernel_rfl) (by kernel_rfl) (door_met os _)) ?_
  intro W base args ds gs before hval0 hW hcnd hsz hL hsh _
  clear hcnd hsz
  have hval : ∀ (j : Nat) t v, Tryz.f7.params[j]? = some t → args[j]? = some v → Value.okWide Tryz.prog W .any base t v := hval0
  have hW' := hW
  obtain ⟨p, q, hA0, hV, rfl, hfz, hnd⟩ := hW
  have hA : DataW.TrodAll enc Tryz.prog W 0 (fun _ => true) true Tryz.f7.params.toList args.toList ds p := hA0
  rw [Tryz.params7] at hA hval
  obtain ⟨v0, vs0, d0, ds0, p0, q0, hargs, rfl, rfl, h0, r0⟩ := trodAll_cons hA
  obtain ⟨v1, vs1, d1, ds1, p1, q1, rfl, rfl, rfl, h1, r1⟩ := trodAll_cons r0
  obtain ⟨v2, vs2, d2, ds2, p2, q2, rfl, rfl, rfl, h2, r2⟩ := trodAll_cons r1
  obtain ⟨rfl, rfl, rfl⟩ := trodAll_nil r2
  obtain rfl : args = #[v0, v1, v2] := by cases args; simp_all
  obtain ⟨rfl, rfl⟩ := trodVars_none hV
  have k0 := h0
  have lt0 : ∀ x ∈ p0, x.block < W.heap.size := by obtain ⟨m, hm⟩ := k0; exact DataW.trod_lt m _ _ _ hm
  have k1 := h1
  have lt1 : ∀ x ∈ p1, x.block < W.heap.size := by obtain ⟨m, hm⟩ := k1; exact DataW.trod_lt m _ _ _ hm
  have k2 := h2
  have lt2 : ∀ x ∈ p2, x.block < W.heap.size := by obtain ⟨m, hm⟩ := k2; exact DataW.trod_lt m _ _ _ hm
  obtain ⟨a0, rfl, _, _, wf0⟩ := open_int Tryz.underlying2 (hval 0 2 v0 rfl rfl) h0
  have bd0 := bounds_i64 wf0
  obtain ⟨a1, rfl, _, _, wf1⟩ := open_int Tryz.underlying2 (hval 1 2 v1 rfl rfl) h1
  have bd1 := bounds_i64 wf1
  obtain ⟨a2, rfl, _, _, ws2⟩ := open_string Tryz.underlying9 (hval 2 9 v2 rfl rfl) h2
  clear hA0 hval0
  refine (law_arith a0 bd0.1 bd0.2 a1 bd1.1 bd1.2 a2 ws2 W (env_of hL hsh)).mono fun e W' ⟨he, bel⟩ => ?_
  subst he
  exact ⟨_, rfl, _, _, _, [], _, [], hW', trodAll_mk1 (shut_bool Tryz.underlying4 _), (trodAll_cons_mk (Below.trod laidOut (by kernel_rfl) (of_decide_eq_true (by kernel_rfl)) k0 bel lt0) (trodAll_cons_mk (Below.trod laidOut (by kernel_rfl) (of_decide_eq_true (by kernel_rfl)) k1 bel lt1) (trodAll_cons_mk (Below.trod laidOut (by kernel_rfl) (of_decide_eq_true (by kernel_rfl)) k2 bel lt2) trodAll_mk0))), rfl, bel.frame _, fun h => by cases h⟩
theorem row_holds : Rows.ExpandArithSaid :=
  OpenClaim.holds_of_wide 7 Tryz.f7 rfl rfl rfl rfl rfl rfl rfl ⟨rfl, rfl, rfl, rfl, rfl⟩ rfl rfl rfl rfl rfl (by kernel_rfl) Tryz.func7 (by kernel_rfl)
    (of_decide_eq_true (by kernel_rfl)) (by unfold Func.isWrapper; first | (rw [if_pos (by decide +kernel)]; kernel_rfl) | (rw [if_neg (by decide +kernel)]; exact ⟨rfl, rfl⟩))
    (fun os started H enc _ => lifted os started H enc)
theorem card_holds : Rows.ExpandArithCardSaid :=
  Claim7.holds_tied_plain_at .later [] [.data, .data, .data, .data, .sentinel, .sentinel, .data, .data, .data, .pinned, .pinned] true (true, "be9f5d6b506bd6f5e929e48ff3012601fb7bd681abe4b398099d9c5884a346a2") true
    row_holds (fun _ h => by cases h) (by kernel_rfl) (fun _ h => by cases h) expandArith_row_tie rfl ⟨rfl, rfl⟩ (by kernel_rfl) rfl
    (fun f fn hf hfn => by
      obtain rfl : f = 7 := Option.some.inj ((show Tryz.prog.funcNamed "kinetoscope/kinetoscopelaw15.ExpandArith" = some 7 by kernel_rfl).symm.trans hf) |>.symm
      obtain rfl : fn = Tryz.f7 := (Option.some.inj (Tryz.func7.symm.trans hfn)).symm
      exact ⟨by kernel_rfl, fun j t ht => by
        rw [Tryz.params7] at ht
        have hm : t ∈ [2, 2, 9] := by simpa using Array.mem_of_getElem? ht
        have hall : ([2, 2, 9].all fun u => !Tryz.prog.wantsStandIn u) = true := by kernel_rfl
        exact (show Tryz.prog.wantsStandIn t = false by simpa using List.all_eq_true.1 hall t hm)⟩)
    (by kernel_rfl)
#print axioms card_holds
end Go.Proofs.YtkmpbkhlcapbgaaGreatDoor.expandArith
