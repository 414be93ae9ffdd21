/-
  DERIVED. The plain functions of package tester; the walks of its truth, turned and number.
-/
import Derived.Test.YtjpdhbalngpdpaaGreatDoorDn
import Derived.Test.YtjpdhbalngpdpaaGreatDoorOwn
import Derived.RegionTactic
namespace Go.Proofs.YtjpdhbalngpdpaaGreatDoor
open Go.RowKit
/-- What a file is asked for. -/
structure AskT where
  neg : Bool
  op : ByteArray
  path : ByteArray
def AskT.none : AskT := ⟨false, ⟨#[]⟩, ⟨#[]⟩⟩
def AskT.val (a : AskT) : Value := .agg #[.bool a.neg, .string a.op, .string a.path]
/-- What arguments come to. -/
structure DecT where
  n : Int
  ask : AskT
  asks : Bool
def DecT.val (d : DecT) : Value := .tuple #[.int .i64 d.n, .agg #[.bool d.ask.neg, .string d.ask.op, .string d.ask.path], .bool d.asks]
def truthF (b : Bool) : Int := if b then 0 else 1
def turnedF (d : DecT) : DecT := if d.asks then ⟨d.n, ⟨!d.ask.neg, d.ask.op, d.ask.path⟩, true⟩ else ⟨if d.n = 2 then 2 else 1 - d.n, d.ask, false⟩
theorem truth_any (b : Bool) (w : World) : Calls Tryz.prog 17 #[.bool b] w fun e w' => e = .returned (.int .i64 (truthF b)) ∧ w = w' := by
  cases b
  all_goals
    go_enter Tryz.func17, Tryz.ntmps17
    go_wp2
    go_ret
    exact ⟨rfl, rfl⟩
theorem truth_at (b : Bool) (r : Int) (h : truthF b = r) (w : World) : Calls Tryz.prog 17 #[.bool b] w fun e w' => e = .returned (.int .i64 r) ∧ w = w' := by
  subst h; exact truth_any b w
set_option maxRecDepth 100000 in
set_option maxHeartbeats 4000000 in
theorem turned_any (n : Int) (h0 : 0 ≤ n) (h1 : n ≤ 2) (neg : Bool) (op path : ByteArray) (asks : Bool) (r : DecT) (hr : turnedF ⟨n, ⟨neg, op, path⟩, asks⟩ = r) (w : World) :
    Calls Tryz.prog 20 #[.int .i64 n, .agg #[.bool neg, .string op, .string path], .bool asks] w fun e w' => e = .returned r.val ∧ Below w.heap.size w w' := by
  have HR := Lib.hid hr; clear hr
  cases asks
  · by_cases h2 : n = 2
    · have hn : ((n : Int) != 2) = false := by simp [h2]
      have HV : Hid (r = ⟨n, ⟨neg, op, path⟩, false⟩) := by unfold Hid; rw [← HR.out]; unfold turnedF; simp [h2]
      clear h2
      go_enter Tryz.func20, Tryz.ntmps20
      go_wp2_with fail
      go_region
      all_goals
        go_wp2_with fail
        exact bodyPost_ret (v := DecT.val ⟨n, ⟨neg, op, path⟩, false⟩) (by simp [results, Tryz.results20, go_sem, DecT.val]) rfl ⟨by rw [HV.out], by go_grown⟩
    · have hn : ((n : Int) != 2) = true := by simp [h2]
      have HV : Hid (r = ⟨1 - n, ⟨neg, op, path⟩, false⟩) := by unfold Hid; rw [← HR.out]; unfold turnedF; simp [h2]
      clear h2
      go_enter Tryz.func20, Tryz.ntmps20
      go_wp2_with fail
      go_region
      all_goals
        go_wp2_with fail
        exact bodyPost_ret (v := DecT.val ⟨1 - n, ⟨neg, op, path⟩, false⟩) (by simp [results, Tryz.results20, go_sem, DecT.val]) rfl ⟨by rw [HV.out], by go_grown⟩
  · have HV : Hid (r = ⟨n, ⟨!neg, op, path⟩, true⟩) := by unfold Hid; rw [← HR.out]; rfl
    go_enter Tryz.func20, Tryz.ntmps20
    go_wp2_with fail
    go_region
    all_goals
      go_wp2_with fail
      exact bodyPost_ret (v := DecT.val ⟨n, ⟨!neg, op, path⟩, true⟩) (by simp [results, Tryz.results20, go_sem, DecT.val]) rfl ⟨by rw [HV.out], by go_grown⟩
/-- A text's number, as the tester takes it. -/
def tnumF (s : ByteArray) : Int × Bool := ((numberF s).getD 0, (numberF s).isSome && decide (0 < (trimB s).size))
set_option maxRecDepth 100000 in
set_option maxHeartbeats 4000000 in
theorem tnumber_any (s : ByteArray) (hs : s.size ≤ 1000000000) (ha : Ascii s) (x : Int) (b : Bool) (hr : tnumF s = (x, b)) (w : World) (hE : Env w) :
    Calls Tryz.prog 36 #[.string s] w fun e w' => e = .returned (.tuple #[.int .i64 x, .bool b]) ∧ Below w.heap.size w w' := by
  obtain ⟨R, hR⟩ : ∃ R, numberF s = R := ⟨_, rfl⟩
  obtain ⟨v, hv⟩ : ∃ v, trimB s = v := ⟨_, rfl⟩
  have HN := Lib.hid (number_any s hs ha R hR)
  have HT := Lib.hid (trim_any s v hs hv)
  have HX : Hid (R.getD 0 = x ∧ (R.isSome && decide (0 < v.size)) = b) := by
    unfold tnumF at hr; rw [hR, hv] at hr
    exact ⟨congrArg Prod.fst hr, congrArg Prod.snd hr⟩
  have HE := Lib.hid hE
  clear hr hR hv hE
  cases hi : R.isSome
  · have HI := Lib.hid hi; clear hi
    go_enter Tryz.func36, Tryz.ntmps36
    go_wp2_with fail
    refine (HN.out _ HE.out).mono ?_; rintro e w1 ⟨rfl, hb1⟩
    rw [HI.out]
    go_wp2_with fail
    go_ret2
    exact ⟨by rw [← HX.out.1, ← HX.out.2, HI.out]; rfl, hb1⟩
  · have HI := Lib.hid hi; clear hi
    by_cases h0 : 0 < v.size
    · have hem : v.toList.isEmpty = false := by rw [empty_iff]; simp [h0]
      go_enter Tryz.func36, Tryz.ntmps36
      go_wp2_with fail
      refine (HN.out _ HE.out).mono ?_; rintro e w1 ⟨rfl, hb1⟩
      rw [HI.out]
      go_wp2_with fail
      refine (HT.out _).mono ?_; rintro e w2 ⟨rfl, hb2⟩
      have hb := hb1.trans (hb2.mono hb1.size)
      go_wp2_with fail
      go_ret2
      exact ⟨by rw [← HX.out.1, ← HX.out.2, HI.out]; simp [h0], hb⟩
    · have hem : v.toList.isEmpty = true := by rw [empty_iff]; simp [h0]
      go_enter Tryz.func36, Tryz.ntmps36
      go_wp2_with fail
      refine (HN.out _ HE.out).mono ?_; rintro e w1 ⟨rfl, hb1⟩
      rw [HI.out]
      go_wp2_with fail
      refine (HT.out _).mono ?_; rintro e w2 ⟨rfl, hb2⟩
      have hb := hb1.trans (hb2.mono hb1.size)
      go_wp2_with fail
      go_ret2
      exact ⟨by rw [← HX.out.1, ← HX.out.2, HI.out]; simp [h0], hb⟩
end Go.Proofs.YtjpdhbalngpdpaaGreatDoor
