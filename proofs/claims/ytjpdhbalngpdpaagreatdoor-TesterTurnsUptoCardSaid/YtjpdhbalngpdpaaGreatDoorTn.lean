/-
  DERIVED. The walk of the law TesterTells.
-/
import Derived.Test.YtjpdhbalngpdpaaGreatDoorTj
import Derived.Test.YtjpdhbalngpdpaaGreatDoorRq
namespace Go.Proofs.YtjpdhbalngpdpaaGreatDoor
open Go.RowKit
theorem cmpOk_of {a op b : ByteArray} (ha : a.size ≤ 1000000000) (hb : b.size ≤ 1000000000) : CmpOk a op b := fun _ => ⟨⟨ha, hb⟩, trivial, trivial⟩
theorem decOk_of {ss : List ByteArray} (h : ∀ s ∈ ss, s.size ≤ 1000000000) : DecOk ss := by
  match ss, h with
  | [], _ => trivial
  | [a], _ => trivial
  | [a, b], _ => trivial
  | [a, b, c], h => exact cmpOk_of (h a (by simp)) (h c (by simp))
  | [a, b, c, d], h => exact cmpOk_of (h b (by simp)) (h d (by simp))
  | a :: b :: c :: d :: e :: l, _ => trivial
set_option maxRecDepth 100000 in
set_option maxHeartbeats 4000000 in
theorem law_tells_long (ss : List ByteArray) (hl : 10 < ss.length) (v : Value) (w : World) (hv : StrsAt w v ss) (hE : Env w) :
    Calls Tryz.prog 3 #[v] w fun e w' => e = .returned (.bool true) ∧ Below w.heap.size w w' := by
  obtain ⟨a, cap, rfl, hcap, hc⟩ := hv
  have HA := Lib.hid (awake_any w hE)
  obtain ⟨n, hn⟩ : ∃ n, ss.length = n := ⟨_, rfl⟩
  rw [hn] at hl ⊢
  have h10 : (10 : Int) < (n : Int) := by omega
  clear hc hcap hn hl hE
  go_enter Tryz.func3, Tryz.ntmps3
  go_wp2_with fail
  refine HA.out.mono ?_; rintro e w1 ⟨rfl, hb1⟩
  go_wp2_with fail
  go_ret
  exact ⟨rfl, hb1⟩
set_option maxRecDepth 100000 in
set_option maxHeartbeats 8000000 in
theorem law_tells (ss : List ByteArray) (hs : ∀ s ∈ ss, s.size ≤ 1000000000) (v : Value) (w : World) (hv : StrsAt w v ss) (hE : Env w) :
    Calls Tryz.prog 3 #[v] w fun e w' => e = .returned (.bool true) ∧ Below w.heap.size w w' := by
  by_cases hl : 10 < ss.length
  · exact law_tells_long ss hl v w hv hE
  obtain ⟨d, hd⟩ : ∃ d, decF ss = d := ⟨_, rfl⟩
  have H1 := Lib.hid (dec_any ss (decOk_of hs) d hd v)
  have H2 := Lib.hid (rd_any ss (fun s h => by have := hs s h; omega) d hd v)
  have HV := Lib.hid hv
  have HA := Lib.hid (awake_any w hE)
  have HE := Lib.hid hE
  obtain ⟨a, cap, rfl, hcap, hc⟩ := hv
  obtain ⟨m, hm⟩ : ∃ m, ss.length = m := ⟨_, rfl⟩
  rw [hm] at hl H1 H2 HV ⊢
  have h10 : ¬ (10 : Int) < (m : Int) := by omega
  obtain ⟨n, ⟨neg, op, path⟩, asks⟩ := d
  have q1 : (asks != asks) = false := by cases asks <;> rfl
  have q2 : (neg != neg) = false := by cases neg <;> rfl
  have q3 : (op.toList != op.toList) = false := by simp
  have q4 : (path.toList != path.toList) = false := by simp
  clear hc hcap hm hl hE hs hd
  go_enter Tryz.func3, Tryz.ntmps3
  go_wp2_with fail
  refine HA.out.mono ?_; rintro e w1 ⟨rfl, hb1⟩
  go_wp2_with fail
  refine (H1.out _ (HV.out.below hb1) (HE.out.keep hb1)).mono ?_; rintro e w2 ⟨rfl, hb2⟩
  have B2 := hb1.trans (hb2.mono hb1.size)
  go_wp2_with fail
  have ra := RowIs.new w2 25 [.bool neg, .string op, .string path]
  have B2' := B2.alloc B2.size (.cells #[.bool neg, .string op, .string path] 25)
  refine (H2.out _ (HV.out.below B2')).mono ?_; rintro e w3 ⟨rfl, hb3⟩
  obtain ⟨k0, k1, k2, f0, f1, f2, l3⟩ := ask_facts (ra.below hb3)
  have B3 := B2'.trans (hb3.mono B2'.size)
  clear hb3 ra
  go_wp2_with fail
  go_ret
  exact ⟨rfl, B3.alloc B3.size _⟩
end Go.Proofs.YtjpdhbalngpdpaaGreatDoor
