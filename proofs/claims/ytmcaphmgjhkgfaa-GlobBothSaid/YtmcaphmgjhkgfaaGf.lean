/-
  DERIVED. The walk of glob's Plain: whether a pattern means itself alone.
-/
import Derived.Test.YtmcaphmgjhkgfaaGe
namespace Go.Proofs.Ytmcaphmgjhkgfaa
open Go.RowKit Gl
theorem ts_self (c : Int) (w : World) : Sem.run Try.prog (Instr.typeAssert (.iface 46 (.int .u8 c)) 45 46 true) w = .ok (.tuple #[.int .u8 c, .bool true]) w := by kernel_rfl
theorem ts_one (w : World) : Sem.run Try.prog (Instr.typeAssert (.iface 58 (.agg #[])) 45 46 true) w = .ok (.tuple #[.int .u8 0, .bool false]) w := by kernel_rfl
theorem ts_any (w : World) : Sem.run Try.prog (Instr.typeAssert (.iface 53 (.agg #[])) 45 46 true) w = .ok (.tuple #[.int .u8 0, .bool false]) w := by kernel_rfl
theorem ts_set (neg : Bool) (sv : Value) (w : World) : Sem.run Try.prog (Instr.typeAssert (.iface 61 (.agg #[.bool neg, sv])) 45 46 true) w = .ok (.tuple #[.int .u8 0, .bool false]) w := by kernel_rfl
set_option maxRecDepth 100000 in
set_option maxHeartbeats 4000000 in
theorem plain_any (t m : ByteArray) (ht : t.size ≤ 1000000000) (w : World) :
    Calls Try.prog 12 #[.agg #[.string t, .string m]] w fun e w' => e = .returned (.bool (plainF t m)) ∧ Below w.heap.size w w' := by
  go_enter Try.func12, Try.ntmps12
  go_wp2_with fail
  refine (signs_any t m ht _).mono ?_
  rintro e ws ⟨v, xs, rfl, hown, hall, hbs⟩
  have hbw := below_call hbs ((Below.refl w.heap.size w).alloc (Nat.le_refl _) _)
  clear hbs
  obtain ⟨gs, hgs⟩ : ∃ gs, gs = signsFrom t m 0 := ⟨_, rfl⟩
  rw [← hgs] at hall
  have hpl : Hid (plainF t m = gs.all fun g => g.kind == 0) := by unfold Hid; rw [hgs]; rfl
  have hgl : gs.length ≤ 1000000000 := by rw [hgs]; exact Nat.le_trans (signs_length t m _ 0 (Nat.le_refl _)) (by omega)
  clear hgs
  obtain ⟨base, hbase⟩ : ∃ base, base = (w.alloc (.cells #[.string t, .string m] 23)).heap.size := ⟨_, rfl⟩
  rw [← hbase] at hown hall
  clear hbase
  obtain ⟨ao, cap, rfl⟩ := own_slice hown
  have hxl := hall.1
  have HOWN := Lib.hid hown; have HALL := Lib.hid hall
  rw [hxl]
  clear hown hall
  have HXL := Lib.hid hxl; clear hxl
  go_wp2_with fail
  go_loop [8] (fun k => ∃ j : Nat, k = .int .i64 j ∧ j ≤ gs.length ∧ Hid ((gs.take j).all (fun g => g.kind == 0) = true)) (fun k => gs.length - (intOf k).toNat)
  case atStart => exact ⟨0, rfl, Nat.zero_le _, by simp [Hid]⟩
  case round =>
    obtain ⟨j, rfl, hj, hpre⟩ := hrel
    by_cases hjl : j < gs.length
    · obtain ⟨gb, cap2, x, hv, hx, hrep⟩ := sign_at HOWN.out HALL.out (Below.refl _ _) j hjl
      have hv2 : ao = some ⟨gb, 0, none⟩ := by simp only [Value.slice.injEq] at hv; exact hv.1
      subst hv2
      clear hv
      have hno : Hid ((gs[j]).kind ≠ 0 → (gs.all fun g => g.kind == 0) = false) := fun h => by
        rw [← Bool.not_eq_true, List.all_eq_true]
        intro h2
        have := h2 _ (List.getElem_mem hjl)
        simp at this; exact h this
      have hyes : Hid ((gs[j]).kind = 0 → (gs.take (j + 1)).all (fun g => g.kind == 0) = true) := fun h => by
        rw [List.take_succ_eq_append_getElem hjl, List.all_append, hpre.out]; simp [h]
      obtain ⟨G, hG⟩ : ∃ G, G = gs[j] := ⟨_, rfl⟩
      rw [← hG] at hrep hno hyes
      clear hG
      have hgb := block_lt_of_cell hx
      rcases hrep with ⟨hk, rfl⟩ | ⟨hk, rfl⟩ | ⟨hk, rfl⟩ | ⟨hk, sv, rfl, hsv⟩
      · have HK := Lib.hid hk; clear hk
        have hta := ts_self G.c
        go_wp2_with fail
        go_round
        case rel => exact ⟨j + 1, by go_num, by omega, hyes.out HK.out⟩
        case measure => simp [intOf]; omega
      · have HK := Lib.hid hk; clear hk
        have hta := ts_one
        go_wp2_with fail
        go_ret
        exact ⟨by rw [hpl.out, hno.out (by rw [HK.out]; decide)]; rfl, hbw⟩
      · have HK := Lib.hid hk; clear hk
        have hta := ts_any
        go_wp2_with fail
        go_ret
        exact ⟨by rw [hpl.out, hno.out (by rw [HK.out]; decide)]; rfl, hbw⟩
      · have HK := Lib.hid hk; clear hk
        obtain ⟨sa, sc, rfl⟩ := own_slice hsv
        clear hsv
        have hta := ts_set G.neg (.slice sa G.span.length sc)
        go_wp2_with fail
        go_ret
        exact ⟨by rw [hpl.out, hno.out (by rw [HK.out]; decide)]; rfl, hbw⟩
    · have hfin : Hid ((gs.all fun g => g.kind == 0) = true) := by
        have h := hpre.out
        rw [List.take_of_length_le (by omega)] at h; exact h
      go_wp2_with fail
      go_ret
      exact ⟨by rw [hpl.out, hfin.out]; rfl, hbw⟩
end Go.Proofs.Ytmcaphmgjhkgfaa
