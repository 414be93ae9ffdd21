/-
  DERIVED. The walks of split's cells: a row's bytes, with their letters, by an iterator. The walk of split's Join at two rows.
-/
import Derived.RangeFuncNested
import Derived.RangeFuncBound
import Derived.RangeFuncCalls
import Derived.RangeFuncLeaves
import Derived.Shelf.Abstract
import Derived.Shelf.RegionOpen
import Derived.WalkKit
import Derived.OwnWalkIn
import Derived.TacticsInMore
import Derived.LoopNIn
import Derived.LoopIn
import Derived.BigRegionIn
import Derived.Test.YtkmpbkhlcapbgaaGreatDoorProg
import Derived.Test.YtkmpbkhlcapbgaaGreatDoorZ02
import Derived.Lib.Strings
import Derived.Lib.IndexMore
import Derived.Lib.Hide
import Derived.Test.YtkmpbkhlcapbgaaGreatDoorZ08
import Derived.Test.YtkmpbkhlcapbgaaGreatDoorZ04
namespace Go.Proofs.YtkmpbkhlcapbgaaGreatDoor
open Go Go.RowKit Go.Shelf
attribute [local go_sem] Oper.semAt_some
/-- A byte and its letter, as the iterator hands them on. -/
def encC (x : UInt8 × UInt8) : Array Value := #[.agg #[.int .u8 (x.1.toNat : Int), .int .u8 (x.2.toNat : Int)]]
/-- The cells of a row. -/
def cellsR (t m : ByteArray) : List (UInt8 × UInt8) := t.data.toList.zip m.data.toList
theorem get_u (s : ByteArray) (i : Nat) (h : i < s.size) : s.toList[i]? = some (s.data.toList[i]'(by simpa using h)) := by
  rw [Lib.toList_data]; exact List.getElem?_eq_getElem _
set_option maxRecDepth 100000 in
set_option maxHeartbeats 4000000 in
theorem cells_in (n : Nat) (t m : ByteArray) (w : World) :
    CallsIn Fence.wide n Tryz.prog 47 #[.agg #[.string t, .string m]] w fun e w' => e = .returned (.func (.func 75) #[] #[.pointer (some ⟨w.heap.size, 0, none⟩)]) ∧ w' = w.alloc (.cells #[.string t, .string m] 38) := by
  have hmf : ∀ (fn : Fn) (first cap : Array Value) (w : World), (Instr.makeFunc fn first cap).run Tryz.prog w = .ok (.func fn first cap) w := fun _ _ _ _ => rfl
  refine callsIn_of_wp Tryz.func47 rfl trivial ?_ rfl
  simp only [Tryz.ntmps47, List.size_toArray, List.length_cons, List.length_nil, Nat.reduceAdd, Nat.reduceSub, Array.replicate_succ, Array.replicate_zero, List.push_toArray, List.append_toArray, List.nil_append, List.cons_append]
  gi_wp2
  go_ret
  exact ⟨rfl, rfl⟩
/-- One block is as it was. -/
def KB (Bs : Nat) (W W' : World) : Prop := W'.heap[Bs]? = W.heap[Bs]?
/-- What a round leaves: it goes on, or not. -/
def YieldD (J Jx : List (UInt8 × UInt8) → World → Prop) (Bs : Nat) (w : World) (pre : List (UInt8 × UInt8)) (b : Bool) (W' : World) : Prop := if b = true then J pre W' ∧ KB Bs w W' else Jx pre W'
set_option maxRecDepth 100000 in
set_option maxHeartbeats 4000000 in
theorem cells1_in (n : Nat) (hn : 1 ≤ n) (l Bs n₁ : Nat) (t m : ByteArray) (hlen : t.size = m.size) (hsz : t.size ≤ 2000000000) (J Jx : List (UInt8 × UInt8) → World → Prop)
    (hY : ∀ pre x W, J pre W → pre.length < (cellsR t m).length → YieldAt Fence.wide (n - 1) Tryz.prog l (encC x) W fun e W' =>
      (e = .returned (.bool true) ∧ J (pre ++ [x]) W' ∧ KB Bs W W') ∨ (e = .returned (.bool false) ∧ Jx (pre ++ [x]) W'))
    (W : World) (hJa : AbidesFrom n₁ J) (h0c : W.cell? ⟨Bs, 0, none⟩ = some (.string t)) (h1c : W.cell? ⟨Bs, 1, none⟩ = some (.string m)) (h0 : J [] W) :
    CallsIn Fence.wide n Tryz.prog 75 #[.func (.yield l) #[] #[], .pointer (some ⟨Bs, 0, none⟩)] W fun e W' => (∃ v, e = .returned v) ∧
      ((∃ ys, ys = cellsR t m ∧ J ys W') ∨ (∃ pre, pre <+: cellsR t m ∧ Jx pre W')) := by
  refine callsIn_of_wp Tryz.func75 rfl trivial ?_ rfl
  simp only [Tryz.ntmps75, List.size_toArray, List.length_cons, List.length_nil, Nat.reduceAdd, Nat.reduceSub, Array.replicate_succ, Array.replicate_zero, List.push_toArray, List.append_toArray, List.nil_append, List.cons_append]
  gi_wp2
  gi_loopw [11] (fun i wr => ∃ k : Nat, k ≤ t.size ∧ i = .int .i64 k ∧ J ((cellsR t m).take k) wr ∧ KB Bs W wr)
    (fun i _ => t.size - (intOf i).toNat)
  case atStart => exact ⟨0, Nat.zero_le _, rfl, h0, rfl⟩
  case round =>
    obtain ⟨k, hk, rfl, hJs, hnx⟩ := hrel
    have hl2 : (cellsR t m).length = t.size := by
      have e1 : t.size = t.data.toList.length := by simp
      have e2 : m.size = m.data.toList.length := by simp
      unfold cellsR; rw [List.length_zip, ← e1, ← e2, ← hlen]; exact Nat.min_self _
    have c0 : wr.cell? ⟨Bs, 0, none⟩ = some (.string t) := (World.cell?_of_block (w := W) (a := ⟨Bs, 0, none⟩) hnx).trans h0c
    have c1 : wr.cell? ⟨Bs, 1, none⟩ = some (.string m) := (World.cell?_of_block (w := W) (a := ⟨Bs, 1, none⟩) hnx).trans h1c
    by_cases hlt : k < t.size
    · have hkm : k < m.size := by omega
      have g1 := get_u t k hlt
      have g2 := get_u m k hkm
      obtain ⟨x, hx⟩ : ∃ x, t.data.toList[k]'(by simpa using hlt) = x := ⟨_, rfl⟩
      obtain ⟨y, hy0⟩ : ∃ y, m.data.toList[k]'(by simpa using hkm) = y := ⟨_, rfl⟩
      have hx2 : t[k]'hlt = x := by rw [← hx]; rfl
      have hy2 : m[k]'hkm = y := by rw [← hy0]; rfl
      rw [hx] at g1
      rw [hy0] at g2
      have hnext : (cellsR t m).take (k + 1) = (cellsR t m).take k ++ [(x, y)] := by
        rw [List.take_succ_eq_append_getElem (by rw [hl2]; exact hlt)]
        congr 2
        unfold cellsR
        rw [List.getElem_zip, hx, hy0]
      have hJd : J ((cellsR t m).take k) wr.drew := hJa _ wr wr.drew none hJs ⟨rfl, rfl, rfl, Nat.le_refl _, fun _ _ _ => rfl⟩ (fun r e => by cases e)
      obtain ⟨fn, tmps, assign, body, hy, hR⟩ := hY _ (x, y) wr.drew hJd (by rw [List.length_take, hl2]; omega)
      dsimp only [encC] at hy
      have hR2 := hR.mono (R' := fun e W' => ∃ b : Bool, e = .returned (.bool b) ∧ YieldD J Jx Bs wr.drew ((cellsR t m).take (k + 1)) b W') (by
        rintro e W' (⟨rfl, hJ3, hk3⟩ | ⟨rfl, hJx3⟩)
        · exact ⟨true, rfl, by unfold YieldD; rw [if_pos rfl, hnext]; exact ⟨hJ3, hk3⟩⟩
        · exact ⟨false, rfl, by unfold YieldD; rw [if_neg (by decide), hnext]; exact hJx3⟩)
      have HRR := Lib.hid hR2
      have HNX := Lib.hid hnx
      have HL2 := Lib.hid hl2
      have hmo : Tryz.prog.follows .mixedOrders = true := by kernel_rfl
      clear hR hR2 hnext hJd hJs hx hy0 hnx hl2 h0 hY hJa
      gi_wp2
      gi_region_with_o (with_reducible refine RoundIn.mono HRR.out ?_; rintro e W3 ⟨b, rfl, hD⟩)
      all_goals
        cases b
        · have hDx : Jx ((cellsR t m).take (k + 1)) W3 := hD
          have HD := Lib.hid hDx
          clear hD hDx HRR
          gi_wp2
          refine bodyPost_ret (results_none rfl _ _ _) rfl ?_
          exact ⟨⟨_, rfl⟩, .inr ⟨_, List.take_prefix _ _, HD.out⟩⟩
        · have hDx : J ((cellsR t m).take (k + 1)) W3 ∧ KB Bs wr.drew W3 := hD
          have HD := Lib.hid hDx
          clear hD hDx HRR
          gi_wp2
          go_roundw
          case rel => exact ⟨k + 1, by omega, by simp, HD.out.1, Eq.trans HD.out.2 HNX.out⟩
          case measure => simp [intOf]; omega
    · obtain rfl : k = t.size := by omega
      have hfin : (cellsR t m).take t.size = cellsR t m := List.take_of_length_le (by rw [hl2]; exact Nat.le_refl _)
      rw [hfin] at hJs
      have HJ := Lib.hid hJs
      clear hfin hJs hnx hl2 h0 hY hJa
      gi_wp2
      go_end0
      exact ⟨⟨_, rfl⟩, .inl ⟨_, rfl, HJ.out⟩⟩
theorem kb_t (Bs : Nat) {A B C : World} (h : KB Bs A B) (k : KB Bs B C) : KB Bs A C := Eq.trans k h
theorem kb_b {w : World} (Bs : Nat) (hb : Bs < w.heap.size) (W : World) (l : Nat) (o o' : Obj) (hl : w.heap.size ≤ l) (_ : W.heap[l]? = some o) (_ : o.isCells = false) (_ : o.isWalk = false) : KB Bs W (W.putObj l o') := by
  show (W.heap.setIfInBounds l o')[Bs]? = W.heap[Bs]?
  rw [Array.getElem?_setIfInBounds_ne (by omega)]
theorem kb_below {B Bs : Nat} {W W' : World} (h : Below B W W') (hb : Bs < B) : KB Bs W W' := h.block Bs hb
theorem kb_set {Bs : Nat} {W : World} {a : Addr} (h : Bs ≠ a.block) (v : Value) : KB Bs W (W.setCell a v) := Below.heap_setCell _ _ _ _ h
/-- The iterator stops at the end, or where a round has said so. -/
theorem cells_stops (n : Nat) (hn : 1 ≤ n) (Bs : Nat) (t m : ByteArray) (hlen : t.size = m.size) (hsz : t.size ≤ 2000000000) (w : World) (hr : RowIs w Bs 38 [.string t, .string m]) :
    SeqStopsK Fence.wide n Tryz.prog 75 #[.pointer (some ⟨Bs, 0, none⟩)] encC (KB Bs) (fun ys => ys = cellsR t m) (fun pre => pre <+: cellsR t m) (cellsR t m).length w := fun l J Jx W hW hJ _ hY h0 =>
  cells1_in n hn l Bs W.heap.size t m hlen hsz J Jx hY W hJ (by rw [(hr.below hW).cell]; rfl) (by rw [(hr.below hW).cell]; rfl) h0
/-- A row known whole abides what turns no cells. -/
theorem row_own {β : Type} (n O : Nat) (e : TypeId) (f : β → List Value) : OwnFrom n (fun s W => RowIs W O e (f s)) := fun s A B row hs hg hr => by
  have hs' : A.heap[O]? = some (.cells (f s).toArray e (0, 0)) := hs
  show B.heap[O]? = some (.cells (f s).toArray e (0, 0))
  rw [hg.block O (lt_of_block hs') (fun eq => by
    obtain ⟨_, o, ho, hc⟩ := hr O eq.symm
    rw [hs'] at ho
    cases ho
    cases hc)]
  exact hs'
end Go.Proofs.YtkmpbkhlcapbgaaGreatDoor
namespace Go.Proofs.YtkmpbkhlcapbgaaGreatDoor
open Go Go.RowKit Go.Shelf
attribute [local go_sem] Oper.semAt_some
def accB (t1 t2 : ByteArray) : Nat → ByteArray
  | 0 => ⟨#[]⟩
  | 1 => t1
  | _ => t1 ++ t2
theorem row_under {w w' : World} {b e B : Nat} {l : List Value} (h : RowIs w b e l) (hb : Below B w w') (hlt : b < B) : RowIs w' b e l := by
  unfold RowIs; rw [hb.block b hlt]; exact h
-- JOIN (printed by gen_join.py)
def JoinI (t1 m1 t2 m2 : ByteArray) (w : World) (k : Nat) (W : World) : Prop :=
  RowIs W (w.heap.size + 1) 38 [.string (accB t1 t2 k), .string (accB m1 m2 k)] ∧ RowIs W w.heap.size 38 [.string ⟨#[]⟩, .string ⟨#[]⟩] ∧ Below w.heap.size w W
def MarkI (w : World) (D : Nat) (W : World) : Prop := w.heap.size + 2 ≤ D ∧ W.heap[D]? = some (.deferred (some []))
theorem mark_own {β : Type} (n D : Nat) (w : World) (h : D < n) : OwnFrom n (fun (_ : β) W => MarkI w D W) := fun s A B row hs hg hr =>
  ⟨hs.1, by rw [hg.block D (lt_of_block hs.2) (fun eq => by have := (hr D eq.symm).1; omega)]; exact hs.2⟩
theorem MarkI.below {w W W' : World} {D : Nat} (h : MarkI w D W) (hb : Below W.heap.size W W') : MarkI w D W' := ⟨h.1, (hb.block D (lt_of_block h.2)).trans h.2⟩
theorem MarkI.set {w W : World} {D : Nat} (h : MarkI w D W) {a : Addr} (ha : D ≠ a.block) (v : Value) : MarkI w D (W.setCell a v) := ⟨h.1, (Below.heap_setCell _ _ _ _ ha).trans h.2⟩
theorem keeps_below {W W' : World} (h : Below W.heap.size W W') : KeepsOthers W W' := ⟨h.size, fun i _ hi _ => (h.block i (lt_of_block hi)).trans hi⟩
theorem empty_app (t : ByteArray) : (⟨#[]⟩ : ByteArray) ++ t = t := by
  apply ByteArray.ext; simp
theorem acc_nil (T : ByteArray) (f : UInt8 × UInt8 → UInt8) : (T ++ ⟨(([] : List (UInt8 × UInt8)).map f).toArray⟩ : ByteArray) = T := by
  apply ByteArray.ext; simp
theorem acc_snoc (T : ByteArray) (pre : List (UInt8 × UInt8)) (x : UInt8 × UInt8) (f : UInt8 × UInt8 → UInt8) : (T ++ ⟨(pre.map f).toArray⟩ : ByteArray) ++ ⟨#[f x]⟩ = T ++ ⟨((pre ++ [x]).map f).toArray⟩ := by
  apply ByteArray.ext; simp
theorem acc_all (T t m : ByteArray) (h : t.size = m.size) : (T ++ ⟨((cellsR t m).map (·.1)).toArray⟩ : ByteArray) = T ++ t ∧ ∀ M : ByteArray, (M ++ ⟨((cellsR t m).map (·.2)).toArray⟩ : ByteArray) = M ++ m := by
  have e1 : t.size = t.data.toList.length := by simp
  have e2 : m.size = m.data.toList.length := by simp
  have h1 : (cellsR t m).map (·.1) = t.data.toList := by unfold cellsR; rw [List.map_fst_zip (by omega)]
  have h2 : (cellsR t m).map (·.2) = m.data.toList := by unfold cellsR; rw [List.map_snd_zip (by omega)]
  refine ⟨by rw [h1, Lib.mk_data], fun M => by rw [h2, Lib.mk_data]⟩
theorem size_map (T : ByteArray) (pre : List (UInt8 × UInt8)) (f : UInt8 × UInt8 → UInt8) : (T ++ ⟨(pre.map f).toArray⟩ : ByteArray).size = T.size + pre.length := by
  rw [ByteArray.size_append]; congr 1; show (pre.map f).toArray.size = _; simp
set_option maxRecDepth 100000 in
set_option maxHeartbeats 8000000 in
theorem join_in (n : Nat) (hn : 6 ≤ n) (sb : Nat) (t1 m1 t2 m2 : ByteArray) (h1 : t1.size = m1.size) (h2 : t2.size = m2.size) (hs : t1.size + t2.size ≤ 1000000000) (w : World) (hr : RowIs w sb 38 [.string t1, .string m1, .string t2, .string m2]) :
    CallsIn Fence.wide n Tryz.prog 120 #[.slice (some ⟨sb, 0, none⟩) 2 2] w fun e w' => e = .returned (.agg #[.string (t1 ++ t2), .string (m1 ++ m2)]) ∧ Below w.heap.size w w' := by
  have hlt := hr.lt
  have HR := Lib.hid hr
  have H1 := Lib.hid h1
  have H2 := Lib.hid h2
  have HS := Lib.hid hs
  clear hr h1 h2 hs
  have hn1 : 1 ≤ n := by omega
  refine callsIn_of_wp_marks Tryz.func120 rfl trivial ?_ rfl
  simp only [Tryz.ntmps120, List.size_toArray, List.length_cons, List.length_nil, Nat.reduceAdd, Nat.reduceSub, Array.replicate_succ, Array.replicate_zero, List.push_toArray, List.append_toArray, List.nil_append, List.cons_append]
  gi_wp2
  refine wpIn_loop (I := fun a' W => (∃ x5 x6 x11 x12 x13 x14 x15 x17 x18 x19 x20 : Value, a' = { tmps := #[.slice (some ⟨sb, 0, none⟩) 2 2, undef, .pointer (some ⟨w.heap.size, 0, none⟩), .pointer (some ⟨w.heap.size + 1, 0, none⟩), undef, x5, x6, .agg #[.string ⟨#[]⟩, .string ⟨#[]⟩], .slice (some ⟨sb, 0, none⟩) 2 2, .int .i64 2, .int .i64 0, x11, x12, x13, x14, x15, undef, x17, x18, x19, x20, undef], defers := [] } ∧ JoinI t1 m1 t2 m2 w 0 W) ∨ (∃ (D1 : Nat) (x5 x6 x11 x12 x13 x14 x15 x17 x18 x19 x20 : Value), a' = { tmps := #[.slice (some ⟨sb, 0, none⟩) 2 2, undef, .pointer (some ⟨w.heap.size, 0, none⟩), .pointer (some ⟨w.heap.size + 1, 0, none⟩), undef, x5, x6, .agg #[.string ⟨#[]⟩, .string ⟨#[]⟩], .slice (some ⟨sb, 0, none⟩) 2 2, .int .i64 2, .int .i64 1, x11, x12, x13, x14, x15, undef, x17, x18, x19, x20, undef], defers := [{ target := .collected D1, args := #[] }] } ∧ JoinI t1 m1 t2 m2 w 1 W ∧ MarkI w D1 W) ∨ (∃ (D1 D2 : Nat) (x5 x6 x11 x12 x13 x14 x15 x17 x18 x19 x20 : Value), a' = { tmps := #[.slice (some ⟨sb, 0, none⟩) 2 2, undef, .pointer (some ⟨w.heap.size, 0, none⟩), .pointer (some ⟨w.heap.size + 1, 0, none⟩), undef, x5, x6, .agg #[.string ⟨#[]⟩, .string ⟨#[]⟩], .slice (some ⟨sb, 0, none⟩) 2 2, .int .i64 2, .int .i64 2, x11, x12, x13, x14, x15, undef, x17, x18, x19, x20, undef], defers := [{ target := .collected D2, args := #[] }, { target := .collected D1, args := #[] }] } ∧ JoinI t1 m1 t2 m2 w 2 W ∧ MarkI w D1 W ∧ MarkI w D2 W ∧ D1 ≠ D2))
    (fun a' _ => 2 - (intOf (a'.tmps.getD 10 undef)).toNat) ?_ ?_
  · refine .inl ⟨_, _, _, _, _, _, _, _, _, _, _, rfl, ?_, ?_, ?_⟩
    · have := RowIs.new (w.alloc (.cells #[.string ⟨#[]⟩, .string ⟨#[]⟩] 38)) 38 [.string ⟨#[]⟩, .string ⟨#[]⟩]
      simpa [accB] using this
    · exact (RowIs.new w 38 [.string ⟨#[]⟩, .string ⟨#[]⟩]).alloc _
    · exact ((Below.refl _ _).alloc (Nat.le_refl _) _).alloc (by simp) _
  · rintro a wr (⟨x5, x6, x11, x12, x13, x14, x15, x17, x18, x19, x20, rfl, hO, hRs, hB⟩ | ⟨D1, x5, x6, x11, x12, x13, x14, x15, x17, x18, x19, x20, rfl, ⟨hO, hRs, hB⟩, hD1⟩ | ⟨D1, D2, x5, x6, x11, x12, x13, x14, x15, x17, x18, x19, x20, rfl, ⟨hO, hRs, hB⟩, hD1, hD2, hDD⟩)
    · -- ROUND 0
      have rs := row_under HR.out hB hlt
      have c0 : wr.cell? ⟨sb, 0, none⟩ = some (.string t1) := by rw [rs.cell]; rfl
      have c1 : wr.cell? ⟨sb, 1, none⟩ = some (.string m1) := by rw [rs.cell]; rfl
      have HO := Lib.hid hO
      have HRs := Lib.hid hRs
      have HB := Lib.hid hB
      clear hO hRs hB rs
      gi_wp2
      first | refine ⟨trivial, (?_ : CallsIn _ _ _ _ _ _ _)⟩ | refine ⟨trivial, fun _ => by omega, ?_⟩
      refine (cells_in (n - 1) _ _ _).mono ?_; rintro e w' ⟨rfl, rfl⟩
      gi_wp2
      have hs0 := HB.out.size
      have rY : RowIs ((wr.alloc (.cells #[.string t1, .string m1] 38)).alloc (.cells #[.string t1, .string m1] 38)) (wr.heap.size + 1) 38 [.string t1, .string m1] := by
        have := RowIs.new (wr.alloc (.cells #[.string t1, .string m1] 38)) 38 [.string t1, .string m1]
        simpa using this
      have hO0 := (HO.out.alloc (.cells #[.string t1, .string m1] 38)).alloc (.cells #[.string t1, .string m1] 38)
      have hR0 := (HRs.out.alloc (.cells #[.string t1, .string m1] 38)).alloc (.cells #[.string t1, .string m1] 38)
      have hB0 := (HB.out.alloc hs0 (.cells #[.string t1, .string m1] 38)).alloc (by simp; omega) (.cells #[.string t1, .string m1] 38)
      have hsz : ((wr.alloc (.cells #[.string t1, .string m1] 38)).alloc (.cells #[.string t1, .string m1] 38)).heap.size = wr.heap.size + 2 := by simp
      obtain ⟨W0, hW0⟩ : ∃ W0, ((wr.alloc (.cells #[.string t1, .string m1] 38)).alloc (.cells #[.string t1, .string m1] 38)) = W0 := ⟨_, rfl⟩
      rw [hW0] at rY hO0 hR0 hB0 hsz ⊢
      clear hW0
      have hOlt : w.heap.size + 1 < wr.heap.size := HO.out.lt
      refine wpIn_rangeFunc_ownH rfl hn1 (gf := 75) (lb := #[.pointer (some ⟨wr.heap.size + 1, 0, none⟩)]) rfl trivial (enters_of Tryz.func75 (by kernel_rfl) rfl)
        (cells_stops (n - 1) (by omega) (wr.heap.size + 1) t1 m1 H1.out (by have := HS.out; omega) W0 rY) (fun h k => kb_t _ h k) (kb_b _ (by omega)) (Below.refl _ _) (fun _ => rfl)
        (fun pre W => ((RowIs W (w.heap.size + 1) 38 [.string ((⟨#[]⟩ : ByteArray) ++ ⟨(pre.map (·.1)).toArray⟩), .string ((⟨#[]⟩ : ByteArray) ++ ⟨(pre.map (·.2)).toArray⟩)] ∧ RowIs W w.heap.size 38 [.string ⟨#[]⟩, .string ⟨#[]⟩] ∧ RowIs W (wr.heap.size + 1) 38 [.string t1, .string m1]) ∧ Below w.heap.size w W))
        (fun _ _ _ => False)
        (OwnFrom.and (OwnFrom.and (row_own _ _ _ (fun (pre : List (UInt8 × UInt8)) => [.string ((⟨#[]⟩ : ByteArray) ++ ⟨(pre.map (·.1)).toArray⟩), .string ((⟨#[]⟩ : ByteArray) ++ ⟨(pre.map (·.2)).toArray⟩)])) (OwnFrom.and (row_own _ _ _ (fun _ => [.string ⟨#[]⟩, .string ⟨#[]⟩])) (row_own _ _ _ (fun _ => [.string t1, .string m1])))) (ownFrom_below (Nat.le_refl _) (by omega)))
        (fun _ _ _ _ _ hs _ _ => hs)
        ⟨⟨by rw [acc_nil, acc_nil]; exact hO0, hR0, rY⟩, hB0⟩
        (fun x a' W => ∃ Bx, wr.heap.size + 1 < Bx ∧ RowIs W Bx 100 [.int .u8 (x.1.toNat : Int), .int .u8 (x.2.toNat : Int)] ∧ a' = { tmps := #[.slice (some ⟨sb, 0, none⟩) 2 2, undef, .pointer (some ⟨w.heap.size, 0, none⟩), .pointer (some ⟨w.heap.size + 1, 0, none⟩), undef, .pointer (some ⟨wr.heap.size, 0, none⟩), .pointer (some ⟨Bx, 0, none⟩), .agg #[.string ⟨#[]⟩, .string ⟨#[]⟩], .slice (some ⟨sb, 0, none⟩) 2 2, .int .i64 2, .int .i64 0, .bool true, .pointer (some ⟨sb, 0, none⟩), .agg #[.string t1, .string m1], .agg #[.string t1, .string m1], .func (.func 75) #[] #[.pointer (some ⟨wr.heap.size + 1, 0, none⟩)], .agg #[.int .u8 (x.1.toNat : Int), .int .u8 (x.2.toNat : Int)], x17, x18, x19, x20, undef], defers := [] })
        (fun x a' _ X Y row hs hg hr => by obtain ⟨Bx, q1, q2, q3⟩ := hs; exact ⟨Bx, q1, row_own _ Bx _ (fun (_ : Unit) => [.int .u8 (x.1.toNat : Int), .int .u8 (x.2.toNat : Int)]) () X Y row q2 hg hr, q3⟩)
        ?assign0 ?body0 ?done0 ?stop0
      case assign0 =>
        rintro l pre x W K ⟨⟨hO1, hR1, hY1⟩, hB1⟩ hK
        have hyl := hY1.lt
        simp only [encC]
        gi_wp2
        exact hK _ _ ((KeepsOthers.alloc _ _).from _) (kb_below ((Below.refl W.heap.size W).alloc (Nat.le_refl _) _) hyl) ⟨⟨hO1.alloc _, hR1.alloc _, hY1.alloc _⟩, hB1.alloc hB1.size _⟩ ⟨W.heap.size, hyl, RowIs.new W _ _, rfl⟩
      case body0 =>
        rintro l pre x a' W hl ⟨r, hr⟩ ⟨⟨hO1, hR1, hY1⟩, hB1⟩ ⟨Bx, hBx, bX, rfl⟩ hltN
        have hlen : (cellsR t1 m1).length ≤ t1.size := by
          unfold cellsR; rw [List.length_zip]; have : t1.size = t1.data.toList.length := by simp
          omega
        have hq := HS.out
        have hq1 := H1.out
        have hq2 := H2.out
        have HA := Lib.hid (add_at ((⟨#[]⟩ : ByteArray) ++ ⟨(pre.map (·.1)).toArray⟩) ((⟨#[]⟩ : ByteArray) ++ ⟨(pre.map (·.2)).toArray⟩) x.1 x.2 (by rw [size_map]; show 0 + _ ≤ _; omega) (by rw [size_map]; show 0 + _ ≤ _; omega) W)
        clear hq hq1 hq2
        have oc0 : W.cell? ⟨w.heap.size + 1, 0, none⟩ = some (.string ((⟨#[]⟩ : ByteArray) ++ ⟨(pre.map (·.1)).toArray⟩)) := by rw [hO1.cell]; rfl
        have oc1 : W.cell? ⟨w.heap.size + 1, 1, none⟩ = some (.string ((⟨#[]⟩ : ByteArray) ++ ⟨(pre.map (·.2)).toArray⟩)) := by rw [hO1.cell]; rfl
        have bc0 : W.cell? ⟨Bx, 0, none⟩ = some (.int .u8 (x.1.toNat : Int)) := by rw [bX.cell]; rfl
        have bc1 : W.cell? ⟨Bx, 1, none⟩ = some (.int .u8 (x.2.toNat : Int)) := by rw [bX.cell]; rfl
        have HO1 := Lib.hid hO1
        have HR1 := Lib.hid hR1
        have HY1 := Lib.hid hY1
        have HB1 := Lib.hid hB1
        clear hO1 hR1 hY1 hB1 bX hlen
        gi_wp2
        first | refine ⟨trivial, (?_ : CallsIn _ _ _ _ _ _ _)⟩ | refine ⟨trivial, fun _ => by omega, ?_⟩
        refine (CallsIn.inRound l (callsIn_wide.2 HA.out)).mono ?_; rintro e w2 ⟨rfl, hb2⟩
        have rO := HO1.out.below hb2
        obtain ⟨s0, s1, s2, s3, s4⟩ := two_facts rO
        have HRO := Lib.hid rO
        have HB2 := Lib.hid hb2
        clear rO hb2 oc0 oc1 bc0 bc1
        gi_wp2
        have hn1' : wr.heap.size + 1 ≠ w.heap.size + 1 := by omega
        have hfin := (HRO.out.set 0 (.string (((⟨#[]⟩ : ByteArray) ++ ⟨(pre.map (·.1)).toArray⟩) ++ ⟨#[x.1]⟩))).set 1 (.string (((⟨#[]⟩ : ByteArray) ++ ⟨(pre.map (·.2)).toArray⟩) ++ ⟨#[x.2]⟩))
        refine ⟨((keeps_below HB2.out).trans ((KeepsOthers.setCell _ _ _).trans (KeepsOthers.setCell _ _ _))).from _,
          kb_t _ (kb_below HB2.out HY1.out.lt) (kb_t _ (kb_set (a := ⟨w.heap.size + 1, 0, none⟩) hn1' _) (kb_set (a := ⟨w.heap.size + 1, 1, none⟩) hn1' _)), ⟨?_, ?_, ?_⟩, ?_⟩
        · rw [← acc_snoc, ← acc_snoc]; exact hfin
        · exact ((HR1.out.below HB2.out).other (by show w.heap.size ≠ w.heap.size + 1; omega) _).other (by show w.heap.size ≠ w.heap.size + 1; omega) _
        · exact ((HY1.out.below HB2.out).other hn1' _).other hn1' _
        · exact ((HB1.out.trans (HB2.out.mono HB1.out.size)).setCell (p := ⟨w.heap.size + 1, 0, none⟩) (by simp) _).setCell (p := ⟨w.heap.size + 1, 1, none⟩) (by simp) _
      case done0 =>
        rintro D ys W hD rfl ⟨⟨hO1, hR1, hY1⟩, hB1⟩ hK
        obtain ⟨ea1, ea2⟩ := acc_all (⟨#[]⟩ : ByteArray) t1 m1 H1.out
        rw [ea1, ea2] at hO1
        have HO1 := Lib.hid hO1
        have HR1 := Lib.hid hR1
        have HB1 := Lib.hid hB1
        have HK := Lib.hid hK
        clear hO1 hR1 hY1 hB1 hK ea1 ea2
        gi_wp2
        refine ⟨?_, by simp [intOf]⟩
        exact .inr (.inl ⟨D, _, _, _, _, _, _, _, _, _, _, _, rfl, ⟨by have h := HO1.out; rw [empty_app, empty_app] at h; exact h, HR1.out, HB1.out⟩, by omega, HK.out⟩)
      case stop0 =>
        rintro D c pre W _ _ h _
        exact h.elim
    · -- ROUND 1
      have rs := row_under HR.out hB hlt
      have c0 : wr.cell? ⟨sb, 2, none⟩ = some (.string t2) := by rw [rs.cell]; rfl
      have c1 : wr.cell? ⟨sb, 3, none⟩ = some (.string m2) := by rw [rs.cell]; rfl
      have HO := Lib.hid hO
      have HRs := Lib.hid hRs
      have HB := Lib.hid hB
      have HD1 := Lib.hid hD1
      clear hD1
      clear hO hRs hB rs
      gi_wp2
      first | refine ⟨trivial, (?_ : CallsIn _ _ _ _ _ _ _)⟩ | refine ⟨trivial, fun _ => by omega, ?_⟩
      refine (cells_in (n - 1) _ _ _).mono ?_; rintro e w' ⟨rfl, rfl⟩
      gi_wp2
      have hs0 := HB.out.size
      have rY : RowIs ((wr.alloc (.cells #[.string t2, .string m2] 38)).alloc (.cells #[.string t2, .string m2] 38)) (wr.heap.size + 1) 38 [.string t2, .string m2] := by
        have := RowIs.new (wr.alloc (.cells #[.string t2, .string m2] 38)) 38 [.string t2, .string m2]
        simpa using this
      have hO0 := (HO.out.alloc (.cells #[.string t2, .string m2] 38)).alloc (.cells #[.string t2, .string m2] 38)
      have hR0 := (HRs.out.alloc (.cells #[.string t2, .string m2] 38)).alloc (.cells #[.string t2, .string m2] 38)
      have hB0 := (HB.out.alloc hs0 (.cells #[.string t2, .string m2] 38)).alloc (by simp; omega) (.cells #[.string t2, .string m2] 38)
      have hD0 : MarkI w D1 ((wr.alloc (.cells #[.string t2, .string m2] 38)).alloc (.cells #[.string t2, .string m2] 38)) := HD1.out.below ((((Below.refl wr.heap.size wr).alloc (Nat.le_refl _) (.cells #[.string t2, .string m2] 38)).alloc (by simp) (.cells #[.string t2, .string m2] 38)))
      have hDlt : D1 < wr.heap.size := lt_of_block HD1.out.2
      have hsz : ((wr.alloc (.cells #[.string t2, .string m2] 38)).alloc (.cells #[.string t2, .string m2] 38)).heap.size = wr.heap.size + 2 := by simp
      obtain ⟨W0, hW0⟩ : ∃ W0, ((wr.alloc (.cells #[.string t2, .string m2] 38)).alloc (.cells #[.string t2, .string m2] 38)) = W0 := ⟨_, rfl⟩
      rw [hW0] at rY hO0 hR0 hB0 hsz hD0 ⊢
      clear hW0
      have hOlt : w.heap.size + 1 < wr.heap.size := HO.out.lt
      refine wpIn_rangeFunc_ownH rfl hn1 (gf := 75) (lb := #[.pointer (some ⟨wr.heap.size + 1, 0, none⟩)]) rfl trivial (enters_of Tryz.func75 (by kernel_rfl) rfl)
        (cells_stops (n - 1) (by omega) (wr.heap.size + 1) t2 m2 H2.out (by have := HS.out; omega) W0 rY) (fun h k => kb_t _ h k) (kb_b _ (by omega)) (Below.refl _ _) (fun _ => rfl)
        (fun pre W => ((RowIs W (w.heap.size + 1) 38 [.string (t1 ++ ⟨(pre.map (·.1)).toArray⟩), .string (m1 ++ ⟨(pre.map (·.2)).toArray⟩)] ∧ RowIs W w.heap.size 38 [.string ⟨#[]⟩, .string ⟨#[]⟩] ∧ RowIs W (wr.heap.size + 1) 38 [.string t2, .string m2] ∧ MarkI w D1 W) ∧ Below w.heap.size w W))
        (fun _ _ _ => False)
        (OwnFrom.and (OwnFrom.and (row_own _ _ _ (fun (pre : List (UInt8 × UInt8)) => [.string (t1 ++ ⟨(pre.map (·.1)).toArray⟩), .string (m1 ++ ⟨(pre.map (·.2)).toArray⟩)])) (OwnFrom.and (row_own _ _ _ (fun _ => [.string ⟨#[]⟩, .string ⟨#[]⟩])) (OwnFrom.and (row_own _ _ _ (fun _ => [.string t2, .string m2])) (mark_own _ D1 w (by omega))))) (ownFrom_below (Nat.le_refl _) (by omega)))
        (fun _ _ _ _ _ hs _ _ => hs)
        ⟨⟨by rw [acc_nil, acc_nil]; exact hO0, hR0, rY, hD0⟩, hB0⟩
        (fun x a' W => ∃ Bx, wr.heap.size + 1 < Bx ∧ RowIs W Bx 100 [.int .u8 (x.1.toNat : Int), .int .u8 (x.2.toNat : Int)] ∧ a' = { tmps := #[.slice (some ⟨sb, 0, none⟩) 2 2, undef, .pointer (some ⟨w.heap.size, 0, none⟩), .pointer (some ⟨w.heap.size + 1, 0, none⟩), undef, .pointer (some ⟨wr.heap.size, 0, none⟩), .pointer (some ⟨Bx, 0, none⟩), .agg #[.string ⟨#[]⟩, .string ⟨#[]⟩], .slice (some ⟨sb, 0, none⟩) 2 2, .int .i64 2, .int .i64 1, .bool true, .pointer (some ⟨sb, 2, none⟩), .agg #[.string t2, .string m2], .agg #[.string t2, .string m2], .func (.func 75) #[] #[.pointer (some ⟨wr.heap.size + 1, 0, none⟩)], .agg #[.int .u8 (x.1.toNat : Int), .int .u8 (x.2.toNat : Int)], x17, x18, x19, x20, undef], defers := [] })
        (fun x a' _ X Y row hs hg hr => by obtain ⟨Bx, q1, q2, q3⟩ := hs; exact ⟨Bx, q1, row_own _ Bx _ (fun (_ : Unit) => [.int .u8 (x.1.toNat : Int), .int .u8 (x.2.toNat : Int)]) () X Y row q2 hg hr, q3⟩)
        ?assign1 ?body1 ?done1 ?stop1
      case assign1 =>
        rintro l pre x W K ⟨⟨hO1, hR1, hY1, hD1'⟩, hB1⟩ hK
        have hyl := hY1.lt
        simp only [encC]
        gi_wp2
        exact hK _ _ ((KeepsOthers.alloc _ _).from _) (kb_below ((Below.refl W.heap.size W).alloc (Nat.le_refl _) _) hyl) ⟨⟨hO1.alloc _, hR1.alloc _, hY1.alloc _, hD1'.below ((Below.refl W.heap.size W).alloc (Nat.le_refl _) _)⟩, hB1.alloc hB1.size _⟩ ⟨W.heap.size, hyl, RowIs.new W _ _, rfl⟩
      case body1 =>
        rintro l pre x a' W hl ⟨r, hr⟩ ⟨⟨hO1, hR1, hY1, hD1'⟩, hB1⟩ ⟨Bx, hBx, bX, rfl⟩ hltN
        have hlen : (cellsR t2 m2).length ≤ t2.size := by
          unfold cellsR; rw [List.length_zip]; have : t2.size = t2.data.toList.length := by simp
          omega
        have hq := HS.out
        have hq1 := H1.out
        have hq2 := H2.out
        have HA := Lib.hid (add_at (t1 ++ ⟨(pre.map (·.1)).toArray⟩) (m1 ++ ⟨(pre.map (·.2)).toArray⟩) x.1 x.2 (by rw [size_map]; omega) (by rw [size_map]; omega) W)
        clear hq hq1 hq2
        have oc0 : W.cell? ⟨w.heap.size + 1, 0, none⟩ = some (.string (t1 ++ ⟨(pre.map (·.1)).toArray⟩)) := by rw [hO1.cell]; rfl
        have oc1 : W.cell? ⟨w.heap.size + 1, 1, none⟩ = some (.string (m1 ++ ⟨(pre.map (·.2)).toArray⟩)) := by rw [hO1.cell]; rfl
        have bc0 : W.cell? ⟨Bx, 0, none⟩ = some (.int .u8 (x.1.toNat : Int)) := by rw [bX.cell]; rfl
        have bc1 : W.cell? ⟨Bx, 1, none⟩ = some (.int .u8 (x.2.toNat : Int)) := by rw [bX.cell]; rfl
        have HO1 := Lib.hid hO1
        have HR1 := Lib.hid hR1
        have HY1 := Lib.hid hY1
        have HB1 := Lib.hid hB1
        have HD1' := Lib.hid hD1'
        clear hD1'
        clear hO1 hR1 hY1 hB1 bX hlen
        gi_wp2
        first | refine ⟨trivial, (?_ : CallsIn _ _ _ _ _ _ _)⟩ | refine ⟨trivial, fun _ => by omega, ?_⟩
        refine (CallsIn.inRound l (callsIn_wide.2 HA.out)).mono ?_; rintro e w2 ⟨rfl, hb2⟩
        have rO := HO1.out.below hb2
        obtain ⟨s0, s1, s2, s3, s4⟩ := two_facts rO
        have HRO := Lib.hid rO
        have HB2 := Lib.hid hb2
        clear rO hb2 oc0 oc1 bc0 bc1
        gi_wp2
        have hn1' : wr.heap.size + 1 ≠ w.heap.size + 1 := by omega
        have hfin := (HRO.out.set 0 (.string ((t1 ++ ⟨(pre.map (·.1)).toArray⟩) ++ ⟨#[x.1]⟩))).set 1 (.string ((m1 ++ ⟨(pre.map (·.2)).toArray⟩) ++ ⟨#[x.2]⟩))
        refine ⟨((keeps_below HB2.out).trans ((KeepsOthers.setCell _ _ _).trans (KeepsOthers.setCell _ _ _))).from _,
          kb_t _ (kb_below HB2.out HY1.out.lt) (kb_t _ (kb_set (a := ⟨w.heap.size + 1, 0, none⟩) hn1' _) (kb_set (a := ⟨w.heap.size + 1, 1, none⟩) hn1' _)), ⟨?_, ?_, ?_, ?_⟩, ?_⟩
        · rw [← acc_snoc, ← acc_snoc]; exact hfin
        · exact ((HR1.out.below HB2.out).other (by show w.heap.size ≠ w.heap.size + 1; omega) _).other (by show w.heap.size ≠ w.heap.size + 1; omega) _
        · exact ((HY1.out.below HB2.out).other hn1' _).other hn1' _
        · have hd2 := HD1'.out.1
          exact ((HD1'.out.below HB2.out).set (a := ⟨w.heap.size + 1, 0, none⟩) (by show D1 ≠ w.heap.size + 1; omega) _).set (a := ⟨w.heap.size + 1, 1, none⟩) (by show D1 ≠ w.heap.size + 1; omega) _
        · exact ((HB1.out.trans (HB2.out.mono HB1.out.size)).setCell (p := ⟨w.heap.size + 1, 0, none⟩) (by simp) _).setCell (p := ⟨w.heap.size + 1, 1, none⟩) (by simp) _
      case done1 =>
        rintro D ys W hD rfl ⟨⟨hO1, hR1, hY1, hD1'⟩, hB1⟩ hK
        obtain ⟨ea1, ea2⟩ := acc_all t1 t2 m2 H2.out
        rw [ea1, ea2] at hO1
        have HO1 := Lib.hid hO1
        have HR1 := Lib.hid hR1
        have HB1 := Lib.hid hB1
        have HK := Lib.hid hK
        have HD1' := Lib.hid hD1'
        clear hD1'
        clear hO1 hR1 hY1 hB1 hK ea1 ea2
        gi_wp2
        refine ⟨?_, by simp [intOf]⟩
        exact .inr (.inr ⟨D1, D, _, _, _, _, _, _, _, _, _, _, _, rfl, ⟨HO1.out, HR1.out, HB1.out⟩, HD1'.out, ⟨by omega, HK.out⟩, by omega⟩)
      case stop1 =>
        rintro D c pre W _ _ h _
        exact h.elim
    · have c0 : wr.cell? ⟨w.heap.size + 1, 0, none⟩ = some (.string (t1 ++ t2)) := by rw [hO.cell]; rfl
      have c1 : wr.cell? ⟨w.heap.size + 1, 1, none⟩ = some (.string (m1 ++ m2)) := by rw [hO.cell]; rfl
      obtain ⟨s0, s1, s2, s3, s4⟩ := two_facts hRs
      have HRs := Lib.hid hRs
      have HB := Lib.hid hB
      have HD1 := Lib.hid hD1
      have HD2 := Lib.hid hD2
      have HDD := Lib.hid hDD
      clear hO hRs hB hD1 hD2 hDD
      gi_wp2
      have rf := (HRs.out.set 0 (.string (t1 ++ t2))).set 1 (.string (m1 ++ m2))
      have hB1 := (HB.out.setCell (p := ⟨w.heap.size, 0, none⟩) (Nat.le_refl _) (.string (t1 ++ t2))).setCell (p := ⟨w.heap.size, 1, none⟩) (Nat.le_refl _) (.string (m1 ++ m2))
      have hd1 := HD1.out.1
      have hd2 := HD2.out.1
      have k2 := ((HD2.out.set (a := ⟨w.heap.size, 0, none⟩) (by show D2 ≠ w.heap.size; omega) (.string (t1 ++ t2))).set (a := ⟨w.heap.size, 1, none⟩) (by show D2 ≠ w.heap.size; omega) (.string (m1 ++ m2))).2
      have k1 := ((HD1.out.set (a := ⟨w.heap.size, 0, none⟩) (by show D1 ≠ w.heap.size; omega) (.string (t1 ++ t2))).set (a := ⟨w.heap.size, 1, none⟩) (by show D1 ≠ w.heap.size; omega) (.string (m1 ++ m2))).2
      obtain ⟨Wf, hWf⟩ : ∃ Wf, ((wr.setCell ⟨w.heap.size, 0, none⟩ (.string (t1 ++ t2))).setCell ⟨w.heap.size, 1, none⟩ (.string (m1 ++ m2))) = Wf := ⟨_, rfl⟩
      rw [hWf] at rf hB1 k1 k2 ⊢
      have hne := HDD.out
      refine ⟨by simp, .inl ⟨_, _, rfl, run_takeDeferred k2, ?_⟩⟩
      have k1' : (Wf.putObj D2 (.deferred none)).heap[D1]? = some (.deferred (some [])) := by
        show (Wf.heap.setIfInBounds D2 _)[D1]? = _
        rw [Array.getElem?_setIfInBounds_ne (by omega)]; exact k1
      refine ⟨by simp, .inl ⟨_, _, rfl, run_takeDeferred k1', ?_⟩⟩
      have hBf : Below w.heap.size w ((Wf.putObj D2 (.deferred none)).putObj D1 (.deferred none)) := by
        have b2 := belowK_b (w := w) (Nat.le_refl _) Wf D2 _ (.deferred none) (by omega) k2 rfl rfl
        have b1 := belowK_b (w := w) (Nat.le_refl _) (Wf.putObj D2 (.deferred none)) D1 _ (.deferred none) (by omega) k1' rfl rfl
        exact (hB1.trans b2).trans b1
      have rf2 : RowIs ((Wf.putObj D2 (.deferred none)).putObj D1 (.deferred none)) w.heap.size 38 [.string (t1 ++ t2), .string (m1 ++ m2)] := by
        show ((Wf.heap.setIfInBounds D2 _).setIfInBounds D1 _)[w.heap.size]? = _
        rw [Array.getElem?_setIfInBounds_ne (by omega), Array.getElem?_setIfInBounds_ne (by omega)]
        exact rf
      obtain ⟨q0, q1, _⟩ := two_facts rf2
      refine ⟨.agg #[.string (t1 ++ t2), .string (m1 ++ m2)], ?_, rfl, hBf⟩
      simp [results, Tryz.results120, go_sem, q0, q1]
theorem join_at (sb : Nat) (t1 m1 t2 m2 : ByteArray) (h1 : t1.size = m1.size) (h2 : t2.size = m2.size) (hs : t1.size + t2.size ≤ 1000000000) (w : World) (hr : RowIs w sb 38 [.string t1, .string m1, .string t2, .string m2]) :
    Calls Tryz.prog 120 #[.slice (some ⟨sb, 0, none⟩) 2 2] w fun e w' => e = .returned (.agg #[.string (t1 ++ t2), .string (m1 ++ m2)]) ∧ Below w.heap.size w w' :=
  callsIn_wide.1 (join_in 6 (Nat.le_refl _) sb t1 m1 t2 m2 h1 h2 hs w hr)
end Go.Proofs.YtkmpbkhlcapbgaaGreatDoor
