/-
  DERIVED. The walks of split's cells: a row's bytes, with their letters, by an iterator.
-/
import Derived.RangeFuncNested
import Derived.RangeFuncBound
import Derived.RangeFuncCalls
import Derived.RangeFuncLeaves
import Derived.Shelf.Abstract
import Derived.Shelf.RegionOpen
import Derived.WalkKit
import Derived.OwnWalkIn
import Derived.TacticsInMore
import Derived.LoopNIn
import Derived.LoopIn
import Derived.BigRegionIn
import Derived.Test.YtkmpbkhlcapbgaaGreatDoorProg
import Derived.Test.YtkmpbkhlcapbgaaGreatDoorZ05
import Derived.Lib.Strings
import Derived.Lib.IndexMore
import Derived.Lib.Hide
namespace Go.Proofs.YtkmpbkhlcapbgaaGreatDoor
open Go Go.RowKit Go.Shelf
attribute [local go_sem] Oper.semAt_some
/-- A byte and its letter, as the iterator hands them on. -/
def encC (x : UInt8 × UInt8) : Array Value := #[.agg #[.int .u8 (x.1.toNat : Int), .int .u8 (x.2.toNat : Int)]]
/-- The cells of a row. -/
def cellsR (t m : ByteArray) : List (UInt8 × UInt8) := t.data.toList.zip m.data.toList
theorem get_u (s : ByteArray) (i : Nat) (h : i < s.size) : s.toList[i]? = some (s.data.toList[i]'(by simpa using h)) := by
  rw [Lib.toList_data]; exact List.getElem?_eq_getElem _
set_option maxRecDepth 100000 in
set_option maxHeartbeats 4000000 in
theorem cells_in (n : Nat) (t m : ByteArray) (w : World) :
    CallsIn Fence.wide n Tryz.prog 47 #[.agg #[.string t, .string m]] w fun e w' => e = .returned (.func (.func 75) #[] #[.pointer (some ⟨w.heap.size, 0, none⟩)]) ∧ w' = w.alloc (.cells #[.string t, .string m] 38) := by
  have hmf : ∀ (fn : Fn) (first cap : Array Value) (w : World), (Instr.makeFunc fn first cap).run Tryz.prog w = .ok (.func fn first cap) w := fun _ _ _ _ => rfl
  refine callsIn_of_wp Tryz.func47 rfl trivial ?_ rfl
  simp only [Tryz.ntmps47, List.size_toArray, List.length_cons, List.length_nil, Nat.reduceAdd, Nat.reduceSub, Array.replicate_succ, Array.replicate_zero, List.push_toArray, List.append_toArray, List.nil_append, List.cons_append]
  gi_wp2
  go_ret
  exact ⟨rfl, rfl⟩
/-- One block is as it was. -/
def KB (Bs : Nat) (W W' : World) : Prop := W'.heap[Bs]? = W.heap[Bs]?
/-- What a round leaves: it goes on, or not. -/
def YieldD (J Jx : List (UInt8 × UInt8) → World → Prop) (Bs : Nat) (w : World) (pre : List (UInt8 × UInt8)) (b : Bool) (W' : World) : Prop := if b = true then J pre W' ∧ KB Bs w W' else Jx pre W'
set_option maxRecDepth 100000 in
set_option maxHeartbeats 4000000 in
theorem cells1_in (n : Nat) (hn : 1 ≤ n) (l Bs n₁ : Nat) (t m : ByteArray) (hlen : t.size = m.size) (hsz : t.size ≤ 2000000000) (J Jx : List (UInt8 × UInt8) → World → Prop)
    (hY : ∀ pre x W, J pre W → pre.length < (cellsR t m).length → YieldAt Fence.wide (n - 1) Tryz.prog l (encC x) W fun e W' =>
      (e = .returned (.bool true) ∧ J (pre ++ [x]) W' ∧ KB Bs W W') ∨ (e = .returned (.bool false) ∧ Jx (pre ++ [x]) W'))
    (W : World) (hJa : AbidesFrom n₁ J) (h0c : W.cell? ⟨Bs, 0, none⟩ = some (.string t)) (h1c : W.cell? ⟨Bs, 1, none⟩ = some (.string m)) (h0 : J [] W) :
    CallsIn Fence.wide n Tryz.prog 75 #[.func (.yield l) #[] #[], .pointer (some ⟨Bs, 0, none⟩)] W fun e W' => (∃ v, e = .returned v) ∧
      ((∃ ys, ys = cellsR t m ∧ J ys W') ∨ (∃ pre, pre <+: cellsR t m ∧ Jx pre W')) := by
  refine callsIn_of_wp Tryz.func75 rfl trivial ?_ rfl
  simp only [Tryz.ntmps75, List.size_toArray, List.length_cons, List.length_nil, Nat.reduceAdd, Nat.reduceSub, Array.replicate_succ, Array.replicate_zero, List.push_toArray, List.append_toArray, List.nil_append, List.cons_append]
  gi_wp2
  gi_loopw [11] (fun i wr => ∃ k : Nat, k ≤ t.size ∧ i = .int .i64 k ∧ J ((cellsR t m).take k) wr ∧ KB Bs W wr)
    (fun i _ => t.size - (intOf i).toNat)
  case atStart => exact ⟨0, Nat.zero_le _, rfl, h0, rfl⟩
  case round =>
    obtain ⟨k, hk, rfl, hJs, hnx⟩ := hrel
    have hl2 : (cellsR t m).length = t.size := by
      have e1 : t.size = t.data.toList.length := by simp
      have e2 : m.size = m.data.toList.length := by simp
      unfold cellsR; rw [List.length_zip, ← e1, ← e2, ← hlen]; exact Nat.min_self _
    have c0 : wr.cell? ⟨Bs, 0, none⟩ = some (.string t) := (World.cell?_of_block (w := W) (a := ⟨Bs, 0, none⟩) hnx).trans h0c
    have c1 : wr.cell? ⟨Bs, 1, none⟩ = some (.string m) := (World.cell?_of_block (w := W) (a := ⟨Bs, 1, none⟩) hnx).trans h1c
    by_cases hlt : k < t.size
    · have hkm : k < m.size := by omega
      have g1 := get_u t k hlt
      have g2 := get_u m k hkm
      obtain ⟨x, hx⟩ : ∃ x, t.data.toList[k]'(by simpa using hlt) = x := ⟨_, rfl⟩
      obtain ⟨y, hy0⟩ : ∃ y, m.data.toList[k]'(by simpa using hkm) = y := ⟨_, rfl⟩
      have hx2 : t[k]'hlt = x := by rw [← hx]; rfl
      have hy2 : m[k]'hkm = y := by rw [← hy0]; rfl
      rw [hx] at g1
      rw [hy0] at g2
      have hnext : (cellsR t m).take (k + 1) = (cellsR t m).take k ++ [(x, y)] := by
        rw [List.take_succ_eq_append_getElem (by rw [hl2]; exact hlt)]
        congr 2
        unfold cellsR
        rw [List.getElem_zip, hx, hy0]
      have hJd : J ((cellsR t m).take k) wr.drew := hJa _ wr wr.drew none hJs ⟨rfl, rfl, rfl, Nat.le_refl _, fun _ _ _ => rfl⟩ (fun r e => by cases e)
      obtain ⟨fn, tmps, assign, body, hy, hR⟩ := hY _ (x, y) wr.drew hJd (by rw [List.length_take, hl2]; omega)
      dsimp only [encC] at hy
      have hR2 := hR.mono (R' := fun e W' => ∃ b : Bool, e = .returned (.bool b) ∧ YieldD J Jx Bs wr.drew ((cellsR t m).take (k + 1)) b W') (by
        rintro e W' (⟨rfl, hJ3, hk3⟩ | ⟨rfl, hJx3⟩)
        · exact ⟨true, rfl, by unfold YieldD; rw [if_pos rfl, hnext]; exact ⟨hJ3, hk3⟩⟩
        · exact ⟨false, rfl, by unfold YieldD; rw [if_neg (by decide), hnext]; exact hJx3⟩)
      have HRR := Lib.hid hR2
      have HNX := Lib.hid hnx
      have HL2 := Lib.hid hl2
      have hmo : Tryz.prog.follows .mixedOrders = true := by kernel_rfl
      clear hR hR2 hnext hJd hJs hx hy0 hnx hl2 h0 hY hJa
      gi_wp2
      gi_region_with_o (with_reducible refine RoundIn.mono HRR.out ?_; rintro e W3 ⟨b, rfl, hD⟩)
      all_goals
        cases b
        · have hDx : Jx ((cellsR t m).take (k + 1)) W3 := hD
          have HD := Lib.hid hDx
          clear hD hDx HRR
          gi_wp2
          refine bodyPost_ret (results_none rfl _ _ _) rfl ?_
          exact ⟨⟨_, rfl⟩, .inr ⟨_, List.take_prefix _ _, HD.out⟩⟩
        · have hDx : J ((cellsR t m).take (k + 1)) W3 ∧ KB Bs wr.drew W3 := hD
          have HD := Lib.hid hDx
          clear hD hDx HRR
          gi_wp2
          go_roundw
          case rel => exact ⟨k + 1, by omega, by simp, HD.out.1, Eq.trans HD.out.2 HNX.out⟩
          case measure => simp [intOf]; omega
    · obtain rfl : k = t.size := by omega
      have hfin : (cellsR t m).take t.size = cellsR t m := List.take_of_length_le (by rw [hl2]; exact Nat.le_refl _)
      rw [hfin] at hJs
      have HJ := Lib.hid hJs
      clear hfin hJs hnx hl2 h0 hY hJa
      gi_wp2
      go_end0
      exact ⟨⟨_, rfl⟩, .inl ⟨_, rfl, HJ.out⟩⟩
theorem kb_t (Bs : Nat) {A B C : World} (h : KB Bs A B) (k : KB Bs B C) : KB Bs A C := Eq.trans k h
theorem kb_b {w : World} (Bs : Nat) (hb : Bs < w.heap.size) (W : World) (l : Nat) (o o' : Obj) (hl : w.heap.size ≤ l) (_ : W.heap[l]? = some o) (_ : o.isCells = false) (_ : o.isWalk = false) : KB Bs W (W.putObj l o') := by
  show (W.heap.setIfInBounds l o')[Bs]? = W.heap[Bs]?
  rw [Array.getElem?_setIfInBounds_ne (by omega)]
theorem kb_below {B Bs : Nat} {W W' : World} (h : Below B W W') (hb : Bs < B) : KB Bs W W' := h.block Bs hb
theorem kb_set {Bs : Nat} {W : World} {a : Addr} (h : Bs ≠ a.block) (v : Value) : KB Bs W (W.setCell a v) := Below.heap_setCell _ _ _ _ h
/-- The iterator stops at the end, or where a round has said so. -/
theorem cells_stops (n : Nat) (hn : 1 ≤ n) (Bs : Nat) (t m : ByteArray) (hlen : t.size = m.size) (hsz : t.size ≤ 2000000000) (w : World) (hr : RowIs w Bs 38 [.string t, .string m]) :
    SeqStopsK Fence.wide n Tryz.prog 75 #[.pointer (some ⟨Bs, 0, none⟩)] encC (KB Bs) (fun ys => ys = cellsR t m) (fun pre => pre <+: cellsR t m) (cellsR t m).length w := fun l J Jx W hW hJ _ hY h0 =>
  cells1_in n hn l Bs W.heap.size t m hlen hsz J Jx hY W hJ (by rw [(hr.below hW).cell]; rfl) (by rw [(hr.below hW).cell]; rfl) h0
/-- A row known whole abides what turns no cells. -/
theorem row_own {β : Type} (n O : Nat) (e : TypeId) (f : β → List Value) : OwnFrom n (fun s W => RowIs W O e (f s)) := fun s A B row hs hg hr => by
  have hs' : A.heap[O]? = some (.cells (f s).toArray e (0, 0)) := hs
  show B.heap[O]? = some (.cells (f s).toArray e (0, 0))
  rw [hg.block O (lt_of_block hs') (fun eq => by
    obtain ⟨_, o, ho, hc⟩ := hr O eq.symm
    rw [hs'] at ho
    cases ho
    cases hc)]
  exact hs'
end Go.Proofs.YtkmpbkhlcapbgaaGreatDoor
