/-
  DERIVED. The law's made: an Env of variables, arguments, flags.
-/
import Derived.Test.YtkmpbkhlcapbgaaGreatDoorZUhs
import Derived.Deep.RegionWith
import Derived.RegionDies
namespace Go.Proofs.YtkmpbkhlcapbgaaGreatDoor
open Go Go.RowKit
theorem rowv_is2 {w : World} {v : Value} {l : List (ByteArray × ByteArray)} (h : RowV w v l) : ∃ a n c, v = .slice a n c := h.elim fun a h => h.elim fun cap h => ⟨a, _, cap, h.1⟩
theorem two_boxes2 {w2 W2 : World} (a b : List Value) (ea eb : TypeId) (h : (w2.alloc (.cells a.toArray ea)).alloc (.cells b.toArray eb) = W2) : RowIs W2 w2.heap.size ea a ∧ RowIs W2 (w2.heap.size + 1) eb b ∧ Below w2.heap.size w2 W2 := by
  have r := (RowIs.new w2 ea a).alloc (.cells b.toArray eb)
  have q := RowIs.new (w2.alloc (.cells a.toArray ea)) eb b
  rw [World.size_alloc] at q
  rw [h] at r q
  exact ⟨r, q, by rw [← h]; exact ((Below.refl _ _).alloc (Nat.le_refl _) _).alloc (by simp) _⟩
theorem row_drew2 {w : World} {b e : Nat} {l : List Value} (h : RowIs w b e l) : RowIs w.drew b e l := h
theorem set_status2 (e : EnvT) (s x : List UInt8) : (e.set s x).status = e.status ∧ (e.set s x).flags = e.flags ∧ (e.set s x).args = e.args := by
  unfold EnvT.set
  split <;> exact ⟨rfl, rfl, rfl⟩
def argsL (A : List ByteArray) : List (List UInt8) := A.map (·.data.toList)
theorem args_of {w : World} {a : Option Addr} {len cap : Nat} {A : List ByteArray} (h : IsStrs w a len cap A) (hf : A.length ≤ 1000) (S : Nat → Prop) (hS : ∀ b, b < w.heap.size → S b) : ArgsS w S (.slice a len cap) (argsL A) := by
  obtain ⟨rfl, h1, -, -, hc⟩ := h
  refine ⟨a, cap, by simp [argsL], by simpa [argsL] using h1, by simp [argsL]; omega, ?_⟩
  rcases hc with hc | ⟨b, off, rfl, hc⟩
  · exact .inl (by simp [argsL, hc])
  · by_cases h0 : A = []
    · exact .inl (by simp [argsL, h0])
    · have hb : b < w.heap.size := block_lt_of_cell (hc 0 (List.length_pos_iff.2 h0))
      refine .inr ⟨b, off, rfl, hS b hb, hb, fun i hi => ?_⟩
      have hi' : i < A.length := by simpa [argsL] using hi
      have := hc i hi'
      simpa only [argsL, List.getElem_map] using this
/-- What made holds between its rounds: the Env in its box. -/
structure MadeR (w : World) (A : List ByteArray) (a2 : Option Addr) (len2 cap2 : Nat) (st : Int) (n : Nat) (E : EnvT) (va : Option Addr) (nv cv : Nat) (wx : World) : Prop where
  r0 : RowIs wx w.heap.size 28 [.slice none 0 0, .slice none 0 0, .int .i64 0, .string ⟨#[]⟩]
  r1 : RowIs wx (w.heap.size + 1) 28 [.slice va nv cv, .slice a2 len2 cap2, .int .i64 st, .string ⟨E.flags.toArray⟩]
  ev : EnvC wx (fun b => b ≠ w.heap.size ∧ b ≠ w.heap.size + 1) (.slice va nv cv) (.slice a2 len2 cap2) E
  be : Below w.heap.size w wx
  args : E.args = argsL A
  few : E.vars.length ≤ n
  st : E.status = st
theorem MadeR.next {w : World} {A : List ByteArray} {a2 : Option Addr} {len2 cap2 : Nat} {st : Int} {n : Nat} {E : EnvT} {va : Option Addr} {nv cv : Nat} {wx wy : World} (h : MadeR w A a2 len2 cap2 st n E va nv cv wx) (hb : Below wx.heap.size wx wy) : MadeR w A a2 len2 cap2 st n E va nv cv wy :=
  ⟨h.r0.below hb, h.r1.below hb, h.ev.keep hb.size fun b q1 q2 => ⟨hb.block b q2, q1⟩, h.be.trans (hb.mono h.be.size), h.args, h.few, h.st⟩
/-- A new Env is put into the box. -/
theorem MadeR.put {w : World} {A : List ByteArray} {a2 : Option Addr} {len2 cap2 : Nat} {st : Int} {n m : Nat} {E E2 : EnvT} {va va2 : Option Addr} {nv cv nv2 cv2 : Nat} {wx : World} (h : MadeR w A a2 len2 cap2 st n E va nv cv wx)
    (ev : EnvC wx (fun b => b ≠ w.heap.size ∧ b ≠ w.heap.size + 1) (.slice va2 nv2 cv2) (.slice a2 len2 cap2) E2) (ha : E2.args = argsL A) (hf : E2.vars.length ≤ m) (hs : E2.status = st) (F : ByteArray) (hF : F = ⟨E2.flags.toArray⟩) :
    MadeR w A a2 len2 cap2 st m E2 va2 nv2 cv2 ((((wx.setCell ⟨w.heap.size + 1, 0, none⟩ (.slice va2 nv2 cv2)).setCell ⟨w.heap.size + 1, 1, none⟩ (.slice a2 len2 cap2)).setCell ⟨w.heap.size + 1, 2, none⟩ (.int .i64 st)).setCell ⟨w.heap.size + 1, 3, none⟩ (.string F)) := by
  subst hF
  have n6 : w.heap.size ≠ w.heap.size + 1 := by omega
  exact ⟨(((h.r0.other (a := ⟨w.heap.size + 1, 0, none⟩) n6 _).other (a := ⟨w.heap.size + 1, 1, none⟩) n6 _).other (a := ⟨w.heap.size + 1, 2, none⟩) n6 _).other (a := ⟨w.heap.size + 1, 3, none⟩) n6 _,
    (((h.r1.set 0 (.slice va2 nv2 cv2)).set 1 (.slice a2 len2 cap2)).set 2 (.int .i64 st)).set 3 (.string ⟨E2.flags.toArray⟩),
    ev.keep (by simp) (fun b q _ => ⟨(Below.heap_setCell _ _ _ _ q.2).trans ((Below.heap_setCell _ _ _ _ q.2).trans ((Below.heap_setCell _ _ _ _ q.2).trans (Below.heap_setCell _ _ _ _ q.2))), q⟩),
    (((h.be.setCell (p := ⟨w.heap.size + 1, 0, none⟩) (Nat.le_succ _) _).setCell (p := ⟨w.heap.size + 1, 1, none⟩) (Nat.le_succ _) _).setCell (p := ⟨w.heap.size + 1, 2, none⟩) (Nat.le_succ _) _).setCell (p := ⟨w.heap.size + 1, 3, none⟩) (Nat.le_succ _) _, ha, hf, hs⟩
/-- Set, whatever the name. -/
theorem set_either (s x : ByteArray) (hs : s.size ≤ 281474976710656) (E : EnvT) (S : Nat → Prop) (va : Option Addr) (nv cv : Nat) (aa : Option Addr) (na ca : Nat) (st : Int) (fl : ByteArray) (w : World) (h : EnvC w S (.slice va nv cv) (.slice aa na ca) E) (hfew : E.vars.length ≤ 999999) :
    Calls Tryz.prog 13 #[.agg #[.slice va nv cv, .slice aa na ca, .int .i64 st, .string fl], .string s, .string x] w fun r w' => ∃ va2 nv2 cv2, r = .returned (.agg #[.slice va2 nv2 cv2, .slice aa na ca, .int .i64 st, .string fl]) ∧ EnvC w' (fun b => S b ∨ w.heap.size ≤ b) (.slice va2 nv2 cv2) (.slice aa na ca) (E.set s.data.toList x.data.toList) ∧ Below w.heap.size w w' := by
  cases hn : isName s.data.toList
  · refine (set_no s x hs hn va nv cv aa na ca st fl w).mono ?_
    rintro r w' ⟨rfl, hb⟩
    have he : E.set s.data.toList x.data.toList = E := by unfold EnvT.set; rw [hn]; rfl
    rw [he]
    exact ⟨va, nv, cv, rfl, h.keep hb.size fun b q1 q2 => ⟨hb.block b q2, .inl q1⟩, hb⟩
  · have hf2 : (E.set s.data.toList x.data.toList).vars.length ≤ 1000000 := by have := set_length E s.data.toList x.data.toList; omega
    refine (set_at s x hs hn E S (.slice va nv cv) aa na ca st fl w h hf2).mono ?_
    rintro r w' ⟨v', rfl, hE2, -, hb⟩
    obtain ⟨va2, nv2, cv2, rfl⟩ := rowv_is2 hE2.vars.1
    exact ⟨va2, nv2, cv2, rfl, hE2, hb⟩
theorem below_from_alloc {w w' : World} {o : Obj} (h : Below (w.alloc o).drew.heap.size (w.alloc o).drew w') : Below w.drew.heap.size w.drew w' := by
  have h1 : Below w.heap.size w (w.alloc o).drew := ((Below.refl w.heap.size w).alloc (Nat.le_refl _) o).drew
  have h2 : Below w.heap.size w.drew (w.alloc o).drew := ⟨h1.os, h1.tape, h1.output, h1.size, h1.block⟩
  exact h2.trans (h.mono h1.size)
/-- The flags in the box. -/
def flagW (w wx : World) : ByteArray := match wx.cell? ⟨w.heap.size + 1, 3, none⟩ with | some (.string s) => s | _ => ⟨#[]⟩
def LawM (w : World) (A : List ByteArray) (a2 : Option Addr) (len2 cap2 : Nat) (st : Int) (n : Nat) (va : Option Addr) (nv cv : Nat) (wx : World) : Prop := ∃ E, MadeR w A a2 len2 cap2 st n E va nv cv wx
section
variable {w : World} {A : List ByteArray} {a2 : Option Addr} {len2 cap2 : Nat} {st : Int} {n : Nat} {va : Option Addr} {nv cv : Nat} {wx wy : World}
theorem LawM.next (h : LawM w A a2 len2 cap2 st n va nv cv wx) (hb : Below wx.heap.size wx wy) : LawM w A a2 len2 cap2 st n va nv cv wy := h.elim fun E h => ⟨E, h.next hb⟩
theorem LawM.put (h : LawM w A a2 len2 cap2 st n va nv cv wx) (F : ByteArray) : LawM w A a2 len2 cap2 st n va nv cv ((((wx.setCell ⟨w.heap.size + 1, 0, none⟩ (.slice va nv cv)).setCell ⟨w.heap.size + 1, 1, none⟩ (.slice a2 len2 cap2)).setCell ⟨w.heap.size + 1, 2, none⟩ (.int .i64 st)).setCell ⟨w.heap.size + 1, 3, none⟩ (.string F)) := by
  obtain ⟨E, h⟩ := h
  exact ⟨{ E with flags := F.data.toList }, h.put (E2 := { E with flags := F.data.toList }) ⟨h.ev.vars, h.ev.args, h.ev.up, h.ev.few⟩ h.args h.few h.st F rfl⟩
theorem LawM.all (h : LawM w A a2 len2 cap2 st n va nv cv wx) : (wx.cell? ⟨w.heap.size + 1, 0, none⟩ = some (.slice va nv cv) ∧ wx.cell? ⟨w.heap.size + 1, 1, none⟩ = some (.slice a2 len2 cap2) ∧ wx.cell? ⟨w.heap.size + 1, 2, none⟩ = some (.int .i64 st) ∧ wx.cell? ⟨w.heap.size + 1, 3, none⟩ = some (.string (flagW w wx)) ∧ wx.frozen? ⟨w.heap.size + 1, 0, none⟩ = false ∧ wx.frozen? ⟨w.heap.size + 1, 1, none⟩ = false ∧ wx.frozen? ⟨w.heap.size + 1, 2, none⟩ = false ∧ wx.frozen? ⟨w.heap.size + 1, 3, none⟩ = false ∧ w.heap.size + 1 < wx.heap.size) ∧ LawM w A a2 len2 cap2 st n va nv cv wx := by
  obtain ⟨E, h⟩ := h
  obtain ⟨d0, d1, d2, d3, g0, g1, g2, g3, lt1⟩ := four_facts h.r1
  exact ⟨⟨d0, d1, d2, by unfold flagW; rw [d3], g0, g1, g2, g3, lt1⟩, E, h⟩
end
def MadePost (A : List ByteArray) (a2 : Option Addr) (len2 cap2 : Nat) (n : Nat) (st : Int) (w : World) (e : Ending) (w' : World) : Prop :=
  ∃ va nv cv E, E.args = argsL A ∧ E.vars.length ≤ n ∧ E.status = st ∧ e = .returned (.agg #[.slice va nv cv, .slice a2 len2 cap2, .int .i64 E.status, .string ⟨E.flags.toArray⟩]) ∧ EnvC w' (fun _ => True) (.slice va nv cv) (.slice a2 len2 cap2) E ∧ Below w.heap.size w w'
set_option maxRecDepth 100000 in
set_option maxHeartbeats 16000000 in
theorem made_any (a : Option Addr) (len cap : Nat) (L : List (ByteArray × ByteArray)) (a2 : Option Addr) (len2 cap2 : Nat) (A : List ByteArray) (fl st : Int) (_hf0 : 0 ≤ fl) (_hf1 : fl ≤ 255) (hs0 : 0 ≤ st) (hs1 : st ≤ 255) (w : World) (hL : IsBinds w a len cap L) (hA : IsStrs w a2 len2 cap2 A) (hK : FewOK L A) :
    Calls Tryz.prog 11 #[.slice a len cap, .slice a2 len2 cap2, .int .u8 fl, .int .u8 st] w (MadePost A a2 len2 cap2 L.length st w) := by
  obtain ⟨rfl, -, hl1, -, hc1⟩ := hL
  have hL12 := hK.l
  have hA8 := hK.a
  have HKB := Lib.hid hK.binds
  have HC := Lib.hid hc1
  have HA := Lib.hid hA
  have hws : IntKind.i64.wrap st = st := wrap_small _ (by omega) (by omega)
  clear hl1 hc1 hA hK
  go_enter Tryz.func11, Tryz.ntmps11
  go_wp2_with fail
  have W2r := two_boxes2 [.slice none 0 0, .slice none 0 0, .int .i64 0, .string ⟨#[]⟩] [.slice none 0 0, .slice a2 len2 cap2, .int .i64 st, .string ⟨#[]⟩] 28 28 (w2 := w) rfl
  obtain ⟨W2, hW2⟩ : ∃ W2, ((w.alloc (.cells #[.slice none 0 0, .slice none 0 0, .int .i64 0, .string ⟨#[]⟩] 28)).alloc (.cells #[.slice none 0 0, .slice a2 len2 cap2, .int .i64 st, .string ⟨#[]⟩] 28)) = W2 := ⟨_, rfl⟩
  rw [hW2] at W2r ⊢
  obtain ⟨r0, r1, b2⟩ := W2r
  have hargs : ArgsS W2 (fun b => b ≠ w.heap.size ∧ b ≠ w.heap.size + 1) (.slice a2 len2 cap2) (argsL A) := (args_of HA.out (by omega) (fun b => b < w.heap.size) (fun b h => h)).keep b2.size fun b q1 q2 => ⟨b2.block b q2, by omega, by omega⟩
  have hm0 : MadeR w A a2 len2 cap2 st 0 ⟨[], argsL A, st, []⟩ none 0 0 W2 := ⟨r0, r1, ⟨⟨⟨none, 0, rfl, Nat.le_refl _, Nat.zero_le _, .inl ⟨rfl, rfl⟩⟩, fun a n c e => by cases e⟩, hargs, List.Pairwise.nil, by simp⟩, b2, rfl, by simp, rfl⟩
  have HM0 := Lib.hid hm0
  clear hm0 r0 r1 b2 hargs hW2
  go_loopg [10] L.length (fun g s10 wx => ∃ (i : Nat) (E : EnvT) (va : Option Addr) (nv cv : Nat), i + g = L.length ∧ s10 = .int .i64 i ∧ Hid (MadeR w A a2 len2 cap2 st i E va nv cv wx))
  case atStart => exact ⟨0, _, _, _, _, by omega, rfl, HM0⟩
  case round =>
    clear HM0
    obtain ⟨i, E, va, nv, cv, hig, rfl, HM⟩ := hrel
    cases gk with
    | succ g =>
      have hi : i < L.length := by omega
      obtain ⟨b, off, rfl, hc⟩ : ∃ b off, a = some ⟨b, off, none⟩ ∧ CellsV w b off L := by
        rcases HC.out with h | h
        · rw [h] at hi; simp at hi
        · exact h
      obtain ⟨c0, c1⟩ := hc i hi
      have hsz := HKB.out _ (List.getElem_mem hi)
      obtain ⟨s, hs⟩ : ∃ s, L[i].1 = s := ⟨_, rfl⟩
      obtain ⟨t, ht⟩ : ∃ t, L[i].2 = t := ⟨_, rfl⟩
      rw [hs] at c0 hsz
      rw [ht] at c1 hsz
      have hbl : b < w.heap.size := block_lt_of_cell c0
      have e0 : wr.drew.cell? ⟨b, off + i * 2, none⟩ = some (.string s) := (HM.out.be.cell (show (⟨b, off + i * 2, none⟩ : Addr).block < w.heap.size from hbl)).trans c0
      have e1 : wr.drew.cell? ⟨b, off + i * 2 + 1, none⟩ = some (.string t) := (HM.out.be.cell (show (⟨b, off + i * 2 + 1, none⟩ : Addr).block < w.heap.size from hbl)).trans c1
      obtain ⟨F, hF⟩ : ∃ F : ByteArray, (⟨E.flags.toArray⟩ : ByteArray) = F := ⟨_, rfl⟩
      have hr1 := HM.out.r1
      rw [hF] at hr1
      obtain ⟨d0, d1, d2, d3, g0, g1, g2, g3, lt1⟩ := four_facts (row_drew2 hr1)
      have hEv : EnvC wr.drew (fun b => b ≠ w.heap.size ∧ b ≠ w.heap.size + 1) (.slice va nv cv) (.slice a2 len2 cap2) E := HM.out.ev.keep (w' := wr.drew) (show wr.heap.size ≤ wr.drew.heap.size from Nat.le_refl _) fun b q _ => ⟨rfl, q⟩
      have HST := Lib.hid (set_either s t (by omega) E _ va nv cv a2 len2 cap2 st F wr.drew hEv (by have := HM.out.few; omega))
      have HR1 := Lib.hid (row_drew2 hr1)
      have HMD : Hid (MadeR w A a2 len2 cap2 st i E va nv cv wr.drew) := HM.out.next (Below.refl _ _).drew
      have HFF := Lib.hid hF
      clear hc c0 c1 hs ht hr1 hEv hF HM
      go_wp2_with fail
      go_region_with (go_at_call 13; refine HST.out.mono ?_; rintro e wn ⟨va2, nv2, cv2, rfl, hEn, hbn⟩; obtain ⟨j0, j1, j2, j3, k0, k1, k2, k3, lt2⟩ := four_facts (HR1.out.below hbn); have HEN := Lib.hid hEn; have HBN := Lib.hid hbn; clear hEn hbn)
      all_goals
        go_wp2_with fail
        have hst := set_status2 E s.data.toList t.data.toList
        have hlow := HMD.out.be.size
        have hlt := HMD.out.r1.lt
        have hfin := (HMD.out.next HBN.out).put (m := i + 1) (E2 := E.set s.data.toList t.data.toList) (HEN.out.keep (Nat.le_refl _) fun b q _ => ⟨rfl, by rcases q with q | q <;> omega⟩) (by rw [hst.2.2]; exact HMD.out.args) (by have := set_length E s.data.toList t.data.toList; have := HMD.out.few; omega) (by rw [hst.1]; exact HMD.out.st) F (by rw [hst.2.1, HFF.out])
        have HFIN := Lib.hid hfin
        clear hfin
        go_roundg g
        case measure => omega
        case rel => exact ⟨i + 1, _, _, _, _, by omega, by go_num, HFIN⟩
    | zero =>
      obtain rfl : i = L.length := by omega
      go_wp2_with fail
      go_loopg [11] 4 (fun g s11 wx => ∃ (i : Nat) (E : EnvT) (va : Option Addr) (nv cv : Nat), i + g = 4 ∧ s11 = .int .i64 i ∧ Hid (MadeR w A a2 len2 cap2 st L.length E va nv cv wx))
      case atStart => exact ⟨0, E, va, nv, cv, by omega, rfl, HM⟩
      case round =>
        clear HM
        obtain ⟨i, E, va, nv, cv, hig2, rfl, HM⟩ := hrel
        obtain ⟨F, hF⟩ : ∃ F : ByteArray, (⟨E.flags.toArray⟩ : ByteArray) = F := ⟨_, rfl⟩
        have hr1 := HM.out.r1
        rw [hF] at hr1
        cases gk with
        | zero =>
          obtain rfl : i = 4 := by omega
          obtain ⟨d0, d1, d2, d3, g0, g1, g2, g3, lt1⟩ := four_facts hr1
          obtain ⟨z0, z1, z2, z3, y0, y1, y2, y3, lt2⟩ := four_facts HM.out.r0
          have hne : ¬ w.heap.size = w.heap.size + 1 := by omega
          have hne2 : ¬ w.heap.size + 1 = w.heap.size := by omega
          have HFF := Lib.hid hF
          clear hr1 hF
          go_wp2_with fail
          have hst := HM.out.st
          have rf := (((HM.out.r0.set 0 (.slice va nv cv)).set 1 (.slice a2 len2 cap2)).set 2 (.int .i64 st)).set 3 (.string F)
          have be := (((HM.out.be.setCell (p := ⟨w.heap.size, 0, none⟩) (Nat.le_refl _) (.slice va nv cv)).setCell (p := ⟨w.heap.size, 1, none⟩) (Nat.le_refl _) (.slice a2 len2 cap2)).setCell (p := ⟨w.heap.size, 2, none⟩) (Nat.le_refl _) (.int .i64 st)).setCell (p := ⟨w.heap.size, 3, none⟩) (Nat.le_refl _) (.string F)
          have hk : ∀ b, b ≠ w.heap.size → ((((wr.setCell ⟨w.heap.size, 0, none⟩ (.slice va nv cv)).setCell ⟨w.heap.size, 1, none⟩ (.slice a2 len2 cap2)).setCell ⟨w.heap.size, 2, none⟩ (.int .i64 st)).setCell ⟨w.heap.size, 3, none⟩ (.string F)).heap[b]? = wr.heap[b]? := fun b q =>
            (Below.heap_setCell _ _ _ _ (show b ≠ (⟨w.heap.size, 3, none⟩ : Addr).block from q)).trans ((Below.heap_setCell _ _ _ _ (show b ≠ (⟨w.heap.size, 2, none⟩ : Addr).block from q)).trans ((Below.heap_setCell _ _ _ _ (show b ≠ (⟨w.heap.size, 1, none⟩ : Addr).block from q)).trans (Below.heap_setCell _ _ _ _ (show b ≠ (⟨w.heap.size, 0, none⟩ : Addr).block from q))))
          have hev : EnvC ((((wr.setCell ⟨w.heap.size, 0, none⟩ (.slice va nv cv)).setCell ⟨w.heap.size, 1, none⟩ (.slice a2 len2 cap2)).setCell ⟨w.heap.size, 2, none⟩ (.int .i64 st)).setCell ⟨w.heap.size, 3, none⟩ (.string F)) (fun _ => True) (.slice va nv cv) (.slice a2 len2 cap2) E := HM.out.ev.keep (by simp) fun b q _ => ⟨hk b q.1, trivial⟩
          generalize ((((wr.setCell ⟨w.heap.size, 0, none⟩ (.slice va nv cv)).setCell ⟨w.heap.size, 1, none⟩ (.slice a2 len2 cap2)).setCell ⟨w.heap.size, 2, none⟩ (.int .i64 st)).setCell ⟨w.heap.size, 3, none⟩ (.string F)) = WN at rf be hk hev ⊢
          simp only [List.set] at rf
          obtain ⟨a0, a1, a2', a3, _, _, _, _, _⟩ := four_facts rf
          exact bodyPost_ret (v := .agg #[.slice va nv cv, .slice a2 len2 cap2, .int .i64 E.status, .string ⟨E.flags.toArray⟩]) (by simp [results, Tryz.results11, go_sem, a0, a1, a2', a3, hst, HFF.out]) rfl ⟨va, nv, cv, E, HM.out.args, HM.out.few, hst, rfl, hev, be⟩
        | succ g =>
          have HL0 : LawM w A a2 len2 cap2 st L.length va nv cv wr.drew := ⟨E, HM.out.next (Below.refl _ _).drew⟩
          have HL1 : LawM w A a2 len2 cap2 st L.length va nv cv (wr.alloc (.cells #[.int .i64 1, .int .i64 2, .int .i64 4, .int .i64 8] 3)).drew := ⟨E, (HM.out.next ((Below.refl _ _).alloc (Nat.le_refl _) _)).next (Below.refl _ _).drew⟩
          have HFL : Hid (∀ (G : ByteArray) (c : UInt8) (on : Bool) W, Calls Tryz.prog 20 #[.agg #[.slice va nv cv, .slice a2 len2 cap2, .int .i64 st, .string G], .int .u8 (c.toNat : Int), .bool on] W fun r w' => ∃ F2, r = .returned (.agg #[.slice va nv cv, .slice a2 len2 cap2, .int .i64 st, .string F2]) ∧ Below W.heap.size W w') := by
            intro G c on W
            refine (flag_any va nv cv a2 len2 cap2 st G c on W).mono ?_
            rintro r w' ⟨rfl, hb⟩
            exact ⟨_, rfl, hb⟩
          obtain ⟨d0, d1, d2, d3, g0, g1, g2, g3, lt1⟩ := four_facts (row_drew2 hr1)
          obtain ⟨y0, y1, y2, y3, x0, x1, x2, x3, lt5⟩ := four_facts (row_drew2 (hr1.alloc (.cells #[.int .i64 1, .int .i64 2, .int .i64 4, .int .i64 8] 3)))
          clear hr1 hF HM
          rcases (show i = 0 ∨ i = 1 ∨ i = 2 ∨ i = 3 by omega) with rfl | rfl | rfl | rfl
          · go_wp2_with fail
            go_region_with (go_at_call 20; refine (HFL.out _ _ _ _).mono ?_; rintro e wn ⟨F2, rfl, hbn⟩; have hn := LawM.next HL1 hbn; obtain ⟨⟨j0, j1, j2, j3, k0, k1, k2, k3, lt2⟩, -⟩ := hn.all; clear hbn)
            all_goals
              go_wp2_with fail
              obtain ⟨E2, hm2⟩ := hn.put F2
              have HFIN := Lib.hid hm2
              clear hm2 hn HL0 HL1
              go_roundg g
              case measure => omega
              case rel => exact ⟨1, _, _, _, _, by omega, rfl, HFIN⟩
          · go_wp2_with fail
            go_region_with (go_at_call 20; refine (HFL.out _ _ _ _).mono ?_; rintro e wn ⟨F2, rfl, hbn⟩; have hn := LawM.next HL1 hbn; obtain ⟨⟨j0, j1, j2, j3, k0, k1, k2, k3, lt2⟩, -⟩ := hn.all; clear hbn)
            all_goals
              go_wp2_with fail
              obtain ⟨E2, hm2⟩ := hn.put F2
              have HFIN := Lib.hid hm2
              clear hm2 hn HL0 HL1
              go_roundg g
              case measure => omega
              case rel => exact ⟨2, _, _, _, _, by omega, rfl, HFIN⟩
          · go_wp2_with fail
            go_region_with (go_at_call 20; refine (HFL.out _ _ _ _).mono ?_; rintro e wn ⟨F2, rfl, hbn⟩; have hn := LawM.next HL1 hbn; obtain ⟨⟨j0, j1, j2, j3, k0, k1, k2, k3, lt2⟩, -⟩ := hn.all; clear hbn)
            all_goals
              go_wp2_with fail
              obtain ⟨E2, hm2⟩ := hn.put F2
              have HFIN := Lib.hid hm2
              clear hm2 hn HL0 HL1
              go_roundg g
              case measure => omega
              case rel => exact ⟨3, _, _, _, _, by omega, rfl, HFIN⟩
          · go_wp2_with fail
            go_region_with (go_at_call 20; refine (HFL.out _ _ _ _).mono ?_; rintro e wn ⟨F2, rfl, hbn⟩; have hn := LawM.next HL1 hbn; obtain ⟨⟨j0, j1, j2, j3, k0, k1, k2, k3, lt2⟩, -⟩ := hn.all; clear hbn)
            all_goals
              go_wp2_with fail
              obtain ⟨E2, hm2⟩ := hn.put F2
              have HFIN := Lib.hid hm2
              clear hm2 hn HL0 HL1
              go_roundg g
              case measure => omega
              case rel => exact ⟨4, _, _, _, _, by omega, rfl, HFIN⟩
end Go.Proofs.YtkmpbkhlcapbgaaGreatDoor
