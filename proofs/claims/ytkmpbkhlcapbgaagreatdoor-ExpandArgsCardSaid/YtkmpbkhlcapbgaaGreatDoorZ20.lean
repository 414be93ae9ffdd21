/-
  DERIVED. The walk of expand's flat: a row's text, without its nothings. A work (expand) in memory; the walks of its lit, quo, args; of sort, alone. Plain: parts whose texts are not too long, and that cut nothing off. No program in sight.
-/
import Derived.Test.YtkmpbkhlcapbgaaGreatDoorZ16
import Derived.Test.YtkmpbkhlcapbgaaGreatDoorZ02
import Derived.Test.YtkmpbkhlcapbgaaGreatDoorShelf
import Derived.Deep.LoopGhost
import Derived.Test.YtkmpbkhlcapbgaaGreatDoorZ19
namespace Go.Proofs.YtkmpbkhlcapbgaaGreatDoor
open Go Go.RowKit
/-- What is flat of the first bytes. -/
def flatN (t m : ByteArray) (k : Nat) : List UInt8 := (((t.data.toList.zip m.data.toList).take k).filter fun p => p.2 != 101).map (·.1)
theorem flatN_next (t m : ByteArray) (k : Nat) (h1 : k < t.size) (h2 : k < m.size) : flatN t m (k + 1) = if m[k]'h2 != 101 then flatN t m k ++ [t[k]'h1] else flatN t m k := by
  unfold flatN
  have hl : k < (t.data.toList.zip m.data.toList).length := by
    rw [List.length_zip]; simp; omega
  rw [List.take_succ_eq_append_getElem hl, List.filter_append]
  have e : (t.data.toList.zip m.data.toList)[k] = (t[k]'h1, m[k]'h2) := by rw [List.getElem_zip]; rfl
  rw [e]
  by_cases hm : (m[k]'h2 != 101) = true
  · rw [if_pos hm]; simp [hm]
  · rw [if_neg hm]; simp [hm]
theorem flatN_size (t m : ByteArray) (k : Nat) : (flatN t m k).length ≤ t.size := by
  unfold flatN
  rw [List.length_map]
  refine Nat.le_trans (List.length_filter_le _ _) ?_
  rw [List.length_take, List.length_zip]
  have : t.size = t.data.toList.length := by simp
  omega
theorem flatN_all (t m : ByteArray) (h : t.size = m.size) : flatN t m t.size = flatR (t.data.toList, m.data.toList) := by
  unfold flatN flatR bareR
  rw [List.take_of_length_le (by rw [List.length_zip]; simp; omega), List.unzip_eq_map]
set_option maxRecDepth 100000 in
set_option maxHeartbeats 4000000 in
theorem flat_at (t m : ByteArray) (h : t.size = m.size) (hs : t.size ≤ 1000000000) (w : World) :
    Calls Tryz.prog 28 #[.agg #[.string t, .string m]] w fun e w' => e = .returned (.string ⟨(flatR (t.data.toList, m.data.toList)).toArray⟩) ∧ Below w.heap.size w w' := by
  have HF := Lib.hid (flatN_all t m h)
  have H := Lib.hid h
  obtain ⟨fin, hfin⟩ : ∃ fin, flatR (t.data.toList, m.data.toList) = fin := ⟨_, rfl⟩
  rw [hfin] at HF ⊢
  clear h hfin
  go_enter Tryz.func28, Tryz.ntmps28
  go_wp2_with fail
  go_loopg [3, 8] t.size (fun gk s3 s8 wx => Hid (wx = w.alloc (.cells #[.string t, .string m] 38)) ∧ ∃ k : Nat, k + gk = t.size ∧ s8 = .int .i64 k ∧ s3 = .string ⟨(flatN t m k).toArray⟩)
  case atStart => exact ⟨rfl, 0, by omega, rfl, by simp [flatN]⟩
  case round =>
    obtain ⟨hw, k, hk, rfl, rfl⟩ := hrel
    have c0 : wr.cell? ⟨w.heap.size, 0, none⟩ = some (.string t) := by rw [hw.out]; simp
    have c1 : wr.cell? ⟨w.heap.size, 1, none⟩ = some (.string m) := by rw [hw.out]; simp
    cases gk with
    | zero =>
      have h1 : ¬ ((k : Int) < (t.size : Int)) := by omega
      have hkk : Hid (k = t.size) := by unfold Hid; omega
      go_wp2_with fail
      go_ret
      refine ⟨?_, by rw [hw.out]; exact (Below.refl _ _).alloc (Nat.le_refl _) _⟩
      rw [hkk.out, HF.out]; rfl
    | succ gk =>
      have h1 : (k : Int) < (t.size : Int) := by omega
      have hkt : k < t.size := by omega
      have hkm : k < m.size := by have := H.out; omega
      have hkm2 : (k : Int) < (m.size : Int) := by omega
      have hw1 : IntKind.i64.wrap ((k : Int) + 1) = (k : Int) + 1 := wrap_small _ (by omega) (by omega)
      have hi2 : ((k : Int) + 1).toNat = k + 1 := by omega
      have hi3 : (0 : Int) ≤ (k : Int) + 1 := by omega
      have hi4 : (k : Int) + 1 ≤ (t.size : Int) := by omega
      have hi5 : (k : Int) ≤ (k : Int) + 1 := by omega
      have hnx := flatN_next t m k hkt hkm
      obtain ⟨x, hx⟩ : ∃ x, t[k]'hkt = x := ⟨_, rfl⟩
      obtain ⟨y, hy⟩ : ∃ y, m[k]'hkm = y := ⟨_, rfl⟩
      rw [hx, hy] at hnx
      have hex : t.extract k (k + 1) = ⟨#[x]⟩ := by
        rw [← Lib.mk_data (ByteArray.extract _ _ _), Lib.extract_data]
        have : (t.data.toList.drop k).take (k + 1 - k) = [x] := by
          rw [show k + 1 - k = 1 by omega, List.drop_eq_getElem_cons (by simpa using hkt)]
          simp only [List.take_succ_cons, List.take_zero]
          congr 1
        rw [this]
      have hsz : (flatN t m k).length + 1 ≤ 9223372036854775807 := by have := flatN_size t m k; omega
      have HNX := Lib.hid hnx
      have HX := Lib.hid hx
      clear hnx hx
      by_cases hy1 : y = 101
      · subst hy1
        go_wp2_with fail
        go_roundg gk
        case measure => omega
        case rel => exact ⟨hw, k + 1, by omega, by go_num, by rw [HNX.out]; simp⟩
      · have hyq : ((y.toNat : Int) != 101) = true := by
          simp; intro e; exact hy1 (UInt8.toNat_inj.1 (by simpa using Int.ofNat.inj e))
        go_wp2_with fail
        go_roundg gk
        case measure => omega
        case rel => exact ⟨hw, k + 1, by omega, by go_num, by rw [HNX.out]; simp [hy1, mk_append]⟩
end Go.Proofs.YtkmpbkhlcapbgaaGreatDoor
namespace Go.Proofs.YtkmpbkhlcapbgaaGreatDoor
open Go Go.RowKit
/-- A word that is expanded: its Env, its row. -/
structure WorkC (g : Nat) (A : Nat → Prop) (w : World) (e : EnvT) (r : RowT) (vv : Value) (aa : Option Addr) (na ca : Nat) : Prop where
  row : RowIs w g 82 [vv, .slice aa na ca, .int .i64 e.status, .string ⟨e.flags.toArray⟩, .string ⟨r.1.toArray⟩, .string ⟨r.2.toArray⟩]
  env : EnvC w (fun b => b ≠ g ∧ ¬ A b) vv (.slice aa na ca) e
  lo : ∀ b, A b → b < w.heap.size
  len : r.1.length = r.2.length
  few : r.1.length ≤ 1000000
  far : Far g
  tab : Tab w
def WorkAt (g : Nat) (A : Nat → Prop) (w : World) (e : EnvT) (r : RowT) : Prop := ∃ vv aa na ca, WorkC g A w e r vv aa na ca
theorem WorkC.below {g : Nat} {A : Nat → Prop} {w w' : World} {e : EnvT} {r : RowT} {vv : Value} {aa : Option Addr} {na ca : Nat} (h : WorkC g A w e r vv aa na ca) (hb : Below w.heap.size w w') : WorkC g A w' e r vv aa na ca :=
  ⟨h.row.below hb, h.env.keep hb.size fun b q1 q2 => ⟨hb.block b q2, q1⟩, fun b q => Nat.lt_of_lt_of_le (h.lo b q) hb.size, h.len, h.few, h.far, h.tab.kept h.far (Kept.of hb)⟩
theorem WorkAt.below {g : Nat} {A : Nat → Prop} {w w' : World} {e : EnvT} {r : RowT} (h : WorkAt g A w e r) (hb : Below w.heap.size w w') : WorkAt g A w' e r := by
  obtain ⟨vv, aa, na, ca, h⟩ := h
  exact ⟨vv, aa, na, ca, h.below hb⟩
theorem WorkC.lt {g : Nat} {A : Nat → Prop} {w : World} {e : EnvT} {r : RowT} {vv : Value} {aa : Option Addr} {na ca : Nat} (h : WorkC g A w e r vv aa na ca) : g < w.heap.size := h.row.lt
theorem WorkAt.lt {g : Nat} {A : Nat → Prop} {w : World} {e : EnvT} {r : RowT} (h : WorkAt g A w e r) : g < w.heap.size := by
  obtain ⟨vv, aa, na, ca, h⟩ := h
  exact h.lt
/-- How a method that puts something behind ends. -/
def WkPost (g : Nat) (A : Nat → Prop) (e : EnvT) (r : RowT) (w : World) (x : Ending) (w' : World) : Prop := x = .returned (.tuple #[]) ∧ WorkAt g A w' e r ∧ Kept g w w'
theorem putR_ge (r : RowT) (s : List UInt8) (c : UInt8) : r.1.length + s.length ≤ (putR r s c).1.length := by
  unfold putR; rw [joinR_length]; split
  · rename_i h; rw [h.1]; simp
  · simp [ofR]
theorem wput_at (g : Nat) (A : Nat → Prop) (e : EnvT) (r : RowT) (s : ByteArray) (c : UInt8) (w : World) (h : WorkAt g A w e r) (hl : (putR r s.data.toList c).1.length ≤ 1000000) :
    Calls Tryz.prog 84 #[.pointer (some ⟨g, 0, none⟩), .string s, .int .u8 (c.toNat : Int)] w (WkPost g A e (putR r s.data.toList c) w) := by
  obtain ⟨vv, aa, na, ca, h⟩ := h
  have hge := putR_ge r s.data.toList c
  have e1 : (⟨r.1.toArray⟩ : ByteArray).size = r.1.length := by show r.1.toArray.size = _; simp
  have e2 : (⟨r.2.toArray⟩ : ByteArray).size = r.2.length := by show r.2.toArray.size = _; simp
  have e3 : s.size = s.data.toList.length := by simp
  refine (xput_at g vv (.slice aa na ca) (.int .i64 e.status) (.string ⟨e.flags.toArray⟩) ⟨r.1.toArray⟩ ⟨r.2.toArray⟩ s c w h.row (by rw [e1, e2]; exact h.len) (by rw [e1, e3]; omega)).mono ?_
  rintro x w' ⟨hx, hr, hk⟩
  exact ⟨hx, ⟨vv, aa, na, ca, hr, h.env.keep hk.size fun b q1 q2 => ⟨hk.block b q2 q1.1, q1⟩, fun b q => Nat.lt_of_lt_of_le (h.lo b q) hk.size, put_len r h.len _ _, hl, h.far, h.tab.kept h.far hk⟩, hk⟩
set_option maxRecDepth 100000 in
set_option maxHeartbeats 4000000 in
theorem lit_at (g : Nat) (A : Nat → Prop) (e : EnvT) (r : RowT) (k : Int) (t op : ByteArray) (q : Bool) (a : Option Addr) (m c : Nat) (w : World) (h : WorkAt g A w e r) (hl : (putR r t.data.toList 108).1.length ≤ 1000000) :
    Calls Tryz.prog 64 #[.pointer (some ⟨g, 0, none⟩), .agg #[.int .i64 k, .string t, .string op, .bool q, .slice a m c]] w (WkPost g A e (putR r t.data.toList 108) w) := by
  have HP : Hid (∀ W, Below w.heap.size w W → Calls Tryz.prog 84 #[.pointer (some ⟨g, 0, none⟩), .string t, .int .u8 108] W (WkPost g A e (putR r t.data.toList 108) W)) := fun W hW => wput_at g A e r t 108 W (h.below hW) hl
  clear h hl
  go_enter Tryz.func64, Tryz.ntmps64
  go_wp2_with fail
  have hb := (Below.refl _ w).alloc (Nat.le_refl _) (.cells #[.int .i64 k, .string t, .string op, .bool q, .slice a m c] 92)
  refine (HP.out _ hb).mono ?_; rintro x w1 ⟨rfl, hx, hk⟩
  go_wp2_with fail
  go_end0
  exact ⟨rfl, hx, (Kept.of hb).trans hk⟩
set_option maxRecDepth 100000 in
set_option maxHeartbeats 4000000 in
theorem quo_at (g : Nat) (A : Nat → Prop) (e : EnvT) (r : RowT) (k : Int) (t op : ByteArray) (q : Bool) (a : Option Addr) (m c : Nat) (w : World) (h : WorkAt g A w e r) (hl : (putR r t.data.toList 113).1.length ≤ 1000000) :
    Calls Tryz.prog 65 #[.pointer (some ⟨g, 0, none⟩), .agg #[.int .i64 k, .string t, .string op, .bool q, .slice a m c]] w (WkPost g A e (putR r t.data.toList 113) w) := by
  have HP : Hid (∀ W, Below w.heap.size w W → Calls Tryz.prog 84 #[.pointer (some ⟨g, 0, none⟩), .string t, .int .u8 113] W (WkPost g A e (putR r t.data.toList 113) W)) := fun W hW => wput_at g A e r t 113 W (h.below hW) hl
  clear h hl
  go_enter Tryz.func65, Tryz.ntmps65
  go_wp2_with fail
  have hb := (Below.refl _ w).alloc (Nat.le_refl _) (.cells #[.int .i64 k, .string t, .string op, .bool q, .slice a m c] 92)
  refine (HP.out _ hb).mono ?_; rintro x w1 ⟨rfl, hx, hk⟩
  go_wp2_with fail
  go_end0
  exact ⟨rfl, hx, (Kept.of hb).trans hk⟩
theorem sort_at (q : Bool) (w : World) : Calls Tryz.prog 89 #[.bool q] w fun x w' => x = .returned (.int .u8 ((sortC q).toNat : Int)) ∧ w = w' := by
  cases q
  · go_enter Tryz.func89, Tryz.ntmps89
    go_wp2_with fail
    go_ret
    exact ⟨rfl, rfl⟩
  · go_enter Tryz.func89, Tryz.ntmps89
    go_wp2_with fail
    go_ret
    exact ⟨rfl, rfl⟩
end Go.Proofs.YtkmpbkhlcapbgaaGreatDoor
namespace Go.Proofs.YtkmpbkhlcapbgaaGreatDoor
mutual
/-- A part whose texts are not too long. -/
def smallP : PartT → Prop
  | .mk _ t op _ wd => t.length ≤ 1000000 ∧ op.length ≤ 1000000 ∧ (trimsF op).1 = false ∧ smallL wd
def smallL : List PartT → Prop
  | [] => True
  | p :: l => smallP p ∧ smallL l
end
theorem smallP_mk (k : Nat) (t op : List UInt8) (q : Bool) (wd : List PartT) : smallP (.mk k t op q wd) = (t.length ≤ 1000000 ∧ op.length ≤ 1000000 ∧ (trimsF op).1 = false ∧ smallL wd) := by rw [smallP]
theorem smallL_nil : smallL [] = True := by rw [smallL]
theorem smallL_cons (p : PartT) (l : List PartT) : smallL (p :: l) = (smallP p ∧ smallL l) := by rw [smallL]
theorem smallL_nth : ∀ (l : List PartT) (i : Nat) (h : i < l.length), smallL l → smallP l[i] := by
  intro l
  induction l with
  | nil => intro i h; simp at h
  | cons p l ih =>
    intro i h hs
    rw [smallL_cons] at hs
    cases i with
    | zero => exact hs.1
    | succ i => exact ih i (by simpa using h) hs.2
end Go.Proofs.YtkmpbkhlcapbgaaGreatDoor
