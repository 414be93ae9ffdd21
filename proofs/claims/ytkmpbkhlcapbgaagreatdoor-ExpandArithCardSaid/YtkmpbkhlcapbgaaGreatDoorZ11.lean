/-
  DERIVED. The walk of expand's flat: a row's text, without its nothings. The tables and variables that reckoning asks for, and how they stay. No walk. A work (expand) in memory; the walks of its lit, quo, args; of sort, alone. Plain: parts whose texts are not too long. No program in sight. The walk of word's parameter: how many bytes a parameter that is next has.
-/
import Derived.Test.YtkmpbkhlcapbgaaGreatDoorZ08
import Derived.Test.YtkmpbkhlcapbgaaGreatDoorZ01
import Derived.Test.YtkmpbkhlcapbgaaGreatDoorShelf
import Derived.Deep.LoopGhost
import Derived.Test.YtkmpbkhlcapbgaaGreatDoorProg
import Derived.Test.YtkmpbkhlcapbgaaGreatDoorZ04
import Derived.Shelf.Strings.CaseAny
import Derived.Lib.Hide
import Derived.Lib.SmallJoins
import Derived.Lib.ItoaNum
import Derived.Test.YtkmpbkhlcapbgaaGreatDoorZ10
namespace Go.Proofs.YtkmpbkhlcapbgaaGreatDoor
open Go Go.RowKit
/-- What is flat of the first bytes. -/
def flatN (t m : ByteArray) (k : Nat) : List UInt8 := (((t.data.toList.zip m.data.toList).take k).filter fun p => p.2 != 101).map (·.1)
theorem flatN_next (t m : ByteArray) (k : Nat) (h1 : k < t.size) (h2 : k < m.size) : flatN t m (k + 1) = if m[k]'h2 != 101 then flatN t m k ++ [t[k]'h1] else flatN t m k := by
  unfold flatN
  have hl : k < (t.data.toList.zip m.data.toList).length := by
    rw [List.length_zip]; simp; omega
  rw [List.take_succ_eq_append_getElem hl, List.filter_append]
  have e : (t.data.toList.zip m.data.toList)[k] = (t[k]'h1, m[k]'h2) := by rw [List.getElem_zip]; rfl
  rw [e]
  by_cases hm : (m[k]'h2 != 101) = true
  · rw [if_pos hm]; simp [hm]
  · rw [if_neg hm]; simp [hm]
theorem flatN_size (t m : ByteArray) (k : Nat) : (flatN t m k).length ≤ t.size := by
  unfold flatN
  rw [List.length_map]
  refine Nat.le_trans (List.length_filter_le _ _) ?_
  rw [List.length_take, List.length_zip]
  have : t.size = t.data.toList.length := by simp
  omega
theorem flatN_all (t m : ByteArray) (h : t.size = m.size) : flatN t m t.size = flatR (t.data.toList, m.data.toList) := by
  unfold flatN flatR bareR
  rw [List.take_of_length_le (by rw [List.length_zip]; simp; omega), List.unzip_eq_map]
set_option maxRecDepth 100000 in
set_option maxHeartbeats 4000000 in
theorem flat_at (t m : ByteArray) (h : t.size = m.size) (hs : t.size ≤ 1000000000) (w : World) :
    Calls Tryz.prog 28 #[.agg #[.string t, .string m]] w fun e w' => e = .returned (.string ⟨(flatR (t.data.toList, m.data.toList)).toArray⟩) ∧ Below w.heap.size w w' := by
  have HF := Lib.hid (flatN_all t m h)
  have H := Lib.hid h
  obtain ⟨fin, hfin⟩ : ∃ fin, flatR (t.data.toList, m.data.toList) = fin := ⟨_, rfl⟩
  rw [hfin] at HF ⊢
  clear h hfin
  go_enter Tryz.func28, Tryz.ntmps28
  go_wp2_with fail
  go_loopg [3, 8] t.size (fun gk s3 s8 wx => Hid (wx = w.alloc (.cells #[.string t, .string m] 38)) ∧ ∃ k : Nat, k + gk = t.size ∧ s8 = .int .i64 k ∧ s3 = .string ⟨(flatN t m k).toArray⟩)
  case atStart => exact ⟨rfl, 0, by omega, rfl, by simp [flatN]⟩
  case round =>
    obtain ⟨hw, k, hk, rfl, rfl⟩ := hrel
    have c0 : wr.cell? ⟨w.heap.size, 0, none⟩ = some (.string t) := by rw [hw.out]; simp
    have c1 : wr.cell? ⟨w.heap.size, 1, none⟩ = some (.string m) := by rw [hw.out]; simp
    cases gk with
    | zero =>
      have h1 : ¬ ((k : Int) < (t.size : Int)) := by omega
      have hkk : Hid (k = t.size) := by unfold Hid; omega
      go_wp2_with fail
      go_ret
      refine ⟨?_, by rw [hw.out]; exact (Below.refl _ _).alloc (Nat.le_refl _) _⟩
      rw [hkk.out, HF.out]; rfl
    | succ gk =>
      have h1 : (k : Int) < (t.size : Int) := by omega
      have hkt : k < t.size := by omega
      have hkm : k < m.size := by have := H.out; omega
      have hkm2 : (k : Int) < (m.size : Int) := by omega
      have hw1 : IntKind.i64.wrap ((k : Int) + 1) = (k : Int) + 1 := wrap_small _ (by omega) (by omega)
      have hi2 : ((k : Int) + 1).toNat = k + 1 := by omega
      have hi3 : (0 : Int) ≤ (k : Int) + 1 := by omega
      have hi4 : (k : Int) + 1 ≤ (t.size : Int) := by omega
      have hi5 : (k : Int) ≤ (k : Int) + 1 := by omega
      have hnx := flatN_next t m k hkt hkm
      obtain ⟨x, hx⟩ : ∃ x, t[k]'hkt = x := ⟨_, rfl⟩
      obtain ⟨y, hy⟩ : ∃ y, m[k]'hkm = y := ⟨_, rfl⟩
      rw [hx, hy] at hnx
      have hex : t.extract k (k + 1) = ⟨#[x]⟩ := by
        rw [← Lib.mk_data (ByteArray.extract _ _ _), Lib.extract_data]
        have : (t.data.toList.drop k).take (k + 1 - k) = [x] := by
          rw [show k + 1 - k = 1 by omega, List.drop_eq_getElem_cons (by simpa using hkt)]
          simp only [List.take_succ_cons, List.take_zero]
          congr 1
        rw [this]
      have hsz : (flatN t m k).length + 1 ≤ 9223372036854775807 := by have := flatN_size t m k; omega
      have HNX := Lib.hid hnx
      have HX := Lib.hid hx
      clear hnx hx
      by_cases hy1 : y = 101
      · subst hy1
        go_wp2_with fail
        go_roundg gk
        case measure => omega
        case rel => exact ⟨hw, k + 1, by omega, by go_num, by rw [HNX.out]; simp⟩
      · have hyq : ((y.toNat : Int) != 101) = true := by
          simp; intro e; exact hy1 (UInt8.toNat_inj.1 (by simpa using Int.ofNat.inj e))
        go_wp2_with fail
        go_roundg gk
        case measure => omega
        case rel => exact ⟨hw, k + 1, by omega, by go_num, by rw [HNX.out]; simp [hy1, mk_append]⟩
end Go.Proofs.YtkmpbkhlcapbgaaGreatDoor
namespace Go.Proofs.YtkmpbkhlcapbgaaGreatDoor
open Go.RowKit
/-- What the walks ask of the library's variables. -/
structure Env (w : World) : Prop where
  syn : ∃ ev, w.cell? ⟨3, 0, none⟩ = some ev ∧ (ev = .nilIface ∨ ∃ te pe, ev = .iface te pe)
  rng : ∃ ev, w.cell? ⟨4, 0, none⟩ = some ev ∧ (ev = .nilIface ∨ ∃ te pe, ev = .iface te pe)
  case : Lib.CaseVar 11 Lib.caseA w
  tabs : Lib.Utf8Tabs 9 10 w
theorem Env.keep {w w' : World} (h : Env w) (hb : Below w.heap.size w w') : Env w' := by
  obtain ⟨⟨e1, h1, k1⟩, ⟨e2, h2, k2⟩, h3, h4⟩ := h
  exact ⟨⟨e1, (hb.cell (block_lt_of_cell h1)).trans h1, k1⟩, ⟨e2, (hb.cell (block_lt_of_cell h2)).trans h2, k2⟩, Lib.CaseVar_below h3 hb, Utf8Tabs_below h4 hb⟩
/-- The signs' table. -/
def SignsAt (w : World) : Prop := ∀ i, i < 24 → w.cell? ⟨8, i, none⟩ = some (.string ⟨(signsL.getD i []).toArray⟩)
/-- The rows' table. -/
def RowsAt (w : World) : Prop := (∀ i, i < 10 → w.cell? ⟨5, i, none⟩ = some (.string ⟨(rowsL.getD i []).toArray⟩)) ∧ ∃ m, w.cell? ⟨1, 0, none⟩ = some (.int .i64 m)
/-- What Eval's call is given: the tables, the library's variables. -/
structure Tabs (w : World) : Prop where
  signs : SignsAt w
  rows : RowsAt w
  env : Env w
theorem Tabs.keep {w w' : World} (h : Tabs w) (hb : Below w.heap.size w w') : Tabs w' := by
  obtain ⟨m, hm⟩ := h.rows.2
  exact ⟨fun i hi => (hb.cell (block_lt_of_cell (h.signs i hi))).trans (h.signs i hi), ⟨fun i hi => (hb.cell (block_lt_of_cell (h.rows.1 i hi))).trans (h.rows.1 i hi), m, (hb.cell (block_lt_of_cell hm)).trans hm⟩, h.env.keep hb⟩
theorem gPow : Tryz.prog.globalNamed "internal/strconv.uint64pow10" = some 2 := by kernel_rfl
/-- All the tables that a word with sums and lengths asks for. -/
structure More (w : World) : Prop where
  ev : Tabs w
  pow : Lib.TabIs Tryz.prog w "internal/strconv.uint64pow10" .u64 Lib.pow10Tab
theorem More.keep {w w' : World} (h : More w) (hb : Below w.heap.size w w') : More w' := ⟨h.ev.keep hb, Joins.tab_stays gPow h.pow hb (Nat.le_refl _)⟩
end Go.Proofs.YtkmpbkhlcapbgaaGreatDoor
namespace Go.Proofs.YtkmpbkhlcapbgaaGreatDoor
open Go Go.RowKit
/-- A word that is expanded: its Env, its row. -/
structure WorkC (g : Nat) (A : Nat → Prop) (w : World) (e : EnvT) (r : RowT) (vv : Value) (aa : Option Addr) (na ca : Nat) : Prop where
  row : RowIs w g 82 [vv, .slice aa na ca, .int .i64 e.status, .string ⟨e.flags.toArray⟩, .string ⟨r.1.toArray⟩, .string ⟨r.2.toArray⟩]
  env : EnvC w (fun b => b ≠ g ∧ ¬ A b) vv (.slice aa na ca) e
  lo : ∀ b, A b → b < w.heap.size
  len : r.1.length = r.2.length
  few : r.1.length ≤ 1000000
  far : Far g
  tab : Tab w
  more : ∀ w', Kept g w w' → More w'
def WorkAt (g : Nat) (A : Nat → Prop) (w : World) (e : EnvT) (r : RowT) : Prop := ∃ vv aa na ca, WorkC g A w e r vv aa na ca
theorem WorkC.below {g : Nat} {A : Nat → Prop} {w w' : World} {e : EnvT} {r : RowT} {vv : Value} {aa : Option Addr} {na ca : Nat} (h : WorkC g A w e r vv aa na ca) (hb : Below w.heap.size w w') : WorkC g A w' e r vv aa na ca :=
  ⟨h.row.below hb, h.env.keep hb.size fun b q1 q2 => ⟨hb.block b q2, q1⟩, fun b q => Nat.lt_of_lt_of_le (h.lo b q) hb.size, h.len, h.few, h.far, h.tab.kept h.far (Kept.of hb), fun w2 k => h.more w2 ((Kept.of hb).trans k)⟩
theorem WorkAt.below {g : Nat} {A : Nat → Prop} {w w' : World} {e : EnvT} {r : RowT} (h : WorkAt g A w e r) (hb : Below w.heap.size w w') : WorkAt g A w' e r := by
  obtain ⟨vv, aa, na, ca, h⟩ := h
  exact ⟨vv, aa, na, ca, h.below hb⟩
theorem WorkC.lt {g : Nat} {A : Nat → Prop} {w : World} {e : EnvT} {r : RowT} {vv : Value} {aa : Option Addr} {na ca : Nat} (h : WorkC g A w e r vv aa na ca) : g < w.heap.size := h.row.lt
theorem WorkAt.lt {g : Nat} {A : Nat → Prop} {w : World} {e : EnvT} {r : RowT} (h : WorkAt g A w e r) : g < w.heap.size := by
  obtain ⟨vv, aa, na, ca, h⟩ := h
  exact h.lt
/-- How a method that puts something behind ends. -/
def WkPost (g : Nat) (A : Nat → Prop) (e : EnvT) (r : RowT) (w : World) (x : Ending) (w' : World) : Prop := x = .returned (.tuple #[]) ∧ WorkAt g A w' e r ∧ Kept g w w'
theorem putR_ge (r : RowT) (s : List UInt8) (c : UInt8) : r.1.length + s.length ≤ (putR r s c).1.length := by
  unfold putR; rw [joinR_length]; split
  · rename_i h; rw [h.1]; simp
  · simp [ofR]
theorem wput_at (g : Nat) (A : Nat → Prop) (e : EnvT) (r : RowT) (s : ByteArray) (c : UInt8) (w : World) (h : WorkAt g A w e r) (hl : (putR r s.data.toList c).1.length ≤ 1000000) :
    Calls Tryz.prog 84 #[.pointer (some ⟨g, 0, none⟩), .string s, .int .u8 (c.toNat : Int)] w (WkPost g A e (putR r s.data.toList c) w) := by
  obtain ⟨vv, aa, na, ca, h⟩ := h
  have hge := putR_ge r s.data.toList c
  have e1 : (⟨r.1.toArray⟩ : ByteArray).size = r.1.length := by show r.1.toArray.size = _; simp
  have e2 : (⟨r.2.toArray⟩ : ByteArray).size = r.2.length := by show r.2.toArray.size = _; simp
  have e3 : s.size = s.data.toList.length := by simp
  refine (xput_at g vv (.slice aa na ca) (.int .i64 e.status) (.string ⟨e.flags.toArray⟩) ⟨r.1.toArray⟩ ⟨r.2.toArray⟩ s c w h.row (by rw [e1, e2]; exact h.len) (by rw [e1, e3]; omega)).mono ?_
  rintro x w' ⟨hx, hr, hk⟩
  exact ⟨hx, ⟨vv, aa, na, ca, hr, h.env.keep hk.size fun b q1 q2 => ⟨hk.block b q2 q1.1, q1⟩, fun b q => Nat.lt_of_lt_of_le (h.lo b q) hk.size, put_len r h.len _ _, hl, h.far, h.tab.kept h.far hk, fun w2 k => h.more w2 (hk.trans k)⟩, hk⟩
set_option maxRecDepth 100000 in
set_option maxHeartbeats 4000000 in
theorem lit_at (g : Nat) (A : Nat → Prop) (e : EnvT) (r : RowT) (k : Int) (t op : ByteArray) (q : Bool) (a : Option Addr) (m c : Nat) (w : World) (h : WorkAt g A w e r) (hl : (putR r t.data.toList 108).1.length ≤ 1000000) :
    Calls Tryz.prog 64 #[.pointer (some ⟨g, 0, none⟩), .agg #[.int .i64 k, .string t, .string op, .bool q, .slice a m c]] w (WkPost g A e (putR r t.data.toList 108) w) := by
  have HP : Hid (∀ W, Below w.heap.size w W → Calls Tryz.prog 84 #[.pointer (some ⟨g, 0, none⟩), .string t, .int .u8 108] W (WkPost g A e (putR r t.data.toList 108) W)) := fun W hW => wput_at g A e r t 108 W (h.below hW) hl
  clear h hl
  go_enter Tryz.func64, Tryz.ntmps64
  go_wp2_with fail
  have hb := (Below.refl _ w).alloc (Nat.le_refl _) (.cells #[.int .i64 k, .string t, .string op, .bool q, .slice a m c] 92)
  refine (HP.out _ hb).mono ?_; rintro x w1 ⟨rfl, hx, hk⟩
  go_wp2_with fail
  go_end0
  exact ⟨rfl, hx, (Kept.of hb).trans hk⟩
set_option maxRecDepth 100000 in
set_option maxHeartbeats 4000000 in
theorem quo_at (g : Nat) (A : Nat → Prop) (e : EnvT) (r : RowT) (k : Int) (t op : ByteArray) (q : Bool) (a : Option Addr) (m c : Nat) (w : World) (h : WorkAt g A w e r) (hl : (putR r t.data.toList 113).1.length ≤ 1000000) :
    Calls Tryz.prog 65 #[.pointer (some ⟨g, 0, none⟩), .agg #[.int .i64 k, .string t, .string op, .bool q, .slice a m c]] w (WkPost g A e (putR r t.data.toList 113) w) := by
  have HP : Hid (∀ W, Below w.heap.size w W → Calls Tryz.prog 84 #[.pointer (some ⟨g, 0, none⟩), .string t, .int .u8 113] W (WkPost g A e (putR r t.data.toList 113) W)) := fun W hW => wput_at g A e r t 113 W (h.below hW) hl
  clear h hl
  go_enter Tryz.func65, Tryz.ntmps65
  go_wp2_with fail
  have hb := (Below.refl _ w).alloc (Nat.le_refl _) (.cells #[.int .i64 k, .string t, .string op, .bool q, .slice a m c] 92)
  refine (HP.out _ hb).mono ?_; rintro x w1 ⟨rfl, hx, hk⟩
  go_wp2_with fail
  go_end0
  exact ⟨rfl, hx, (Kept.of hb).trans hk⟩
theorem sort_at (q : Bool) (w : World) : Calls Tryz.prog 89 #[.bool q] w fun x w' => x = .returned (.int .u8 ((sortC q).toNat : Int)) ∧ w = w' := by
  cases q
  · go_enter Tryz.func89, Tryz.ntmps89
    go_wp2_with fail
    go_ret
    exact ⟨rfl, rfl⟩
  · go_enter Tryz.func89, Tryz.ntmps89
    go_wp2_with fail
    go_ret
    exact ⟨rfl, rfl⟩
end Go.Proofs.YtkmpbkhlcapbgaaGreatDoor
namespace Go.Proofs.YtkmpbkhlcapbgaaGreatDoor
mutual
/-- A part whose texts are not too long. -/
def smallP : PartT → Prop
  | .mk _ t op _ wd => t.length ≤ 1000000 ∧ op.length ≤ 1000000 ∧ True ∧ smallL wd
def smallL : List PartT → Prop
  | [] => True
  | p :: l => smallP p ∧ smallL l
end
theorem smallP_mk (k : Nat) (t op : List UInt8) (q : Bool) (wd : List PartT) : smallP (.mk k t op q wd) = (t.length ≤ 1000000 ∧ op.length ≤ 1000000 ∧ True ∧ smallL wd) := by rw [smallP]
theorem smallL_nil : smallL [] = True := by rw [smallL]
theorem smallL_cons (p : PartT) (l : List PartT) : smallL (p :: l) = (smallP p ∧ smallL l) := by rw [smallL]
theorem smallL_nth : ∀ (l : List PartT) (i : Nat) (h : i < l.length), smallL l → smallP l[i] := by
  intro l
  induction l with
  | nil => intro i h; simp at h
  | cons p l ih =>
    intro i h hs
    rw [smallL_cons] at hs
    cases i with
    | zero => exact hs.1
    | succ i => exact ih i (by simpa using h) hs.2
end Go.Proofs.YtkmpbkhlcapbgaaGreatDoor
namespace Go.Proofs.YtkmpbkhlcapbgaaGreatDoor
open Go Go.RowKit
def wnameF : List UInt8 → Nat
  | [] => 0
  | c :: t => if letterU c then longF (c :: t) else 0
theorem wname_cons (c : UInt8) (t : List UInt8) : wnameF (c :: t) = if letterU c then longF (c :: t) else 0 := rfl
theorem wpar_cons (c : UInt8) (t : List UInt8) : wparF (c :: t) = if letterU c then longF (c :: t) else if digU c || [63, 35, 64, 42, 45].contains c then 1 else 0 := rfl
theorem letter_word {c : UInt8} (h : letterU c = true) : wordU c = true := by unfold wordU; simp [h]
theorem isName_take (c : UInt8) (t : List UInt8) (n : Nat) : isName ((c :: t).take (n + 1)) = (letterU c && (t.take n).all wordU) := by
  rw [List.take_succ_cons]; rfl
theorem all_take {α : Type} (p : α → Bool) : ∀ (l : List α) (n : Nat), n ≤ (l.takeWhile p).length → (l.take n).all p = true
  | [], n, _ => by simp
  | a :: l, 0, _ => by simp
  | a :: l, n + 1, h => by
    by_cases ha : p a = true
    · rw [List.takeWhile_cons, if_pos ha, List.length_cons] at h
      rw [List.take_succ_cons, List.all_cons, ha, all_take p l n (by omega)]
      rfl
    · rw [List.takeWhile_cons, if_neg ha] at h
      simp at h
theorem not_all_take {α : Type} (p : α → Bool) : ∀ (l : List α), (l.takeWhile p).length < l.length → (l.take ((l.takeWhile p).length + 1)).all p = false
  | [], h => by simp at h
  | a :: l, h => by
    by_cases ha : p a = true
    · rw [List.takeWhile_cons, if_pos ha, List.length_cons] at h ⊢
      rw [List.take_succ_cons, List.all_cons, ha, not_all_take p l (by simpa using h)]
      rfl
    · rw [List.takeWhile_cons, if_neg ha]
      simp [ha]
theorem wname_yes (s : List UInt8) (n : Nat) (h : n < wnameF s) : isName (s.take (n + 1)) = true := by
  cases s with
  | nil => simp [wnameF] at h
  | cons c t =>
    rw [isName_take]
    rw [wname_cons] at h
    by_cases hc : letterU c = true
    · rw [if_pos hc] at h
      unfold longF at h
      rw [List.takeWhile_cons, if_pos (letter_word hc), List.length_cons] at h
      rw [hc, all_take wordU t n (by omega)]
      rfl
    · rw [if_neg hc] at h; omega
theorem wname_no (s : List UInt8) (h : wnameF s < s.length) : isName (s.take (wnameF s + 1)) = false := by
  cases s with
  | nil => simp at h
  | cons c t =>
    rw [isName_take]
    rw [wname_cons] at h ⊢
    by_cases hc : letterU c = true
    · rw [if_pos hc] at h ⊢
      unfold longF at h ⊢
      rw [List.takeWhile_cons, if_pos (letter_word hc), List.length_cons] at h ⊢
      rw [not_all_take wordU t (by simpa using h)]
      simp
    · simp [hc]
theorem wname_le (s : List UInt8) : wnameF s ≤ s.length := by
  cases s with
  | nil => exact Nat.le_refl _
  | cons c t =>
    rw [wname_cons]
    split
    · exact longF_le _
    · exact Nat.zero_le _
def paramL : List UInt8 := [48, 49, 50, 51, 52, 53, 54, 55, 56, 57, 63, 35, 64, 42, 45]
theorem param_has : ∀ k : Fin 256, Lib.contains paramL [UInt8.ofNat k.val] = (digU (UInt8.ofNat k.val) || [63, 35, 64, 42, 45].contains (UInt8.ofNat k.val)) := by decide +kernel
theorem param_has_u (c : UInt8) : Lib.contains paramL [c] = (digU c || [63, 35, 64, 42, 45].contains c) := by
  have := param_has ⟨c.toNat, c.toNat_lt⟩
  simpa using this
set_option maxRecDepth 100000 in
set_option maxHeartbeats 4000000 in
theorem parameter_at (g : Nat) (v : Value) (s : ByteArray) (d : Nat) (w : World) (hr : Wr g v s d w) :
    Calls Tryz.prog 104 #[.pointer (some ⟨g, 0, none⟩)] w fun e w' => e = .returned (.int .i64 (wparF s.data.toList : Nat)) ∧ w = w' := by
  obtain ⟨r0, r1, r2, f0, f1, f2, lt0⟩ := three_facts hr.row
  obtain ⟨N, hN⟩ : ∃ N, wnameF s.data.toList = N := ⟨_, rfl⟩
  have hsz : s.size = s.data.toList.length := by simp
  have hle : N ≤ s.size := by rw [← hN, hsz]; exact wname_le _
  have hmax := hr.size
  have HY : Hid (∀ n, n < N → ∀ W, Calls Tryz.prog 25 #[.string (s.extract 0 (n + 1))] W fun e w' => e = .returned (.bool true) ∧ W = w') := fun n hn W =>
    name_at _ true (by rw [ByteArray.size_extract]; omega) (by rw [Lib.extract_data]; simpa using wname_yes s.data.toList n (by rw [hN]; exact hn)) W
  have HN : Hid (N < s.size → ∀ W, Calls Tryz.prog 25 #[.string (s.extract 0 (N + 1))] W fun e w' => e = .returned (.bool false) ∧ W = w') := fun hn W =>
    name_at _ false (by rw [ByteArray.size_extract]; omega) (by rw [Lib.extract_data]; have := wname_no s.data.toList (by rw [hN, ← hsz]; exact hn); rw [hN] at this; simpa using this) W
  obtain ⟨m, hm⟩ := hr.tab.max
  have HC : Hid (∀ c t, s.data.toList = c :: t → Calls Tryz.prog 122 #[.string ⟨#[48, 49, 50, 51, 52, 53, 54, 55, 56, 57, 63, 35, 64, 42, 45]⟩, .string (s.extract 0 1)] w fun e w' => e = .returned (.bool (digU c || [63, 35, 64, 42, 45].contains c)) ∧ w = w') := by
    intro c t hs
    have h := Tryz.strings_Contains ⟨#[48, 49, 50, 51, 52, 53, 54, 55, 56, 57, 63, 35, 64, 42, 45]⟩ (s.extract 0 1) m w (by decide) hm
    have e1 : (s.extract 0 1).data.toList = [c] := by rw [Lib.extract_data, hs]; rfl
    rw [e1, show (⟨#[48, 49, 50, 51, 52, 53, 54, 55, 56, 57, 63, 35, 64, 42, 45]⟩ : ByteArray).data.toList = paramL from rfl, param_has_u] at h
    exact h.mono fun e w' ⟨h1, h2⟩ => ⟨h1, h2.symm⟩
  have HW : Hid (∀ c t, s.data.toList = c :: t → wparF s.data.toList = if 0 < N then N else if digU c || [63, 35, 64, 42, 45].contains c then 1 else 0) := by
    intro c t hs
    rw [← hN, hs]
    rw [wpar_cons, wname_cons]
    by_cases hc : letterU c = true
    · have : 0 < longF (c :: t) := by unfold longF; rw [List.takeWhile_cons, if_pos (letter_word hc)]; simp
      rw [if_pos hc, if_pos hc, if_pos this]
    · rw [if_neg hc, if_neg hc, if_neg (Nat.lt_irrefl 0)]
  have HSZ := Lib.hid hsz
  clear hm hN hsz
  go_enter Tryz.func104, Tryz.ntmps104
  go_wp2_with fail
  go_loopg [3] N (fun gk s3 wx => wx = w ∧ ∃ i : Nat, i + gk = N ∧ s3 = .int .i64 i)
  case atStart => exact ⟨rfl, 0, by omega, rfl⟩
  case round =>
    obtain ⟨rfl, i, hik, rfl⟩ := hrel
    have hw1 : IntKind.i64.wrap ((i : Int) + 1) = (i : Int) + 1 := wrap_small _ (by omega) (by omega)
    have hi2 : ((i : Int) + 1).toNat = i + 1 := by omega
    have hi3 : (0 : Int) ≤ (i : Int) + 1 := by omega
    cases gk with
    | succ gk =>
      have h1 : (i : Int) < (s.size : Int) := by omega
      have h1' : i < s.size := by omega
      have h2 : (i : Int) + 1 ≤ (s.size : Int) := by omega
      have h2' : i + 1 ≤ s.size := by omega
      have HY1 := Lib.hid (HY.out i (by omega) wr)
      go_wp2_with fail
      refine HY1.out.mono ?_; rintro e w1 ⟨rfl, rfl⟩
      go_wp2_with fail
      go_roundg gk
      case measure => omega
      case rel => exact ⟨rfl, i + 1, by omega, by go_num⟩
    | zero =>
      obtain rfl : i = N := by omega
      by_cases hlt : i < s.size
      · have h1 : (i : Int) < (s.size : Int) := by omega
        have h2 : (i : Int) + 1 ≤ (s.size : Int) := by omega
        have HN1 := Lib.hid (HN.out hlt wr)
        obtain ⟨c, t, hs⟩ : ∃ c t, s.data.toList = c :: t := by
          cases h : s.data.toList with
          | nil => rw [HSZ.out, h] at hlt; simp at hlt
          | cons c t => exact ⟨c, t, rfl⟩
        have HC1 := Lib.hid (HC.out c t hs)
        have hW := HW.out c t hs
        have hne : s.toList.isEmpty = false := by rw [empty_iff]; simp; omega
        by_cases h0 : i = 0
        · subst h0
          have hs1 : (1 : Int) ≤ (s.size : Int) := by omega
          rw [if_neg (Nat.lt_irrefl 0)] at hW
          have HWW := Lib.hid hW
          obtain ⟨b, hb⟩ : ∃ b, (digU c || [63, 35, 64, 42, 45].contains c) = b := ⟨_, rfl⟩
          rw [hb] at HC1 hW
          clear HY HN HC HW hs HWW hb
          cases b
          · have HX := Lib.hid hW
            clear hW
            go_wp2_with fail
            refine HN1.out.mono ?_; rintro e w1 ⟨rfl, rfl⟩
            go_wp2_with fail
            refine HC1.out.mono ?_; rintro e w1 ⟨rfl, rfl⟩
            go_wp2_with fail
            go_ret
            exact ⟨by rw [HX.out]; rfl, rfl⟩
          · have HX := Lib.hid hW
            clear hW
            go_wp2_with fail
            refine HN1.out.mono ?_; rintro e w1 ⟨rfl, rfl⟩
            go_wp2_with fail
            refine HC1.out.mono ?_; rintro e w1 ⟨rfl, rfl⟩
            go_wp2_with fail
            go_ret
            exact ⟨by rw [HX.out]; rfl, rfl⟩
        · rw [if_pos (by omega)] at hW
          have h00 : ((i : Int) == 0) = false := by simp; omega
          have HX := Lib.hid hW
          clear HY HN HC HW hs hW
          go_wp2_with fail
          refine HN1.out.mono ?_; rintro e w1 ⟨rfl, rfl⟩
          go_wp2_with fail
          go_ret
          exact ⟨by rw [HX.out]; rfl, rfl⟩
      · have h1 : ¬ ((i : Int) < (s.size : Int)) := by omega
        have h1' : ¬ (i < s.size) := hlt
        by_cases h0 : i = 0
        · subst h0
          have hs0 : s.data.toList = [] := List.eq_nil_of_length_eq_zero (by have := HSZ.out; omega)
          have hne : s.toList.isEmpty = true := by rw [Lib.toList_data, hs0]; rfl
          have HX : Hid (wparF s.data.toList = 0) := by rw [hs0]; rfl
          clear HY HN HC HW hs0
          go_wp2_with fail
          go_ret
          exact ⟨by rw [HX.out]; rfl, rfl⟩
        · obtain ⟨c, t, hs⟩ : ∃ c t, s.data.toList = c :: t := by
            cases h : s.data.toList with
            | nil => rw [HSZ.out, h] at hle; simp at hle; omega
            | cons c t => exact ⟨c, t, rfl⟩
          have hW := HW.out c t hs
          rw [if_pos (by omega)] at hW
          have h00 : ((i : Int) == 0) = false := by simp; omega
          have HX := Lib.hid hW
          clear HY HN HC HW hs hW
          go_wp2_with fail
          go_ret
          exact ⟨by rw [HX.out]; rfl, rfl⟩
end Go.Proofs.YtkmpbkhlcapbgaaGreatDoor
