/-
  DERIVED. The walks of word's Parse: its call, read, Parse itself: what the plain function has for a raw word.
-/
import Derived.Test.YtkmpbkhlcapbgaaGreatDoorZ29
import Derived.Defers
import Derived.Recover
import Derived.Laws.Pointers
import Derived.RegionTactic
namespace Go.Proofs.YtkmpbkhlcapbgaaGreatDoor
open Go Go.RowKit
theorem all_step (f : Nat) (l : List PartT) (s : List UInt8) : allF (f + 1) l s = if s = [] then some l else match wpartF f 0 l s with
    | none => none
    | some (l2, s2) => allF f l2 s2 := by rw [allF]; rfl
/-- The loop over all parts: the text of the round, printed once for each way in. -/
theorem str_tilde (s : ByteArray) : (s.toList == [126]) = decide (s.data.toList = [126]) := by
  rw [Lib.toList_data, Bool.eq_iff_iff]; simp
theorem mt_str (s : ByteArray) : s.toList.isEmpty = decide (s.data.toList = []) := by
  rw [Lib.toList_data]; cases s.data.toList <;> simp
-- PARSE (printed by gen_parse.py)
def AllPost (g : Nat) (l : List PartT) (w : World) (e : Ending) (w' : World) : Prop := e = .returned (.tuple #[]) ∧ ∃ v u, Wr g v u 0 w' ∧ Wp g v l w' ∧ Below g w w'
set_option maxRecDepth 100000 in
set_option maxHeartbeats 4000000 in
theorem call_plain (g rb : Nat) (f : Nat) (s : ByteArray) (l : List PartT) (w : World) (hr : Wr g (.slice none 0 0) s 0 w) (hp : Wp g (.slice none 0 0) [] w) (hc : w.cell? ⟨rb, 0, none⟩ = some (.string s)) (h1 : s.data.toList ≠ [126]) (h2 : [126, 47].isPrefixOf s.data.toList = false) (h : allF f [] s.data.toList = some l) :
    Calls Tryz.prog 42 #[.pointer (some ⟨g, 0, none⟩), .pointer (some ⟨rb, 0, none⟩)] w (AllPost g l w) := by
  have H1 := Lib.hid (has_at g ⟨#[126, 47]⟩ (.slice none 0 0) s 0 false w hr h2)
  have hst := str_tilde s
  rw [decide_eq_false h1] at hst
  have H0 : Hid (∃ (v' : Value) (s' : ByteArray) (l' : List PartT), Hid (Wr g v' s' 0 w ∧ Wp g v' l' w ∧ Few l' s'.size ∧ Below g w w ∧ allF f l' s'.data.toList = some l)) := ⟨_, s, [], hr, hp, Few.nil hr.size, Below.refl _ _, h⟩
  clear hr hp h1 h2 h
  go_enter Tryz.func42, Tryz.ntmps42
  go_wp2_with fail
  refine H1.out.mono ?_; rintro e w1 ⟨rfl, rfl⟩
  · go_wp2_with fail
    go_loopg [] f (fun gk wx => ∃ (v' : Value) (s' : ByteArray) (l' : List PartT), Hid (Wr g v' s' 0 wx ∧ Wp g v' l' wx ∧ Few l' s'.size ∧ Below g w wx ∧ allF gk l' s'.data.toList = some l))
    case atStart => exact H0.out
    case round =>
      obtain ⟨v', s', l', HH⟩ := hrel
      clear H0
      cases gk with
      | zero => have := HH.out.2.2.2.2; rw [allF] at this; cases this
      | succ gk =>
        obtain ⟨R1, P1, F1, B1, U1⟩ := HH.out
        obtain ⟨a0, a1, a2, b0, b1, b2, ltg⟩ := three_facts R1.row
        rw [all_step] at U1
        have hmt := mt_str s'
        by_cases h1 : s'.data.toList = []
        · rw [if_pos h1] at U1
          rw [decide_eq_true h1] at hmt
          have hl' : l' = l := Option.some.inj U1
          subst hl'
          have HP1 := Lib.hid P1
          have HB1 := Lib.hid B1
          have HR1 := Lib.hid R1
          clear R1 P1 F1 B1 U1 HH h1
          go_wp2_with fail
          go_end0
          exact ⟨rfl, v', s', HR1.out, HP1.out, HB1.out⟩
        · rw [if_neg h1] at U1
          rw [decide_eq_false h1] at hmt
          obtain ⟨l3, u3, hi3, hq3⟩ : ∃ l3 u3, wpartF gk 0 l' s'.data.toList = some (l3, u3) ∧ allF gk l3 u3 = some l := by
            cases hw : wpartF gk 0 l' s'.data.toList with
            | none => rw [hw] at U1; cases U1
            | some x => rw [hw] at U1; exact ⟨x.1, x.2, rfl, U1⟩
          have HC := Lib.hid (part_all gk 0 g v' s' l' l3 u3 wr R1 P1 F1 hi3)
          have HB1 := Lib.hid B1
          have HN := Lib.hid hq3
          clear R1 P1 F1 B1 U1 HH h1 hi3 hq3
          go_wp2_with fail
          refine HC.out.mono ?_; rintro e w4 ⟨s4, hs4, ⟨rfl, v4, R4, P4, B4⟩, F4, L4⟩
          go_wp2_with fail
          go_roundg gk
          case measure => omega
          case rel => exact ⟨v4, s4, l3, ⟨R4, P4, F4, HB1.out.trans B4, by rw [hs4]; exact HN.out⟩⟩
set_option maxRecDepth 100000 in
set_option maxHeartbeats 4000000 in
theorem call_tilde (g rb : Nat) (f : Nat) (s t : ByteArray) (l : List PartT) (w : World) (hr : Wr g (.slice none 0 0) s 0 w) (hp : Wp g (.slice none 0 0) [] w) (hc : w.cell? ⟨rb, 0, none⟩ = some (.string s)) (hs : s.data.toList = 126 :: t.data.toList) (h1 : s.data.toList = [126] ∨ [126, 47].isPrefixOf s.data.toList = true) (h : allF f [.mk 5 [] [] false []] t.data.toList = some l) :
    Calls Tryz.prog 42 #[.pointer (some ⟨g, 0, none⟩), .pointer (some ⟨rb, 0, none⟩)] w (AllPost g l w) := by
  obtain ⟨e1, e2, e3⟩ := tail_of hs
  have HT := Lib.hid (take_at g 1 (.slice none 0 0) s 0 w hr (by omega))
  rw [e1] at HT
  have HPT := Lib.hid (fun W => put_plain (d := 0) hp (Few.nil hr.size) 5 ⟨#[]⟩ ⟨#[]⟩ false (Nat.zero_le _) W t)
  have HFW := Lib.hid (few_plain (k := 5) (t := ⟨#[]⟩) (op := ⟨#[]⟩) (q := false) (m := t.size) (Few.nil hr.size) (by show 0 + _ ≤ _; omega) (by omega))
  have HG := Lib.hid (Nat.le_of_lt hr.row.lt)
  have HQ := Lib.hid h
  have hst := str_tilde s
  by_cases h126 : s.data.toList = [126]
  · rw [decide_eq_true h126] at hst
    clear hr hp h1 h hs e1 e2 e3 h126
    go_enter Tryz.func42, Tryz.ntmps42
    go_wp2_with fail
    refine HT.out.mono ?_; rintro e w1 ⟨rfl, R1, K1⟩
    obtain ⟨z0, z1, z2, y0, y1, y2, ltz⟩ := three_facts R1.row
    have HR := Lib.hid R1
    have HK := Lib.hid K1
    clear R1 K1
    go_wp2_with fail
    refine (HPT.out _ HK.out HR.out).mono ?_; rintro e w3 ⟨rfl, v3, R3, P3, B3⟩
    have H0 : Hid (∃ (v' : Value) (s' : ByteArray) (l' : List PartT), Hid (Wr g v' s' 0 w3 ∧ Wp g v' l' w3 ∧ Few l' s'.size ∧ Below g w w3 ∧ allF f l' s'.data.toList = some l)) := ⟨v3, t, _, R3, P3, HFW.out, (HK.out.below HG.out).trans B3, HQ.out⟩
    clear R3 P3 B3 z0 z1 z2 y0 y1 y2
    go_wp2_with fail
    go_loopg [] f (fun gk wx => ∃ (v' : Value) (s' : ByteArray) (l' : List PartT), Hid (Wr g v' s' 0 wx ∧ Wp g v' l' wx ∧ Few l' s'.size ∧ Below g w wx ∧ allF gk l' s'.data.toList = some l))
    case atStart => exact H0.out
    case round =>
      obtain ⟨v', s', l', HH⟩ := hrel
      clear H0
      cases gk with
      | zero => have := HH.out.2.2.2.2; rw [allF] at this; cases this
      | succ gk =>
        obtain ⟨R1, P1, F1, B1, U1⟩ := HH.out
        obtain ⟨a0, a1, a2, b0, b1, b2, ltg⟩ := three_facts R1.row
        rw [all_step] at U1
        have hmt := mt_str s'
        by_cases h1 : s'.data.toList = []
        · rw [if_pos h1] at U1
          rw [decide_eq_true h1] at hmt
          have hl' : l' = l := Option.some.inj U1
          subst hl'
          have HP1 := Lib.hid P1
          have HB1 := Lib.hid B1
          have HR1 := Lib.hid R1
          clear R1 P1 F1 B1 U1 HH h1
          go_wp2_with fail
          go_end0
          exact ⟨rfl, v', s', HR1.out, HP1.out, HB1.out⟩
        · rw [if_neg h1] at U1
          rw [decide_eq_false h1] at hmt
          obtain ⟨l3, u3, hi3, hq3⟩ : ∃ l3 u3, wpartF gk 0 l' s'.data.toList = some (l3, u3) ∧ allF gk l3 u3 = some l := by
            cases hw : wpartF gk 0 l' s'.data.toList with
            | none => rw [hw] at U1; cases U1
            | some x => rw [hw] at U1; exact ⟨x.1, x.2, rfl, U1⟩
          have HC := Lib.hid (part_all gk 0 g v' s' l' l3 u3 wr R1 P1 F1 hi3)
          have HB1 := Lib.hid B1
          have HN := Lib.hid hq3
          clear R1 P1 F1 B1 U1 HH h1 hi3 hq3
          go_wp2_with fail
          refine HC.out.mono ?_; rintro e w4 ⟨s4, hs4, ⟨rfl, v4, R4, P4, B4⟩, F4, L4⟩
          go_wp2_with fail
          go_roundg gk
          case measure => omega
          case rel => exact ⟨v4, s4, l3, ⟨R4, P4, F4, HB1.out.trans B4, by rw [hs4]; exact HN.out⟩⟩
  · rw [decide_eq_false h126] at hst
    have H1 := Lib.hid (has_at g ⟨#[126, 47]⟩ (.slice none 0 0) s 0 true w hr (h1.resolve_left h126))
    clear hr hp h1 h hs e1 e2 e3 h126
    go_enter Tryz.func42, Tryz.ntmps42
    go_wp2_with fail
    refine H1.out.mono ?_; rintro e w1 ⟨rfl, rfl⟩
    go_wp2_with fail
    refine HT.out.mono ?_; rintro e w1 ⟨rfl, R1, K1⟩
    obtain ⟨z0, z1, z2, y0, y1, y2, ltz⟩ := three_facts R1.row
    have HR := Lib.hid R1
    have HK := Lib.hid K1
    clear R1 K1
    go_wp2_with fail
    refine (HPT.out _ HK.out HR.out).mono ?_; rintro e w3 ⟨rfl, v3, R3, P3, B3⟩
    have H0 : Hid (∃ (v' : Value) (s' : ByteArray) (l' : List PartT), Hid (Wr g v' s' 0 w3 ∧ Wp g v' l' w3 ∧ Few l' s'.size ∧ Below g w w3 ∧ allF f l' s'.data.toList = some l)) := ⟨v3, t, _, R3, P3, HFW.out, (HK.out.below HG.out).trans B3, HQ.out⟩
    clear R3 P3 B3 z0 z1 z2 y0 y1 y2
    go_wp2_with fail
    go_loopg [] f (fun gk wx => ∃ (v' : Value) (s' : ByteArray) (l' : List PartT), Hid (Wr g v' s' 0 wx ∧ Wp g v' l' wx ∧ Few l' s'.size ∧ Below g w wx ∧ allF gk l' s'.data.toList = some l))
    case atStart => exact H0.out
    case round =>
      obtain ⟨v', s', l', HH⟩ := hrel
      clear H0
      cases gk with
      | zero => have := HH.out.2.2.2.2; rw [allF] at this; cases this
      | succ gk =>
        obtain ⟨R1, P1, F1, B1, U1⟩ := HH.out
        obtain ⟨a0, a1, a2, b0, b1, b2, ltg⟩ := three_facts R1.row
        rw [all_step] at U1
        have hmt := mt_str s'
        by_cases h1 : s'.data.toList = []
        · rw [if_pos h1] at U1
          rw [decide_eq_true h1] at hmt
          have hl' : l' = l := Option.some.inj U1
          subst hl'
          have HP1 := Lib.hid P1
          have HB1 := Lib.hid B1
          have HR1 := Lib.hid R1
          clear R1 P1 F1 B1 U1 HH h1
          go_wp2_with fail
          go_end0
          exact ⟨rfl, v', s', HR1.out, HP1.out, HB1.out⟩
        · rw [if_neg h1] at U1
          rw [decide_eq_false h1] at hmt
          obtain ⟨l3, u3, hi3, hq3⟩ : ∃ l3 u3, wpartF gk 0 l' s'.data.toList = some (l3, u3) ∧ allF gk l3 u3 = some l := by
            cases hw : wpartF gk 0 l' s'.data.toList with
            | none => rw [hw] at U1; cases U1
            | some x => rw [hw] at U1; exact ⟨x.1, x.2, rfl, U1⟩
          have HC := Lib.hid (part_all gk 0 g v' s' l' l3 u3 wr R1 P1 F1 hi3)
          have HB1 := Lib.hid B1
          have HN := Lib.hid hq3
          clear R1 P1 F1 B1 U1 HH h1 hi3 hq3
          go_wp2_with fail
          refine HC.out.mono ?_; rintro e w4 ⟨s4, hs4, ⟨rfl, v4, R4, P4, B4⟩, F4, L4⟩
          go_wp2_with fail
          go_roundg gk
          case measure => omega
          case rel => exact ⟨v4, s4, l3, ⟨R4, P4, F4, HB1.out.trans B4, by rw [hs4]; exact HN.out⟩⟩
theorem call_ok (g rb : Nat) (f : Nat) (s : ByteArray) (l : List PartT) (w : World) (hr : Wr g (.slice none 0 0) s 0 w) (hp : Wp g (.slice none 0 0) [] w) (hc : w.cell? ⟨rb, 0, none⟩ = some (.string s)) (h : wordF f s.data.toList = some l) :
    Calls Tryz.prog 42 #[.pointer (some ⟨g, 0, none⟩), .pointer (some ⟨rb, 0, none⟩)] w (AllPost g l w) := by
  unfold wordF at h
  by_cases h1 : s.data.toList = [126] ∨ [126, 47].isPrefixOf s.data.toList = true
  · rw [if_pos h1] at h
    obtain ⟨t, ht⟩ : ∃ t : ByteArray, s.data.toList = 126 :: t.data.toList := cons_of (by
      rcases h1 with h | h
      · rw [h]; rfl
      · obtain ⟨r, hr⟩ := List.isPrefixOf_iff_prefix.1 h
        rw [← hr]; rfl)
    rw [ht] at h
    exact call_tilde g rb f s t l w hr hp hc ht h1 h
  · rw [if_neg h1] at h
    refine call_plain g rb f s l w hr hp hc (fun e => h1 (.inl e)) ?_ h
    cases hb : [126, 47].isPrefixOf s.data.toList with
    | false => rfl
    | true => exact absurd (.inr hb) h1
theorem blk_under {w w' : World} {b e B : Nat} {l : List Value} (h : RowIs w b e l) (hb : Below B w w') (hlt : b < B) : RowIs w' b e l := by
  unfold RowIs; rw [hb.block b hlt]; exact h
theorem read_none (p q : Addr) (w : World) :
    CallsD Tryz.prog 69 #[.pointer (some p), .pointer (some q)] .returning w fun e u' w' => e = .returned (.tuple #[]) ∧ u' = .returning ∧ w' = w := by
  refine callsD_of_wpS Tryz.func69 rfl fun c₀ cs hu => ?_
  apply wpS_seq
  apply wpS_region
  simp [wpOpsS, go_sem, recoverD, hu, Tryz.ntmps69, Exit.thenS]
  apply wpS_seq
  apply wpS_region
  simp [wpOpsS, go_sem, Exit.thenS]
  refine wpS_cond (t := false) (by simp [Act.eval, Array.replicate]) ?_
  simp only [Bool.false_eq_true, if_false]
  refine wpS_of_wp (wp_skip ?_)
  cases c₀
  simp_all [bodyPostS, results, Tryz.results69]
/-- The three blocks that read makes first. -/
def rdW (s : ByteArray) (w : World) : World := ((w.alloc (.cells #[.slice none 0 0] 78)).alloc (.cells #[.int .i64 0] 31)).alloc (.cells #[.slice none 0 0, .string s, .int .i64 0] 90)
theorem rdW_below (s : ByteArray) (w : World) : Below w.heap.size w (rdW s w) := (((Below.refl _ _).alloc (Nat.le_refl _) _).alloc (by simp) _).alloc (by simp; omega) _
theorem rdW_rows (s : ByteArray) (w : World) : RowIs (rdW s w) w.heap.size 78 [.slice none 0 0] ∧ RowIs (rdW s w) (w.heap.size + 1) 31 [.int .i64 0] ∧ RowIs (rdW s w) (w.heap.size + 2) 90 [.slice none 0 0, .string s, .int .i64 0] := by
  have h1 := ((RowIs.new w 78 [.slice none 0 0]).alloc (.cells #[.int .i64 0] 31)).alloc (.cells #[.slice none 0 0, .string s, .int .i64 0] 90)
  have h2 := (RowIs.new (w.alloc (.cells #[.slice none 0 0] 78)) 31 [.int .i64 0]).alloc (.cells #[.slice none 0 0, .string s, .int .i64 0] 90)
  have h3 := RowIs.new ((w.alloc (.cells #[.slice none 0 0] 78)).alloc (.cells #[.int .i64 0] 31)) 90 [.slice none 0 0, .string s, .int .i64 0]
  have e : (w.alloc (.cells #[.slice none 0 0] 78)).heap.size = w.heap.size + 1 := by simp
  have e2 : ((w.alloc (.cells #[.slice none 0 0] 78)).alloc (.cells #[.int .i64 0] 31)).heap.size = w.heap.size + 2 := by simp
  rw [e] at h2
  rw [e2] at h3
  exact ⟨h1, h2, h3⟩
theorem Tab.lt {w : World} (h : Tab w) : Far w.heap.size := ⟨block_lt_of_cell (h.ops 0 (by omega)), h.max.elim fun _ hm => block_lt_of_cell hm⟩
set_option maxRecDepth 100000 in
set_option maxHeartbeats 8000000 in
theorem read_ok (rb : Nat) (f : Nat) (s : ByteArray) (hsz : s.size ≤ 1000000000) (l : List PartT) (w : World) (hT : Tab w) (hc : w.cell? ⟨rb, 0, none⟩ = some (.string s)) (h : wordF f s.data.toList = some l) :
    Calls Tryz.prog 41 #[.string s, .func (.func 42) #[] #[.pointer (some ⟨rb, 0, none⟩)]] w fun e w' => ∃ a n c, e = .returned (.tuple #[.slice a n c, .int .i64 0]) ∧ WordIn w' (fun b => w.heap.size + 2 < b) (.slice a n c) l ∧ Below w.heap.size w w' := by
  have hlt := block_lt_of_cell hc
  have hlt' : rb < w.heap.size := hlt
  obtain ⟨x0, x1, x2⟩ := rdW_rows s w
  have B0 := rdW_below s w
  have hfar := hT.lt
  have R0 : Wr (w.heap.size + 2) (.slice none 0 0) s 0 (rdW s w) := ⟨x2, hsz, by omega, ⟨by have := hfar.1; omega, by have := hfar.2; omega⟩, hT.below hfar B0⟩
  have P0 : Wp (w.heap.size + 2) (.slice none 0 0) [] (rdW s w) := ⟨⟨[], World.ownsRow_nil _ _ _ _, .nil⟩⟩
  have HA0 := call_ok (w.heap.size + 2) rb f s l (rdW s w) R0 P0 ((B0.cell (p := ⟨rb, 0, none⟩) hlt').trans hc) h
  have HA : Hid (Calls Tryz.prog 42 #[.pointer (some ⟨w.heap.size + 1 + 1, 0, none⟩), .pointer (some ⟨rb, 0, none⟩)] (((w.alloc (.cells #[.slice none 0 0] 78)).alloc (.cells #[.int .i64 0] 31)).alloc (.cells #[.slice none 0 0, .string s, .int .i64 0] 90)) (AllPost (w.heap.size + 2) l (rdW s w))) := HA0
  have hmf : ∀ (fn : Fn) (first cap : Array Value) (w : World), (Instr.makeFunc fn first cap).run Tryz.prog w = .ok (.func fn first cap) w := fun _ _ _ _ => rfl
  have HB0 := Lib.hid B0
  have HX := Lib.hid (And.intro x0 x1)
  clear hT hc h x0 x1 x2 B0 R0 P0 HA0 hlt hlt' hfar hsz
  go_enter_defers Tryz.func41, Tryz.ntmps41
  go_wp2_with fail
  refine HA.out.mono ?_
  rintro e w1 ⟨rfl, v1, u1, R1, P1, B1⟩
  obtain ⟨z0, z1, z2, y0, y1, y2, ltz⟩ := three_facts R1.row
  have ra := blk_under HX.out.1 B1 (by omega)
  have rb1 := blk_under HX.out.2 B1 (by omega)
  have q0 : w1.cell? ⟨w.heap.size, 0, none⟩ = some (.slice none 0 0) := by rw [ra.cell]; rfl
  have q1 : w1.cell? ⟨w.heap.size + 1, 0, none⟩ = some (.int .i64 0) := by rw [rb1.cell]; rfl
  have f0 := ra.free 0
  have f1 := rb1.free 0
  have l0 := ra.lt
  have l1 := rb1.lt
  obtain ⟨va, vn, vc, rfl⟩ : ∃ a n c, v1 = .slice a n c := by
    obtain ⟨xs, h1, _⟩ := P1.has
    obtain ⟨a, c, e⟩ := own_slice h1
    exact ⟨a, _, c, e⟩
  have HP1 := Lib.hid P1
  have HB1 := Lib.hid (HB0.out.trans (B1.mono (show w.heap.size ≤ w.heap.size + 2 by omega)))
  have HRA := Lib.hid ra
  have HRB := Lib.hid rb1
  clear R1 P1 B1 ra rb1
  go_wp2_with fail
  have hf0 := ((HRA.out.set 0 (.slice va vn vc)).other (show w.heap.size ≠ w.heap.size + 1 by omega) (.int .i64 0) (a := ⟨w.heap.size + 1, 0, none⟩))
  have hf1 := ((HRB.out.other (show w.heap.size + 1 ≠ w.heap.size by omega) (.slice va vn vc) (a := ⟨w.heap.size, 0, none⟩)).set 0 (.int .i64 0))
  have g0 : ((w1.setCell ⟨w.heap.size, 0, none⟩ (.slice va vn vc)).setCell ⟨w.heap.size + 1, 0, none⟩ (.int .i64 0)).cell? ⟨w.heap.size, 0, none⟩ = some (.slice va vn vc) := by rw [hf0.cell]; rfl
  have g1 : ((w1.setCell ⟨w.heap.size, 0, none⟩ (.slice va vn vc)).setCell ⟨w.heap.size + 1, 0, none⟩ (.int .i64 0)).cell? ⟨w.heap.size + 1, 0, none⟩ = some (.int .i64 0) := by rw [hf1.cell]; rfl
  have HB5 := Lib.hid ((HB1.out.setCell (p := ⟨w.heap.size, 0, none⟩) (Nat.le_refl _) (.slice va vn vc)).setCell (p := ⟨w.heap.size + 1, 0, none⟩) (Nat.le_succ _) (.int .i64 0))
  refine leaves_cons (f := 69) (args := #[.pointer (some ⟨w.heap.size, 0, none⟩), .pointer (some ⟨w.heap.size + 1, 0, none⟩)]) (by simp) (by simp [go_sem]) ?_
  refine (read_none _ _ _).mono ?_
  rintro e u' w'' ⟨rfl, rfl, rfl⟩
  have HW : WordIn ((w1.setCell ⟨w.heap.size, 0, none⟩ (.slice va vn vc)).setCell ⟨w.heap.size + 1, 0, none⟩ (.int .i64 0)) (fun b => w.heap.size + 2 < b) (.slice va vn vc) l :=
    HP1.out.word.keep (by simp) fun b hb _ => ⟨(Below.heap_setCell _ _ _ _ (by show b ≠ w.heap.size + 1; omega)).trans (Below.heap_setCell _ _ _ _ (by show b ≠ w.heap.size; omega)), hb⟩
  simp [Leaves, settle, results, Tryz.results41, go_sem, g0, g1]
  exact ⟨va, vn, vc, ⟨rfl, rfl, rfl⟩, HW, HB5.out⟩
set_option maxRecDepth 100000 in
set_option maxHeartbeats 4000000 in
theorem parse_ok (f : Nat) (s : ByteArray) (hsz : s.size ≤ 1000000000) (l : List PartT) (w : World) (hT : Tab w) (h : wordF f s.data.toList = some l) :
    Calls Tryz.prog 22 #[.string s] w fun e w' => ∃ a n c, e = .returned (.tuple #[.slice a n c, .int .i64 0]) ∧ WordIn w' (fun b => w.heap.size < b) (.slice a n c) l ∧ Below w.heap.size w w' := by
  have HR := Lib.hid (read_ok w.heap.size f s hsz l (w.alloc (.cells #[.string s] 9)) (hT.below hT.lt ((Below.refl _ _).alloc (Nat.le_refl _) _)) (by simp) h)
  have hmf : ∀ (fn : Fn) (first cap : Array Value) (w : World), (Instr.makeFunc fn first cap).run Tryz.prog w = .ok (.func fn first cap) w := fun _ _ _ _ => rfl
  clear hT h
  go_enter Tryz.func22, Tryz.ntmps22
  go_wp2_with fail
  refine HR.out.mono ?_; rintro e w1 ⟨a, n, c, rfl, W1, B1⟩
  go_wp2_with fail
  go_ret2
  exact ⟨a, n, c, rfl, W1.keep (Nat.le_refl _) fun b hb _ => ⟨rfl, by simp at hb; omega⟩, ((Below.refl _ _).alloc (Nat.le_refl _) _).trans (B1.mono (by simp))⟩
end Go.Proofs.YtkmpbkhlcapbgaaGreatDoor
