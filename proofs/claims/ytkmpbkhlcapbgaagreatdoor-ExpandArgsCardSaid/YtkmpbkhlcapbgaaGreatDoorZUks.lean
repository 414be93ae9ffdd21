/-
  DERIVED. slices.Equal at variables and at texts that are the same; env's Same at the same Env. ExpandQuoted: what its calls come to.
-/
import Derived.Test.YtkmpbkhlcapbgaaGreatDoorZ16
import Derived.Deep.LoopGhost
import Derived.Deep.RegionWith
import Derived.Test.YtkmpbkhlcapbgaaGreatDoorZ45
import Derived.Test.YtkmpbkhlcapbgaaGreatDoorZ46
namespace Go.Proofs.YtkmpbkhlcapbgaaGreatDoor
open Go Go.RowKit
set_option maxRecDepth 100000 in
set_option maxHeartbeats 8000000 in
theorem eqs_any (l : List (List UInt8)) (S1 S2 : Nat → Prop) (v1 v2 : Value) (w : World) (h1 : ArgsS w S1 v1 l) (h2 : ArgsS w S2 v2 l) :
    Calls Tryz.prog 37 #[v1, v2] w fun e w' => e = .returned (.bool true) ∧ Below w.heap.size w w' := by
  obtain ⟨a1, c1, rfl, -, hl1, hc1⟩ := h1
  obtain ⟨a2, c2, rfl, -, -, hc2⟩ := h2
  have HC1 := Lib.hid hc1
  have HC2 := Lib.hid hc2
  obtain ⟨n, hn⟩ : ∃ n, l.length = n := ⟨_, rfl⟩
  have HN := Lib.hid hn
  rw [hn] at hl1 ⊢
  clear hc1 hc2 hn
  go_enter Tryz.func37, Tryz.ntmps37
  go_wp2_with fail
  go_loopg [13] n (fun g s13 wx => Below w.heap.size w wx ∧ ∃ i : Nat, i + g = n ∧ s13 = .int .i64 i)
  case atStart => exact ⟨Below.refl _ _, 0, by omega, rfl⟩
  case round =>
    obtain ⟨hb, i, hig, rfl⟩ := hrel
    have HB := Lib.hid hb
    clear hb
    cases gk with
    | zero =>
      obtain rfl : i = n := by omega
      go_wp2_with fail
      go_ret
      exact ⟨rfl, HB.out⟩
    | succ g =>
      have hi : i < n := by omega
      have hi' : i < l.length := by rw [HN.out]; exact hi
      obtain ⟨b, off, rfl, hc⟩ : ∃ b off, a1 = some ⟨b, off, none⟩ ∧ ∀ i (h : i < l.length), w.cell? ⟨b, off + i, none⟩ = some (.string ⟨l[i].toArray⟩) := by
        rcases HC1.out with h | ⟨b, off, h, _, _, h2⟩
        · rw [h] at hi'; simp at hi'
        · exact ⟨b, off, h, h2⟩
      obtain ⟨b2, off2, rfl, hc2⟩ : ∃ b off, a2 = some ⟨b, off, none⟩ ∧ ∀ i (h : i < l.length), w.cell? ⟨b, off + i, none⟩ = some (.string ⟨l[i].toArray⟩) := by
        rcases HC2.out with h | ⟨b, off, h, _, _, h2⟩
        · rw [h] at hi'; simp at hi'
        · exact ⟨b, off, h, h2⟩
      have e1 : wr.drew.cell? ⟨b, off + i, none⟩ = some (.string ⟨l[i].toArray⟩) := (HB.out.cell (show (⟨b, off + i, none⟩ : Addr).block < w.heap.size from block_lt_of_cell (hc i hi'))).trans (hc i hi')
      have e2 : wr.drew.cell? ⟨b2, off2 + i, none⟩ = some (.string ⟨l[i].toArray⟩) := (HB.out.cell (show (⟨b2, off2 + i, none⟩ : Addr).block < w.heap.size from block_lt_of_cell (hc2 i hi'))).trans (hc2 i hi')
      obtain ⟨T, hT⟩ : ∃ T : ByteArray, (⟨l[i].toArray⟩ : ByteArray) = T := ⟨_, rfl⟩
      rw [hT] at e1 e2
      clear hc hc2 hT hi'
      go_wp2_with fail
      go_region
      all_goals
        go_wp2_with fail
        go_roundg g
        case measure => omega
        case rel => exact ⟨HB.out.drew, i + 1, by omega, by go_num⟩
set_option maxRecDepth 100000 in
set_option maxHeartbeats 8000000 in
theorem eqv_any (l : List (ByteArray × ByteArray)) (v1 v2 : Value) (w : World) (h1 : RowV w v1 l) (h2 : RowV w v2 l) :
    Calls Tryz.prog 36 #[v1, v2] w fun e w' => e = .returned (.bool true) ∧ Below w.heap.size w w' := by
  obtain ⟨a1, c1, rfl, -, hl1, hc1⟩ := h1
  obtain ⟨a2, c2, rfl, -, -, hc2⟩ := h2
  have HC1 := Lib.hid hc1
  have HC2 := Lib.hid hc2
  obtain ⟨n, hn⟩ : ∃ n, l.length = n := ⟨_, rfl⟩
  have HN := Lib.hid hn
  rw [hn] at hl1 ⊢
  clear hc1 hc2 hn
  go_enter Tryz.func36, Tryz.ntmps36
  go_wp2_with fail
  go_loopg [13] n (fun g s13 wx => Below w.heap.size w wx ∧ ∃ i : Nat, i + g = n ∧ s13 = .int .i64 i)
  case atStart => exact ⟨Below.refl _ _, 0, by omega, rfl⟩
  case round =>
    obtain ⟨hb, i, hig, rfl⟩ := hrel
    have HB := Lib.hid hb
    clear hb
    cases gk with
    | zero =>
      obtain rfl : i = n := by omega
      go_wp2_with fail
      go_ret
      exact ⟨rfl, HB.out⟩
    | succ g =>
      have hi : i < n := by omega
      have hi' : i < l.length := by rw [HN.out]; exact hi
      obtain ⟨b, off, rfl, hc⟩ : ∃ b off, a1 = some ⟨b, off, none⟩ ∧ CellsV w b off l := by
        rcases HC1.out with h | h
        · rw [h.2] at hi'; simp at hi'
        · exact h
      obtain ⟨b2, off2, rfl, hc2⟩ : ∃ b off, a2 = some ⟨b, off, none⟩ ∧ CellsV w b off l := by
        rcases HC2.out with h | h
        · rw [h.2] at hi'; simp at hi'
        · exact h
      obtain ⟨p0, p1⟩ := hc i hi'
      obtain ⟨q0, q1⟩ := hc2 i hi'
      have e1 : wr.drew.cell? ⟨b, off + i * 2, none⟩ = some (.string l[i].1) := (HB.out.cell (show (⟨b, off + i * 2, none⟩ : Addr).block < w.heap.size from block_lt_of_cell p0)).trans p0
      have e2 : wr.drew.cell? ⟨b, off + i * 2 + 1, none⟩ = some (.string l[i].2) := (HB.out.cell (show (⟨b, off + i * 2 + 1, none⟩ : Addr).block < w.heap.size from block_lt_of_cell p1)).trans p1
      have e3 : wr.drew.cell? ⟨b2, off2 + i * 2, none⟩ = some (.string l[i].1) := (HB.out.cell (show (⟨b2, off2 + i * 2, none⟩ : Addr).block < w.heap.size from block_lt_of_cell q0)).trans q0
      have e4 : wr.drew.cell? ⟨b2, off2 + i * 2 + 1, none⟩ = some (.string l[i].2) := (HB.out.cell (show (⟨b2, off2 + i * 2 + 1, none⟩ : Addr).block < w.heap.size from block_lt_of_cell q1)).trans q1
      obtain ⟨T, hT⟩ : ∃ T : ByteArray, l[i].1 = T := ⟨_, rfl⟩
      obtain ⟨U, hU⟩ : ∃ U : ByteArray, l[i].2 = U := ⟨_, rfl⟩
      rw [hT] at e1 e3
      rw [hU] at e2 e4
      clear hc hc2 hT hU hi' p0 p1 q0 q1
      go_wp2_with fail
      go_region
      all_goals
        go_wp2_with fail
        go_roundg g
        case measure => omega
        case rel => exact ⟨HB.out.drew, i + 1, by omega, by go_num⟩
set_option maxRecDepth 100000 in
set_option maxHeartbeats 8000000 in
/-- The same Env, in whatever blocks. -/
theorem same_any (e : EnvT) (va : Option Addr) (nv cv : Nat) (aa : Option Addr) (na ca : Nat) (vb : Option Addr) (nw cw : Nat) (ab : Option Addr) (nb cb : Nat) (S1 S2 : Nat → Prop) (st : Int) (fl : ByteArray) (w : World) (h1 : EnvC w S1 (.slice va nv cv) (.slice aa na ca) e) (h2 : EnvC w S2 (.slice vb nw cw) (.slice ab nb cb) e) :
    Calls Tryz.prog 19 #[.agg #[.slice va nv cv, .slice aa na ca, .int .i64 st, .string fl], .agg #[.slice vb nw cw, .slice ab nb cb, .int .i64 st, .string fl]] w fun x w' => x = .returned (.bool true) ∧ Below w.heap.size w w' := by
  obtain ⟨W2, hW2⟩ : ∃ W2, ((w.alloc (.cells #[.slice va nv cv, .slice aa na ca, .int .i64 st, .string fl] 28)).alloc (.cells #[.slice vb nw cw, .slice ab nb cb, .int .i64 st, .string fl] 28)) = W2 := ⟨_, rfl⟩
  have r1 : RowIs W2 w.heap.size 28 [.slice va nv cv, .slice aa na ca, .int .i64 st, .string fl] := by rw [← hW2]; exact (RowIs.new w _ _).alloc _
  have r2 : RowIs W2 (w.heap.size + 1) 28 [.slice vb nw cw, .slice ab nb cb, .int .i64 st, .string fl] := by
    have := RowIs.new (w.alloc (.cells #[.slice va nv cv, .slice aa na ca, .int .i64 st, .string fl] 28)) 28 [.slice vb nw cw, .slice ab nb cb, .int .i64 st, .string fl]
    rw [World.size_alloc] at this
    rw [← hW2]; exact this
  have b2 : Below w.heap.size w W2 := by rw [← hW2]; exact ((Below.refl _ _).alloc (Nat.le_refl _) _).alloc (by simp) _
  have HV := Lib.hid (eqv_any (bv e.vars) _ _ W2 (h1.vars.1.below b2) (h2.vars.1.below b2))
  have hk : ∀ (S : Nat → Prop) v, ArgsS w S v e.args → ∀ W, Below W2.heap.size W2 W → ArgsS W S v e.args := fun S v h W hW => h.keep (Nat.le_trans b2.size hW.size) fun b q1 q2 => ⟨(hW.block b (Nat.lt_of_lt_of_le q2 b2.size)).trans (b2.block b q2), q1⟩
  have HS : Hid (∀ W, Below W2.heap.size W2 W → Calls Tryz.prog 37 #[.slice aa na ca, .slice ab nb cb] W fun e w' => e = .returned (.bool true) ∧ Below W.heap.size W w') := fun W hW => eqs_any e.args _ _ _ _ W (hk _ _ h1.args W hW) (hk _ _ h2.args W hW)
  have HR1 := Lib.hid r1
  have HR2 := Lib.hid r2
  have HB2 := Lib.hid b2
  have r1e := r1
  have r2e := r2
  rw [← hW2] at r1e r2e
  obtain ⟨x0, x1, x2, x3, x4, x5, x6, x7, x8⟩ := four_facts r1e
  obtain ⟨y0, y1, y2, y3, y4, y5, y6, y7, y8⟩ := four_facts r2e
  have HW := Lib.hid hW2
  clear h1 h2 r1 r2 b2 hk r1e r2e hW2
  go_enter Tryz.func19, Tryz.ntmps19
  go_wp2_with fail
  rw [HW.out]
  clear HW x0 x1 x2 x3 x4 x5 x6 x7 x8 y0 y1 y2 y3 y4 y5 y6 y7 y8
  refine HV.out.mono ?_; rintro x w1 ⟨rfl, hb1⟩
  obtain ⟨p0, p1, p2, p3, p4, p5, p6, p7, p8⟩ := four_facts (HR1.out.below hb1)
  obtain ⟨q0, q1, q2, q3, q4, q5, q6, q7, q8⟩ := four_facts (HR2.out.below hb1)
  have HB1 := Lib.hid hb1
  clear hb1
  go_wp2_with fail
  refine (HS.out _ HB1.out).mono ?_; rintro x w2 ⟨rfl, hb2⟩
  have b12 := HB1.out.trans (hb2.mono HB1.out.size)
  obtain ⟨p0, p1, p2, p3, p4, p5, p6, p7, p8⟩ := four_facts (HR1.out.below b12)
  obtain ⟨q0, q1, q2, q3, q4, q5, q6, q7, q8⟩ := four_facts (HR2.out.below b12)
  have HBF := Lib.hid (HB2.out.trans (b12.mono HB2.out.size))
  clear hb2 b12
  go_wp2_with fail
  go_ret
  exact ⟨rfl, HBF.out⟩
end Go.Proofs.YtkmpbkhlcapbgaaGreatDoor
namespace Go.Proofs.YtkmpbkhlcapbgaaGreatDoor
open Go Go.RowKit
theorem get_set {e : EnvT} (h : Rising e.vars) (s v : List UInt8) (hn : isName s = true) : (e.set s v).get s = some v := by
  unfold EnvT.set
  rw [if_pos hn]
  unfold EnvT.get
  have h2 : Rising (setV e.vars s v) := by rw [set_ins h]; exact ins_rising h
  rw [get_getV h2, set_ins h, get_ins s v e.vars h]
/-- One field, that text: what Fields hands back. -/
def FieldRes (E : EnvT) (s : ByteArray) (w : World) (x : Ending) (w' : World) : Prop :=
  ∃ q c va nv cv aa na ca, x = .returned (.tuple #[.slice (some ⟨q, 0, none⟩) 1 c, envVal va nv cv aa na ca E, .agg #[.int .i64 0, .string ⟨#[]⟩]]) ∧ w'.cell? ⟨q, 0, none⟩ = some (.string s) ∧ EnvA w' (.slice va nv cv) (.slice aa na ca) E ∧ Below w.heap.size w w'
theorem field_res (fw : Nat) (s : ByteArray) (hs : s.size ≤ 1000000000) (l : List PartT) (hl : wordF fw s.data.toList = some l) (hsm : smallL l) (f : Nat) (hf : f ≤ 1000000) (E : EnvT) (r : RowT) (ho : partsE P0 f E ([], []) l = some (.ok E r)) (T : ByteArray) (m : List UInt8) (hr : splitR r E.ifs = [(T.data.toList, m)])
    (va : Option Addr) (nv cv : Nat) (aa : Option Addr) (na ca : Nat) (w : World) (hE : EnvA w (.slice va nv cv) (.slice aa na ca) E) (hT : Tab w) :
    Calls Tryz.prog 12 #[envVal va nv cv aa na ca E, .string s] w (FieldRes E T w) := by
  refine (fields_ok fw s hs l hl hsm f hf E _ ho va nv cv aa na ca w hE hT).mono ?_
  rintro x w' ⟨lv, va2, nv2, cv2, aa2, na2, ca2, rfl, hown, hE2, hb⟩
  have hs2 : splitR (resOf E (.ok E r)).1 (resOf E (.ok E r)).2.1.ifs = [(T.data.toList, m)] := hr
  rw [hs2] at hown
  obtain ⟨a, c, rfl⟩ := own_slice hown
  obtain ⟨q, rfl, h1, -⟩ := field_at hown 0 Nat.one_pos
  exact ⟨q, c, va2, nv2, cv2, aa2, na2, ca2, rfl, h1, hE2, hb⟩
/-- A text in single quotes. -/
theorem q_single (E : EnvT) (s : ByteArray) (hs : s.size ≤ 100) (hq : (39 : UInt8) ∉ s.data.toList) (hf : E.vars.length ≤ 1000) (va : Option Addr) (nv cv : Nat) (aa : Option Addr) (na ca : Nat) (w : World) (hE : EnvA w (.slice va nv cv) (.slice aa na ca) E) (hT : Tab w) :
    Calls Tryz.prog 12 #[envVal va nv cv aa na ca E, .string (⟨#[39]⟩ ++ s ++ ⟨#[39]⟩)] w (FieldRes E s w) := by
  have hl : s.data.toList.length ≤ 100 := by simpa using hs
  have hw : (⟨#[39]⟩ ++ s ++ ⟨#[39]⟩ : ByteArray).data.toList = 39 :: (s.data.toList ++ [39]) := by simp
  exact field_res 3 _ (by rw [ByteArray.size_append, ByteArray.size_append]; show 1 + s.size + 1 ≤ _; omega) [.mk 2 s.data.toList [] false []] (by rw [hw]; exact word_quoted _ hq)
    (by rw [smallL_cons, smallL_nil, smallP_mk, smallL_nil]; exact ⟨⟨by omega, by simp, by decide, trivial⟩, trivial⟩) 3 (by decide) E _
    (parts_one P0 1 E ([], []) _ E (putR ([], []) s.data.toList 113) (part_quo P0 1 E ([], []) s.data.toList [] false [] (by show 0 + s.data.toList.length + 1 ≤ _; omega) (by omega))) s _ (split_quoted E.ifs s.data.toList) va nv cv aa na ca w hE hT
/-- A variable in double quotes. -/
theorem q_double (E : EnvT) (s : ByteArray) (hs : s.size ≤ 100) (hg : E.get [118] = some s.data.toList) (hf : E.vars.length ≤ 1000) (va : Option Addr) (nv cv : Nat) (aa : Option Addr) (na ca : Nat) (w : World) (hE : EnvA w (.slice va nv cv) (.slice aa na ca) E) (hT : Tab w) :
    Calls Tryz.prog 12 #[envVal va nv cv aa na ca E, .string ⟨#[34, 36, 118, 34]⟩] w (FieldRes E s w) := by
  have hl : s.data.toList.length ≤ 100 := by simpa using hs
  exact field_res 9 _ (by decide) _ word_v (small_x [118] true (by decide)) 4 (by decide) E (putR ([], []) s.data.toList 113)
    (parts_one P0 2 E ([], []) _ E _ (part_val P0 2 E ([], []) [118] [] true [] s.data.toList (by decide) hg (by decide) (by decide) rfl (by show 0 + s.data.toList.length + 1 ≤ _; omega) (by omega))) s _ (split_quoted E.ifs s.data.toList) va nv cv aa na ca w hE hT
/-- A variable, as one text. -/
theorem q_one (E : EnvT) (s : ByteArray) (hs : s.size ≤ 100) (hg : E.get [118] = some s.data.toList) (hf : E.vars.length ≤ 1000) (va : Option Addr) (nv cv : Nat) (aa : Option Addr) (na ca : Nat) (w : World) (hE : EnvA w (.slice va nv cv) (.slice aa na ca) E) (hT : Tab w) :
    Calls Tryz.prog 14 #[envVal va nv cv aa na ca E, .string ⟨#[36, 118]⟩] w fun x w' => ∃ va2 nv2 cv2 aa2 na2 ca2, x = .returned (.tuple #[.string s, envVal va2 nv2 cv2 aa2 na2 ca2 E, .agg #[.int .i64 0, .string ⟨#[]⟩]]) ∧ Below w.heap.size w w' := by
  have hl : s.data.toList.length ≤ 100 := by simpa using hs
  refine (one_ok 9 _ (by decide) _ word_v2 (small_x [118] false (by decide)) 4 (by decide) E _
    (parts_one P0 2 E ([], []) _ E _ (part_val P0 2 E ([], []) [118] [] false [] s.data.toList (by decide) hg (by decide) (by decide) rfl (by show 0 + s.data.toList.length + 1 ≤ _; omega) (by omega))) va nv cv aa na ca w hE hT).mono ?_
  rintro x w' ⟨va2, nv2, cv2, aa2, na2, ca2, rfl, -, hb⟩
  have hfl : flatR (putR ([], []) s.data.toList (sortC false)) = s.data.toList := flatR_put _ _ (by decide)
  exact ⟨va2, nv2, cv2, aa2, na2, ca2, by simp only [resOf, hfl], hb⟩
end Go.Proofs.YtkmpbkhlcapbgaaGreatDoor
