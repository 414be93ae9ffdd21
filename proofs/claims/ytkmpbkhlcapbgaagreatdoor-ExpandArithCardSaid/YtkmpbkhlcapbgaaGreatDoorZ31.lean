/-
  DERIVED. The walk of glob's signs: a pattern's signs in a row of the call's own. The walks of the signs' has: what one byte a sign may be.
-/
import Derived.Test.YtkmpbkhlcapbgaaGreatDoorZ30
namespace Go.Proofs.YtkmpbkhlcapbgaaGreatDoor.Gb
open Go.RowKit
theorem info45 : (Tryz.prog.info? 235).map (fun i => (i.zero, i.size, i.bytes)) = some (some .nilIface, 1, 16) := by kernel_rfl
/-- How a sign lies in memory. -/
def SignRep (w : World) (base : Nat) (x : Value) (g : Sg) : Prop :=
  (g.kind = 0 ∧ x = .iface 249 (.int .u8 g.c)) ∨ (g.kind = 1 ∧ x = .iface 243 (.agg #[])) ∨ (g.kind = 2 ∧ x = .iface 237 (.agg #[])) ∨
  (g.kind = 3 ∧ ∃ sv, x = .iface 246 (.agg #[.bool g.neg, sv]) ∧ w.ownsRow base 100 2 sv g.span.length (pairCells g.span))
def AllRep (w : World) (base : Nat) (xs : List Value) (gs : List Sg) : Prop :=
  xs.length = gs.length ∧ ∀ (j : Nat) (x : Value) (g : Sg), xs[j]? = some x → gs[j]? = some g → SignRep w base x g
theorem SignRep.one {w : World} {base : Nat} {x : Value} {g : Sg} (h : SignRep w base x g) : x.oneCell' = true := by
  rcases h with ⟨_, rfl⟩ | ⟨_, rfl⟩ | ⟨_, rfl⟩ | ⟨_, sv, rfl, _⟩ <;> rfl
theorem SignRep.below {w w' : World} {base : Nat} {x : Value} {g : Sg} (h : SignRep w base x g) (hb : Below w.heap.size w w') : SignRep w' base x g := by
  rcases h with h | h | h | ⟨h, sv, hx, ho⟩
  · exact .inl h
  · exact .inr (.inl h)
  · exact .inr (.inr (.inl h))
  · exact .inr (.inr (.inr ⟨h, sv, hx, own_below ho hb⟩))
theorem SignRep.grown {w w' : World} {base base2 n : Nat} {x v : Value} {xs : List Value} {g : Sg} (h : SignRep w base x g) (hv : w.ownsRow base2 235 1 v n xs) (hg : w.grownBy w' v.ownBlock) : SignRep w' base x g := by
  rcases h with h | h | h | ⟨h, sv, hx, ho⟩
  · exact .inl h
  · exact .inr (.inl h)
  · exact .inr (.inr (.inl h))
  · exact .inr (.inr (.inr ⟨h, sv, hx, ho.kept hg (own_apart ho hv (by decide))⟩))
/-- At the head of a round of signs. -/
def SigRel (t m : ByteArray) (w : World) (g : Nat) (v k : Value) (wr : World) : Prop :=
  ∃ (i : Nat) (xs : List Value) (gs : List Sg), k = .int .i64 i ∧ i ≤ t.size ∧ RowIs wr w.heap.size 135 [.string t, .string m] ∧ wr.ownsRow w.heap.size 235 1 v xs.length xs ∧ AllRep wr w.heap.size xs gs ∧ xs.length ≤ i ∧
    gs ++ signsFrom t m i = signsFrom t m 0 ∧ Below w.heap.size w wr ∧ i + g = t.size + 1
theorem sig_step {t m : ByteArray} {w wr W0 W5 : World} {i i' n g' : Nat} {xs : List Value} {gs : List Sg} {v v' x : Value} {sg : Sg}
    (r0 : RowIs wr w.heap.size 135 [.string t, .string m]) (hown : wr.ownsRow w.heap.size 235 1 v xs.length xs) (hall : AllRep wr w.heap.size xs gs) (hx : xs.length ≤ i) (hbel : Below w.heap.size w wr)
    (hk : Below wr.heap.size wr W0) (hrep : SignRep W0 w.heap.size x sg) (hg : (W0.alloc (.cells #[x] 235)).grownBy W5 v.ownBlock) (ho : W5.ownsRow w.heap.size 235 1 v' n (xs ++ [x]))
    (hn : n = xs.length + 1) (hi : i < i' ∧ i' ≤ t.size) (hl : (gs ++ [sg]) ++ signsFrom t m i' = signsFrom t m 0) (hgg : i' + g' = t.size + 1) :
    SigRel t m w g' v' (.int .i64 i') W5 := by
  have hv := (own_below hown hk).alloc (.cells #[x] 235)
  have hk1 := hk.alloc hk.size (.cells #[x] 235)
  subst hn
  refine ⟨i', xs ++ [x], gs ++ [sg], rfl, hi.2, ?_, by simpa using ho, ⟨by simp [hall.1], ?_⟩, by simp; omega, hl, ?_, hgg⟩
  · have h1 := r0.below hk1
    unfold RowIs
    rw [hg.block _ h1.lt (fun e => own_not_row hv h1 (by decide) e.symm)]; exact h1
  · intro j y q hy hq
    by_cases hj : j < xs.length
    · rw [List.getElem?_append_left hj] at hy
      rw [List.getElem?_append_left (by rw [← hall.1]; exact hj)] at hq
      exact ((hall.2 j y q hy hq).below hk1).grown hv hg
    · have hjl : j = xs.length := by
        have := (List.getElem?_eq_some_iff.1 hy).1; simp at this; omega
      subst hjl
      rw [List.getElem?_append_right (Nat.le_refl _)] at hy
      rw [hall.1, List.getElem?_append_right (Nat.le_refl _)] at hq
      simp at hy hq; subst hy hq
      exact (hrep.below ((Below.refl _ _).alloc (Nat.le_refl _) _)).grown hv hg
  · have h1 : Below w.heap.size w (W0.alloc (.cells #[x] 235)) := hbel.trans (hk1.mono hbel.size)
    exact h1.grown hg h1.size (fun k hk' => (hv.lt k hk').1)
/-- What the walk of signs comes to. -/
def SignsPost (t m : ByteArray) (w : World) (e : Ending) (w' : World) : Prop :=
  ∃ v xs, e = .returned v ∧ w'.ownsRow w.heap.size 235 1 v xs.length xs ∧ AllRep w' w.heap.size xs (signsFrom t m 0) ∧ Below w.heap.size w w'
theorem signs_done {t m : ByteArray} {w wr : World} {i : Nat} {xs : List Value} {gs : List Sg} {v : Value} (hi : ¬ i < t.size) (hown : wr.ownsRow w.heap.size 235 1 v xs.length xs) (hall : AllRep wr w.heap.size xs gs)
    (hl : gs ++ signsFrom t m i = signsFrom t m 0) (hbel : Below w.heap.size w wr) : SignsPost t m w (.returned v) wr := by
  rw [signs_end hi, List.append_nil] at hl
  subst hl
  exact ⟨v, xs, rfl, hown, hall, hbel⟩
theorem pat_facts {t m : ByteArray} {W : World} {b0 e0 : Nat} (r0 : RowIs W b0 e0 [.string t, .string m]) :
    W.cell? ⟨b0, 0, none⟩ = some (.string t) ∧ W.cell? ⟨b0, 1, none⟩ = some (.string m) ∧ b0 < W.heap.size :=
  ⟨by rw [r0.cell]; rfl, by rw [r0.cell]; rfl, r0.lt⟩
theorem setAt_kind {t m : ByteArray} {i : Nat} {r : Sg × Nat} (h : setAt t m i = some r) : r.1.kind = 3 := by
  unfold setAt at h
  rw [Option.map_eq_some_iff] at h
  obtain ⟨q, _, rfl⟩ := h
  rfl
set_option maxRecDepth 100000 in
set_option maxHeartbeats 8000000 in
theorem signs_any (t m : ByteArray) (ht : t.size ≤ 1000000000) (w : World) :
    Calls Tryz.prog 202 #[.agg #[.string t, .string m]] w (SignsPost t m w) := by
  go_enter Tryz.func202, Tryz.ntmps202
  go_wp2_with fail
  have hstart : SigRel t m w (t.size + 1) (.slice none 0 0) (.int .i64 ((0 : Nat) : Int)) (w.alloc (.cells #[.string t, .string m] 135)) :=
    ⟨0, [], [], rfl, Nat.zero_le _, RowIs.new _ _ _, World.ownsRow_nil _ _ _ _, ⟨rfl, fun j x g h => by simp at h⟩, Nat.le_refl _, rfl, (Below.refl _ _).alloc (Nat.le_refl _) _, by omega⟩
  have HS := Lib.hid hstart; clear hstart
  go_loopg [3, 4] (t.size + 1) (fun g v k wr => SigRel t m w g v k wr)
  case atStart => exact HS.out
  case round =>
    clear HS
    obtain ⟨i, xs, gs, rfl, hi, r0, hown, hall, hx, hloop, hbel, hg⟩ := hrel
    have HG := Lib.hid hg; clear hg
    have HL := Lib.hid hloop; clear hloop
    have HALL := Lib.hid hall; clear hall
    obtain ⟨ao, cap, rfl⟩ := own_slice hown
    obtain ⟨c0, c1, l0⟩ := pat_facts r0
    by_cases hlt : i < t.size
    · cases h1 : isB t m i 42
      · have H1 := Lib.hid h1; clear h1
        cases h2 : isB t m i 63
        · have H2 := Lib.hid h2; clear h2
          cases h3 : isB t m i 91
          · have H3 := Lib.hid h3; clear h3
            have hb0 := get_bt t
            have hi2 : (i : Int) < (t.size : Int) := by omega
            go_wp2_with fail
            refine (is_at t m _ i rfl _ false H1.out _).mono ?_; rintro e w2 ⟨rfl, hk⟩
            clear c0 c1 l0; obtain ⟨c0, c1, l0⟩ := pat_facts (r0.below hk)
            go_wp2_with fail
            refine (is_at t m _ i rfl _ false H2.out _).mono ?_; rintro e w3 ⟨rfl, hb⟩
            replace hk := below_call hb hk; clear hb
            clear c0 c1 l0; obtain ⟨c0, c1, l0⟩ := pat_facts (r0.below hk)
            go_wp2_with fail
            refine (is_at t m _ i rfl _ false H3.out _).mono ?_; rintro e w4 ⟨rfl, hb⟩
            replace hk := below_call hb hk; clear hb
            clear c0 c1 l0; obtain ⟨c0, c1, l0⟩ := pat_facts (r0.below hk)
            have HO := own_below hown hk
            have hbs : w.heap.size ≤ w4.heap.size := Nat.le_trans hbel.size hk.size
            go_wp2_with (at_builtin; refine wpList_push rfl _ _ _ rfl w.heap.size 235 _ 16 Tryz.underlying232 info45 rfl _ _ _ rfl HO _ _ rfl (by simp) rfl (by unfold maxLen; omega) hbs ?_; intro v' w5 ho5 hg5; obtain ⟨ao', cap', rfl⟩ := own_slice ho5)
            have hrel' := sig_step (i' := i + 1) (g' := t.size - i) (sg := ⟨0, bt t i, false, []⟩) r0 hown HALL.out hx hbel hk (.inl ⟨rfl, rfl⟩) hg5 ho5 rfl ⟨by omega, by omega⟩ (by rw [← HL.out, signs_self hlt H1.out H2.out H3.out]; simp) (by omega)
            have hG := HG.out
            go_roundg (t.size - i)
            case measure => omega
            case rel => exact hrel'
          · have H3 := Lib.hid h3; clear h3
            have hset := set_any t m i (by omega) ht
            have HSET := Lib.hid hset; clear hset
            go_wp2_with fail
            refine (is_at t m _ i rfl _ false H1.out _).mono ?_; rintro e w2 ⟨rfl, hk⟩
            clear c0 c1 l0; obtain ⟨c0, c1, l0⟩ := pat_facts (r0.below hk)
            go_wp2_with fail
            refine (is_at t m _ i rfl _ false H2.out _).mono ?_; rintro e w3 ⟨rfl, hb⟩
            replace hk := below_call hb hk; clear hb
            clear c0 c1 l0; obtain ⟨c0, c1, l0⟩ := pat_facts (r0.below hk)
            go_wp2_with fail
            refine (is_at t m _ i rfl _ true H3.out _).mono ?_; rintro e w4 ⟨rfl, hb⟩
            replace hk := below_call hb hk; clear hb
            clear c0 c1 l0; obtain ⟨c0, c1, l0⟩ := pat_facts (r0.below hk)
            go_wp2_with fail
            refine (HSET.out _).mono ?_; rintro e w5 ⟨hb5, hpost⟩
            cases hs : setAt t m i with
            | none =>
              rw [hs] at hpost; obtain rfl := hpost
              have HN := Lib.hid hs; clear hs
              replace hk := below_call hb5 hk; clear hb5
              clear c0 c1 l0; obtain ⟨c0, c1, l0⟩ := pat_facts (r0.below hk)
              replace hk := hk.alloc hk.size (.cells #[.bool false, .slice none 0 0] 246)
              have HO := own_below hown hk
              have hbs : w.heap.size ≤ (w5.alloc (.cells #[.bool false, .slice none 0 0] 246)).heap.size := Nat.le_trans hbel.size hk.size
              go_wp2_with (at_builtin; refine wpList_push rfl _ _ _ rfl w.heap.size 235 _ 16 Tryz.underlying232 info45 rfl _ _ _ rfl HO _ _ rfl (by simp) rfl (by unfold maxLen; omega) hbs ?_; intro v' w5 ho5 hg5; obtain ⟨ao', cap', rfl⟩ := own_slice ho5)
              have hrel' := sig_step (i' := i + 1) (g' := t.size - i) (sg := ⟨0, 91, false, []⟩) r0 hown HALL.out hx hbel hk (.inl ⟨rfl, rfl⟩) hg5 ho5 rfl ⟨by omega, by omega⟩ (by rw [← HL.out, signs_noset hlt H1.out H2.out H3.out HN.out]; simp) (by omega)
              have hG := HG.out
              go_roundg (t.size - i)
              case measure => omega
              case rel => exact hrel'
            | some r =>
              rw [hs] at hpost; obtain ⟨sv, rfl, hsv⟩ := hpost
              have hgt := setAt_gt hs
              have HN := Lib.hid hs; clear hs
              obtain ⟨sa, sc, rfl⟩ := own_slice hsv
              have hsv1 := own_base (b' := w.heap.size) hsv (Nat.le_trans hbel.size hk.size)
              replace hk := below_call hb5 hk; clear hb5
              clear c0 c1 l0; obtain ⟨c0, c1, l0⟩ := pat_facts (r0.below hk)
              replace hk := hk.alloc hk.size (.cells #[.bool r.1.neg, .slice sa r.1.span.length sc] 246)
              have HO := own_below hown hk
              have hbs : w.heap.size ≤ (w5.alloc (.cells #[.bool r.1.neg, .slice sa r.1.span.length sc] 246)).heap.size := Nat.le_trans hbel.size hk.size
              go_wp2_with (at_builtin; refine wpList_push rfl _ _ _ rfl w.heap.size 235 _ 16 Tryz.underlying232 info45 rfl _ _ _ rfl HO _ _ rfl (by simp) rfl (by unfold maxLen; omega) hbs ?_; intro v' w5 ho5 hg5; obtain ⟨ao', cap', rfl⟩ := own_slice ho5)
              have hrel' := sig_step (i' := r.2) (g' := t.size + 1 - r.2) (sg := r.1) r0 hown HALL.out hx hbel hk (.inr (.inr (.inr ⟨setAt_kind HN.out, _, rfl, hsv1.alloc _⟩))) hg5 ho5 rfl ⟨by omega, by omega⟩ (by rw [← HL.out, signs_set hlt H1.out H2.out H3.out HN.out]; simp) (by omega)
              have hG := HG.out
              go_roundg (t.size + 1 - r.2)
              case measure => omega
              case rel => exact hrel'
        · have H2 := Lib.hid h2; clear h2
          go_wp2_with fail
          refine (is_at t m _ i rfl _ false H1.out _).mono ?_; rintro e w2 ⟨rfl, hk⟩
          clear c0 c1 l0; obtain ⟨c0, c1, l0⟩ := pat_facts (r0.below hk)
          go_wp2_with fail
          refine (is_at t m _ i rfl _ true H2.out _).mono ?_; rintro e w3 ⟨rfl, hb⟩
          replace hk := below_call hb hk; clear hb
          clear c0 c1 l0; obtain ⟨c0, c1, l0⟩ := pat_facts (r0.below hk)
          have HO := own_below hown hk
          have hbs : w.heap.size ≤ w3.heap.size := Nat.le_trans hbel.size hk.size
          go_wp2_with (at_builtin; refine wpList_push rfl _ _ _ rfl w.heap.size 235 _ 16 Tryz.underlying232 info45 rfl _ _ _ rfl HO _ _ rfl (by simp) rfl (by unfold maxLen; omega) hbs ?_; intro v' w5 ho5 hg5; obtain ⟨ao', cap', rfl⟩ := own_slice ho5)
          have hrel' := sig_step (i' := i + 1) (g' := t.size - i) (sg := ⟨1, 0, false, []⟩) r0 hown HALL.out hx hbel hk (.inr (.inl ⟨rfl, rfl⟩)) hg5 ho5 rfl ⟨by omega, by omega⟩ (by rw [← HL.out, signs_one hlt H1.out H2.out]; simp) (by omega)
          have hG := HG.out
          go_roundg (t.size - i)
          case measure => omega
          case rel => exact hrel'
      · have H1 := Lib.hid h1; clear h1
        go_wp2_with fail
        refine (is_at t m _ i rfl _ true H1.out _).mono ?_; rintro e w2 ⟨rfl, hk⟩
        clear c0 c1 l0; obtain ⟨c0, c1, l0⟩ := pat_facts (r0.below hk)
        have HO := own_below hown hk
        have hbs : w.heap.size ≤ w2.heap.size := Nat.le_trans hbel.size hk.size
        go_wp2_with (at_builtin; refine wpList_push rfl _ _ _ rfl w.heap.size 235 _ 16 Tryz.underlying232 info45 rfl _ _ _ rfl HO _ _ rfl (by simp) rfl (by unfold maxLen; omega) hbs ?_; intro v' w5 ho5 hg5; obtain ⟨ao', cap', rfl⟩ := own_slice ho5)
        have hrel' := sig_step (i' := i + 1) (g' := t.size - i) (sg := ⟨2, 0, false, []⟩) r0 hown HALL.out hx hbel hk (.inr (.inr (.inl ⟨rfl, rfl⟩))) hg5 ho5 rfl ⟨by omega, by omega⟩ (by rw [← HL.out, signs_star hlt H1.out]; simp) (by omega)
        have hG := HG.out
        go_roundg (t.size - i)
        case measure => omega
        case rel => exact hrel'
    · go_wp2_with fail
      go_ret
      exact signs_done hlt hown HALL.out HL.out hbel
end Go.Proofs.YtkmpbkhlcapbgaaGreatDoor.Gb
namespace Go.Proofs.YtkmpbkhlcapbgaaGreatDoor.Gb
open Go.RowKit
set_option maxHeartbeats 1000000 in
theorem closure_any (a b x : Int) (p : Addr) (w : World) (hp : w.cell? p = some (.int .u8 x)) :
    Calls Tryz.prog 258 #[.agg #[.int .u8 a, .int .u8 b], .pointer (some p)] w fun e w' => e = .returned (.bool (decide (a ≤ x) && decide (x ≤ b))) ∧ Below w.heap.size w w' := by
  obtain ⟨pb, po, ps⟩ := p
  obtain rfl : ps = none := by simpa using World.cell?_spot hp
  have hlt := block_lt_of_cell hp
  by_cases h1 : a ≤ x
  · by_cases h2 : x ≤ b
    · go_enter Tryz.func258, Tryz.ntmps258
      go_wp2
      go_ret
      refine ⟨by first | rfl | (simp; done) | (simp; omega), ?_⟩
      go_grown
    · go_enter Tryz.func258, Tryz.ntmps258
      go_wp2
      go_ret
      refine ⟨by first | rfl | (simp; done) | (simp; omega), ?_⟩
      go_grown
  · go_enter Tryz.func258, Tryz.ntmps258
    go_wp2
    go_ret
    refine ⟨by first | rfl | (simp; done) | (simp; omega), ?_⟩
    go_grown
set_option maxHeartbeats 1000000 in
theorem self_has (c x : Int) (w : World) :
    Calls Tryz.prog 260 #[.int .u8 c, .int .u8 x] w fun e w' => e = .returned (.bool (c == x)) ∧ Below w.heap.size w w' := by
  go_enter Tryz.func260, Tryz.ntmps260
  go_wp2
  go_ret
  refine ⟨rfl, ?_⟩
  go_grown
set_option maxHeartbeats 1000000 in
theorem one_has (x : Int) (w : World) :
    Calls Tryz.prog 255 #[.agg #[], .int .u8 x] w fun e w' => e = .returned (.bool true) ∧ Below w.heap.size w w' := by
  go_enter Tryz.func255, Tryz.ntmps255
  go_wp2
  go_ret
  refine ⟨rfl, ?_⟩
  go_grown
def inPair (x : Int) (p : Int × Int) : Bool := decide (p.1 ≤ x) && decide (x ≤ p.2)
theorem pairCells_at (l : List (Int × Int)) : ∀ (k : Nat) (hk : k < l.length), (pairCells l)[k * 2]? = some (.int .u8 (l[k]).1) ∧ (pairCells l)[k * 2 + 1]? = some (.int .u8 (l[k]).2) := by
  induction l with
  | nil => intro k hk; simp at hk
  | cons p l ih =>
    intro k hk
    cases k with
    | zero => simp [pairCells]
    | succ k =>
      have := ih k (by simpa using hk)
      rw [show (k + 1) * 2 = k * 2 + 1 + 1 from by omega]
      simpa [pairCells] using this
theorem closure_at (q : Int × Int) (x : Int) (p : Addr) (b : Bool) (h : inPair x q = b) (w : World) (hp : w.cell? p = some (.int .u8 x)) :
    Calls Tryz.prog 258 #[.agg #[.int .u8 q.1, .int .u8 q.2], .pointer (some p)] w fun e w' => e = .returned (.bool b) ∧ Below w.heap.size w w' := by
  subst h; exact closure_any q.1 q.2 x p w hp
/-- What the walk of IndexFunc comes to. -/
def IdxPost (x : Int) (sp : List (Int × Int)) (w : World) (e : Ending) (w' : World) : Prop :=
  ∃ r : Int, e = .returned (.int .i64 r) ∧ decide (0 ≤ r) = sp.any (inPair x) ∧ Below w.heap.size w w'
set_option maxHeartbeats 2000000 in
theorem index_any (sp : List (Int × Int)) (hs : sp.length ≤ 9223372036854775807) (sv : Value) (x : Int) (base : Nat) (p : Addr) (w : World) (hp : w.cell? p = some (.int .u8 x)) (hown : w.ownsRow base 100 2 sv sp.length (pairCells sp)) :
    Calls Tryz.prog 259 #[sv, .func (Fn.func 258) #[] #[.pointer (some p)]] w (IdxPost x sp w) := by
  obtain ⟨ao, cap, rfl⟩ := own_slice hown
  go_enter Tryz.func259, Tryz.ntmps259
  go_wp2_with fail
  go_loopw [8] (fun k wr => ∃ n : Nat, k = .int .i64 n ∧ n ≤ sp.length ∧ Below w.heap.size w wr ∧ Hid ((sp.take n).any (inPair x) = false)) (fun k _ => sp.length - (intOf k).toNat)
  case atStart => exact ⟨0, rfl, Nat.zero_le _, Below.refl _ _, by simp [Hid]⟩
  case round =>
    obtain ⟨n, rfl, hn, hbel, HT⟩ := hrel
    by_cases hlt : n < sp.length
    · obtain ⟨g, cp, hsl, hbg, _, _, hcell⟩ := own_cells (own_below hown hbel) (by omega)
      simp only [Value.slice.injEq] at hsl
      obtain ⟨rfl, _, rfl⟩ := hsl
      have hpa := pairCells_at sp n hlt
      have c0 : wr.cell? ⟨g, n * 2, none⟩ = some (.int .u8 (sp[n]).1) := (hcell _ (by omega)).trans hpa.1
      have c1 : wr.cell? ⟨g, n * 2 + 1, none⟩ = some (.int .u8 (sp[n]).2) := (hcell _ (by omega)).trans hpa.2
      have hp' : wr.cell? p = some (.int .u8 x) := (hbel.cell (block_lt_of_cell hp)).trans hp
      have HC := Lib.hid hcell; have HPA := Lib.hid hpa; have HP := Lib.hid hp'; have HP0 := Lib.hid hp
      have htake : Hid ((sp.take (n + 1)).any (inPair x) = ((sp.take n).any (inPair x) || inPair x sp[n])) := by
        unfold Hid; rw [List.take_succ_eq_append_getElem hlt, List.any_append]; simp
      have hat : Hid (∀ h : inPair x sp[n] = true, sp.any (inPair x) = true) := fun h => List.any_eq_true.2 ⟨_, List.getElem_mem hlt, h⟩
      clear hcell hpa hp' hp hown
      obtain ⟨pa, hpa⟩ : ∃ q, q = sp[n] := ⟨_, rfl⟩
      rw [← hpa] at c0 c1 htake hat
      clear HPA hpa
      cases hin : inPair x pa
      · have HIN := Lib.hid hin; clear hin
        go_wp2_with fail
        refine (closure_at pa x p false HIN.out _ HP.out).mono ?_; rintro e w2 ⟨rfl, hb2⟩
        go_wp2_with fail
        go_roundw
        case rel => exact ⟨n + 1, by go_num, by omega, hbel.trans (hb2.mono hbel.size), by unfold Hid; rw [htake.out, HT.out, HIN.out]; rfl⟩
        case measure => simp [intOf]; omega
      · have HIN := Lib.hid hin; clear hin
        go_wp2_with fail
        refine (closure_at pa x p true HIN.out _ HP.out).mono ?_; rintro e w2 ⟨rfl, hb2⟩
        go_wp2_with fail
        go_ret
        exact ⟨n, rfl, by rw [hat.out HIN.out]; simp, hbel.trans (hb2.mono hbel.size)⟩
    · have hfin : Hid (sp.any (inPair x) = false) := by
        have h := HT.out
        rw [List.take_of_length_le (by omega)] at h; exact h
      go_wp2_with fail
      go_ret
      exact ⟨-1, rfl, by rw [hfin.out]; rfl, hbel⟩
set_option maxHeartbeats 1000000 in
theorem contains_any (sp : List (Int × Int)) (hs : sp.length ≤ 9223372036854775807) (sv : Value) (x : Int) (base : Nat) (p : Addr) (w : World) (hp : w.cell? p = some (.int .u8 x)) (hown : w.ownsRow base 100 2 sv sp.length (pairCells sp)) :
    Calls Tryz.prog 257 #[sv, .func (Fn.func 258) #[] #[.pointer (some p)]] w fun e w' => e = .returned (.bool (sp.any (inPair x))) ∧ Below w.heap.size w w' := by
  have HI := Lib.hid (index_any sp hs sv x base p w hp hown)
  clear hp hown
  go_enter Tryz.func257, Tryz.ntmps257
  go_wp2_with fail
  refine HI.out.mono ?_
  rintro e w1 ⟨r, rfl, hr, hb⟩
  have HR := Lib.hid hr; clear hr
  go_wp2_with fail
  go_ret
  refine ⟨?_, hb⟩
  show Ending.returned (.bool (decide (0 ≤ r))) = _
  rw [HR.out]
set_option maxHeartbeats 1000000 in
theorem set_has (neg : Bool) (sp : List (Int × Int)) (hs : sp.length ≤ 9223372036854775807) (sv : Value) (x : Int) (base : Nat) (w : World) (hown : w.ownsRow base 100 2 sv sp.length (pairCells sp)) :
    Calls Tryz.prog 256 #[.agg #[.bool neg, sv], .int .u8 x] w fun e w' => e = .returned (.bool ((sp.any (inPair x)) != neg)) ∧ Below w.heap.size w w' := by
  obtain ⟨ao, cap, rfl⟩ := own_slice hown
  go_enter Tryz.func256, Tryz.ntmps256
  go_wp2_with fail
  refine (contains_any sp hs _ x base _ _ ?_ ((hown.alloc _).alloc _)).mono ?_
  · simp
  rintro e w1 ⟨rfl, hb⟩
  obtain ⟨hc, hf⟩ := bcell hb
  go_wp2
  go_ret
  refine ⟨?_, below_call hb ?_⟩
  · cases sp.any (inPair x) <;> cases neg <;> rfl
  · go_grown
end Go.Proofs.YtkmpbkhlcapbgaaGreatDoor.Gb
