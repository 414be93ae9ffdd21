/-
  DERIVED. The walk of glob's set: the set that begins at a place, its members in a row of the call's own.
-/
import Derived.Test.YtkmpbkhlcapbgaaGreatDoorZ29
import Derived.Test.YtkmpbkhlcapbgaaGreatDoorZ02
import Derived.RegionTactic
import Derived.Deep.DeepCutAuto
import Derived.Deep.Light
namespace Go.Proofs.YtkmpbkhlcapbgaaGreatDoor.Gb
open Go.RowKit
/-- The cells of a row of pairs of bytes. -/
def pairCells : List (Int × Int) → List Value
  | [] => []
  | p :: l => .int .u8 p.1 :: .int .u8 p.2 :: pairCells l
theorem pairCells_append (l r : List (Int × Int)) : pairCells (l ++ r) = pairCells l ++ pairCells r := by
  induction l with
  | nil => rfl
  | cons p l ih => simp [pairCells, ih]
theorem pairCells_length (l : List (Int × Int)) : (pairCells l).length = l.length * 2 := by
  induction l with
  | nil => rfl
  | cons p l ih => simp [pairCells, ih]; omega
/-- What the walk of set comes to. -/
def SetPost (t m : ByteArray) (i : Nat) (w : World) (e : Ending) (w' : World) : Prop :=
  Below w.heap.size w w' ∧ match setAt t m i with
  | some r => ∃ sv, e = .returned (.tuple #[.agg #[.bool r.1.neg, sv], .int .i64 r.2, .bool true]) ∧ w'.ownsRow w.heap.size 100 2 sv r.1.span.length (pairCells r.1.span)
  | none => e = .returned (.tuple #[.agg #[.bool false, .slice none 0 0], .int .i64 0, .bool false])
theorem is_at (t m : ByteArray) (k : Int) (i : Nat) (hk : k = (i : Int)) (c : Int) (b : Bool) (h : isB t m i c = b) (w : World) :
    Calls Tryz.prog 211 #[.agg #[.string t, .string m], .int .i64 k, .int .u8 c] w fun e w' => e = .returned (.bool b) ∧ Below w.heap.size w w' := by
  subst h; subst hk; exact is_any t m i c w
/-- What holds at the head of the loop of set. -/
def SetRel (t m : ByteArray) (first : Nat) (neg : Bool) (B1 : Nat) (w : World) (k : Value) (wr : World) : Prop :=
  ∃ (n : Nat) (sp : List (Int × Int)) (sv : Value), k = .int .i64 n ∧ first ≤ n ∧ n ≤ t.size + 3 + first ∧ sp.length + first ≤ n ∧ RowIs wr w.heap.size 135 [.string t, .string m] ∧ RowIs wr (w.heap.size + 1) 246 [.bool false, .slice none 0 0] ∧
    RowIs wr B1 246 [.bool neg, sv] ∧ wr.ownsRow w.heap.size 100 2 sv sp.length (pairCells sp) ∧ Below w.heap.size w wr ∧ setLoop t m first n sp = setLoop t m first first []
theorem set_none {t m : ByteArray} {i F n : Nat} {sp : List (Int × Int)} {w w' : World} (hF : F = setFirst t m i) (hL : setLoop t m F n sp = setLoop t m F F []) (hn : ¬ n < t.size) (hb : Below w.heap.size w w') :
    SetPost t m i w (.returned (.tuple #[.agg #[.bool false, .slice none 0 0], .int .i64 0, .bool false])) w' := by
  have e : setLoop t m F F [] = none := by rw [← hL, setLoop, dif_neg hn]
  refine ⟨hb, ?_⟩
  unfold setAt
  rw [← hF, e]
  rfl
theorem set_found {t m : ByteArray} {i F n : Nat} {sp : List (Int × Int)} {sv : Value} {neg : Bool} {w w' : World} (hN : isB t m (i + 1) 33 = neg) (hF : F = setFirst t m i) (hL : setLoop t m F n sp = setLoop t m F F []) (hn : n < t.size) (hf : F < n) (he : isB t m n 93 = true)
    (hb : Below w.heap.size w w') (hown : w'.ownsRow w.heap.size 100 2 sv sp.length (pairCells sp)) :
    SetPost t m i w (.returned (.tuple #[.agg #[.bool neg, sv], .int .i64 (n + 1), .bool true])) w' := by
  have e : setLoop t m F F [] = some (sp, n + 1) := by rw [← hL, setLoop, dif_pos hn, if_pos (by simp [hf, he])]
  refine ⟨hb, ?_⟩
  unfold setAt
  rw [← hF, e, hN]
  exact ⟨sv, by simp, hown⟩
theorem own_not_row {w : World} {b e s n g e2 : Nat} {v : Value} {xs l : List Value} (h : w.ownsRow b e s v n xs) (hr : RowIs w g e2 l) (hne : e ≠ e2) : v.ownBlock ≠ some g := by
  rcases h.2 with ⟨rfl, _⟩ | ⟨g1, c1, cur1, rfl, _, hh1, _⟩
  · simp [Value.ownBlock]
  · intro e
    simp only [Value.ownBlock, Option.some.injEq] at e
    subst e
    unfold RowIs at hr
    rw [hh1] at hr
    simp at hr
    exact hne hr.2
theorem info69 : (Tryz.prog.info? 100).map (fun i => (i.zero, i.size, i.bytes)) = some (some (.agg #[.int .u8 0, .int .u8 0]), 2, 2) := by kernel_rfl
theorem set_facts {t m : ByteArray} {x y : Value} {W : World} {b0 b1 b2 e0 e1 : Nat} (r0 : RowIs W b0 e0 [.string t, .string m]) (r1 : RowIs W b1 e1 [.bool false, .slice none 0 0]) (r2 : RowIs W b2 e1 [x, y]) :
    W.cell? ⟨b0, 0, none⟩ = some (.string t) ∧ W.cell? ⟨b0, 1, none⟩ = some (.string m) ∧ W.cell? ⟨b1, 0, none⟩ = some (.bool false) ∧ W.cell? ⟨b1, 1, none⟩ = some (.slice none 0 0) ∧ W.cell? ⟨b2, 0, none⟩ = some x ∧ W.cell? ⟨b2, 1, none⟩ = some y ∧
    W.frozen? ⟨b1, 0, none⟩ = false ∧ W.frozen? ⟨b1, 1, none⟩ = false ∧ W.frozen? ⟨b2, 1, none⟩ = false ∧ b0 < W.heap.size ∧ b1 < W.heap.size ∧ b2 < W.heap.size :=
  ⟨by rw [r0.cell]; rfl, by rw [r0.cell]; rfl, by rw [r1.cell]; rfl, by rw [r1.cell]; rfl, by rw [r2.cell]; rfl, by rw [r2.cell]; rfl, r1.free _, r1.free _, r2.free _, r0.lt, r1.lt, r2.lt⟩
theorem row_grown {W W0 W5 : World} {b e : Nat} {l : List Value} {row : Option Nat} (h : RowIs W b e l) (hk : Below W.heap.size W W0) {C : Obj} (hg : (W0.alloc C).grownBy W5 row) (hne : some b ≠ row) : RowIs W5 b e l := by
  have h1 := (h.below hk).alloc C
  unfold RowIs
  rw [hg.block b h1.lt hne]; exact h1
theorem set_step {t m : ByteArray} {F n' B1 : Nat} {neg : Bool} {sp : List (Int × Int)} {ao : Option Addr} {cap : Nat} {w wr W0 W5 : World} {v' : Value} {a b : Int} {C : Obj}
    (r0 : RowIs wr w.heap.size 135 [.string t, .string m]) (r1 : RowIs wr (w.heap.size + 1) 246 [.bool false, .slice none 0 0]) (r2 : RowIs wr B1 246 [.bool neg, .slice ao sp.length cap])
    (hown : wr.ownsRow w.heap.size 100 2 (.slice ao sp.length cap) sp.length (pairCells sp)) (hbel : Below w.heap.size w wr) (hB : w.heap.size + 1 < B1) (hk : Below wr.heap.size wr W0)
    (hg : (W0.alloc C).grownBy W5 (Value.slice ao sp.length cap).ownBlock) (ho : W5.ownsRow w.heap.size 100 2 v' (sp.length + 1) (pairCells sp ++ [.int .u8 a, .int .u8 b]))
    (hn : F ≤ n' ∧ n' ≤ t.size + 3 + F ∧ sp.length + 1 + F ≤ n') (hl : setLoop t m F n' (sp ++ [(a, b)]) = setLoop t m F F []) :
    SetRel t m F neg B1 w (.int .i64 n') (W5.setCell ⟨B1, 1, none⟩ v') := by
  have hsz := hbel.size
  have q0 := row_grown r0 hk hg (fun e => own_not_row hown r0 (by decide) e.symm)
  have q1 := row_grown r1 hk hg (fun e => own_not_row hown r1 (by decide) e.symm)
  have q2 := row_grown r2 hk hg (fun e => own_not_row hown r2 (by decide) e.symm)
  have hlt := hown.lt
  refine ⟨n', sp ++ [(a, b)], v', rfl, hn.1, hn.2.1, by simp; omega, q0.other (by show _ ≠ B1; omega) _, q1.other (by show _ ≠ B1; omega) _, q2.set 1 v', ?_, ?_, hl⟩
  · have := ownsRow_setCell_other (a := ⟨B1, 1, none⟩) ho (own_not_row ho q2 (by decide)) v'
    rw [pairCells_append]; simpa [pairCells] using this
  · refine Below.setCell ?_ (by show w.heap.size ≤ B1; omega) _
    have h1 : Below w.heap.size w (W0.alloc C) := (hbel.trans (hk.mono hsz)).alloc (Nat.le_trans hsz hk.size) _
    refine h1.grown hg h1.size (fun k hk' => (hlt k hk').1)
theorem loop_next {t m : ByteArray} {F n : Nat} {sp : List (Int × Int)} (h : n < t.size) (he : (decide (F < n) && isB t m n 93) = false) (hd : dash t m n = false) : setLoop t m F n sp = setLoop t m F (n + 1) (sp ++ [(bt t n, bt t n)]) := by
  rw [setLoop, dif_pos h, if_neg (by simp [he]), if_neg (by simp [hd])]
theorem loop_dash {t m : ByteArray} {F n : Nat} {sp : List (Int × Int)} (h : n < t.size) (he : (decide (F < n) && isB t m n 93) = false) (hd : dash t m n = true) : setLoop t m F n sp = setLoop t m F (n + 3) (sp ++ [(bt t n, bt t (n + 2))]) := by
  rw [setLoop, dif_pos h, if_neg (by simp [he]), if_pos hd]
-- SETWALK
/-- At the head of a round: how many rounds at most are to come. -/
def SetRelG (t m : ByteArray) (F : Nat) (neg : Bool) (B1 : Nat) (w : World) (g : Nat) (k : Value) (wr : World) : Prop :=
  SetRel t m F neg B1 w k wr ∧ (intOf k) + (g : Int) = (t.size + F + 10 : Nat)
set_option maxRecDepth 100000 in
set_option maxHeartbeats 8000000 in
theorem set_any (t m : ByteArray) (i : Nat) (hi : i ≤ 1000000000) (ht : t.size ≤ 1000000000) (w : World) :
    Calls Tryz.prog 212 #[.agg #[.string t, .string m], .int .i64 i] w (SetPost t m i w) := by
  obtain ⟨neg, hneg⟩ : ∃ neg, isB t m (i + 1) 33 = neg := ⟨_, rfl⟩
  have HN := Lib.hid hneg
  obtain ⟨F, hF, hF2⟩ : ∃ F : Nat, F = setFirst t m i ∧ F = (if neg then i + 2 else i + 1) := ⟨_, rfl, by unfold setFirst; rw [hneg]⟩
  have HF := Lib.hid hF; clear hF
  have HF2 := Lib.hid hF2
  have hFi : F ≤ i + 2 ∧ i < F := by rw [hF2]; split <;> omega
  clear hneg hF2
  go_enter Tryz.func212, Tryz.ntmps212
  go_wp2_with fail
  refine (is_at t m _ (i + 1) (by omega) _ neg HN.out _).mono ?_; rintro e w1 ⟨rfl, hb1⟩
  obtain ⟨hc, hf⟩ := bcell hb1
  go_upto_if 19 with fail
  go_cut [8] (fun s8 wx => s8 = .int .i64 F ∧ wx = w1.alloc (.cells #[.bool neg, .slice none 0 0] 246))
  case first =>
    cases neg
    · go_wp2
      go_meet
      exact ⟨by have := HF2.out; simp at this; rw [this]; simp, rfl⟩
    · go_wp2
      go_meet
      exact ⟨by have := HF2.out; simp at this; rw [this]; simp; omega, rfl⟩
  case rest =>
    obtain ⟨rfl, rfl⟩ := hcut
    have hB1 : w.heap.size + 1 < w1.heap.size := by have := hb1.size; simp at this; omega
    have hstart : SetRel t m F neg w1.heap.size w (.int .i64 F) (w1.alloc (.cells #[.bool neg, .slice none 0 0] 246)) := by
      have r0 : RowIs w1 w.heap.size 135 [.string t, .string m] := ((RowIs.new w _ _).alloc _).below hb1
      have r1 : RowIs w1 (w.heap.size + 1) 246 [.bool false, .slice none 0 0] := by
        have := RowIs.new (w.alloc (.cells #[.string t, .string m] 135)) 246 [.bool false, .slice none 0 0]
        simp only [World.size_alloc] at this
        exact this.below hb1
      exact ⟨F, [], .slice none 0 0, rfl, Nat.le_refl _, by omega, by simp, r0.alloc _, r1.alloc _, RowIs.new w1 _ _, World.ownsRow_nil _ _ _ _, below_call_alloc hb1 (by go_grown) _, rfl⟩
    have HS := Lib.hid hstart; clear hstart hc hf hb1
    go_wp2_with fail
    go_loopg [8] (t.size + 10) (fun g k wr => SetRelG t m F neg w1.heap.size w g k wr)
    case atStart => exact ⟨HS.out, by simp [intOf]; omega⟩
    case round =>
      clear HS
      obtain ⟨⟨n, sp, sv, rfl, hFn, hn, hsp, r0, r1, r2, hown, hbel, hloop⟩, hg⟩ := hrel
      have HG := Lib.hid hg; clear hg
      have HL := Lib.hid hloop; clear hloop
      obtain ⟨ao, cap, rfl⟩ := own_slice hown
      obtain ⟨c0, c1, e0, e1, d0, d1, f0, f1, f2, l0, l1, l2⟩ := set_facts r0 r1 r2
      by_cases hlt : n < t.size
      · go_upto_region 8 with fail
        go_cut [37] (fun s37 wx => s37 = .bool (decide (F < n) && isB t m n 93) ∧ Below wr.heap.size wr wx)
        case first =>
          by_cases hfn : F < n
          · go_wp2_with fail
            refine (is_at t m _ n (by omega) _ _ rfl _).mono ?_; rintro e w2 ⟨rfl, hb2⟩
            go_wp2_with fail
            go_meet
            exact ⟨by simp [hfn], hb2⟩
          · go_wp2_with fail
            go_meet
            exact ⟨by simp [hfn], Below.refl _ _⟩
        case rest =>
          obtain ⟨wA, rfl⟩ : ∃ wA : World, wA = wc := ⟨_, rfl⟩
          obtain ⟨rfl, hk⟩ := hcut
          clear c0 c1 e0 e1 d0 d1 f0 f1 f2 l0 l1 l2
          obtain ⟨c0, c1, e0, e1, d0, d1, f0, f1, f2, l0, l1, l2⟩ := set_facts (r0.below hk) (r1.below hk) (r2.below hk)
          cases hfd : (decide (F < n) && isB t m n 93)
          · have HEE := Lib.hid hfd; clear hfd
            have hb := get_bt t
            have hn2 : (n : Int) < (t.size : Int) := by omega
            go_wp2_with fail
            go_region
            go_upto_region 11 with fail
            obtain ⟨W1, hW1⟩ : ∃ W1, W1 = (wA.alloc (.cells #[.int .u8 (bt t n), .int .u8 (bt t n)] 100)).drew := ⟨_, rfl⟩
            have hk1 : Below wr.heap.size wr W1 := by rw [hW1]; exact (hk.alloc hk.size _).drew
            have hBx : wr.heap.size ≤ wA.heap.size := hk.size
            have rx : RowIs W1 wA.heap.size 100 [.int .u8 (bt t n), .int .u8 (bt t n)] := by rw [hW1]; exact RowIs.new wA _ _
            go_cut [68] (fun s68 wx => s68 = .bool (dash t m n) ∧ Below W1.heap.size W1 wx)
            case first =>
              rw [← hW1]
              clear hW1 c0 c1 e0 e1 d0 d1 f0 f1 f2 l0 l1 l2
              obtain ⟨c0, c1, e0, e1, d0, d1, f0, f1, f2, l0, l1, l2⟩ := set_facts (r0.below hk1) (r1.below hk1) (r2.below hk1)
              cases hD : isB t m (n + 1) 45
              · go_wp2_with fail
                refine (is_at t m _ (n + 1) (by omega) _ false hD _).mono ?_; rintro e w3 ⟨rfl, hb3⟩
                go_wp2_with fail
                go_meet
                exact ⟨by simp [dash, hD], hb3⟩
              · have HD := Lib.hid hD; clear hD
                by_cases hl2 : n + 2 < t.size
                · have hl3 : (n : Int) + 2 < (t.size : Int) := by omega
                  go_wp2_with fail
                  refine (is_at t m _ (n + 1) (by omega) _ true HD.out _).mono ?_; rintro e w3 ⟨rfl, hb3⟩
                  have hk3 := below_call hb3 hk1
                  clear c0 c1 e0 e1 d0 d1 f0 f1 f2 l0 l1 l2
                  obtain ⟨c0, c1, e0, e1, d0, d1, f0, f1, f2, l0, l1, l2⟩ := set_facts (r0.below hk3) (r1.below hk3) (r2.below hk3)
                  go_wp2_with fail
                  refine (is_at t m _ (n + 2) (by omega) _ _ rfl _).mono ?_; rintro e w4 ⟨rfl, hb4⟩
                  go_wp2_with fail
                  go_meet
                  exact ⟨by simp [dash, HD.out, hl2], below_call hb4 hb3⟩
                · have hl3 : ¬ (n : Int) + 2 < (t.size : Int) := by omega
                  go_wp2_with fail
                  refine (is_at t m _ (n + 1) (by omega) _ true HD.out _).mono ?_; rintro e w3 ⟨rfl, hb3⟩
                  have hk3 := below_call hb3 hk1
                  clear c0 c1 e0 e1 d0 d1 f0 f1 f2 l0 l1 l2
                  obtain ⟨c0, c1, e0, e1, d0, d1, f0, f1, f2, l0, l1, l2⟩ := set_facts (r0.below hk3) (r1.below hk3) (r2.below hk3)
                  go_wp2_with fail
                  go_meet
                  exact ⟨by simp [dash, hl2], hb3⟩
            case rest =>
              obtain ⟨wB, rfl⟩ : ∃ wB : World, wB = wc := ⟨_, rfl⟩
              obtain ⟨rfl, hk2⟩ := hcut
              clear c0 c1 e0 e1 d0 d1 f0 f1 f2 l0 l1 l2
              have hk3 := below_call hk2 hk1
              have ry := rx.below hk2
              have y0 := ry.cell 0; have y1 := ry.cell 1; have y2 := ry.free 1; have y3 := ry.lt
              simp only [List.getElem?_cons_zero, List.getElem?_cons_succ] at y0 y1
              obtain ⟨c0, c1, e0, e1, d0, d1, f0, f1, f2, l0, l1, l2⟩ := set_facts (r0.below hk3) (r1.below hk3) (r2.below hk3)
              obtain ⟨dd, hdd⟩ : ∃ dd, dash t m n = dd := ⟨_, rfl⟩
              have HDD := Lib.hid hdd
              rw [hdd]
              clear hdd hW1 hk1 hk2 rx
              go_upto_if 68 with fail
              go_cut [8] (fun s8 wx => s8 = .int .i64 (if dd then (n : Int) + 2 else n) ∧ Below wr.heap.size wr wx ∧ RowIs wx wA.heap.size 100 [.int .u8 (bt t n), .int .u8 (if dd then bt t (n + 2) else bt t n)])
              case first =>
                cases dd
                · go_wp2_with fail
                  go_meet
                  exact ⟨by simp, hk3, ry⟩
                · have hl2 : (n : Int) + 2 < (t.size : Int) := by have := HDD.out; simp [dash] at this; omega
                  go_wp2_with fail
                  go_meet
                  exact ⟨by simp, hk3.setCell (p := ⟨wA.heap.size, 1, none⟩) hBx _, by simpa using ry.set 1 (.int .u8 (bt t (n + 2)))⟩
              case rest =>
                obtain ⟨rfl, hk4, rz⟩ := hcut
                clear c0 c1 e0 e1 d0 d1 f0 f1 f2 l0 l1 l2 y0 y1 y2 y3 ry
                obtain ⟨bb, hbb⟩ : ∃ bb, bb = (if dd then bt t (n + 2) else bt t n) := ⟨_, rfl⟩
                obtain ⟨nn, hnn⟩ : ∃ nn : Nat, nn = (if dd then n + 2 else n) := ⟨_, rfl⟩
                rw [← hbb] at rz
                rw [show (if dd then (n : Int) + 2 else (n : Int)) = (nn : Int) from by rw [hnn]; cases dd <;> simp]
                have hnn2 : n ≤ nn ∧ nn ≤ n + 2 := by rw [hnn]; cases dd <;> simp
                have HBB := Lib.hid hbb; have HNN := Lib.hid hnn
                clear hbb hnn hk3
                have y0 := rz.cell 0; have y1 := rz.cell 1; have y3 := rz.lt
                simp only [List.getElem?_cons_zero, List.getElem?_cons_succ] at y0 y1
                obtain ⟨c0, c1, e0, e1, d0, d1, f0, f1, f2, l0, l1, l2⟩ := set_facts (r0.below hk4) (r1.below hk4) (r2.below hk4)
                have HO := own_below hown hk4
                obtain ⟨W2, rfl⟩ : ∃ W2 : World, W2 = wc := ⟨_, rfl⟩
                have hbs : w.heap.size ≤ W2.heap.size := Nat.le_trans hbel.size hk4.size
                go_wp2_with (at_builtin; refine wpList_push2 rfl _ _ _ rfl w.heap.size 100 _ 2 Tryz.underlying244 info69 rfl _ _ _ rfl HO _ _ _ rfl (by simp) ⟨rfl, rfl⟩ (by unfold maxLen; omega) hbs ?_; intro v' w5 ho5 hg5; obtain ⟨ao', cap', rfl⟩ := own_slice ho5; have q2 := row_grown r2 hk4 hg5 (fun e => own_not_row hown r2 (by decide) e.symm); have g0 := q2.cell 1; have g1 := q2.free 1; simp only [List.getElem?_cons_zero, List.getElem?_cons_succ] at g0)
                have hstep : setLoop t m F (nn + 1) (sp ++ [(bt t n, bb)]) = setLoop t m F F [] := by
                  rw [HBB.out, HNN.out, ← HL.out]
                  cases dd
                  · exact (loop_next hlt HEE.out HDD.out).symm
                  · exact (loop_dash hlt HEE.out HDD.out).symm
                have hrel' := set_step (n' := nn + 1) r0 r1 r2 hown hbel hB1 hk4 hg5 ho5 ⟨by omega, by omega, by omega⟩ hstep
                have hG := HG.out
                simp only [intOf] at hG
                go_roundg (t.size + F + 10 - (nn + 1))
                case measure => omega
                case rel => exact ⟨hrel', by simp only [intOf]; omega⟩
          · have hfn : F < n := by simp at hfd; exact hfd.1
            have HE : Hid (isB t m n 93 = true) := by unfold Hid; simp at hfd; exact hfd.2
            clear hfd
            go_wp2_with fail
            refine bodyPost_ret (v := .tuple #[.agg #[.bool neg, .slice ao sp.length cap], .int .i64 (n + 1), .bool true]) (by simp [results, Tryz.results212, go_sem, *]) rfl ?_
            refine set_found HN.out HF.out HL.out hlt hfn HE.out ?_ ?_
            · exact ((hbel.trans (hk.mono hbel.size)).setCell (by simp) _).setCell (by simp) _
            · have := own_below hown hk
              exact ownsRow_setCell_other (ownsRow_setCell_other this (own_not_row this (r1.below hk) (by decide)) _) (own_not_row this (r1.below hk) (by decide)) _
      · go_wp2_with fail
        refine bodyPost_ret (v := .tuple #[.agg #[.bool false, .slice none 0 0], .int .i64 0, .bool false]) (by simp [results, Tryz.results212, go_sem, e0, e1]) rfl ?_
        exact set_none HF.out HL.out hlt ((hbel.setCell (by simp) _).setCell (by simp) _)
end Go.Proofs.YtkmpbkhlcapbgaaGreatDoor.Gb
