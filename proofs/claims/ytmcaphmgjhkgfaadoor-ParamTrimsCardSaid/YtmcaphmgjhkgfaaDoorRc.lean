/-
  DERIVED. The walks of the document's row, and of its Match: which ends of a text the pattern matches from a place on. (The text is printed by wip/gen_row.py.)
-/
import Derived.Test.YtmcaphmgjhkgfaaDoorRb
import Derived.Test.YtmcaphmgjhkgfaaDoorOwn
import Derived.RegionTactic
namespace Go.Proofs.YtmcaphmgjhkgfaaDoor
open Go.RowKit Gl
theorem info4r : (Tryd.prog.info? 4).map (fun i => (i.zero, i.size, i.bytes)) = some (some (.bool false), 1, 1) := by kernel_rfl
theorem info40 : (Tryd.prog.info? 51).map (fun i => (i.zero, i.size, i.bytes)) = some (some (.slice none 0 0), 1, 24) := by kernel_rfl
/-- A row as far as a round has come from its end on; what is ahead is false. -/
def backOf (G : Nat → Bool) (N n : Nat) : List Value := (List.range (N + 1)).map fun x => Value.bool (if n ≤ x then G x else false)
theorem backOf_at (G : Nat → Bool) (N n x : Nat) (h : x ≤ N) : (backOf G N n)[x]? = some (.bool (if n ≤ x then G x else false)) := by
  simp [backOf, List.getElem?_map, List.getElem?_range (show x < N + 1 by omega)]
theorem backOf_start (G : Nat → Bool) (N : Nat) : backOf G N (N + 1) = List.replicate (N + 1) (.bool false) := by
  apply List.ext_getElem?
  intro i
  by_cases h : i < N + 1
  · rw [backOf_at _ _ _ _ (by omega), if_neg (by omega)]; simp [h]
  · rw [List.getElem?_eq_none (by simp [backOf]; omega), List.getElem?_eq_none (by simp; omega)]
theorem backOf_set (G : Nat → Bool) (N n : Nat) (h : n ≤ N) (b : Bool) (hb : G n = b) : (backOf G N (n + 1)).set n (.bool b) = backOf G N n := by
  subst hb
  apply List.ext_getElem?
  intro i
  rw [List.getElem?_set]
  by_cases hi : i ≤ N
  · rw [backOf_at _ _ _ _ hi, backOf_at _ _ _ _ hi]
    by_cases e : n = i
    · subst e; rw [if_pos rfl, if_pos (by simp [backOf]; omega), if_pos (by omega)]
    · rw [if_neg e]
      by_cases h2 : n ≤ i
      · rw [if_pos h2, if_pos (by omega)]
      · rw [if_neg h2, if_neg (by omega)]
  · have l1 : (backOf G N (n + 1)).length ≤ i := by simp [backOf]; omega
    have l2 : (backOf G N n).length ≤ i := by simp [backOf]; omega
    rw [List.getElem?_eq_none l1, List.getElem?_eq_none l2, if_neg (by omega)]
theorem backOf_skip (G : Nat → Bool) (N n : Nat) (_h : n ≤ N) (hb : G n = false) : backOf G N (n + 1) = backOf G N n := by
  unfold backOf
  refine List.map_congr_left fun i hi => ?_
  have := List.mem_range.1 hi
  by_cases e : i = n
  · subst e; rw [if_neg (by omega), if_pos (by omega), hb]
  · by_cases h2 : n ≤ i
    · rw [if_pos (by omega), if_pos h2]
    · rw [if_neg (by omega), if_neg h2]
/-- The whole row. -/
def fullOf (G : Nat → Bool) (N : Nat) : List Value := backOf G N 0
theorem fullOf_at (G : Nat → Bool) (N x : Nat) (h : x ≤ N) : (fullOf G N)[x]? = some (.bool (G x)) := by
  rw [fullOf, backOf_at _ _ _ _ h, if_pos (Nat.zero_le _)]
def BackRel (G : Nat → Bool) (N : Nat) (w : World) (g : Nat) (k : Value) (wr : World) : Prop :=
  ∃ (n : Nat) (z : Int), k = .int .i64 z ∧ z + 1 = (n : Int) ∧ n ≤ N + 1 ∧ RowIs wr w.heap.size 4 (backOf G N n) ∧ Below w.heap.size w wr ∧ n ≤ g
theorem back_store {G : Nat → Bool} {N n : Nat} {w wr : World} (hn : n ≤ N) (hr : RowIs wr w.heap.size 4 (backOf G N (n + 1))) (hb : Below w.heap.size w wr) (b : Bool) (h : G n = b) :
    BackRel G N w n (.int .i64 ((n : Int) - 1)) (wr.setCell ⟨w.heap.size, n, none⟩ (.bool b)) := by
  have r := hr.set n (.bool b)
  rw [backOf_set G N n hn b h] at r
  exact ⟨n, _, rfl, by omega, by omega, r, hb.setCell (Nat.le_refl _) _, Nat.le_refl _⟩
theorem back_store_drew {G : Nat → Bool} {N n : Nat} {w wr : World} (hn : n ≤ N) (hr : RowIs wr w.heap.size 4 (backOf G N (n + 1))) (hb : Below w.heap.size w wr) (b : Bool) (h : G n = b) :
    BackRel G N w n (.int .i64 ((n : Int) - 1)) (wr.setCell ⟨w.heap.size, n, none⟩ (.bool b)).drew := by
  obtain ⟨n', z, h1, h2, h3, h4, h5, h6⟩ := back_store hn hr hb b h
  exact ⟨n', z, h1, h2, h3, h4, h5.drew, h6⟩
theorem back_skip {G : Nat → Bool} {N n : Nat} {w wr : World} (hn : n ≤ N) (hr : RowIs wr w.heap.size 4 (backOf G N (n + 1))) (hb : Below w.heap.size w wr) (h : G n = false) :
    BackRel G N w n (.int .i64 ((n : Int) - 1)) wr := by
  rw [backOf_skip G N n hn h] at hr
  exact ⟨n, _, rfl, by omega, by omega, hr, hb, Nat.le_refl _⟩
/-- What the walk of row comes to. -/
def RowPost (G : Nat → Bool) (N : Nat) (w : World) (e : Ending) (w' : World) : Prop :=
  e = .returned (.slice (some ⟨w.heap.size, 0, none⟩) (N + 1) (N + 1)) ∧ RowIs w' w.heap.size 4 (fullOf G N) ∧ Below w.heap.size w w'
/-- The row of place p lies where the rows' own block says. -/
def NextAt (w : World) (B0 Bp N p : Nat) (R : Nat → Bool) : Prop :=
  w.cell? ⟨B0, p, none⟩ = some (.slice (some ⟨Bp, 0, none⟩) (N + 1) (N + 1)) ∧ RowIs w Bp 4 (fullOf R N)
theorem NextAt.at {w wr : World} {B0 Bp N p : Nat} {R : Nat → Bool} (h : NextAt w B0 Bp N p R) (hb : Below w.heap.size w wr) :
    wr.cell? ⟨B0, p, none⟩ = some (.slice (some ⟨Bp, 0, none⟩) (N + 1) (N + 1)) ∧ ∀ x, x ≤ N → wr.cell? ⟨Bp, x, none⟩ = some (.bool (R x)) :=
  ⟨(hb.cell (block_lt_of_cell h.1)).trans h.1, fun x hx => ((h.2.below hb).cell x).trans (fullOf_at R N x hx)⟩

set_option maxRecDepth 100000 in
set_option maxHeartbeats 8000000 in
theorem row_star (t m s : ByteArray) (ht : t.size ≤ 1000000000) (hs : s.size ≤ 1000000000) (i : Nat) (hi : i < t.size) (B0 Bp p : Nat) (hp : p ≤ t.size) (R G : Nat → Bool)
    (hpi : p = i + 1) (h1 : isB t m i 42 = true) (b2 b3 : Bool) (h2 : isB t m i 63 = b2) (h3 : isB t m i 91 = b3) (hG : ∀ k, k < s.size → G k = (R k || G (k + 1))) (hG2 : G s.size = R s.size) (w : World) (hnx : NextAt w B0 Bp s.size p R) :
    Calls Tryd.prog 29 #[.string t, .string m, .int .i64 i, .string s, .slice (some ⟨B0, 0, none⟩) (t.size + 1) (t.size + 1)] w (RowPost G s.size w) := by
  have HNX := Lib.hid hnx; clear hnx
  subst hpi
  have H1 := Lib.hid h1; have H2 := Lib.hid h2; have H3 := Lib.hid h3; have HG1 := Lib.hid hG; have HG2 := Lib.hid hG2; clear h1 h2 h3 hG hG2
  have hend := rend_any t m ht i (by omega)
  have HE := Lib.hid hend; clear hend
  cases b3
  all_goals
    go_enter Tryd.func29, Tryd.ntmps29
    go_wp2_with (at_make; refine wpList_mkrow _ rfl _ _ 51 rfl 4 _ 1 Tryd.underlying51 info4r rfl _ _ _ _ (s.size + 1) rfl rfl (by omega) (by omega) ⟨by omega, by unfold maxLen; omega⟩ w.heap.size rfl ?_; intro w1 r1 hb1 hlt1)
    have HB : Hid (BackRel G s.size w (s.size + 1) (.int .i64 s.size) w1) := ⟨s.size + 1, _, rfl, by omega, Nat.le_refl _, by rw [backOf_start]; exact r1, hb1, Nat.le_refl _⟩
    clear r1 hb1
    refine (ris_is t m _ i rfl _ _ H1.out _).mono ?_; rintro e w2 ⟨rfl, rfl⟩
    go_wp2_with fail
    refine (ris_is t m _ i rfl _ _ H2.out _).mono ?_; rintro e w2 ⟨rfl, rfl⟩
    go_wp2_with fail
    refine (ris_is t m _ i rfl _ _ H3.out _).mono ?_; rintro e w2 ⟨rfl, rfl⟩
    go_wp2_with fail
    try ((with_reducible refine (HE.out _).mono ?_); rintro e w2 ⟨rfl, rfl⟩; go_wp2_with fail)
    go_loopg [16] (s.size + 1) (fun g k wr => BackRel G s.size w g k wr)
    case atStart => exact HB.out
    case round =>
      clear HB
      obtain ⟨n, z, rfl, hz, hn, hr, hbel, hg⟩ := hrel
      have hw0 := hr.lt
      have HR := Lib.hid hr; clear hr
      have HG := Lib.hid hg; clear hg
      rcases n with _ | n
      · obtain rfl : z = -1 := by omega
        clear hz
        go_wp2_with fail
        go_ret
        exact ⟨rfl, HR.out, hbel⟩
      · obtain rfl : z = (n : Int) := by omega
        clear hz
        have hf := HR.out.free n
        have yo : wr.cell? ⟨w.heap.size, n, none⟩ = some (.bool false) := by rw [HR.out.cell, backOf_at _ _ _ _ (by omega), if_neg (by omega)]
        obtain ⟨x0, x1⟩ := HNX.out.at hbel
        have y0 := x1 n (by omega)
        clear x1
        obtain ⟨c, hc⟩ : ∃ c, c = R n := ⟨_, rfl⟩
        rw [← hc] at y0
        have HC := Lib.hid hc; clear hc
        by_cases hk : n < s.size
        · have y1 : wr.cell? ⟨w.heap.size, n + 1, none⟩ = some (.bool (G (n + 1))) := by rw [HR.out.cell, backOf_at _ _ _ _ (by omega), if_pos (by omega)]
          obtain ⟨d, hd⟩ : ∃ d, d = G (n + 1) := ⟨_, rfl⟩
          rw [← hd] at y1
          have HD := Lib.hid hd; clear hd
          have HV : Hid (G n = (c || d)) := by unfold Hid; rw [HG1.out n hk, HC.out, HD.out]
          cases c
          all_goals
            go_wp2_with fail
            go_roundg n
            case measure => have := HG.out; omega
            case rel => exact back_store (by omega) HR.out hbel _ (by rw [HV.out]; simp)
        · obtain rfl : n = s.size := by omega
          have HV : Hid (G s.size = c) := by unfold Hid; rw [HG2.out, HC.out]
          cases c
          all_goals
            go_wp2_with fail
            go_roundg s.size
            case measure => have := HG.out; omega
            case rel => exact back_store (by omega) HR.out hbel _ HV.out
set_option maxRecDepth 100000 in
set_option maxHeartbeats 8000000 in
theorem row_some (t m s : ByteArray) (ht : t.size ≤ 1000000000) (hs : s.size ≤ 1000000000) (i : Nat) (hi : i < t.size) (B0 Bp p : Nat) (hp : p ≤ t.size) (R G : Nat → Bool)
    (hpi : p = i + 1) (h1 : isB t m i 42 = false) (h2 : isB t m i 63 = true) (b3 : Bool) (h3 : isB t m i 91 = b3) (hG : ∀ k, k < s.size → G k = R (k + 1)) (hG2 : G s.size = false) (w : World) (hnx : NextAt w B0 Bp s.size p R) :
    Calls Tryd.prog 29 #[.string t, .string m, .int .i64 i, .string s, .slice (some ⟨B0, 0, none⟩) (t.size + 1) (t.size + 1)] w (RowPost G s.size w) := by
  have HNX := Lib.hid hnx; clear hnx
  subst hpi
  have H1 := Lib.hid h1; have H2 := Lib.hid h2; have H3 := Lib.hid h3; have HG1 := Lib.hid hG; have HG2 := Lib.hid hG2; clear h1 h2 h3 hG hG2
  have hend := rend_any t m ht i (by omega)
  have HE := Lib.hid hend; clear hend
  cases b3
  all_goals
    go_enter Tryd.func29, Tryd.ntmps29
    go_wp2_with (at_make; refine wpList_mkrow _ rfl _ _ 51 rfl 4 _ 1 Tryd.underlying51 info4r rfl _ _ _ _ (s.size + 1) rfl rfl (by omega) (by omega) ⟨by omega, by unfold maxLen; omega⟩ w.heap.size rfl ?_; intro w1 r1 hb1 hlt1)
    have HB : Hid (BackRel G s.size w (s.size + 1) (.int .i64 s.size) w1) := ⟨s.size + 1, _, rfl, by omega, Nat.le_refl _, by rw [backOf_start]; exact r1, hb1, Nat.le_refl _⟩
    clear r1 hb1
    refine (ris_is t m _ i rfl _ _ H1.out _).mono ?_; rintro e w2 ⟨rfl, rfl⟩
    go_wp2_with fail
    refine (ris_is t m _ i rfl _ _ H2.out _).mono ?_; rintro e w2 ⟨rfl, rfl⟩
    go_wp2_with fail
    refine (ris_is t m _ i rfl _ _ H3.out _).mono ?_; rintro e w2 ⟨rfl, rfl⟩
    go_wp2_with fail
    try ((with_reducible refine (HE.out _).mono ?_); rintro e w2 ⟨rfl, rfl⟩; go_wp2_with fail)
    go_loopg [16] (s.size + 1) (fun g k wr => BackRel G s.size w g k wr)
    case atStart => exact HB.out
    case round =>
      clear HB
      obtain ⟨n, z, rfl, hz, hn, hr, hbel, hg⟩ := hrel
      have hw0 := hr.lt
      have HR := Lib.hid hr; clear hr
      have HG := Lib.hid hg; clear hg
      rcases n with _ | n
      · obtain rfl : z = -1 := by omega
        clear hz
        go_wp2_with fail
        go_ret
        exact ⟨rfl, HR.out, hbel⟩
      · obtain rfl : z = (n : Int) := by omega
        clear hz
        have hf := HR.out.free n
        have yo : wr.cell? ⟨w.heap.size, n, none⟩ = some (.bool false) := by rw [HR.out.cell, backOf_at _ _ _ _ (by omega), if_neg (by omega)]
        obtain ⟨x0, x1⟩ := HNX.out.at hbel
        by_cases hk : n < s.size
        · have y1 := x1 (n + 1) (by omega)
          clear x1
          obtain ⟨d, hd⟩ : ∃ d, d = R (n + 1) := ⟨_, rfl⟩
          rw [← hd] at y1
          have HV : Hid (G n = d) := by unfold Hid; rw [HG1.out n hk, hd]
          clear hd
          have hke : ((n : Int) == (s.size : Int)) = false := by simp; omega
          go_wp2_with fail
          go_roundg n
          case measure => have := HG.out; omega
          case rel => exact back_store (by omega) HR.out hbel _ HV.out
        · obtain rfl : n = s.size := by omega
          clear x1
          have hke : ((s.size : Int) == (s.size : Int)) = true := by simp
          go_wp2_with fail
          go_roundg s.size
          case measure => have := HG.out; omega
          case rel => exact back_skip (by omega) HR.out hbel HG2.out
set_option maxRecDepth 100000 in
set_option maxHeartbeats 8000000 in
theorem row_set (t m s : ByteArray) (ht : t.size ≤ 1000000000) (hs : s.size ≤ 1000000000) (i : Nat) (hi : i < t.size) (B0 Bp p : Nat) (hp : p ≤ t.size) (R G : Nat → Bool)
    (h1 : isB t m i 42 = false) (h2 : isB t m i 63 = false) (h3 : isB t m i 91 = true) (sg : Sg) (hset : setAt t m i = some (sg, p)) (hG : ∀ k, k < s.size → G k = (sg.has (bt s k) && R (k + 1))) (hG2 : G s.size = false) (w : World) (hnx : NextAt w B0 Bp s.size p R) :
    Calls Tryd.prog 29 #[.string t, .string m, .int .i64 i, .string s, .slice (some ⟨B0, 0, none⟩) (t.size + 1) (t.size + 1)] w (RowPost G s.size w) := by
  have HNX := Lib.hid hnx; clear hnx
  have H1 := Lib.hid h1; have H2 := Lib.hid h2; have H3 := Lib.hid h3; have HG1 := Lib.hid hG; have HG2 := Lib.hid hG2; clear h1 h2 h3 hG hG2
  have hend : ∀ w, Calls Tryd.prog 40 #[.string t, .string m, .int .i64 i] w fun e w' => e = .returned (.int .i64 (p : Int)) ∧ w = w' := fun w => by
    have h := rend_any t m ht i (by omega) w
    have he : endF t m i = (p : Int) := by unfold endF; rw [hset]
    rw [he] at h; exact h
  have HE := Lib.hid hend; clear hend
  have hpi := (setAt_gt hset).1
  have HS := Lib.hid hset; clear hset
  have hp0 : 0 < p := by omega
  simp only at hpi
  have hgt := get_bt s
  go_enter Tryd.func29, Tryd.ntmps29
  go_wp2_with (at_make; refine wpList_mkrow _ rfl _ _ 51 rfl 4 _ 1 Tryd.underlying51 info4r rfl _ _ _ _ (s.size + 1) rfl rfl (by omega) (by omega) ⟨by omega, by unfold maxLen; omega⟩ w.heap.size rfl ?_; intro w1 r1 hb1 hlt1)
  have HB : Hid (BackRel G s.size w (s.size + 1) (.int .i64 s.size) w1) := ⟨s.size + 1, _, rfl, by omega, Nat.le_refl _, by rw [backOf_start]; exact r1, hb1, Nat.le_refl _⟩
  clear r1 hb1
  refine (ris_is t m _ i rfl _ _ H1.out _).mono ?_; rintro e w2 ⟨rfl, rfl⟩
  go_wp2_with fail
  refine (ris_is t m _ i rfl _ _ H2.out _).mono ?_; rintro e w2 ⟨rfl, rfl⟩
  go_wp2_with fail
  refine (ris_is t m _ i rfl _ _ H3.out _).mono ?_; rintro e w2 ⟨rfl, rfl⟩
  go_wp2_with fail
  try ((with_reducible refine (HE.out _).mono ?_); rintro e w2 ⟨rfl, rfl⟩; go_wp2_with fail)
  go_loopg [16] (s.size + 1) (fun g k wr => BackRel G s.size w g k wr)
  case atStart => exact HB.out
  case round =>
    clear HB
    obtain ⟨n, z, rfl, hz, hn, hr, hbel, hg⟩ := hrel
    have hw0 := hr.lt
    have HR := Lib.hid hr; clear hr
    have HG := Lib.hid hg; clear hg
    rcases n with _ | n
    · obtain rfl : z = -1 := by omega
      clear hz
      go_wp2_with fail
      go_ret
      exact ⟨rfl, HR.out, hbel⟩
    · obtain rfl : z = (n : Int) := by omega
      clear hz
      have hf := HR.out.free n
      have yo : wr.cell? ⟨w.heap.size, n, none⟩ = some (.bool false) := by rw [HR.out.cell, backOf_at _ _ _ _ (by omega), if_neg (by omega)]
      obtain ⟨x0, x1⟩ := HNX.out.at hbel
      by_cases hk : n < s.size
      · have y1 := x1 (n + 1) (by omega)
        clear x1
        obtain ⟨d, hd⟩ : ∃ d, d = R (n + 1) := ⟨_, rfl⟩
        rw [← hd] at y1
        obtain ⟨c, hc⟩ : ∃ c, sg.has (bt s n) = c := ⟨_, rfl⟩
        have HV : Hid (G n = (c && d)) := by unfold Hid; rw [HG1.out n hk, hd, hc]
        have HIN := Lib.hid (fun w => rin_any t m ht i (by omega) (bt s n) (sg, p) HS.out w)
        simp only [hc] at HIN
        clear hd hc
        have hke : ((n : Int) == (s.size : Int)) = false := by simp; omega
        cases c
        all_goals
          go_wp2_with fail
          refine (HIN.out _).mono ?_; rintro e w2 ⟨rfl, rfl⟩
          go_wp2_with fail
          go_roundg n
          case measure => have := HG.out; omega
          case rel => exact back_store (by omega) HR.out hbel _ (by rw [HV.out]; simp)
      · obtain rfl : n = s.size := by omega
        clear x1
        have hke : ((s.size : Int) == (s.size : Int)) = true := by simp
        go_wp2_with fail
        go_roundg s.size
        case measure => have := HG.out; omega
        case rel => exact back_skip (by omega) HR.out hbel HG2.out
set_option maxRecDepth 100000 in
set_option maxHeartbeats 8000000 in
theorem row_self (t m s : ByteArray) (ht : t.size ≤ 1000000000) (hs : s.size ≤ 1000000000) (i : Nat) (hi : i < t.size) (B0 Bp p : Nat) (hp : p ≤ t.size) (R G : Nat → Bool)
    (hpi : p = i + 1) (h1 : isB t m i 42 = false) (h2 : isB t m i 63 = false) (b3 : Bool) (h3 : isB t m i 91 = b3) (hset : b3 = true → setAt t m i = none) (hG : ∀ k, k < s.size → G k = ((bt t i == bt s k) && R (k + 1))) (hG2 : G s.size = false) (w : World) (hnx : NextAt w B0 Bp s.size p R) :
    Calls Tryd.prog 29 #[.string t, .string m, .int .i64 i, .string s, .slice (some ⟨B0, 0, none⟩) (t.size + 1) (t.size + 1)] w (RowPost G s.size w) := by
  have HNX := Lib.hid hnx; clear hnx
  subst hpi
  have H1 := Lib.hid h1; have H2 := Lib.hid h2; have H3 := Lib.hid h3; have HG1 := Lib.hid hG; have HG2 := Lib.hid hG2; clear h1 h2 h3 hG hG2
  have hend : b3 = true → ∀ w, Calls Tryd.prog 40 #[.string t, .string m, .int .i64 i] w fun e w' => e = .returned (.int .i64 (-1)) ∧ w = w' := fun hb w => by
    have h := rend_any t m ht i (by omega) w
    have he : endF t m i = -1 := by unfold endF; rw [hset hb]
    rw [he] at h; exact h
  have HE := Lib.hid hend; clear hend hset
  have hgt := get_bt s
  have hgt2 := get_bt t
  cases b3
  all_goals
    go_enter Tryd.func29, Tryd.ntmps29
    go_wp2_with (at_make; refine wpList_mkrow _ rfl _ _ 51 rfl 4 _ 1 Tryd.underlying51 info4r rfl _ _ _ _ (s.size + 1) rfl rfl (by omega) (by omega) ⟨by omega, by unfold maxLen; omega⟩ w.heap.size rfl ?_; intro w1 r1 hb1 hlt1)
    have HB : Hid (BackRel G s.size w (s.size + 1) (.int .i64 s.size) w1) := ⟨s.size + 1, _, rfl, by omega, Nat.le_refl _, by rw [backOf_start]; exact r1, hb1, Nat.le_refl _⟩
    clear r1 hb1
    refine (ris_is t m _ i rfl _ _ H1.out _).mono ?_; rintro e w2 ⟨rfl, rfl⟩
    go_wp2_with fail
    refine (ris_is t m _ i rfl _ _ H2.out _).mono ?_; rintro e w2 ⟨rfl, rfl⟩
    go_wp2_with fail
    refine (ris_is t m _ i rfl _ _ H3.out _).mono ?_; rintro e w2 ⟨rfl, rfl⟩
    go_wp2_with fail
    try ((with_reducible refine (HE.out trivial _).mono ?_); rintro e w2 ⟨rfl, rfl⟩; go_wp2_with fail)
    go_loopg [16] (s.size + 1) (fun g k wr => BackRel G s.size w g k wr)
    case atStart => exact HB.out
    case round =>
      clear HB
      obtain ⟨n, z, rfl, hz, hn, hr, hbel, hg⟩ := hrel
      have hw0 := hr.lt
      have HR := Lib.hid hr; clear hr
      have HG := Lib.hid hg; clear hg
      rcases n with _ | n
      · obtain rfl : z = -1 := by omega
        clear hz
        go_wp2_with fail
        go_ret
        exact ⟨rfl, HR.out, hbel⟩
      · obtain rfl : z = (n : Int) := by omega
        clear hz
        have hf := HR.out.free n
        have yo : wr.cell? ⟨w.heap.size, n, none⟩ = some (.bool false) := by rw [HR.out.cell, backOf_at _ _ _ _ (by omega), if_neg (by omega)]
        obtain ⟨x0, x1⟩ := HNX.out.at hbel
        by_cases hk : n < s.size
        · have y1 := x1 (n + 1) (by omega)
          clear x1
          obtain ⟨d, hd⟩ : ∃ d, d = R (n + 1) := ⟨_, rfl⟩
          rw [← hd] at y1
          have HV : Hid (G n = ((bt t i == bt s n) && d)) := by unfold Hid; rw [HG1.out n hk, hd]
          clear hd
          have hke : ((n : Int) == (s.size : Int)) = false := by simp; omega
          by_cases hc : bt s n = bt t i
          · have hc' : (bt s n == bt t i) = true := by simpa using hc
            have HC := Lib.hid hc; clear hc
            go_wp2_with fail
            go_region
            go_wp2_with fail
            go_roundg n
            case measure => have := HG.out; omega
            case rel => first | exact back_store (by omega) HR.out hbel _ (by rw [HV.out, HC.out]; simp) | exact back_store_drew (by omega) HR.out hbel _ (by rw [HV.out, HC.out]; simp)
          · have hc' : (bt s n == bt t i) = false := by simpa using hc
            have HC := Lib.hid hc; clear hc
            go_wp2_with fail
            go_region
            go_wp2_with fail
            go_roundg n
            case measure => have := HG.out; omega
            case rel => first | exact back_store (by omega) HR.out hbel _ (by rw [HV.out]; simp [show ¬ bt t i = bt s n from fun e => HC.out e.symm]) | exact back_store_drew (by omega) HR.out hbel _ (by rw [HV.out]; simp [show ¬ bt t i = bt s n from fun e => HC.out e.symm])
        · obtain rfl : n = s.size := by omega
          clear x1
          have hke : ((s.size : Int) == (s.size : Int)) = true := by simp
          go_wp2_with fail
          go_roundg s.size
          case measure => have := HG.out; omega
          case rel => exact back_skip (by omega) HR.out hbel HG2.out
end Go.Proofs.YtmcaphmgjhkgfaaDoor
