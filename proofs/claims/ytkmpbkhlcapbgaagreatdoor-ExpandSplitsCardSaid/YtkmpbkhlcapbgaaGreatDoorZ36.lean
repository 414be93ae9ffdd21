/-
  DERIVED. The walks of expand's alone, tilde. The walk of expand's args. What param.trims comes to, for every operation. Map literals with string keys: a fresh block that holds a written list of keys and values; what an insert and a look-up do to it. No program in sight.
-/
import Derived.Test.YtkmpbkhlcapbgaaGreatDoorZ35
import Derived.Deep.LoopGhost
import Derived.Test.YtkmpbkhlcapbgaaGreatDoorProg
import Derived.Test.YtkmpbkhlcapbgaaGreatDoorZ01
import Derived.WalkKit
import Derived.WalkSpells
import Derived.WalkLawsBesides
import Derived.Handy
import Derived.BigQuiet
import Derived.Deep.QuietTactic
import Derived.Maps.Own
namespace Go.Proofs.YtkmpbkhlcapbgaaGreatDoor
open Go Go.RowKit
def oneOf : List UInt8 → Bool
  | [c] => decide (0 ≤ Lib.indexByte [45, 61, 63, 43] c)
  | _ => false
theorem oneOf_no : ∀ T : List UInt8, ((T.length : Int) == 1) = false → oneOf T = false
  | [], _ => rfl
  | [_], h => by simp at h
  | _ :: _ :: _, _ => rfl
def aloneB (l : List UInt8) : Bool := oneOf (Lib.trimPrefix l [58])
theorem aloneB_is (l : List UInt8) : aloneB l = decide (l ∈ aloneL) := by
  unfold aloneB oneOf Lib.trimPrefix Lib.hasPrefix
  match l with
  | [] => rfl
  | [a] =>
    by_cases h : a = 58
    · subst h; rfl
    · have h2 : ([58] : List UInt8).isPrefixOf [a] = false := by simp [List.isPrefixOf]; exact fun e => h e.symm
      rw [h2]
      simp only [Bool.false_eq_true, if_false]
      rw [index_contains]
      simp [aloneL]
  | [a, b] =>
    by_cases h : a = 58
    · subst h
      have h2 : ([58] : List UInt8).isPrefixOf [58, b] = true := by simp [List.isPrefixOf]
      rw [h2]
      simp only [if_true, List.length_cons, List.length_nil, List.drop]
      rw [index_contains]
      simp [aloneL]
    · have h2 : ([58] : List UInt8).isPrefixOf [a, b] = false := by simp [List.isPrefixOf]; exact fun e => h e.symm
      rw [h2]
      simp only [Bool.false_eq_true, if_false]
      simp [aloneL, h]
  | a :: b :: c :: l =>
    by_cases h : a = 58
    · subst h
      have h2 : ([58] : List UInt8).isPrefixOf (58 :: b :: c :: l) = true := by simp [List.isPrefixOf]
      rw [h2]
      simp [aloneL]
    · have h2 : ([58] : List UInt8).isPrefixOf (a :: b :: c :: l) = false := by simp [List.isPrefixOf]; exact fun e => h e.symm
      rw [h2]
      simp [aloneL]
set_option maxRecDepth 100000 in
set_option maxHeartbeats 4000000 in
theorem alone_at (op : ByteArray) (w : World) : Calls Tryz.prog 86 #[.string op] w fun x w' => x = .returned (.bool (decide (op.data.toList ∈ aloneL))) ∧ w = w' := by
  rw [← aloneB_is]
  unfold aloneB
  have HT := Lib.hid (Tryz.strings_TrimPrefix op ⟨#[58]⟩ w)
  rw [show (⟨#[58]⟩ : ByteArray).data.toList = [58] from rfl] at HT
  obtain ⟨T, hT⟩ : ∃ T, Lib.trimPrefix op.data.toList [58] = T := ⟨_, rfl⟩
  rw [hT] at HT ⊢
  clear hT
  have hsz : (⟨T.toArray⟩ : ByteArray).size = T.length := by show T.toArray.size = _; simp
  have hcl : T.length = 1 ∨ (((T.length : Int) == 1) = false) := by
    by_cases h : T.length = 1
    · exact .inl h
    · exact .inr (by simp; omega)
  rcases hcl with h | h
  · obtain ⟨c, rfl⟩ : ∃ c, T = [c] := List.length_eq_one_iff.1 h
    rw [show oneOf [c] = decide (0 ≤ Lib.indexByte [45, 61, 63, 43] c) from rfl]
    have HC := Lib.hid (Tryz.strings_Contains_one ⟨#[45, 61, 63, 43]⟩ c w)
    have h3 : (⟨[c].toArray⟩ : ByteArray).size = 1 := rfl
    go_enter Tryz.func86, Tryz.ntmps86
    go_wp2_with fail
    refine HT.out.mono ?_; rintro y w1 ⟨rfl, rfl⟩
    go_wp2_with fail
    refine HC.out.mono ?_; rintro y w1 ⟨rfl, rfl⟩
    go_wp2_with fail
    go_ret
    exact ⟨rfl, rfl⟩
  · have h4 := oneOf_no T h
    rw [h4]
    have h5 : (((⟨T.toArray⟩ : ByteArray).size : Int) == 1) = false := by rw [hsz]; exact h
    clear h4
    go_enter Tryz.func86, Tryz.ntmps86
    go_wp2_with fail
    refine HT.out.mono ?_; rintro y w1 ⟨rfl, rfl⟩
    go_wp2_with fail
    go_ret
    exact ⟨rfl, rfl⟩
set_option maxRecDepth 100000 in
set_option maxHeartbeats 4000000 in
theorem tilde_at (g : Nat) (A : Nat → Prop) (e : EnvT) (r : RowT) (k : Nat) (t op : ByteArray) (q : Bool) (a : Option Addr) (m c : Nat) (w : World) (out : ExT) (hW : WorkAt g A w e r)
    (ho : keepR e (match e.get [72, 79, 77, 69] with | some h => putR r h 113 | none => putR r [126] 108) = some out) :
    Calls Tryz.prog 68 #[.pointer (some ⟨g, 0, none⟩), .agg #[.int .i64 (k : Nat), .string t, .string op, .bool q, .slice a m c]] w (OutPost g A w out) := by
  have hlg := hW.lt
  have hAl := (Below.refl w.heap.size w).alloc (Nat.le_refl _) (partO k t op q a m c)
  obtain ⟨rfl, hb, -⟩ := keepR_is ho
  have hW2 := hW.below hAl
  have HK := Lib.hid (Kept.of (g := g) hAl)
  obtain ⟨vv, aa, na, ca, hC⟩ := hW2
  obtain ⟨va, nv, cv, rfl⟩ := hC.shape
  obtain ⟨d0, d1, d2, d3, d4, d5, g0, g1, g2, g3, g4, g5, lth⟩ := six_facts hC.row
  have HG := Lib.hid (get_at ⟨#[72, 79, 77, 69]⟩ (by decide) (by kernel_rfl) e _ (.slice va nv cv) (.slice aa na ca) (.int .i64 e.status) (.string ⟨e.flags.toArray⟩) _ hC.env)
  rw [show (⟨#[72, 79, 77, 69]⟩ : ByteArray).data.toList = [72, 79, 77, 69] from rfl] at HG
  have hC' : WorkAt g A (w.alloc (partO k t op q a m c)) e r := ⟨_, aa, na, ca, hC⟩
  have HW := Lib.hid hC'
  cases hh : e.get [72, 79, 77, 69] with
  | none =>
    rw [hh] at HG
    simp only [hh] at hb
    simp only
    have HGN : Hid (Calls Tryz.prog 15 #[.agg #[.slice va nv cv, .slice aa na ca, .int .i64 e.status, .string ⟨e.flags.toArray⟩], .string ⟨#[72, 79, 77, 69]⟩] (w.alloc (partO k t op q a m c)) fun x w' => x = .returned (.tuple #[.string ⟨#[]⟩, .bool false]) ∧ Below (w.alloc (partO k t op q a m c)).heap.size (w.alloc (partO k t op q a m c)) w') := HG
    clear HG hC hC' hW hAl
    go_enter Tryz.func68, Tryz.ntmps68
    go_wp2_with fail
    refine HGN.out.mono ?_; rintro y w1 ⟨rfl, hb1⟩
    have HP := Lib.hid (wput_at g A e r ⟨#[126]⟩ 108 w1 (HW.out.below hb1) hb)
    have HK1 := Lib.hid (HK.out.trans (Kept.of hb1))
    clear hb1
    go_wp2_with fail
    refine HP.out.mono ?_; rintro y w2 ⟨rfl, hx, hk⟩
    go_wp2_with fail
    go_end0
    exact ⟨rfl, hx, HK1.out.trans hk⟩
  | some v =>
    rw [hh] at HG
    simp only [hh] at hb
    simp only
    have HGN : Hid (Calls Tryz.prog 15 #[.agg #[.slice va nv cv, .slice aa na ca, .int .i64 e.status, .string ⟨e.flags.toArray⟩], .string ⟨#[72, 79, 77, 69]⟩] (w.alloc (partO k t op q a m c)) fun x w' => x = .returned (.tuple #[.string ⟨v.toArray⟩, .bool true]) ∧ Below (w.alloc (partO k t op q a m c)).heap.size (w.alloc (partO k t op q a m c)) w') := HG
    clear HG hC hC' hW hAl
    go_enter Tryz.func68, Tryz.ntmps68
    go_wp2_with fail
    refine HGN.out.mono ?_; rintro y w1 ⟨rfl, hb1⟩
    have HP := Lib.hid (wput_at g A e r ⟨v.toArray⟩ 113 w1 (HW.out.below hb1) hb)
    have HK1 := Lib.hid (HK.out.trans (Kept.of hb1))
    clear hb1
    go_wp2_with fail
    refine HP.out.mono ?_; rintro y w2 ⟨rfl, hx, hk⟩
    go_wp2_with fail
    go_end0
    exact ⟨rfl, hx, HK1.out.trans hk⟩
end Go.Proofs.YtkmpbkhlcapbgaaGreatDoor
namespace Go.Proofs.YtkmpbkhlcapbgaaGreatDoor
open Go Go.RowKit
theorem argsR_cons (q : Bool) (a : List UInt8) (l : List (List UInt8)) (r : RowT) (f : Bool) : argsR r q (a :: l) f = argsR (putR (if f then r else putR r [32] 98) a (sortC q)) q l false := by rw [argsR]
set_option maxRecDepth 100000 in
set_option maxHeartbeats 8000000 in
theorem args_at (g : Nat) (A : Nat → Prop) (e : EnvT) (r : RowT) (k : Nat) (t op : ByteArray) (q : Bool) (a : Option Addr) (m c : Nat) (w : World) (out : ExT) (hW : WorkAt g A w e r)
    (ho : keepR e (argsR r q e.args true) = some out) :
    Calls Tryz.prog 85 #[.pointer (some ⟨g, 0, none⟩), .agg #[.int .i64 (k : Nat), .string t, .string op, .bool q, .slice a m c]] w (OutPost g A w out) := by
  have hlg := hW.lt
  have hAl := (Below.refl w.heap.size w).alloc (Nat.le_refl _) (partO k t op q a m c)
  obtain ⟨rfl, hb, -⟩ := keepR_is ho
  have hW2 := hW.below hAl
  have HBX := Lib.hid (RowIs.new w 92 [.int .i64 (k : Nat), .string t, .string op, .bool q, .slice a m c])
  have HK := Lib.hid (Kept.of (g := g) hAl)
  have hne : w.heap.size ≠ g := by omega
  obtain ⟨fin, hfin⟩ : ∃ fin, argsR r q e.args true = fin := ⟨_, rfl⟩
  rw [hfin] at hb ⊢
  have HW := Lib.hid hW2
  obtain ⟨vv, aa, na, ca, hC⟩ := hW2
  obtain ⟨va, nv, cv, rfl⟩ := hC.shape
  obtain ⟨aa0, cap0, ha0, hac, hal, hacell⟩ := hC.env.args
  obtain ⟨rfl, rfl, rfl⟩ : aa = aa0 ∧ na = e.args.length ∧ ca = cap0 := by simpa using ha0
  obtain ⟨d0, d1, d2, d3, d4, d5, g0, g1, g2, g3, g4, g5, lth⟩ := six_facts hC.row
  have HAC := Lib.hid hacell
  have HB := Lib.hid hb
  obtain ⟨n, hn⟩ : ∃ n, e.args.length = n := ⟨_, rfl⟩
  have HN := Lib.hid hn
  have hnl : n ≤ 1000000000 := by omega
  rw [hn] at d1
  have H0 : Hid (WorkAt g A (w.alloc (partO k t op q a m c)) e r ∧ Kept g (w.alloc (partO k t op q a m c)) (w.alloc (partO k t op q a m c)) ∧ argsR r q (e.args.drop 0) (decide (0 = 0)) = fin) := ⟨HW.out, Kept.refl _ _, hfin⟩
  clear hC ha0 hacell hac hal hW hAl hb hfin ho hn HW
  go_enter Tryz.func85, Tryz.ntmps85
  go_wp2_with fail
  obtain ⟨W0, hW0⟩ : ∃ W0, (w.alloc (.cells #[.int .i64 (k : Nat), .string t, .string op, .bool q, .slice a m c] 92)) = W0 := ⟨_, rfl⟩
  have HBX2 : Hid (RowIs W0 w.heap.size 92 [.int .i64 (k : Nat), .string t, .string op, .bool q, .slice a m c]) := by rw [← hW0]; exact HBX
  have HAC2 : Hid (e.args = [] ∨ ∃ b off, aa = some ⟨b, off, none⟩ ∧ (b ≠ g ∧ ¬ A b) ∧ b < W0.heap.size ∧ ∀ i (h : i < e.args.length), W0.cell? ⟨b, off + i, none⟩ = some (.string ⟨e.args[i].toArray⟩)) := by rw [← hW0]; exact HAC
  have HK2 : Hid (Kept g w W0) := by rw [← hW0]; exact HK
  have H1 : Hid (WorkAt g A W0 e r ∧ Kept g W0 W0 ∧ argsR r q (e.args.drop 0) (decide (0 = 0)) = fin) := by rw [← hW0]; exact H0
  rw [hW0]
  clear hW0 HBX HAC HK H0 d0 d1 d2 d3 d4 d5 g0 g1 g2 g3 g4 g5 lth
  go_loopg [12] n (fun gk s12 wx => ∃ (i : Nat) (r' : RowT), i ≤ n ∧ s12 = .int .i64 i ∧ Hid (WorkAt g A wx e r' ∧ Kept g W0 wx ∧ argsR r' q (e.args.drop i) (decide (i = 0)) = fin) ∧ i + gk = n)
  case atStart => exact ⟨0, r, Nat.zero_le _, rfl, H1.out, Nat.zero_add _⟩
  case round =>
    obtain ⟨i, r', hil, rfl, HH, HGK⟩ := hrel
    clear H1
    obtain ⟨hWk, hK, hE⟩ := HH.out
    by_cases hlt : i < n
    · have hlt2 : i < e.args.length := by rw [HN.out]; exact hlt
      rw [List.drop_eq_getElem_cons hlt2, argsR_cons] at hE
      obtain ⟨b, off, rfl, hbg, hbl, hyc⟩ : ∃ b off, aa = some ⟨b, off, none⟩ ∧ b ≠ g ∧ b < W0.heap.size ∧ ∀ i (h : i < e.args.length), W0.cell? ⟨b, off + i, none⟩ = some (.string ⟨e.args[i].toArray⟩) := by
        rcases HAC2.out with h | ⟨b, off, h1, h2, h3, h4⟩
        · rw [h] at hlt2; simp at hlt2
        · exact ⟨b, off, h1, h2.1, h3, h4⟩
      have z0 := hK.cell (p := ⟨b, off + i, none⟩) hbg (hyc i hlt2)
      have hbl2 : b < wr.heap.size := Nat.lt_of_lt_of_le hbl hK.size
      have hz1 : (i : Int) < (n : Int) := by omega
      have hw1 : IntKind.i64.wrap ((i : Int) + 1) = (i : Int) + 1 := wrap_small _ (by omega) (by omega)
      have hbr := hK.row HBX2.out hne
      obtain ⟨x, hx⟩ : ∃ x, e.args[i] = x := ⟨_, rfl⟩
      rw [hx] at z0 hE
      obtain ⟨gk, rfl⟩ : ∃ gk', gk = gk' + 1 := ⟨gk - 1, by omega⟩
      have hge := argsR_ge (e.args.drop (i + 1)) (putR (if decide (i = 0) = true then r' else putR r' [32] 98) x (sortC q)) q false
      rw [hE] at hge
      have hb1 : (putR (if decide (i = 0) = true then r' else putR r' [32] 98) x (sortC q)).1.length ≤ 1000000 := Nat.le_trans hge HB.out
      have hF : decide (i + 1 = 0) = false := by simp
      clear hge hyc hx HH
      by_cases h0 : i = 0
      · subst h0
        rw [if_pos (by simp)] at hE hb1
        rw [Nat.add_zero] at z0
        have HPT : Hid (Calls Tryz.prog 84 #[.pointer (some ⟨g, 0, none⟩), .string ⟨x.toArray⟩, .int .u8 ((sortC q).toNat : Int)] wr (WkPost g A e (putR r' x (sortC q)) wr)) := wput_at g A e r' ⟨x.toArray⟩ (sortC q) wr hWk hb1
        obtain ⟨x0, x1, x2, x3, x4, u0, u1, u2, u3, u4, ltx⟩ := five_facts hbr
        have HE := Lib.hid hE
        have HKR := Lib.hid hK
        clear hE hK hWk hb1 hbr
        go_wp2_with fail
        refine (sort_at q _).mono ?_; rintro y wx ⟨rfl, rfl⟩
        go_wp2_with fail
        refine HPT.out.mono ?_; rintro y wy ⟨rfl, hx, hk⟩
        have H2 : Hid (WorkAt g A wy e (putR r' x (sortC q)) ∧ Kept g W0 wy ∧ argsR (putR r' x (sortC q)) q (e.args.drop (0 + 1)) (decide (0 + 1 = 0)) = fin) := ⟨hx, HKR.out.trans hk, by rw [hF]; exact HE.out⟩
        clear hx hk
        go_wp2_with fail
        go_roundg gk
        case measure => omega
        case rel => exact ⟨0 + 1, putR r' x (sortC q), by omega, by go_num, H2.out, by omega⟩
      · rw [if_neg (by simpa using h0)] at hE hb1
        have hge2 := putR_ge (putR r' [32] 98) x (sortC q)
        have HP0 : Hid (Calls Tryz.prog 84 #[.pointer (some ⟨g, 0, none⟩), .string ⟨#[32]⟩, .int .u8 98] wr (WkPost g A e (putR r' [32] 98) wr)) := wput_at g A e r' ⟨#[32]⟩ 98 wr hWk (by show (putR r' [32] 98).1.length ≤ _; omega)
        have HPT : Hid (∀ W, WorkAt g A W e (putR r' [32] 98) → Calls Tryz.prog 84 #[.pointer (some ⟨g, 0, none⟩), .string ⟨x.toArray⟩, .int .u8 ((sortC q).toNat : Int)] W (WkPost g A e (putR (putR r' [32] 98) x (sortC q)) W)) := fun W h => wput_at g A e (putR r' [32] 98) ⟨x.toArray⟩ (sortC q) W h hb1
        have hz2 : (0 : Int) < (i : Int) := by omega
        have HE := Lib.hid hE
        have HKR := Lib.hid hK
        clear hE hK hWk hb1 hge2
        go_wp2_with fail
        refine HP0.out.mono ?_; rintro y wq ⟨rfl, hxq, hkq⟩
        obtain ⟨x0, x1, x2, x3, x4, u0, u1, u2, u3, u4, ltx⟩ := five_facts (hkq.row hbr hne)
        have HKQ := Lib.hid (HKR.out.trans hkq)
        have HXQ := Lib.hid hxq
        clear hxq hkq hbr
        go_wp2_with fail
        refine (sort_at q _).mono ?_; rintro y wx ⟨rfl, rfl⟩
        go_wp2_with fail
        refine (HPT.out _ HXQ.out).mono ?_; rintro y wy ⟨rfl, hx, hk⟩
        have H2 : Hid (WorkAt g A wy e (putR (putR r' [32] 98) x (sortC q)) ∧ Kept g W0 wy ∧ argsR (putR (putR r' [32] 98) x (sortC q)) q (e.args.drop (i + 1)) (decide (i + 1 = 0)) = fin) := ⟨hx, HKQ.out.trans hk, by rw [hF]; exact HE.out⟩
        clear hx hk
        go_wp2_with fail
        go_roundg gk
        case measure => omega
        case rel => exact ⟨i + 1, putR (putR r' [32] 98) x (sortC q), by omega, by go_num, H2.out, by omega⟩
    · have hli : i = n := by omega
      rw [List.drop_of_length_le (by rw [HN.out]; omega), argsR] at hE
      subst hE
      have HF : Hid (WorkAt g A wr e r' ∧ Kept g w wr) := ⟨hWk, HK2.out.trans hK⟩
      have hz1 : ¬ ((i : Int) < (n : Int)) := by omega
      clear hWk hK HH hli
      go_wp2_with fail
      go_end0
      exact ⟨rfl, HF.out.1, HF.out.2⟩
end Go.Proofs.YtkmpbkhlcapbgaaGreatDoor
namespace Go.Proofs.YtkmpbkhlcapbgaaGreatDoor
open Go.RowKit
set_option maxHeartbeats 400000 in
theorem trims_a (w : World) :
    Calls Tryz.prog 124 #[.string ⟨#[37]⟩] w fun e w' => e = .returned (.tuple #[.bool true, .bool true, .bool false]) ∧ ∃ n, w' = w.drewN n := by
  go_enter Tryz.func124, Tryz.ntmps124
  go_wp2
  go_quiet (fail)
  go_wp2
  go_ret3
  exact ⟨rfl, _, rfl⟩
set_option maxHeartbeats 400000 in
theorem trims_b (w : World) :
    Calls Tryz.prog 124 #[.string ⟨#[35]⟩] w fun e w' => e = .returned (.tuple #[.bool true, .bool false, .bool false]) ∧ ∃ n, w' = w.drewN n := by
  go_enter Tryz.func124, Tryz.ntmps124
  go_wp2
  go_quiet (fail)
  go_wp2
  go_ret3
  exact ⟨rfl, _, rfl⟩
set_option maxHeartbeats 400000 in
theorem trims_c (w : World) :
    Calls Tryz.prog 124 #[.string ⟨#[37, 37]⟩] w fun e w' => e = .returned (.tuple #[.bool true, .bool true, .bool true]) ∧ ∃ n, w' = w.drewN n := by
  go_enter Tryz.func124, Tryz.ntmps124
  go_wp2
  go_quiet (fail)
  go_wp2
  go_ret3
  exact ⟨rfl, _, rfl⟩
set_option maxHeartbeats 400000 in
theorem trims_d (w : World) :
    Calls Tryz.prog 124 #[.string ⟨#[35, 35]⟩] w fun e w' => e = .returned (.tuple #[.bool true, .bool false, .bool true]) ∧ ∃ n, w' = w.drewN n := by
  go_enter Tryz.func124, Tryz.ntmps124
  go_wp2
  go_quiet (fail)
  go_wp2
  go_ret3
  exact ⟨rfl, _, rfl⟩
set_option maxHeartbeats 400000 in
theorem trims_no (s : ByteArray) (w : World) (h1 : (s.toList == [37, 37]) = false) (h2 : (s.toList == [35, 35]) = false) (h3 : (s.toList == [37]) = false) (h4 : (s.toList == [35]) = false) :
    Calls Tryz.prog 124 #[.string s] w fun e w' => e = .returned (.tuple #[.bool false, .bool false, .bool false]) ∧ ∃ n, w' = w.drewN n := by
  go_enter Tryz.func124, Tryz.ntmps124
  go_wp2
  go_ret3
  exact ⟨rfl, 0, rfl⟩
theorem trims_any (s : ByteArray) (w : World) :
    Calls Tryz.prog 124 #[.string s] w fun e w' => e = .returned (.tuple #[.bool (trimsF s.data.toList).1, .bool (trimsF s.data.toList).2.1, .bool (trimsF s.data.toList).2.2]) ∧ Below w.heap.size w w' := by
  have fin : ∀ {r : Ending}, (Calls Tryz.prog 124 #[.string s] w fun e w' => e = r ∧ ∃ n, w' = w.drewN n) →
      Calls Tryz.prog 124 #[.string s] w fun e w' => e = r ∧ Below w.heap.size w w' := fun h => h.mono fun e w' ⟨he, n, hw⟩ => ⟨he, by rw [hw]; exact below_drewN (Below.refl _ _) n⟩
  have back : ∀ l : List UInt8, s.data.toList = l → s = ⟨l.toArray⟩ := fun l h => by rw [← h, Lib.mk_data]
  refine fin ?_
  unfold trimsF
  by_cases h1 : s.data.toList = [37, 37]
  · rw [h1]; obtain rfl := back _ h1; exact trims_c w
  by_cases h2 : s.data.toList = [35, 35]
  · rw [h2]; obtain rfl := back _ h2; exact trims_d w
  by_cases h3 : s.data.toList = [37]
  · rw [h3]; obtain rfl := back _ h3; exact trims_a w
  by_cases h4 : s.data.toList = [35]
  · rw [h4]; obtain rfl := back _ h4; exact trims_b w
  have f1 : (s.data.toList == [37, 37]) = false := by simpa using h1
  have f2 : (s.data.toList == [35, 35]) = false := by simpa using h2
  have f3 : (s.data.toList == [37]) = false := by simpa using h3
  have f4 : (s.data.toList == [35]) = false := by simpa using h4
  simp only [f1, f2, f3, f4]
  rw [← Lib.toList_data] at f1 f2 f3 f4
  exact trims_no s w f1 f2 f3 f4
end Go.Proofs.YtkmpbkhlcapbgaaGreatDoor
namespace Go.Proofs.YtkmpbkhlcapbgaaGreatDoor.MapLit
open Go Go.RowKit
/-- The entries of a map literal, in order. -/
def entries : List (List UInt8 × Value) → Nat → List MapEntry
  | [], _ => []
  | (k, v) :: l, n => ⟨.string ⟨k.toArray⟩, v, n⟩ :: entries l (n + 1)
/-- The block that a map literal fills. -/
def litMap (l : List (List UInt8 × Value)) : Obj := .map (entries l 0).toArray l.length
/-- What is found at a key. -/
def at_ : List (List UInt8 × Value) → List UInt8 → Option Value
  | [], _ => none
  | (k, v) :: l, x => if x == k then some v else at_ l x
attribute [simp] at_
theorem entries_append (l m : List (List UInt8 × Value)) : ∀ n, entries (l ++ m) n = entries l n ++ entries m (n + l.length) := by
  induction l with
  | nil => intro n; simp [entries]
  | cons p l ih => intro n; obtain ⟨k, v⟩ := p; simp [entries, ih, Nat.add_comm, Nat.add_left_comm]
theorem beq_mk (x k : List UInt8) : ((⟨x.toArray⟩ : ByteArray) == ⟨k.toArray⟩) = (x == k) := by
  show (x.toArray == k.toArray) = _
  rw [Bool.eq_iff_iff, beq_iff_eq, beq_iff_eq]
  simp
theorem findNow_lit (x : List UInt8) : ∀ (l : List (List UInt8 × Value)) (n i : Nat), ∃ j, Instr.findNow .string (.string ⟨x.toArray⟩) (entries l n) i = some ((at_ l x).map fun v => (j, v)) := by
  intro l
  induction l with
  | nil => intro n i; exact ⟨0, rfl⟩
  | cons p l ih =>
    intro n i
    obtain ⟨k, v⟩ := p
    simp only [entries, Instr.findNow, Instr.sameNow, beq_mk, at_]
    cases h : (x == k)
    · simp only [Bool.false_eq_true, if_false]; exact ih (n + 1) (i + 1)
    · exact ⟨i, rfl⟩
theorem run_make {P : Program} (t : TypeId) (w : World) : Sem.run P (Instr.makeMap t none) w = Result.ok (Value.map (some w.heap.size)) (w.alloc (litMap [])) := run_makeMap t w
theorem heap_last (w : World) (o : Obj) {b : Nat} (h : b = w.heap.size) : (w.alloc o).heap[b]? = some o := by
  subst h; show (w.heap.push o)[w.heap.size]? = some o; simp
theorem set_last (w : World) (o o' : Obj) {b : Nat} (h : b = w.heap.size) : ChangeMaps.setBlock (w.alloc o) b o' = w.alloc o' := by
  subst h
  show ({ w with heap := (w.heap.push o).setIfInBounds w.heap.size o' } : World) = { w with heap := w.heap.push o' }
  congr 1
  apply Array.ext_getElem?
  intro i
  simp [Array.getElem?_setIfInBounds, Array.getElem?_push]
  split <;> split <;> simp_all
theorem run_check {P : Program} {kt : TypeId} (hk : P.underlying kt = some .string) (e : Bool) (s : ByteArray) (w : World) : (Instr.checkKey e 10000 kt (.string s)).run P w = .ok () w :=
  MapKept.run_checkKey hk (by trivial) e 9999
theorem run_find {P : Program} {kt : TypeId} (hk : P.underlying kt = some .string) (x : List UInt8) (l : List (List UInt8 × Value)) (w : World) :
    ∃ j, (Instr.findKey kt (.string ⟨x.toArray⟩) (entries l 0)).run P w = .ok ((at_ l x).map fun v => (j, v)) w := by
  obtain ⟨j, hj⟩ := findNow_lit x l 0 0
  exact ⟨j, by simp [Instr.findKey, run_underlying hk, hj]⟩
theorem run_insert {P : Program} {t kt et : TypeId} (ht : P.underlying t = some (.map kt et)) (hk : P.underlying kt = some .string) (w : World) (l : List (List UInt8 × Value)) (x : List UInt8) (v : Value) (b : Nat)
    (hbx : b = w.heap.size ∧ (at_ l x).isNone = true) :
    Sem.run P (Instr.mapUpdate t (.map (some b)) (.string ⟨x.toArray⟩) v) (w.alloc (litMap l)) = .ok () (w.alloc (litMap (l ++ [(x, v)]))) := by
  obtain ⟨j, hj⟩ := run_find (P := P) hk x l (w.alloc (litMap l))
  obtain ⟨hb, hx0⟩ := hbx
  have hx : at_ l x = none := by simpa using hx0
  rw [hx] at hj
  have hl : (w.alloc (litMap l)).heap[b]? = some (.map (entries l 0).toArray l.length) := heap_last w (litMap l) hb
  have hs : (Sem.run P (setObj b (.map ((entries l 0).toArray.push ⟨.string ⟨x.toArray⟩, v, l.length⟩) (l.length + 1))) (w.alloc (litMap l))) = .ok () (w.alloc (litMap (l ++ [(x, v)]))) := by
    rw [MapKept.run_setObj_map _ hl, ← set_last w (litMap l) (litMap (l ++ [(x, v)])) hb]
    simp [litMap, entries_append, entries, ChangeMaps.setBlock]
  simp only [List.push_toArray] at hs
  simp [Instr.mapUpdate, run_underlying ht, MapKept.run_getObj_map hl, run_check hk, hj, hs, Result.andThen]
theorem run_lookup {P : Program} {t kt et : TypeId} (ht : P.underlying t = some (.map kt et)) (hk : P.underlying kt = some .string) {z : Value} (hz : ∀ w, (zeroValue et).run P w = .ok z w) (w : World) (l : List (List UInt8 × Value)) (x : List UInt8) (b : Nat) (c : Bool)
    (hb : b = w.heap.size) :
    Sem.run P (Instr.lookup t (.map (some b)) (.string ⟨x.toArray⟩) c) (w.alloc (litMap l)) = .ok (if c then .tuple #[(at_ l x).getD z, .bool (at_ l x).isSome] else (at_ l x).getD z) (w.alloc (litMap l)) := by
  obtain ⟨j, hj⟩ := run_find (P := P) hk x l (w.alloc (litMap l))
  have hl : (w.alloc (litMap l)).heap[b]? = some (.map (entries l 0).toArray l.length) := heap_last w (litMap l) hb
  cases h : at_ l x <;> rw [h] at hj <;> simp [Instr.lookup, run_underlying ht, MapKept.run_getObj_map hl, run_check hk, hj, hz, Result.andThen] <;> cases c <;> rfl
end Go.Proofs.YtkmpbkhlcapbgaaGreatDoor.MapLit
