/-
  DERIVED. How an argument of type []string is opened: its elements. No walk here. ExpandDefault: what its calls come to; the ways out ahead of them.
-/
import Derived.Test.YtkmpbkhlcapbgaaGreatDoorZ47
import Derived.Deep.Strs
import Derived.Test.YtkmpbkhlcapbgaaGreatDoorZ45
import Derived.Test.YtkmpbkhlcapbgaaGreatDoorZ46
import Derived.Deep.LoopGhost
namespace Go.Proofs.YtkmpbkhlcapbgaaGreatDoor
open Go.ChangeShapes Go.WideShapes Go.ChangeAt Go.RowKit Go.Deep
variable {H : Type} {enc : TypeId × Value → H}
/-- A slice of texts in memory. -/
structure IsStrs (W : World) (a : Option Addr) (len cap : Nat) (ss : List ByteArray) : Prop where
  len : len = ss.length
  cap : ss.length ≤ cap
  few : ss.length ≤ maxLen
  short : ∀ s ∈ ss, s.size ≤ maxLen
  cells : ss = [] ∨ ∃ b off, a = some ⟨b, off, none⟩ ∧ ∀ i (h : i < ss.length), W.cell? ⟨b, off + i, none⟩ = some (.string ss[i])
theorem isStrs_of {P : Program} {W : World} {t e : TypeId} {base : Nat} {spare : Nat → Bool} {held : Bool} {a : Option Addr} {len cap : Nat} {d : DataW H} {p : List MemPlace} (ht : P.underlying t = some (.slice e)) (he : P.underlying e = some .string) (hc : P.cellsOf e = 1)
    (h : DataW.Trod enc P W base spare held t (.slice a len cap) d p) : ∃ ss, IsStrs W a len cap ss := by
  obtain ⟨fuel, hf⟩ := h
  rcases open_strs ht he hc hf with ⟨hcs, _⟩ | ⟨ad, len', cap', m, Sx, hcs, _, hl, hm, hmm, _, hx⟩
  · simp [Value.cells] at hcs
    obtain ⟨rfl, rfl, rfl⟩ := hcs
    exact ⟨[], rfl, Nat.le_refl _, by simp, fun s hs => by simp at hs, .inl rfl⟩
  · simp [Value.cells] at hcs
    obtain ⟨rfl, rfl, rfl⟩ := hcs
    have hlm : len ≤ m := by rw [hmm]; split <;> omega
    refine ⟨(List.range len).map Sx, by simp, by simpa using hl, by simp; omega, fun s hs => ?_, ?_⟩
    · obtain ⟨i, hi, rfl⟩ := List.mem_map.1 hs
      exact (hx i (by have := List.mem_range.1 hi; omega)).2
    · by_cases h0 : len = 0
      · left; simp [h0]
      · right
        have h1 := World.cell?_spot (hx 0 (by omega)).1
        obtain ⟨b, o, sp⟩ := ad
        have h2 : sp = none := by simpa [Addr.add] using h1
        subst h2
        refine ⟨b, o, rfl, fun i hi => ?_⟩
        have hi' : i < len := by simpa using hi
        have := (hx i (by omega)).1
        rw [show (⟨b, o, none⟩ : Addr).add i = ⟨b, o + i, none⟩ from by unfold Addr.add; split <;> simp_all] at this
        rw [this]; simp
end Go.Proofs.YtkmpbkhlcapbgaaGreatDoor
namespace Go.Proofs.YtkmpbkhlcapbgaaGreatDoor
open Go Go.RowKit
def TextRes (t : ByteArray) (n : Int) (ft : ByteArray) (e2 : EnvT) (w : World) (x : Ending) (w' : World) : Prop :=
  ∃ va nv cv aa na ca, x = .returned (.tuple #[.string t, env0 va nv cv aa na ca ⟨#[]⟩, .agg #[.int .i64 n, .string ft]]) ∧ EnvA w' (.slice va nv cv) (.slice aa na ca) e2 ∧ Below w.heap.size w w'
theorem envD_st (x : Option (List UInt8)) : (envD x).status = 0 ∧ (envD x).flags = [] := by rw [envD_is]; exact ⟨rfl, rfl⟩
theorem bytes_of (T : ByteArray) (l : List UInt8) (h : T.data.toList = l) : (⟨l.toArray⟩ : ByteArray) = T := by rw [← h]
theorem def_call (x : Option (List UInt8)) (op : List UInt8) (w0 T : ByteArray) (ho : op ∈ aloneL) (ho2 : op = [58, 45] ∨ op = [45] ∨ op = [58, 61] ∨ op = [58, 43] ∨ op = [43] ∨ op = [37]) (hx : (x.getD []).length ≤ 30) (hw : w0.size ≤ 30) (hq : (39 : UInt8) ∉ w0.data.toList) (k : Int) (hk : doesP op (x.getD []) x.isSome = k) (hk4 : k ≠ 4)
    (hT : T.data.toList = if k = 1 then x.getD [] else if k = 2 ∨ k = 3 then w0.data.toList else [])
    (va : Option Addr) (nv cv : Nat) (aa : Option Addr) (na ca : Nat) (W : World) (hE : EnvA W (.slice va nv cv) (.slice aa na ca) (envD x)) (hTab : Tab W) :
    Calls Tryz.prog 14 #[env0 va nv cv aa na ca ⟨#[]⟩, .string (wordD op w0)] W (TextRes T 0 ⟨#[]⟩ (if k = 3 then (envD x).set [120] w0.data.toList else envD x) W) := by
  have hwl : w0.data.toList.length = w0.size := by simp
  have hop : op.length ≤ 2 := by
    have : ∀ o ∈ aloneL, o.length ≤ 2 := by decide
    exact this op ho
  obtain ⟨r, hp, hr⟩ := default_five x op w0.data.toList ho (by omega) (by omega) k hk hk4
  have h := one_ok 8 (wordD op w0) (by rw [wordD_size]; omega) _ (by rw [wordD_list]; exact word_default op ho2 _ hq) (small_def op _ ho (by omega)) 6 (by decide) (envD x) _ hp va nv cv aa na ca W hE hTab
  obtain ⟨s1, s2⟩ := envD_st x
  simp only [envVal, s1, s2] at h
  refine h.mono ?_
  rintro y w' ⟨va2, nv2, cv2, aa2, na2, ca2, rfl, hE2, hb⟩
  refine ⟨va2, nv2, cv2, aa2, na2, ca2, ?_, hE2, hb⟩
  have s3 : (resOf (envD x) (.ok (if k = 3 then (envD x).set [120] w0.data.toList else envD x) r)).2.1.status = 0 := by
    show (if k = 3 then (envD x).set [120] w0.data.toList else envD x).status = 0
    split
    · rw [(set_status _ _ _).1, s1]
    · exact s1
  have s4 : (resOf (envD x) (.ok (if k = 3 then (envD x).set [120] w0.data.toList else envD x) r)).2.1.flags = [] := by
    show (if k = 3 then (envD x).set [120] w0.data.toList else envD x).flags = []
    split
    · rw [(set_status _ _ _).2.1, s2]
    · exact s2
  simp only [envVal, s3, s4]
  rw [show (flatR (resOf (envD x) (.ok (if k = 3 then (envD x).set [120] w0.data.toList else envD x) r)).1).toArray = T.data from by rw [show flatR (resOf (envD x) (.ok (if k = 3 then (envD x).set [120] w0.data.toList else envD x) r)).1 = _ from hr, ← hT]]
  rfl
theorem fail_call (x : Option (List UInt8)) (T : ByteArray) (n : Int) (ft : ByteArray) (hx : (x.getD []).length ≤ 30)
    (hT : if (x.isSome && !(x.getD []).isEmpty) = true then T.data.toList = x.getD [] ∧ n = 0 ∧ ft = ⟨#[]⟩ else T = ⟨#[]⟩ ∧ n = 23 ∧ ft = ⟨#[120]⟩)
    (va : Option Addr) (nv cv : Nat) (aa : Option Addr) (na ca : Nat) (W : World) (hE : EnvA W (.slice va nv cv) (.slice aa na ca) (envD x)) (hTab : Tab W) :
    Calls Tryz.prog 14 #[env0 va nv cv aa na ca ⟨#[]⟩, .string ⟨#[36, 123, 120, 58, 63, 125]⟩] W (TextRes T n ft (envD x) W) := by
  have hp := default_fail x (by omega)
  have h := one_ok 9 ⟨#[36, 123, 120, 58, 63, 125]⟩ (by decide) _ word_fail small_fail 6 (by decide) (envD x) (if (x.isSome && !(x.getD []).isEmpty) = true then (.ok (envD x) (putR ([], []) (x.getD []) 115)) else (.fault 23 [120])) (by rw [hp]; split <;> rfl) va nv cv aa na ca W hE hTab
  obtain ⟨s1, s2⟩ := envD_st x
  simp only [envVal, s1, s2] at h
  refine h.mono ?_
  rintro y w' ⟨va2, nv2, cv2, aa2, na2, ca2, rfl, hE2, hb⟩
  split at hT
  · rename_i hc
    rw [if_pos hc] at hE2 ⊢
    obtain ⟨h1, rfl, rfl⟩ := hT
    refine ⟨va2, nv2, cv2, aa2, na2, ca2, ?_, hE2, hb⟩
    have hf : flatR (putR ([], []) (x.getD []) 115) = x.getD [] := flatR_put _ _ (by decide)
    simp only [envVal, resOf, s1, s2, hf]
    rw [← h1]
  · rename_i hc
    rw [if_neg hc] at hE2 ⊢
    obtain ⟨rfl, rfl, rfl⟩ := hT
    refine ⟨va2, nv2, cv2, aa2, na2, ca2, ?_, hE2, hb⟩
    simp only [envVal, resOf, s1, s2]
    rfl
theorem env_none (w : World) : EnvC w (fun _ => False) (.slice none 0 0) (.slice none 0 0) E0 where
  vars := ⟨⟨none, 0, rfl, Nat.le_refl _, by decide, .inl ⟨rfl, rfl⟩⟩, fun a n c e => by cases e⟩
  args := ⟨none, 0, rfl, Nat.le_refl _, by decide, .inl rfl⟩
  up := List.Pairwise.nil
  few := by decide
/-- Set at nothing: what it makes is new. -/
theorem def_set (v : ByteArray) (w : World) : Calls Tryz.prog 13 #[env0 none 0 0 none 0 0 ⟨#[]⟩, .string ⟨#[120]⟩, .string v] w fun r w' => ∃ va nv cv, r = .returned (env0 va nv cv none 0 0 ⟨#[]⟩) ∧ EnvC w' (fun b => w.heap.size ≤ b) (.slice va nv cv) (.slice none 0 0) (envD (some v.data.toList)) ∧ Below w.heap.size w w' := by
  have hfew : (E0.set (⟨#[120]⟩ : ByteArray).data.toList v.data.toList).vars.length ≤ 1000000 := by
    have := set_length E0 (⟨#[120]⟩ : ByteArray).data.toList v.data.toList
    have : E0.vars.length = 0 := rfl
    omega
  refine (set_at ⟨#[120]⟩ v (by decide) (by decide) E0 (fun _ => False) (.slice none 0 0) none 0 0 0 ⟨#[]⟩ w (env_none w) hfew).mono ?_
  rintro r w' ⟨v', rfl, hE2, -, hb⟩
  obtain ⟨va2, nv2, cv2, rfl⟩ := rowv_is hE2.vars.1
  exact ⟨va2, nv2, cv2, rfl, hE2.keep (Nat.le_refl _) fun b q _ => ⟨rfl, q.elim False.elim id⟩, hb⟩
set_option maxRecDepth 100000 in
set_option maxHeartbeats 8000000 in
theorem default_out (v w0 : ByteArray) (set : Bool) (h : 30 < v.size ∨ 30 < w0.size) (w : World) (hT : Tab w) :
    Calls Tryz.prog 4 #[.string v, .string w0, .bool set] w fun e w' => e = .returned (.bool true) ∧ Below w.heap.size w w' := by
  have HA := Lib.hid (awake_any w hT)
  clear hT
  by_cases h1 : 30 < v.size
  · have h1' : (30 : Int) < (v.size : Int) := by omega
    clear h h1
    go_enter Tryz.func4, Tryz.ntmps4
    go_wp2_with fail
    refine HA.out.mono ?_; rintro e w1 ⟨rfl, hb⟩
    have HB := Lib.hid hb
    clear hb
    go_wp2_with fail
    go_ret
    exact ⟨rfl, HB.out⟩
  · have h1' : ¬ (30 : Int) < (v.size : Int) := by omega
    have h2' : (30 : Int) < (w0.size : Int) := by omega
    clear h h1
    go_enter Tryz.func4, Tryz.ntmps4
    go_wp2_with fail
    refine HA.out.mono ?_; rintro e w1 ⟨rfl, hb⟩
    have HB := Lib.hid hb
    clear hb
    go_wp2_with fail
    go_ret
    exact ⟨rfl, HB.out⟩
set_option maxRecDepth 100000 in
set_option maxHeartbeats 8000000 in
theorem default_quote (v w0 : ByteArray) (set : Bool) (h1 : v.size ≤ 30) (h2 : w0.size ≤ 30) (hq : (39 : UInt8) ∈ w0.data.toList) (w : World) (hT : Tab w) :
    Calls Tryz.prog 4 #[.string v, .string w0, .bool set] w fun e w' => e = .returned (.bool true) ∧ Below w.heap.size w w' := by
  have HA := Lib.hid (awake_any w hT)
  have h1' : ¬ (30 : Int) < (v.size : Int) := by omega
  have h2' : ¬ (30 : Int) < (w0.size : Int) := by omega
  have HQ := Lib.hid hq
  clear hT hq
  go_enter Tryz.func4, Tryz.ntmps4
  go_wp2_with fail
  refine HA.out.mono ?_; rintro e w1 ⟨rfl, hb⟩
  have HB := Lib.hid hb
  clear hb
  go_wp2_with fail
  go_loopg [8] w0.size (fun g s8 wx => wx = w1 ∧ ∃ i : Nat, i + g = w0.size ∧ s8 = .int .i64 i ∧ Hid (∀ j (h : j < w0.size), j < i → w0[j] ≠ 39))
  case atStart => exact ⟨rfl, 0, by omega, rfl, fun j _ h => by omega⟩
  case round =>
    obtain ⟨rfl, i, hig, rfl, hrel⟩ := hrel
    cases gk with
    | zero =>
      exfalso
      obtain ⟨j, hj, he⟩ := List.getElem_of_mem HQ.out
      exact hrel.out j (by simpa using hj) (by have : j < w0.size := by simpa using hj
                                               omega) he
    | succ g =>
      have hi : i < w0.size := by omega
      by_cases hc : w0[i] = 39
      · have hc2 : ((w0[i].toNat : Int) == 39) = true := by rw [hc]; rfl
        clear hrel
        go_wp2_with fail
        go_ret
        exact ⟨rfl, HB.out⟩
      · have hc1 : w0[i].toNat ≠ 39 := fun e => hc (UInt8.toNat_inj.1 (e.trans rfl))
        have hc2 : ((w0[i].toNat : Int) == 39) = false := by simp; omega
        have HR := Lib.hid hrel.out
        have HC := Lib.hid hc
        clear hrel hc hc1
        go_wp2_with fail
        go_roundg g
        case measure => omega
        case rel => exact ⟨rfl, i + 1, by omega, rfl, fun j hj hji => by
          rcases Nat.lt_or_ge j i with q | q
          · exact HR.out j hj q
          · obtain rfl : j = i := by omega
            exact HC.out⟩
end Go.Proofs.YtkmpbkhlcapbgaaGreatDoor
