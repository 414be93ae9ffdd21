/-
  DERIVED. Plain: variables rising by name: where a name is, or should be; what setting and unsetting make of them. No program in sight. The walk of env's find. The walk of env's Get at a name (lexer.Name's answer is handed in). The walks of env's Ifs (Get's answer is handed in) and Has. Rows of cells that a call makes: a push of one element, what stays beside other writes; a block known whole. No program in sight. The walk of slices.Clone at variables. The walk of slices.Clone at variables: a row of the call's own. Clone of any row of variables; the walk of env's Unset of a name that isn't there. copy(dst, src) where an element has any number of cells, dst a row that is known whole; clear there. No program in sight. The walk of slices.Delete of one variable, in a row of the call's own. The walk of slices.Insert of one variable, in a row of the call's own.
-/
import Derived.Test.YtkmpbkhlcapbgaaGreatDoorZ01
import Derived.Laws.EntriesVeiled
import Derived.WalkKit
import Derived.Laws.AppendOwnNone
import Derived.Laws.CopyOwn
import Derived.Test.YtkmpbkhlcapbgaaGreatDoorProg
import Derived.WalkSpells
import Derived.WalkLawsBesides
import Derived.Handy
import Derived.Deep.RegionLaw
import Derived.Lib.Hide
import Derived.Lib.AppendZerosOnto
import Derived.Lib.Overlaps
import Derived.Laws.Externs
namespace Go.Proofs.YtkmpbkhlcapbgaaGreatDoor
theorem ltL_irrefl : ∀ s : List UInt8, ltL s s = false
  | [] => rfl
  | a :: s => by
    have := ltL_irrefl s
    simp only [ltL, Nat.lt_irrefl, if_false]
    exact this
theorem ltL_trans : ∀ a b c : List UInt8, ltL a b = true → ltL b c = true → ltL a c = true
  | [], [], _, h, _ => by simp [ltL] at h
  | [], _ :: _, [], _, h => by simp [ltL] at h
  | [], _ :: _, _ :: _, _, _ => rfl
  | _ :: _, [], _, h, _ => by simp [ltL] at h
  | _ :: _, _ :: _, [], _, h => by simp [ltL] at h
  | x :: a, y :: b, z :: c, h, k => by
    have ih := ltL_trans a b c
    unfold ltL at h k ⊢
    repeat' split at h
    all_goals repeat' split at k
    all_goals repeat' split
    all_goals first | rfl | omega | exact ih h k | (simp at h; done) | (simp at k; done) | skip
theorem ltL_total : ∀ a b : List UInt8, ltL a b = false → ltL b a = false → a = b
  | [], [], _, _ => rfl
  | [], _ :: _, h, _ => by simp [ltL] at h
  | _ :: _, [], _, h => by simp [ltL] at h
  | x :: a, y :: b, h, k => by
    have ih := ltL_total a b
    unfold ltL at h k
    repeat' split at h
    all_goals repeat' split at k
    all_goals first | (simp at h; done) | (simp at k; done) | omega | skip
    rw [ih h k, show x = y from UInt8.toNat_inj.1 (by omega)]
theorem compare_lt : ∀ a b : List UInt8, Lib.compareBytes a b = 1 ↔ ltL b a = true
  | [], [] => by simp [Lib.compareBytes, ltL]
  | [], _ :: _ => by simp [Lib.compareBytes, ltL]
  | _ :: _, [] => by simp [Lib.compareBytes, ltL]
  | x :: a, y :: b => by
    have ih := compare_lt a b
    unfold Lib.compareBytes ltL
    simp only [UInt8.lt_iff_toNat_lt]
    repeat' split
    all_goals first | exact ih | (simp; done) | (exfalso; omega)
theorem compare_eq : ∀ a b : List UInt8, Lib.compareBytes a b = 0 ↔ a = b
  | [], [] => by simp [Lib.compareBytes]
  | [], _ :: _ => by simp [Lib.compareBytes]
  | _ :: _, [] => by simp [Lib.compareBytes]
  | x :: a, y :: b => by
    have ih := compare_eq a b
    unfold Lib.compareBytes
    simp only [UInt8.lt_iff_toNat_lt, List.cons.injEq]
    repeat' split
    · rename_i h; simp; intro e; subst e; omega
    · rename_i h; simp; intro e; subst e; omega
    · rename_i h1 h2
      rw [ih]
      have e : x = y := UInt8.toNat_inj.1 (by omega)
      simp [e]
theorem cmpV_neg (n s : List UInt8) : cmpV n s < 0 ↔ ltL n s = true := by
  rw [← compare_lt s n, cmpV]
  rcases cmp3 s n with h | h | h <;> rw [h] <;> simp
theorem cmpV_zero (n s : List UInt8) : cmpV n s = 0 ↔ s = n := by
  rw [← compare_eq s n, cmpV]
  omega
/-- Variables that rise by name. -/
def Rising (l : List (List UInt8 × List UInt8)) : Prop := l.Pairwise fun p q => ltL p.1 q.1 = true
/-- Variables as they lie in memory. -/
def bv (l : List (List UInt8 × List UInt8)) : List (ByteArray × ByteArray) := l.map fun p => (⟨p.1.toArray⟩, ⟨p.2.toArray⟩)
theorem bv_length (l : List (List UInt8 × List UInt8)) : (bv l).length = l.length := by simp [bv]
theorem takeWhile_at {α : Type} (p : α → Bool) : ∀ (l : List α) (t : Nat) (h : t < l.length), t < (l.takeWhile p).length → p l[t] = true
  | a :: l, t, h, ht => by
    rw [List.takeWhile_cons] at ht
    split at ht
    · rename_i ha
      cases t with
      | zero => exact ha
      | succ t => exact takeWhile_at p l t (by simpa using h) (by simpa using ht)
    · simp at ht
theorem takeWhile_stop {α : Type} (p : α → Bool) : ∀ (l : List α) (h : (l.takeWhile p).length < l.length), p (l[(l.takeWhile p).length]) = false
  | a :: l, h => by
    cases ha : p a with
    | false => simp [ha]
    | true =>
      have := takeWhile_stop p l (by simpa [List.takeWhile_cons, ha] using h)
      simpa [List.takeWhile_cons, ha] using this
theorem lowF_le (l : List (List UInt8 × List UInt8)) (s : List UInt8) : lowF l s ≤ l.length := (List.takeWhile_prefix _).length_le
theorem rising_hi {l : List (List UInt8 × List UInt8)} (hr : Rising l) (s : List UInt8) (t : Nat) (h : t < l.length) (hc : lowF l s ≤ t) : ltL l[t].1 s = false := by
  have h0 : lowF l s < l.length := by omega
  have hs : ltL l[lowF l s].1 s = false := takeWhile_stop (fun p : List UInt8 × List UInt8 => ltL p.1 s) l h0
  by_cases e : lowF l s = t
  · subst e; exact hs
  · cases ht : ltL l[t].1 s with
    | false => rfl
    | true =>
      have hp := List.pairwise_iff_getElem.1 hr (lowF l s) t h0 h (by omega)
      have := ltL_trans _ _ _ hp ht
      rw [hs] at this
      cases this
theorem findF_at (l : List (List UInt8 × List UInt8)) (s : List UInt8) (h : lowF l s < l.length) : (findF l s).2 = (l[lowF l s].1 == s) := by
  unfold findF
  simp [List.head?_drop, List.getElem?_eq_getElem h]
theorem findF_end (l : List (List UInt8 × List UInt8)) (s : List UInt8) (h : lowF l s = l.length) : (findF l s).2 = false := by
  unfold findF
  simp [h]
theorem low_at {l : List (List UInt8 × List UInt8)} (hr : Rising l) (s : ByteArray) : LowAt (bv l) s (lowF l s.data.toList) (findF l s.data.toList).2 where
  le := by rw [bv_length]; exact lowF_le _ _
  lo := fun t h ht => by
    rw [cmpV_neg]
    have h' : t < l.length := by rwa [bv_length] at h
    have := takeWhile_at (fun p : List UInt8 × List UInt8 => ltL p.1 s.data.toList) l t h' ht
    simpa [bv] using this
  hi := fun t h ht => by
    have h' : t < l.length := by rwa [bv_length] at h
    have := rising_hi hr s.data.toList t h' ht
    rcases Int.lt_or_le (cmpV (bv l)[t].1.data.toList s.data.toList) 0 with k | k
    · rw [cmpV_neg] at k
      simp [bv] at k
      rw [this] at k; cases k
    · exact k
  is := fun h => by
    have h' : lowF l s.data.toList < l.length := by rwa [bv_length] at h
    rw [findF_at l _ h']
    have : (cmpV (bv l)[lowF l s.data.toList].1.data.toList s.data.toList = 0) ↔ (l[lowF l s.data.toList].1 = s.data.toList) := by
      rw [cmpV_zero]
      simp [bv]
      exact eq_comm
    rw [Bool.eq_iff_iff, beq_iff_eq, decide_eq_true_iff]
    exact this.symm
  no := fun h => findF_end l _ (by rw [bv_length] at h; exact h)
/-! ### Setting and unsetting, by recursion -/
def insV (s v : List UInt8) : List (List UInt8 × List UInt8) → List (List UInt8 × List UInt8)
  | [] => [(s, v)]
  | p :: l => if ltL p.1 s then p :: insV s v l else if p.1 = s then (s, v) :: l else (s, v) :: p :: l
def remV (s : List UInt8) : List (List UInt8 × List UInt8) → List (List UInt8 × List UInt8)
  | [] => []
  | p :: l => if ltL p.1 s then p :: remV s l else if p.1 = s then l else p :: l
def getV (s : List UInt8) : List (List UInt8 × List UInt8) → Option (List UInt8)
  | [] => none
  | p :: l => if p.1 = s then some p.2 else getV s l
theorem lowF_cons (p : List UInt8 × List UInt8) (l : List (List UInt8 × List UInt8)) (s : List UInt8) : lowF (p :: l) s = if ltL p.1 s then lowF l s + 1 else 0 := by
  unfold lowF
  rw [List.takeWhile_cons]
  split <;> simp_all
theorem findF_cons (p : List UInt8 × List UInt8) (l : List (List UInt8 × List UInt8)) (s : List UInt8) : (findF (p :: l) s).2 = if ltL p.1 s then (findF l s).2 else p.1 == s := by
  unfold findF
  simp only [lowF_cons]
  split <;> simp
theorem unsetV_rem : ∀ (l : List (List UInt8 × List UInt8)) (s : List UInt8), unsetV l s = remV s l
  | [], s => by simp [unsetV, findF, remV]
  | p :: l, s => by
    have ih := unsetV_rem l s
    unfold unsetV at ih ⊢
    simp only [findF_cons, lowF_cons, remV]
    by_cases h : ltL p.1 s
    · simp only [h, if_true, List.take_succ_cons, List.drop_succ_cons, ← ih]
      split <;> simp
    · simp only [h, Bool.false_eq_true, if_false]
      by_cases e : p.1 = s
      · simp [e]
      · simp [e]
theorem getV_none {s : List UInt8} : ∀ {l : List (List UInt8 × List UInt8)}, (∀ q ∈ l, q.1 ≠ s) → getV s l = none
  | [], _ => rfl
  | p :: l, h => by
    unfold getV
    rw [if_neg (h p (by simp)), getV_none fun q hq => h q (by simp [hq])]
theorem ltL_ne {a b : List UInt8} (h : ltL a b = true) : a ≠ b := by
  rintro rfl; rw [ltL_irrefl] at h; cases h
theorem get_getV {l : List (List UInt8 × List UInt8)} (hr : Rising l) (s : List UInt8) : (if (findF l s).2 then (l.drop (lowF l s)).head?.map (·.2) else none) = getV s l := by
  induction l with
  | nil => simp [findF, getV]
  | cons p l ih =>
    have hp := (List.pairwise_cons.1 hr)
    simp only [findF_cons, lowF_cons, getV]
    by_cases h : ltL p.1 s
    · simp only [h, if_true, List.drop_succ_cons, ih hp.2, if_neg (ltL_ne h)]
    · simp only [h, Bool.false_eq_true, if_false]
      by_cases e : p.1 = s
      · simp [e]
      · have hn : getV s l = none := getV_none fun q hq e2 => by
          have := hp.1 q hq
          rw [e2] at this
          exact h this
        simp [e, hn]
theorem mem_rem {s : List UInt8} {q : List UInt8 × List UInt8} : ∀ {l : List (List UInt8 × List UInt8)}, q ∈ remV s l → q ∈ l
  | p :: l, h => by
    unfold remV at h
    split at h
    · rcases List.mem_cons.1 h with rfl | h
      · simp
      · exact List.mem_cons_of_mem _ (mem_rem h)
    · split at h
      · exact List.mem_cons_of_mem _ h
      · exact h
theorem rem_rising {s : List UInt8} : ∀ {l : List (List UInt8 × List UInt8)}, Rising l → Rising (remV s l)
  | [], h => h
  | p :: l, h => by
    have hp := List.pairwise_cons.1 h
    unfold remV
    split
    · exact List.pairwise_cons.2 ⟨fun q hq => hp.1 q (mem_rem hq), rem_rising hp.2⟩
    · split
      · exact hp.2
      · exact h
theorem set_ins : ∀ {l : List (List UInt8 × List UInt8)}, Rising l → ∀ (s v : List UInt8), setV l s v = insV s v l
  | [], _, s, v => by simp [setV, unsetV, findF, lowF, insV]
  | p :: l, hr, s, v => by
    have hp := List.pairwise_cons.1 hr
    have ih := set_ins hp.2 s v
    unfold setV at ih ⊢
    simp only [unsetV_rem] at ih ⊢
    unfold insV remV
    by_cases h : ltL p.1 s
    · simp only [h, if_true, lowF_cons, List.take_succ_cons, List.drop_succ_cons, ← ih, List.cons_append]
    · simp only [h, Bool.false_eq_true, if_false]
      by_cases e : p.1 = s
      · simp only [e, if_true]
        have h0 : lowF l s = 0 := by
          cases l with
          | nil => rfl
          | cons q l =>
            rw [lowF_cons, if_neg]
            have := hp.1 q (by simp)
            rw [e] at this
            intro k
            have := ltL_trans _ _ _ this k
            rw [ltL_irrefl] at this; cases this
        simp [h0]
      · simp [e, lowF_cons, h]
theorem mem_ins {s v : List UInt8} {q : List UInt8 × List UInt8} : ∀ {l : List (List UInt8 × List UInt8)}, q ∈ insV s v l → q = (s, v) ∨ q ∈ l
  | [], h => by simp [insV] at h; exact .inl h
  | p :: l, h => by
    unfold insV at h
    repeat' split at h
    · rcases List.mem_cons.1 h with rfl | h
      · simp
      · rcases mem_ins h with h | h
        · exact .inl h
        · exact .inr (List.mem_cons_of_mem _ h)
    · rcases List.mem_cons.1 h with rfl | h
      · simp
      · exact .inr (List.mem_cons_of_mem _ h)
    · rcases List.mem_cons.1 h with rfl | h
      · simp
      · exact .inr h
theorem ins_rising {s v : List UInt8} : ∀ {l : List (List UInt8 × List UInt8)}, Rising l → Rising (insV s v l)
  | [], _ => by simp [insV, Rising]
  | p :: l, h => by
    have hp := List.pairwise_cons.1 h
    unfold insV
    split
    · rename_i hlt
      refine List.pairwise_cons.2 ⟨fun q hq => ?_, ins_rising hp.2⟩
      rcases mem_ins hq with rfl | hq
      · exact hlt
      · exact hp.1 q hq
    · split
      · rename_i e
        exact List.pairwise_cons.2 ⟨fun q hq => by rw [← e]; exact hp.1 q hq, hp.2⟩
      · rename_i hn e
        have hsp : ltL s p.1 = true := by
          cases k : ltL s p.1 with
          | true => rfl
          | false => exact absurd (ltL_total _ _ (by simpa using hn) k) e
        refine List.pairwise_cons.2 ⟨fun q hq => ?_, h⟩
        rcases List.mem_cons.1 hq with rfl | hq
        · exact hsp
        · exact ltL_trans _ _ _ hsp (hp.1 q hq)
theorem get_ins (s v : List UInt8) : ∀ l : List (List UInt8 × List UInt8), Rising l → getV s (insV s v l) = some v
  | [], _ => by simp [insV, getV]
  | p :: l, h => by
    have hp := List.pairwise_cons.1 h
    unfold insV
    split
    · rename_i hlt
      unfold getV
      rw [if_neg (ltL_ne hlt), get_ins s v l hp.2]
    · split <;> simp [getV]
theorem get_ins_ne {s t : List UInt8} (v : List UInt8) (hne : t ≠ s) : ∀ l : List (List UInt8 × List UInt8), getV t (insV s v l) = getV t l
  | [] => by simp [insV, getV, Ne.symm hne]
  | p :: l => by
    unfold insV
    split
    · unfold getV
      rw [get_ins_ne v hne l]
    · split
      · rename_i e
        have h1 : getV t ((s, v) :: l) = getV t l := by rw [getV, if_neg (Ne.symm hne)]
        have h2 : getV t (p :: l) = getV t l := by rw [getV, if_neg (by rw [e]; exact Ne.symm hne)]
        rw [h1, h2]
      · conv => lhs; unfold getV
        rw [if_neg (Ne.symm hne)]
theorem get_rem (s : List UInt8) : ∀ l : List (List UInt8 × List UInt8), Rising l → getV s (remV s l) = none
  | [], _ => rfl
  | p :: l, h => by
    have hp := List.pairwise_cons.1 h
    unfold remV
    split
    · rename_i hlt
      unfold getV
      rw [if_neg (ltL_ne hlt), get_rem s l hp.2]
    · rename_i hlt
      split
      · rename_i e
        exact getV_none fun q hq e2 => by
          have := hp.1 q hq
          rw [e, e2, ltL_irrefl] at this; cases this
      · rename_i e
        refine getV_none fun q hq e2 => ?_
        rcases List.mem_cons.1 hq with rfl | hq
        · exact e e2
        · have := hp.1 q hq
          rw [e2] at this; exact hlt this
theorem get_rem_ne {s t : List UInt8} (hne : t ≠ s) : ∀ l : List (List UInt8 × List UInt8), getV t (remV s l) = getV t l
  | [] => rfl
  | p :: l => by
    unfold remV
    split
    · unfold getV
      rw [get_rem_ne hne l]
    · split
      · rename_i e
        conv => rhs; unfold getV
        rw [if_neg (by rw [e]; exact Ne.symm hne)]
      · rfl
theorem ins_length (s v : List UInt8) : ∀ l : List (List UInt8 × List UInt8), (insV s v l).length ≤ l.length + 1
  | [] => by simp [insV]
  | p :: l => by
    have := ins_length s v l
    unfold insV
    repeat' split
    all_goals simp
    omega
theorem rem_length (s : List UInt8) : ∀ l : List (List UInt8 × List UInt8), (remV s l).length ≤ l.length
  | [] => by simp [remV]
  | p :: l => by
    have := rem_length s l
    unfold remV
    repeat' split
    all_goals simp
    omega
end Go.Proofs.YtkmpbkhlcapbgaaGreatDoor
namespace Go.Proofs.YtkmpbkhlcapbgaaGreatDoor
open Go.RowKit
/-- A slice of variables in memory. -/
def RowV (w : World) (v : Value) (l : List (ByteArray × ByteArray)) : Prop :=
  ∃ (a : Option Addr) (cap : Nat), v = .slice a l.length cap ∧ l.length ≤ cap ∧ l.length ≤ 1000000000 ∧ ((a = none ∧ l = []) ∨ ∃ b off, a = some ⟨b, off, none⟩ ∧ CellsV w b off l)
theorem CellsV.below {w w' : World} {b off : Nat} {l : List (ByteArray × ByteArray)} (h : CellsV w b off l) (hb : Below w.heap.size w w') : CellsV w' b off l :=
  fun i hi => ⟨(hb.cell (block_lt_of_cell (h i hi).1)).trans (h i hi).1, (hb.cell (block_lt_of_cell (h i hi).2)).trans (h i hi).2⟩
theorem RowV.below {w w' : World} {v : Value} {l : List (ByteArray × ByteArray)} (h : RowV w v l) (hb : Below w.heap.size w w') : RowV w' v l := by
  obtain ⟨a, cap, hv, h1, h2, h3⟩ := h
  refine ⟨a, cap, hv, h1, h2, ?_⟩
  rcases h3 with h3 | ⟨b, off, ha, hc⟩
  · exact .inl h3
  · exact .inr ⟨b, off, ha, hc.below hb⟩
set_option maxRecDepth 100000 in
set_option maxHeartbeats 8000000 in
theorem bsf_none (s : ByteArray) (a : Option Addr) (cap : Nat) (B : Nat) (w : World) :
    Calls Tryz.prog 54 #[.slice a 0 cap, .string s, .func (.func 55) #[] #[.pointer (some ⟨B, 0, none⟩)]] w fun e w' =>
      e = .returned (.tuple #[.int .i64 0, .bool false]) ∧ Below w.heap.size w w' := by
  go_enter Tryz.func54, Tryz.ntmps54
  go_wp2_with fail
  go_loopg [9, 10] 0 (fun gk s9 s10 wx => Below w.heap.size w wx ∧ s9 = .int .i64 0 ∧ s10 = .int .i64 0)
  case atStart => exact ⟨Below.refl _ _, rfl, rfl⟩
  case round =>
    obtain ⟨hW, rfl, rfl⟩ := hrel
    go_wp2_with fail
    go_ret2
    exact ⟨rfl, hW⟩
theorem bsf_row (s : ByteArray) (l : List (ByteArray × ByteArray)) (cnt : Nat) (fnd : Bool) (hl : LowAt l s cnt fnd) (B : Nat) (v : Value) (w : World) (hv : RowV w v l)
    (hb : w.cell? ⟨B, 0, none⟩ = some (.func (.func 53) #[] #[])) :
    Calls Tryz.prog 54 #[v, .string s, .func (.func 55) #[] #[.pointer (some ⟨B, 0, none⟩)]] w fun e w' =>
      e = .returned (.tuple #[.int .i64 (cnt : Nat), .bool fnd]) ∧ Below w.heap.size w w' := by
  obtain ⟨a, cap, rfl, h1, h2, h3⟩ := hv
  rcases h3 with ⟨rfl, rfl⟩ | ⟨b, off, rfl, hc⟩
  · have h0 : cnt = 0 := Nat.le_zero.1 hl.le
    subst h0
    have hf : fnd = false := hl.no rfl
    subst hf
    exact bsf_none s none cap B w
  · exact bsf_any s l b off cap h1 h2 cnt fnd hl B w hc hb
set_option maxRecDepth 100000 in
set_option maxHeartbeats 8000000 in
theorem find_any (s : ByteArray) (l : List (ByteArray × ByteArray)) (cnt : Nat) (fnd : Bool) (hl : LowAt l s cnt fnd) (v va vs vf : Value) (w : World) (hv : RowV w v l) :
    Calls Tryz.prog 26 #[.agg #[v, va, vs, vf], .string s] w fun e w' =>
      e = .returned (.tuple #[.int .i64 (cnt : Nat), .bool fnd]) ∧ Below w.heap.size w w' := by
  have HC := Lib.hid (fun (B : Nat) (W : World) (hW : RowV W v l) (hb : W.cell? ⟨B, 0, none⟩ = some (.func (.func 53) #[] #[])) => bsf_row s l cnt fnd hl B v W hW hb)
  have HV := Lib.hid hv
  clear hv hl
  go_enter Tryz.func26, Tryz.ntmps26
  go_wp2_with fail
  refine (HC.out _ _ ?_ ?_).mono ?_
  · exact HV.out.below (((Below.refl w.heap.size w).alloc (Nat.le_refl _) _).alloc (by simp) _)
  · simp
  · rintro e w1 ⟨rfl, hw⟩
    have K := below_call hw (((Below.refl w.heap.size w).alloc (Nat.le_refl _) _).alloc (by simp) _)
    go_wp2_with fail
    go_ret2
    exact ⟨rfl, K⟩
end Go.Proofs.YtkmpbkhlcapbgaaGreatDoor
namespace Go.Proofs.YtkmpbkhlcapbgaaGreatDoor
open Go.RowKit
set_option maxRecDepth 100000 in
set_option maxHeartbeats 8000000 in
theorem get_none (s : ByteArray) (hN : ∀ W, Calls Tryz.prog 25 #[.string s] W fun e w' => e = .returned (.bool true) ∧ Below W.heap.size W w') (l : List (ByteArray × ByteArray)) (cnt : Nat) (hl : LowAt l s cnt false) (v va vs vf : Value) (w : World) (hv : RowV w v l) :
    Calls Tryz.prog 15 #[.agg #[v, va, vs, vf], .string s] w fun e w' => e = .returned (.tuple #[.string ⟨#[]⟩, .bool false]) ∧ Below w.heap.size w w' := by
  have HF := Lib.hid (fun (W : World) (hW : RowV W v l) => find_any s l cnt false hl v va vs vf W hW)
  have HV := Lib.hid hv
  have HN := Lib.hid hN
  clear hv hl hN
  go_enter Tryz.func15, Tryz.ntmps15
  go_wp2_with fail
  refine (HN.out _).mono ?_; rintro e w1 ⟨rfl, k1⟩
  have cs : ∀ j, j < 4 → w1.cell? ⟨w.heap.size, j, none⟩ = (w.alloc (.cells #[v, va, vs, vf] 28)).cell? ⟨w.heap.size, j, none⟩ := fun j _ => k1.cell (p := ⟨w.heap.size, j, none⟩) (by simp)
  have c0 := cs 0 (by omega)
  have c1 := cs 1 (by omega)
  have c2 := cs 2 (by omega)
  have c3 := cs 3 (by omega)
  simp at c0 c1 c2 c3
  have K1 := below_call k1 ((Below.refl w.heap.size w).alloc (Nat.le_refl _) _)
  have HK := Lib.hid K1
  clear cs k1 K1
  go_wp2_with fail
  refine (HF.out _ (HV.out.below HK.out)).mono ?_; rintro e w2 ⟨rfl, k2⟩
  have K2 := below_call k2 HK.out
  go_wp2_with fail
  go_ret2
  exact ⟨rfl, K2⟩
set_option maxRecDepth 100000 in
set_option maxHeartbeats 8000000 in
theorem get_some (s : ByteArray) (hN : ∀ W, Calls Tryz.prog 25 #[.string s] W fun e w' => e = .returned (.bool true) ∧ Below W.heap.size W w') (l : List (ByteArray × ByteArray)) (cnt : Nat) (hl : LowAt l s cnt true) (hc : cnt < l.length) (x : ByteArray) (hx : l[cnt].2 = x) (va vs vf v : Value) (w : World) (hv : RowV w v l) :
    Calls Tryz.prog 15 #[.agg #[v, va, vs, vf], .string s] w fun e w' => e = .returned (.tuple #[.string x, .bool true]) ∧ Below w.heap.size w w' := by
  have HF := Lib.hid (fun (W : World) (hW : RowV W v l) => find_any s l cnt true hl v va vs vf W hW)
  have HV := Lib.hid hv
  have HN := Lib.hid hN
  obtain ⟨a, cap, rfl, h1, h2, h3⟩ := hv
  have h3' : ∃ b off, a = some ⟨b, off, none⟩ ∧ CellsV w b off l := by
    rcases h3 with ⟨_, rfl⟩ | h3
    · simp at hc
    · exact h3
  obtain ⟨b, off, rfl, hcv⟩ := h3'
  have cx := (hcv cnt hc).2
  rw [hx] at cx
  have lb := block_lt_of_cell cx
  obtain ⟨N, hNN⟩ : ∃ N, l.length = N := ⟨_, rfl⟩
  rw [hNN] at HF HV hc h1 h2
  rw [hNN]
  have hcN : (cnt : Int) < (N : Int) := by omega
  have hnb : (N : Int) ≤ 1000000000 := by omega
  have hcap' : (N : Int) ≤ (cap : Int) := by omega
  clear h3 hcv hx hN hl h1 h2 hNN
  go_enter Tryz.func15, Tryz.ntmps15
  go_wp2_with fail
  refine (HN.out _).mono ?_; rintro e w1 ⟨rfl, k1⟩
  have cs : ∀ j, j < 4 → w1.cell? ⟨w.heap.size, j, none⟩ = (w.alloc (.cells #[.slice (some ⟨b, off, none⟩) N cap, va, vs, vf] 28)).cell? ⟨w.heap.size, j, none⟩ := fun j _ => k1.cell (p := ⟨w.heap.size, j, none⟩) (by simp)
  have c0 := cs 0 (by omega)
  have c1 := cs 1 (by omega)
  have c2 := cs 2 (by omega)
  have c3 := cs 3 (by omega)
  simp at c0 c1 c2 c3
  have l1 : w.heap.size < w1.heap.size := block_lt_of_cell c0
  have K1 := below_call k1 ((Below.refl w.heap.size w).alloc (Nat.le_refl _) _)
  have HK := Lib.hid K1
  clear cs k1 K1
  go_wp2_with fail
  refine (HF.out _ (HV.out.below HK.out)).mono ?_; rintro e w2 ⟨rfl, k2⟩
  have K2 := below_call k2 HK.out
  have d0 := (k2.cell (p := ⟨w.heap.size, 0, none⟩) l1).trans c0
  have dx := (K2.cell lb).trans cx
  go_wp2_with fail
  go_ret2
  exact ⟨rfl, K2⟩
end Go.Proofs.YtkmpbkhlcapbgaaGreatDoor
namespace Go.Proofs.YtkmpbkhlcapbgaaGreatDoor
open Go.RowKit
set_option maxRecDepth 100000 in
set_option maxHeartbeats 8000000 in
theorem ifs_any (l : List (ByteArray × ByteArray)) (v va vs vf : Value) (x : ByteArray) (b : Bool) (hG : ∀ W, RowV W v l → Calls Tryz.prog 15 #[.agg #[v, va, vs, vf], .string ⟨#[73, 70, 83]⟩] W fun e w' => e = .returned (.tuple #[.string x, .bool b]) ∧ Below W.heap.size W w') (w : World) (hv : RowV w v l) :
    Calls Tryz.prog 24 #[.agg #[v, va, vs, vf]] w fun e w' => e = .returned (.string (if b then x else ⟨#[32, 9, 10]⟩)) ∧ Below w.heap.size w w' := by
  have HG := Lib.hid hG
  have HV := Lib.hid hv
  clear hv hG
  cases b
  · go_enter Tryz.func24, Tryz.ntmps24
    go_wp2_with fail
    refine (HG.out _ (HV.out.below ((Below.refl w.heap.size w).alloc (Nat.le_refl _) _))).mono ?_; rintro e w1 ⟨rfl, k1⟩
    have K := below_call k1 ((Below.refl w.heap.size w).alloc (Nat.le_refl _) _)
    go_wp2_with fail
    go_ret
    exact ⟨rfl, K⟩
  · go_enter Tryz.func24, Tryz.ntmps24
    go_wp2_with fail
    refine (HG.out _ (HV.out.below ((Below.refl w.heap.size w).alloc (Nat.le_refl _) _))).mono ?_; rintro e w1 ⟨rfl, k1⟩
    have K := below_call k1 ((Below.refl w.heap.size w).alloc (Nat.le_refl _) _)
    go_wp2_with fail
    go_ret
    exact ⟨rfl, K⟩
set_option maxRecDepth 100000 in
set_option maxHeartbeats 8000000 in
theorem has_any (v va vs : Value) (f : ByteArray) (c : Int) (w : World) :
    Calls Tryz.prog 38 #[.agg #[v, va, vs, .string f], .int .u8 c] w fun e w' => e = .returned (.bool (decide (0 ≤ Lib.indexByte f.data.toList c.toNat.toUInt8))) ∧ Below w.heap.size w w' := by
  have HI := Lib.hid (fun w => Tryz.strings_IndexByte f c w)
  obtain ⟨n, hn⟩ : ∃ n : Int, Lib.indexByte f.data.toList c.toNat.toUInt8 = n := ⟨_, rfl⟩
  rw [hn] at HI
  rw [hn]
  clear hn
  by_cases h : 0 ≤ n
  · go_enter Tryz.func38, Tryz.ntmps38
    go_wp2_with fail
    refine (HI.out _).mono ?_; rintro e w1 ⟨rfl, hw⟩; subst hw
    go_wp2_with fail
    go_ret
    exact ⟨by simp [h], (Below.refl w.heap.size w).alloc (Nat.le_refl _) _⟩
  · go_enter Tryz.func38, Tryz.ntmps38
    go_wp2_with fail
    refine (HI.out _).mono ?_; rintro e w1 ⟨rfl, hw⟩; subst hw
    go_wp2_with fail
    go_ret
    exact ⟨by simp, (Below.refl w.heap.size w).alloc (Nat.le_refl _) _⟩
end Go.Proofs.YtkmpbkhlcapbgaaGreatDoor
namespace Go.Proofs.YtkmpbkhlcapbgaaGreatDoor
open Go.RowKit
theorem own_apart {w : World} {b1 b2 e1 e2 s1 s2 n1 n2 : Nat} {v1 v2 : Value} {x1 x2 : List Value} (h1 : w.ownsRow b1 e1 s1 v1 n1 x1) (h2 : w.ownsRow b2 e2 s2 v2 n2 x2) (hne : e1 ≠ e2) : v1.ownBlock = none ∨ v1.ownBlock ≠ v2.ownBlock := by
  rcases h1.2 with ⟨rfl, _⟩ | ⟨g1, c1, cur1, rfl, _, hh1, _⟩
  · exact .inl rfl
  · right
    rcases h2.2 with ⟨rfl, _⟩ | ⟨g2, c2, cur2, rfl, _, hh2, _⟩
    · simp [Value.ownBlock]
    · intro e
      simp only [Value.ownBlock, Option.some.injEq] at e
      subst e
      rw [hh1] at hh2
      simp at hh2
      exact hne hh2.2
theorem own_below {w w' : World} {b e s n : Nat} {v : Value} {xs : List Value} (h : w.ownsRow b e s v n xs) (hb : Below w.heap.size w w') : w'.ownsRow b e s v n xs := by
  refine ⟨h.1, ?_⟩
  rcases h.2 with h2 | ⟨g, c, cur, hv, hg, hh, r⟩
  · exact .inl h2
  · exact .inr ⟨g, c, cur, hv, hg, by rw [hb.block g (lt_of_block hh)]; exact hh, r⟩
theorem own_base {w : World} {b b' e s n : Nat} {v : Value} {xs : List Value} (h : w.ownsRow b e s v n xs) (hb : b' ≤ b) : w.ownsRow b' e s v n xs := by
  refine ⟨h.1, ?_⟩
  rcases h.2 with h2 | ⟨g, c, cur, hv, hg, r⟩
  · exact .inl h2
  · exact .inr ⟨g, c, cur, hv, by omega, r⟩
theorem own_slice {w : World} {b e s n : Nat} {v : Value} {xs : List Value} (h : w.ownsRow b e s v n xs) : ∃ a c, v = .slice a n c := by
  rcases h.2 with ⟨rfl, rfl⟩ | ⟨g, c, cur, rfl, _⟩
  · exact ⟨_, _, rfl⟩
  · exact ⟨_, _, rfl⟩
/-- An owned row that has elements lies somewhere, and its cells read. -/
theorem own_cells {w : World} {b e s n : Nat} {v : Value} {xs : List Value} (h : w.ownsRow b e s v n xs) (hn : 0 < n) : ∃ g cap, v = .slice (some ⟨g, 0, none⟩) n cap ∧ b ≤ g ∧ n ≤ cap ∧ cap ≤ maxLen ∧ ∀ j, j < n * s → w.cell? ⟨g, j, none⟩ = xs[j]? := by
  have h0 := h
  rcases h.2 with ⟨rfl, h2⟩ | ⟨g, c, cur, rfl, hg, hh, h3, h4, _⟩
  · omega
  · exact ⟨g, c, rfl, hg, h3, h4, fun j hj => h0.cellAt j hj⟩
section
variable {P : Program} {w0 : World}
/-- 'out = append(out, x)': x of one cell, laid in a block of its own just before. -/
theorem wpList_push {ops : Array Oper} {rest : List Oper} {o : Oper} {a : Act} {Q : Exit → Act → World → Prop} (hgd : o.guard = none) (s x : Operand) (t : TypeId)
    (ho : o.op = .call { callee := .builtin .append, args := #[s, x], argTypes := #[t, t] })
    (base : Nat) (e : TypeId) (z : Value) (bytes : Nat) (ht : P.underlying t = some (.slice e)) (hinfo : (P.info? e).map (fun i => (i.zero, i.size, i.bytes)) = some (some z, 1, bytes)) (hzs : z.cells.size = 1)
    (v : Value) (n : Nat) (xs : List Value) (hs : a.eval s = v) (hown : w0.ownsRow base e 1 v n xs) (c : Value) (b0 : Nat) (hx : a.eval x = .slice (some ⟨b0, 0, none⟩) 1 1) (hb0 : b0 = w0.heap.size) (h1 : c.oneCell' = true)
    (hsz : n + 1 ≤ maxLen ∧ (n + 1) * bytes ≤ 140737488355328) (hbase : base ≤ w0.heap.size)
    (h : ∀ v' w', w'.ownsRow base e 1 v' (n + 1) (xs ++ [c]) → (w0.alloc (.cells #[c] e)).grownBy w' v.ownBlock → wpList P ops Q rest (a.put o.dst v') w') : wpList P ops Q (o :: rest) a (w0.alloc (.cells #[c] e)) := by
  subst hb0
  obtain ⟨i, hi, hz, hsize, hby⟩ := info_parts hinfo
  refine wpList_append_own _ hgd s x t ho base e i z 1 bytes ht hi hz hsize hby hzs (by decide) v n xs hs (hown.alloc _) ⟨w0.heap.size, 0, none⟩ 1 1 [c] hx rfl ?_ ?_ hsz.1 hsz.2 (by simp; omega) (fun v' w' h1 h2 _ => h v' w' h1 h2)
  · intro j u hj
    match j, hj with
    | 0, hj => simp at hj; subst hj; simp [Addr.add]
  · intro u hu; simp at hu; subst hu; exact h1
/-- 'out = append(out, x)': x of two cells. -/
theorem wpList_push2 {ops : Array Oper} {rest : List Oper} {o : Oper} {a : Act} {Q : Exit → Act → World → Prop} (hgd : o.guard = none) (s x : Operand) (t : TypeId)
    (ho : o.op = .call { callee := .builtin .append, args := #[s, x], argTypes := #[t, t] })
    (base : Nat) (e : TypeId) (z : Value) (bytes : Nat) (ht : P.underlying t = some (.slice e)) (hinfo : (P.info? e).map (fun i => (i.zero, i.size, i.bytes)) = some (some z, 2, bytes)) (hzs : z.cells.size = 2)
    (v : Value) (n : Nat) (xs : List Value) (hs : a.eval s = v) (hown : w0.ownsRow base e 2 v n xs) (c d : Value) (b0 : Nat) (hx : a.eval x = .slice (some ⟨b0, 0, none⟩) 1 1) (hb0 : b0 = w0.heap.size) (h1 : c.oneCell' = true ∧ d.oneCell' = true)
    (hsz : n + 1 ≤ maxLen ∧ (n + 1) * bytes ≤ 140737488355328) (hbase : base ≤ w0.heap.size)
    (h : ∀ v' w', w'.ownsRow base e 2 v' (n + 1) (xs ++ [c, d]) → (w0.alloc (.cells #[c, d] e)).grownBy w' v.ownBlock → wpList P ops Q rest (a.put o.dst v') w') : wpList P ops Q (o :: rest) a (w0.alloc (.cells #[c, d] e)) := by
  subst hb0
  obtain ⟨i, hi, hz, hsize, hby⟩ := info_parts hinfo
  refine wpList_append_own _ hgd s x t ho base e i z 2 bytes ht hi hz hsize hby hzs (by decide) v n xs hs (hown.alloc _) ⟨w0.heap.size, 0, none⟩ 1 1 [c, d] hx rfl ?_ ?_ hsz.1 hsz.2 (by simp; omega) (fun v' w' h1 h2 _ => h v' w' h1 h2)
  · intro j u hj
    match j, hj with
    | 0, hj => simp at hj; subst hj; simp [Addr.add]
    | 1, hj => simp at hj; subst hj; simp [Addr.add]
  · intro u hu; simp at hu; rcases hu with rfl | rfl
    · exact h1.1
    · exact h1.2
end
/-! ### A block that is known whole -/
def RowIs (w : World) (b e : Nat) (l : List Value) : Prop := w.heap[b]? = some (.cells l.toArray e (0, 0))
theorem RowIs.lt {w : World} {b e : Nat} {l : List Value} (h : RowIs w b e l) : b < w.heap.size := lt_of_block h
theorem RowIs.cell {w : World} {b e : Nat} {l : List Value} (h : RowIs w b e l) (j : Nat) : w.cell? ⟨b, j, none⟩ = l[j]? := by
  unfold RowIs at h; simp [World.cell?, h]
theorem RowIs.free {w : World} {b e : Nat} {l : List Value} (h : RowIs w b e l) (j : Nat) : w.frozen? ⟨b, j, none⟩ = false := by
  unfold RowIs at h; simp [World.frozen?, h]
theorem RowIs.below {w w' : World} {b e : Nat} {l : List Value} (h : RowIs w b e l) (hb : Below w.heap.size w w') : RowIs w' b e l := by
  unfold RowIs; rw [hb.block b h.lt]; exact h
theorem RowIs.alloc {w : World} {b e : Nat} {l : List Value} (h : RowIs w b e l) (o : Obj) : RowIs (w.alloc o) b e l := h.below ((Below.refl _ _).alloc (Nat.le_refl _) o)
theorem RowIs.new (w : World) (e : Nat) (l : List Value) : RowIs (w.alloc (.cells l.toArray e)) w.heap.size e l := by
  show (w.heap.push _)[w.heap.size]? = _; simp
theorem RowIs.other {w : World} {b e : Nat} {l : List Value} (h : RowIs w b e l) {a : Addr} (ha : b ≠ a.block) (u : Value) : RowIs (w.setCell a u) b e l := by
  unfold RowIs; rw [Below.heap_setCell _ _ _ _ ha]; exact h
theorem RowIs.set {w : World} {b e : Nat} {l : List Value} (h : RowIs w b e l) (j : Nat) (u : Value) : RowIs (w.setCell ⟨b, j, none⟩ u) b e (l.set j u) := by
  have hlt := h.lt
  have h' : w.heap[b] = .cells l.toArray e (0, 0) := by have := h; unfold RowIs at this; simpa [Array.getElem?_eq_getElem hlt] using this
  show (w.heap.modify b _)[b]? = _
  rw [Array.getElem?_eq_getElem (by simpa using hlt), Array.getElem_modify_self, h']
  simp
/-- A row that was made full is known whole. -/
theorem row_made {w : World} {b e g n : Nat} {xs : List Value} (h : w.ownsRow b e 1 (.slice (some ⟨g, 0, none⟩) n n) n xs) : RowIs w g e xs := by
  rcases h.2 with ⟨h1, _⟩ | ⟨g1, c1, cur, h1, _, hh, h3, h4, h5, h6⟩
  · cases h1
  · simp only [Value.slice.injEq, Option.some.injEq, Addr.mk.injEq] at h1
    obtain ⟨⟨rfl, _⟩, _, rfl⟩ := h1
    unfold RowIs
    rw [hh, ← h6]
    have : cur.toList.take (n * 1) = cur.toList := List.take_of_length_le (by simp; omega)
    rw [this]
/-- 'make([]T, n)' of elements of one cell: the new row is known whole. -/
theorem wpList_mkrow {P : Program} (w : World) {ops : Array Oper} {rest : List Oper} {o : Oper} {a : Act} {Q : Exit → Act → World → Prop}
    (hg : o.guard = none) (l c : Operand) (t : TypeId) (hop : o.op = Op.makeSlice t l c)
    (e : TypeId) (z : Value) (bytes : Nat) (h1 : P.underlying t = some (.slice e)) (hinfo : (P.info? e).map (fun i => (i.zero, i.size, i.bytes)) = some (some z, 1, bytes)) (hz : z.cells = #[z])
    (kl kc : IntKind) (L C : Int) (n : Nat) (hl : a.eval l = .int kl L) (hc : a.eval c = .int kc C) (hL : L = (n : Int)) (hC : C = (n : Int)) (hb : bytes * n ≤ 281474976710656 ∧ n ≤ maxLen) (b0 : Nat) (hb0 : b0 = w.heap.size)
    (hK : ∀ w', RowIs w' b0 e (List.replicate n z) → Below w.heap.size w w' → b0 < w'.heap.size → wpList P ops Q rest (a.put o.dst (.slice (some ⟨b0, 0, none⟩) n n)) w') :
    wpList P ops Q (o :: rest) a w := by
  subst hb0
  obtain ⟨i, hi, hz0, hz1, hz2⟩ := info_parts hinfo
  refine wpList_make_full w hg l c t hop w.heap.size e i z 1 h1 hi hz0 hz1 kl kc L C n hl hc hL hC (by rw [hz2]; exact hb.1) hb.2 (Nat.le_refl _) fun w' hown hgr => ?_
  have hr := row_made hown
  rw [hz, Nat.mul_one, toList_madeCells_one] at hr
  exact hK w' hr ((Below.refl _ _).grown hgr (Nat.le_refl _) (fun k h => by cases h)) hr.lt
end Go.Proofs.YtkmpbkhlcapbgaaGreatDoor
namespace Go.Proofs.YtkmpbkhlcapbgaaGreatDoor
open Go.RowKit
/-- Variables' cells. -/
def cellsL (l : List (ByteArray × ByteArray)) : List Value := l.flatMap fun p => [.string p.1, .string p.2]
theorem cellsL_length (l : List (ByteArray × ByteArray)) : (cellsL l).length = l.length * 2 := by
  induction l with
  | nil => rfl
  | cons p l ih => simp [cellsL] at *; omega
theorem cellsL_one (l : List (ByteArray × ByteArray)) : ∀ u ∈ cellsL l, u.oneCell' = true := by
  intro u hu
  simp only [cellsL, List.mem_flatMap] at hu
  obtain ⟨p, _, hp⟩ := hu
  simp at hp
  rcases hp with rfl | rfl <;> rfl
theorem cellsL_get : ∀ (l : List (ByteArray × ByteArray)) (i : Nat) (h : i < l.length), (cellsL l)[i * 2]? = some (.string l[i].1) ∧ (cellsL l)[i * 2 + 1]? = some (.string l[i].2)
  | p :: l, 0, _ => ⟨rfl, rfl⟩
  | p :: l, i + 1, h => by
    have ih := cellsL_get l i (by simpa using h)
    have e : cellsL (p :: l) = .string p.1 :: .string p.2 :: cellsL l := rfl
    rw [e, show (i + 1) * 2 = i * 2 + 2 by omega, show i * 2 + 2 + 1 = (i * 2 + 1) + 2 by omega]
    simpa using ih
theorem cellsL_append (a b : List (ByteArray × ByteArray)) : cellsL (a ++ b) = cellsL a ++ cellsL b := by simp [cellsL]
theorem cellsL_take : ∀ (l : List (ByteArray × ByteArray)) (i : Nat), cellsL (l.take i) = (cellsL l).take (i * 2)
  | _, 0 => by simp [cellsL]
  | [], i + 1 => by simp [cellsL]
  | p :: l, i + 1 => by
    have ih := cellsL_take l i
    have e : cellsL (p :: l) = .string p.1 :: .string p.2 :: cellsL l := rfl
    have e2 : cellsL (p :: l.take i) = .string p.1 :: .string p.2 :: cellsL (l.take i) := rfl
    rw [List.take_succ_cons, e, e2, ih, show (i + 1) * 2 = i * 2 + 1 + 1 by omega]
    rfl
theorem cellsL_drop : ∀ (l : List (ByteArray × ByteArray)) (i : Nat), cellsL (l.drop i) = (cellsL l).drop (i * 2)
  | _, 0 => by simp
  | [], i + 1 => by simp [cellsL]
  | p :: l, i + 1 => by
    have ih := cellsL_drop l i
    have e : cellsL (p :: l) = .string p.1 :: .string p.2 :: cellsL l := rfl
    rw [List.drop_succ_cons, e, ih, show (i + 1) * 2 = i * 2 + 1 + 1 by omega]
    rfl
theorem CellsV.at {w : World} {b off : Nat} {l : List (ByteArray × ByteArray)} (h : CellsV w b off l) (j : Nat) (u : Value) (hu : (cellsL l)[j]? = some u) : w.cell? ⟨b, off + j, none⟩ = some u := by
  have hj : j < l.length * 2 := by rw [← cellsL_length]; exact (List.getElem?_eq_some_iff.1 hu).1
  have h2 : j / 2 < l.length := by omega
  have g := cellsL_get l (j / 2) h2
  have c := h (j / 2) h2
  rcases Nat.mod_two_eq_zero_or_one j with hm | hm
  · have e : j = j / 2 * 2 := by omega
    rw [← e] at g c
    rw [c.1, ← g.1, hu]
  · have e : j = j / 2 * 2 + 1 := by omega
    have e2 : off + j / 2 * 2 + 1 = off + j := by omega
    rw [← e] at g
    rw [e2] at c
    rw [c.2, ← g.2, hu]
theorem RowV.own {w : World} {base e : Nat} {v : Value} {l : List (ByteArray × ByteArray)} (h : w.ownsRow base e 2 v l.length (cellsL l)) (hn : l.length ≤ 1000000000) : RowV w v l := by
  by_cases h0 : l = []
  · subst h0
    rcases h.2 with ⟨rfl, _⟩ | ⟨g, cap, cur, rfl, _, _, h1, _⟩
    · exact ⟨none, 0, rfl, Nat.le_refl _, by simp, .inl ⟨rfl, rfl⟩⟩
    · exact ⟨_, cap, rfl, h1, by simp, .inr ⟨g, 0, rfl, fun i hi => absurd hi (by simp)⟩⟩
  · obtain ⟨g, cap, rfl, _, h1, _, h2⟩ := own_cells h (List.length_pos_iff.2 h0)
    refine ⟨_, cap, rfl, h1, hn, .inr ⟨g, 0, rfl, fun i hi => ?_⟩⟩
    have gt := cellsL_get l i hi
    rw [Nat.zero_add]
    exact ⟨(h2 _ (by omega)).trans gt.1, (h2 _ (by omega)).trans gt.2⟩
end Go.Proofs.YtkmpbkhlcapbgaaGreatDoor
namespace Go.Proofs.YtkmpbkhlcapbgaaGreatDoor
open Go.RowKit
set_option maxRecDepth 100000 in
set_option maxHeartbeats 8000000 in
theorem clone_any (l : List (ByteArray × ByteArray)) (b off cap : Nat) (hn : l.length ≤ 1000000000) (w : World) (hc : CellsV w b off l) :
    Calls Tryz.prog 34 #[.slice (some ⟨b, off, none⟩) l.length cap] w fun e w' => ∃ v, e = .returned v ∧ w'.ownsRow w.heap.size 68 2 v l.length (cellsL l) ∧ v ≠ .slice none 0 0 ∧ Below w.heap.size w w' := by
  have HC := Lib.hid hc
  clear hc
  obtain ⟨i0, hi, hz0, hz1, hz2⟩ := info_parts (P := Tryz.prog) (e := 68) (z := .agg #[.string ⟨#[]⟩, .string ⟨#[]⟩]) (size := 2) (bytes := 32) (by kernel_rfl)
  have q := fun (w : World) (a : Option Addr) (n c n' c' : Nat) => Lib.run_eql_slice_nil (P := Tryz.prog) w _ _ a n c n' c' Tryz.underlying26
  go_enter Tryz.func34, Tryz.ntmps34
  go_wp2_with (at_builtin; refine wpList_append_own _ rfl _ _ 26 rfl w.heap.size 68 i0 (.agg #[.string ⟨#[]⟩, .string ⟨#[]⟩]) 2 32 Tryz.underlying26 hi hz0 hz1 hz2 rfl (by decide) _ _ _ rfl (World.ownsRow_made w #[] 0 (Nat.le_refl _) (Nat.zero_le _) rfl) ⟨b, off, none⟩ l.length cap (cellsL l) rfl ?qc1 ?qc2 ?qc3 ?qc4 ?qc5 ?qc6 ?_)
  case qc1 => exact cellsL_length l
  case qc2 =>
    intro j u hj
    rw [Addr.add_lit]
    exact Lib.cell?_alloc_some _ (HC.out.at j u hj)
  case qc3 => exact cellsL_one l
  case qc4 => unfold maxLen; omega
  case qc5 => omega
  case qc6 => simp
  intro v' w1 hown hgrow hnil
  go_wp2
  go_ret
  refine ⟨v', rfl, by simpa using hown, ?_, ?_⟩
  · exact hnil
  · exact ((Below.refl _ w).alloc (Nat.le_refl _) _).grown hgrow (by simp) (by intro k hk; simp [Value.ownBlock] at hk; omega)
end Go.Proofs.YtkmpbkhlcapbgaaGreatDoor
namespace Go.Proofs.YtkmpbkhlcapbgaaGreatDoor
open Go.RowKit
/-- A row that the call made, or nil. -/
def OwnV (base : Nat) (w : World) (v : Value) (l : List (ByteArray × ByteArray)) : Prop := w.ownsRow base 68 2 v l.length (cellsL l) ∧ l.length ≤ 1000000000
theorem OwnV.row {base : Nat} {w : World} {v : Value} {l : List (ByteArray × ByteArray)} (h : OwnV base w v l) : RowV w v l := RowV.own h.1 h.2
set_option maxRecDepth 100000 in
set_option maxHeartbeats 8000000 in
theorem clone_nil (n c : Nat) (w : World) :
    Calls Tryz.prog 34 #[.slice none n c] w fun e w' => e = .returned (.slice none 0 0) ∧ w' = w := by
  have q := fun (w : World) (a : Option Addr) (n c n' c' : Nat) => Lib.run_eql_slice_nil (P := Tryz.prog) w _ _ a n c n' c' Tryz.underlying26
  go_enter Tryz.func34, Tryz.ntmps34
  go_wp2_with fail
  go_ret
  exact ⟨rfl, rfl⟩
end Go.Proofs.YtkmpbkhlcapbgaaGreatDoor
namespace Go.Proofs.YtkmpbkhlcapbgaaGreatDoor
open Go Go.RowKit
section
variable {P : Program}
theorem run_copy_rowN (w : World) (dT sT ty elem : TypeId) (size : Nat) (g o dLen dCap : Nat) (a : Addr) (sLen sCap : Nat) (cur : List Value) (t : TypeId) (cs : List Value)
    (hu : P.underlying dT = some (.slice elem)) (hs : (P.info? elem).map (·.size) = some size)
    (hg : w.heap[g]? = some (.cells cur.toArray t (0, 0))) (k : Nat) (hk : Nat.min sLen dLen = k) (hn : cs.length = k * size)
    (hsrc : ∀ j v, cs[j]? = some v → w.cell? (a.add j) = some v) (hfit : o + cs.length ≤ cur.length) (h1 : ∀ v ∈ cs, v.oneCell' = true) :
    (Builtin.copy_ #[dT, sT] ty #[.slice (some ⟨g, o, none⟩) dLen dCap, .slice (some a) sLen sCap]).run P w = .ok (goInt k) (w.setRow g (splice cur o cs).toArray) := by
  have hl := run_loadCells_list (P := P) w a cs hsrc
  have hst := run_storeCells_at P g o t cs 0 cur.toArray w hg (by simpa using hfit) h1
  cases hq : P.info? elem with
  | none => simp [hq] at hs
  | some i =>
    have hi : i.size = size := by simpa [hq] using hs
    simp only [Nat.add_zero] at hst
    simp [Builtin.copy_, run_underlying hu, Builtin.lenOf, Builtin.firstCells, sizeOf, typeInfo, hq, hi, hk, ← hn, hl, hst, splice]
theorem run_copy_noneN (w : World) (dT sT ty elem : TypeId) (size : Nat) (d a : Option Addr) (dLen dCap sLen sCap : Nat) (hu : P.underlying dT = some (.slice elem)) (hs : (P.info? elem).map (·.size) = some size) (hn : Nat.min sLen dLen = 0) :
    (Builtin.copy_ #[dT, sT] ty #[.slice d dLen dCap, .slice a sLen sCap]).run P w = .ok (goInt 0) w := by
  cases hq : P.info? elem with
  | none => simp [hq] at hs
  | some i =>
    have hl : ∀ (x : Addr), (loadCells x 0).run P w = .ok #[] w := fun x => by simpa using run_loadCells_list (P := P) w x [] (by simp)
    cases d <;> cases a <;> simp [Builtin.copy_, run_underlying hu, Builtin.lenOf, Builtin.firstCells, sizeOf, typeInfo, hq, hn, storeCells, hl]
theorem wpList_copy_known {w : World} {ops : Array Oper} {rest : List Oper} {o : Oper} {a : Act} {Q : Exit → Act → World → Prop} (hgd : o.guard = none) (d s : Operand) (dT sT : TypeId)
    (ho : o.op = .call { callee := .builtin .copy, args := #[d, s], argTypes := #[dT, sT] }) (elem : TypeId) (size : Nat) (hu : P.underlying dT = some (.slice elem)) (hsz : (P.info? elem).map (·.size) = some size)
    (dp sp : Option Addr) (dLen dCap sLen sCap : Nat) (hd : a.eval d = .slice dp dLen dCap) (hs : a.eval s = .slice sp sLen sCap)
    (g off : Nat) (cur : List Value) (t : TypeId) (hg : w.heap[g]? = some (.cells cur.toArray t (0, 0))) (k : Nat) (hk : Nat.min sLen dLen = k) (cs : List Value) (hn : cs.length = k * size)
    (hpos : 0 < k → dp = some ⟨g, off, none⟩ ∧ ∃ ad, sp = some ad ∧ ∀ j v, cs[j]? = some v → w.cell? (ad.add j) = some v)
    (hfit : off + cs.length ≤ cur.length) (h1 : ∀ v ∈ cs, v.oneCell' = true) (B : Nat) (w0 : World) (hb : Below B w0 w) (hBg : B ≤ g)
    (h : ∀ w', Hid (w'.heap[g]? = some (.cells (splice cur off cs).toArray t (0, 0))) → Below B w0 w' → Hid (∀ k, k ≠ g → w'.heap[k]? = w.heap[k]?) → wpList P ops Q rest (a.put o.dst (goInt k)) w') :
    wpList P ops Q (o :: rest) a w := by
  refine wpList_plain hgd fun K hK => ?_
  by_cases h0 : k = 0
  · subst h0
    obtain rfl : cs = [] := List.eq_nil_of_length_eq_zero (by simpa using hn)
    have hrun := run_copy_noneN (P := P) w dT sT o.type elem size dp sp dLen dCap sLen sCap hu hsz hk
    unfold Oper.wp
    simp [execOp, ho, resolve, invoke, builtin, hd, hs, hrun, Result.andThen]
    exact hK _ _ (h w (show _ = _ by simpa [splice] using hg) hb (fun _ _ => rfl))
  · obtain ⟨rfl, ad, rfl, hsrc⟩ := hpos (by omega)
    have hrun := run_copy_rowN (P := P) w dT sT o.type elem size g off dLen dCap ad sLen sCap cur t cs hu hsz hg k hk hn hsrc hfit h1
    unfold Oper.wp
    simp [execOp, ho, resolve, invoke, builtin, hd, hs, hrun, Result.andThen]
    exact hK _ _ (h _ (show _ = _ by simpa using setRow_heap w g _ _ t _ hg) (below_setRow hb hBg _) (fun k hk => setRow_other w g k _ hk))
theorem step_copy_known {w : World} {ops : Array Oper} {o : Oper} {a : Act} {K : Act → World → Prop} {Q : Exit → Act → World → Prop} {E : Prop} (hgd : o.guard = none) (d s : Operand) (dT sT : TypeId)
    (ho : o.op = .call { callee := .builtin .copy, args := #[d, s], argTypes := #[dT, sT] }) (elem : TypeId) (size : Nat) (hu : P.underlying dT = some (.slice elem)) (hsz : (P.info? elem).map (·.size) = some size)
    (dp sp : Option Addr) (dLen dCap sLen sCap : Nat) (hd : a.eval d = .slice dp dLen dCap) (hs : a.eval s = .slice sp sLen sCap)
    (g off : Nat) (cur : List Value) (t : TypeId) (hg : w.heap[g]? = some (.cells cur.toArray t (0, 0))) (k : Nat) (hk : Nat.min sLen dLen = k) (cs : List Value) (hn : cs.length = k * size)
    (hpos : 0 < k → dp = some ⟨g, off, none⟩ ∧ ∃ ad, sp = some ad ∧ ∀ j v, cs[j]? = some v → w.cell? (ad.add j) = some v)
    (hfit : off + cs.length ≤ cur.length) (h1 : ∀ v ∈ cs, v.oneCell' = true) (B : Nat) (w0 : World) (hb : Below B w0 w) (hBg : B ≤ g)
    (h : ∀ w', Hid (w'.heap[g]? = some (.cells (splice cur off cs).toArray t (0, 0))) → Below B w0 w' → Hid (∀ k, k ≠ g → w'.heap[k]? = w.heap[k]?) → K (a.put o.dst (goInt k)) w') :
    if Region.wanted o (yielded ops a.tmps) = true then Oper.wp P o a w K Q else E := by
  have hw : Region.wanted o (yielded ops a.tmps) = true := by simp [Region.wanted, hgd]
  rw [if_pos hw]
  by_cases h0 : k = 0
  · subst h0
    obtain rfl : cs = [] := List.eq_nil_of_length_eq_zero (by simpa using hn)
    have hrun := run_copy_noneN (P := P) w dT sT o.type elem size dp sp dLen dCap sLen sCap hu hsz hk
    unfold Oper.wp
    simp [execOp, ho, resolve, invoke, builtin, hd, hs, hrun, Result.andThen]
    exact h w (show _ = _ by simpa [splice] using hg) hb (fun _ _ => rfl)
  · obtain ⟨rfl, ad, rfl, hsrc⟩ := hpos (by omega)
    have hrun := run_copy_rowN (P := P) w dT sT o.type elem size g off dLen dCap ad sLen sCap cur t cs hu hsz hg k hk hn hsrc hfit h1
    unfold Oper.wp
    simp [execOp, ho, resolve, invoke, builtin, hd, hs, hrun, Result.andThen]
    exact h _ (show _ = _ by simpa using setRow_heap w g _ _ t _ hg) (below_setRow hb hBg _) (fun k hk => setRow_other w g k _ hk)
theorem setRow_cell {w : World} {g : Nat} {cur : List Value} {t : TypeId} (hg : w.heap[g]? = some (.cells cur.toArray t (0, 0))) (j : Nat) : w.cell? ⟨g, j, none⟩ = cur[j]? := by
  simp [World.cell?, hg]
/-- append where there is room, onto a row that is known whole, as a step of a region that draws. -/
theorem step_append_known {w : World} {ops : Array Oper} {o : Oper} {a : Act} {K : Act → World → Prop} {Q : Exit → Act → World → Prop} {E : Prop} (hgd : o.guard = none) (s x : Operand) (t : TypeId)
    (ho : o.op = .call { callee := .builtin .append, args := #[s, x], argTypes := #[t, t] }) (e : TypeId) (z : Value) (size bytes : Nat) (ht : P.underlying t = some (.slice e)) (hinfo : (P.info? e).map (fun i => (i.zero, i.size, i.bytes)) = some (some z, size, bytes))
    (g n cap : Nat) (hs : a.eval s = .slice (some ⟨g, 0, none⟩) n cap) (cur : List Value) (hg : w.heap[g]? = some (.cells cur.toArray e (0, 0)))
    (ad : Addr) (m c : Nat) (hx : a.eval x = .slice (some ad) m c) (news : List Value) (hl : news.length = m * size) (hnews : ∀ j u, news[j]? = some u → w.cell? (ad.add j) = some u) (h1 : ∀ u ∈ news, u.oneCell' = true)
    (hroom : n + m ≤ cap) (hfit : n * size + news.length ≤ cur.length) (B : Nat) (w0 : World) (hb : Below B w0 w) (hBg : B ≤ g)
    (h : ∀ w', Hid (w'.heap[g]? = some (.cells (splice cur (n * size) news).toArray e (0, 0))) → Below B w0 w' → Hid (∀ k, k ≠ g → w'.heap[k]? = w.heap[k]?) → K (a.put o.dst (.slice (some ⟨g, 0, none⟩) (n + m) cap)) w') :
    if Region.wanted o (yielded ops a.tmps) = true then Oper.wp P o a w K Q else E := by
  have hw : Region.wanted o (yielded ops a.tmps) = true := by simp [Region.wanted, hgd]
  rw [if_pos hw]
  obtain ⟨i, hi, hz, hsize, hby⟩ := info_parts hinfo
  subst hsize
  have hrun := run_append_room (P := P) w t o.type e i ht hi g n cap cur.toArray hg ad m c news hl hnews h1 hroom (by simpa using hfit)
  unfold Oper.wp
  simp [execOp, ho, resolve, invoke, builtin, hs, hx, hrun, Result.andThen]
  exact h _ (show _ = _ by simpa [splice] using setRow_heap w g _ _ e _ hg) (by simpa [splice] using below_setRow hb hBg _) (fun k hk => setRow_other w g k _ hk)
/-- clear(s), in a row that is known whole. -/
theorem wpList_clear_known {w : World} {ops : Array Oper} {rest : List Oper} {o : Oper} {a : Act} {Q : Exit → Act → World → Prop} (hgd : o.guard = none) (x : Operand) (t : TypeId)
    (ho : o.op = .call { callee := .builtin .clear, args := #[x], argTypes := #[t] }) (e : TypeId) (z : Value) (size : Nat) (ht : P.underlying t = some (.slice e)) (hz : ∀ w, (zeroValue e).run P w = .ok z w) (hzs : z.cells.size = size)
    (g off n cap : Nat) (hx : a.eval x = .slice (some ⟨g, off, none⟩) n cap) (hn : 0 < n) (cur : List Value) (hg : w.heap[g]? = some (.cells cur.toArray e (0, 0))) (hfit : off + n * size ≤ cur.length)
    (h1 : ∀ u ∈ (Builtin.zeroCells z.cells n).toList, u.oneCell' = true) (B : Nat) (w0 : World) (hb : Below B w0 w) (hBg : B ≤ g)
    (h : ∀ w', Hid (w'.heap[g]? = some (.cells (splice cur off (Builtin.zeroCells z.cells n).toList).toArray e (0, 0))) → Below B w0 w' → Hid (∀ k, k ≠ g → w'.heap[k]? = w.heap[k]?) → wpList P ops Q rest (a.put o.dst (.tuple #[])) w') :
    wpList P ops Q (o :: rest) a w := by
  refine wpList_plain hgd fun K hK => ?_
  have hl : (Builtin.zeroCells z.cells n).toList.length = n * size := by rw [Array.length_toList, size_zeroCells, hzs]
  have hst := run_storeCells_at P g off e (Builtin.zeroCells z.cells n).toList 0 cur.toArray w hg (by simp only [List.size_toArray]; omega) h1
  obtain ⟨m, rfl⟩ : ∃ m, n = m + 1 := ⟨n - 1, by omega⟩
  have hrun : ∀ ty, (Builtin.clear_ #[t] ty #[.slice (some ⟨g, off, none⟩) (m + 1) cap]).run P w = .ok (.tuple #[]) (w.setRow g (splice cur off (Builtin.zeroCells z.cells (m + 1)).toList).toArray) := fun ty => by
    simp only [Nat.add_zero] at hst
    simp [Builtin.clear_, run_underlying ht, hz, hst, splice]
  unfold Oper.wp
  simp [execOp, ho, resolve, invoke, builtin, hx, hrun, Result.andThen]
  exact hK _ _ (h _ (show _ = _ by simpa using setRow_heap w g _ _ e _ hg) (below_setRow hb hBg _) (fun k hk => setRow_other w g k _ hk))
end
/-- A row known whole, with room behind its elements. -/
structure Known (w : World) (e : TypeId) (size g cap : Nat) (cur : List Value) (n : Nat) (xs : List Value) : Prop where
  row : w.heap[g]? = some (.cells cur.toArray e (0, 0))
  le : n ≤ cap
  big : cap ≤ maxLen
  len : cur.length = cap * size
  take : cur.take (n * size) = xs
theorem Known.own {w : World} {e : TypeId} {size g cap : Nat} {cur : List Value} {n : Nat} {xs : List Value} (h : Known w e size g cap cur n xs) {base : Nat} (hb : base ≤ g) : w.ownsRow base e size (.slice (some ⟨g, 0, none⟩) n cap) n xs := by
  refine ⟨?_, .inr ⟨g, cap, cur.toArray, rfl, hb, h.row, h.le, h.big, by simpa using h.len, by simpa using h.take⟩⟩
  rw [← h.take, List.length_take, h.len]
  exact Nat.min_eq_left (Nat.mul_le_mul_right _ h.le)
theorem known_of_own {w : World} {base e size n : Nat} {v : Value} {xs : List Value} (h : w.ownsRow base e size v n xs) : (v = .slice none 0 0 ∧ n = 0) ∨ ∃ g cap cur, v = .slice (some ⟨g, 0, none⟩) n cap ∧ base ≤ g ∧ Known w e size g cap cur n xs := by
  rcases h.2 with h2 | ⟨g, cap, cur, hv, hb, hg, h1, h2, h3, h4⟩
  · exact .inl h2
  · exact .inr ⟨g, cap, cur.toList, hv, hb, by simpa using hg, h1, h2, by simpa using h3, h4⟩
theorem Known.cell {w : World} {e : TypeId} {size g cap : Nat} {cur : List Value} {n : Nat} {xs : List Value} (h : Known w e size g cap cur n xs) (j : Nat) (u : Value) (hu : xs[j]? = some u) : w.cell? ⟨g, j, none⟩ = some u := by
  rw [setRow_cell h.row]
  rw [← h.take, List.getElem?_take] at hu
  split at hu
  · exact hu
  · cases hu
theorem Known.below {w w' : World} {e : TypeId} {size g cap : Nat} {cur : List Value} {n : Nat} {xs : List Value} (h : Known w e size g cap cur n xs) (hb : Below w.heap.size w w') : Known w' e size g cap cur n xs :=
  ⟨by rw [hb.block g (lt_of_block h.row)]; exact h.row, h.le, h.big, h.len, h.take⟩
theorem splice_take {α : Type} (L : List α) (off : Nat) (cs : List α) (h : off + cs.length ≤ L.length) (k : Nat) (hk : k = off + cs.length) : (splice L off cs).take k = L.take off ++ cs := by
  subst hk
  unfold splice
  rw [← List.append_assoc, List.take_append_of_le_length (by simp; omega)]
  exact List.take_of_length_le (by simp; omega)
end Go.Proofs.YtkmpbkhlcapbgaaGreatDoor
namespace Go.Proofs.YtkmpbkhlcapbgaaGreatDoor
open Go Go.RowKit
set_option maxRecDepth 100000 in
set_option maxHeartbeats 8000000 in
theorem delete_own (g cap i n : Nat) (cur xs : List Value) (hn : n ≤ 1000000000) (hi : i < n) (w : World) (hk : Known w 68 2 g cap cur n xs) (h1 : ∀ u ∈ xs, u.oneCell' = true) :
    Calls Tryz.prog 35 #[.slice (some ⟨g, 0, none⟩) n cap, .int .i64 i, .int .i64 ((i : Int) + 1)] w fun e w' =>
      e = .returned (.slice (some ⟨g, 0, none⟩) (n - 1) cap) ∧ (∃ cur', Known w' 68 2 g cap cur' (n - 1) (xs.take (i * 2) ++ xs.drop ((i + 1) * 2))) ∧ Below g w w' := by
  have hlen : xs.length = n * 2 := by
    rw [← hk.take, List.length_take, hk.len]
    exact Nat.min_eq_left (Nat.mul_le_mul_right _ hk.le)
  have hcurl := hk.len
  have hle := hk.le
  have hbig := hk.big
  unfold maxLen at hbig
  obtain ⟨A, hA, hsrc⟩ : ∃ A : Addr, (if cap = i + 1 then (some ⟨g, 0, none⟩ : Option Addr) else some ⟨g, (i + 1) * 2, none⟩) = some A ∧ Hid (∀ (W : World), Known W 68 2 g cap cur n xs → ∀ t u, (xs.drop ((i + 1) * 2))[t]? = some u → W.cell? (A.add t) = some u) := by
    by_cases h : cap = i + 1
    · refine ⟨⟨g, 0, none⟩, by simp [h], fun W hW t u hu => ?_⟩
      have := (List.getElem?_eq_some_iff.1 hu).1
      rw [List.length_drop] at this
      omega
    · refine ⟨⟨g, (i + 1) * 2, none⟩, by simp [h], fun W hW t u hu => ?_⟩
      rw [Addr.add_lit]
      rw [List.getElem?_drop] at hu
      exact hW.cell _ _ hu
  have hi1 : (i : Int) + 1 ≤ (n : Int) := by omega
  have hi2 : (0 : Int) ≤ (i : Int) + 1 := by omega
  have HX1 : Hid (n * 2 - (i + 1) * 2 = (n - (i + 1)) * 2) := by unfold Hid; omega
  have HX2 : Hid (i * 2 + (n - (i + 1)) * 2 ≤ cap * 2) := by unfold Hid; omega
  have HX3 : Hid (i * 2 + (n - (i + 1)) * 2 = (n - 1) * 2) := by unfold Hid; omega
  have hi3 : ((i : Int) + 1).toNat = i + 1 := by omega
  have hi4 : i + 1 ≤ n := by omega
  have hi5 : ((i : Int) == (i : Int) + 1) = false := by simp; omega
  have hi6 : i ≤ cap := by omega
  have hi7 : i + 1 ≤ cap := by omega
  have hi8 : (n : Int) ≤ (cap : Int) := by omega
  have HK := Lib.hid hk
  have H1 := Lib.hid h1
  have HL := Lib.hid hlen
  have HCL := Lib.hid hcurl
  have HI := Lib.hid hi
  clear hk h1 hlen hcurl
  go_enter Tryz.func35, Tryz.ntmps35
  go_wp2_with fail
  obtain ⟨news, hnews⟩ : ∃ news, xs.drop ((i + 1) * 2) = news := ⟨_, rfl⟩
  have HN := Lib.hid hnews
  have hKd : Hid (Known w.drew 68 2 g cap cur n xs) := ⟨HK.out.row, HK.out.le, HK.out.big, HK.out.len, HK.out.take⟩
  have hnl : Hid (news.length = (n - (i + 1)) * 2) := by rw [← hnews, List.length_drop, HL.out]; exact HX1.out
  have hsn : Hid (∀ t u, news[t]? = some u → w.drew.cell? (A.add t) = some u) := by rw [← hnews]; exact hsrc.out _ hKd.out
  have hn1 : Hid (∀ u ∈ news, u.oneCell' = true) := fun u hu => H1.out u (by rw [← hnews] at hu; exact List.mem_of_mem_drop hu)
  have hfit : Hid (i * 2 + news.length ≤ cur.length) := by rw [hnl.out, HCL.out]; exact HX2.out
  clear hnews
  go_region_law (refine step_append_known rfl (.tmp 22) (.tmp 25) 26 rfl 68 (.agg #[.string ⟨#[]⟩, .string ⟨#[]⟩]) 2 32 Tryz.underlying26 (by kernel_rfl) g i cap (by simp [Act.eval, Act.put]) cur hKd.out.row A (n - (i + 1)) (cap - (i + 1)) (by simp [Act.eval, Act.put]) news hnl.out hsn.out hn1.out (by omega) hfit.out g w ((Below.refl _ w).drew) (Nat.le_refl _) ?_; intro w1 hrow hb1 _)
  obtain ⟨m, hm⟩ : ∃ m, i + (n - (i + 1)) = m := ⟨_, rfl⟩
  have hm1 : m + 1 = n := by omega
  have hm2 : ¬ (cap = m) := by omega
  have hm3 : (m : Int) ≤ (n : Int) := by omega
  have hm4 : m ≤ n := by omega
  rw [hm]
  have hsl : (splice cur (i * 2) news).length = cap * 2 := by rw [length_splice _ _ _ hfit.out, HCL.out]
  have hz1 : Hid (m * 2 + (n - m) * 2 ≤ (splice cur (i * 2) news).length) := by unfold Hid; rw [hsl]; omega
  have hz2 : Hid (∀ u ∈ (Builtin.zeroCells (Value.agg #[.string ⟨#[]⟩, .string ⟨#[]⟩]).cells (n - m)).toList, u.oneCell' = true) := by
    have e : n - m = 1 := by omega
    have ez : (Builtin.zeroCells (Value.agg #[.string ⟨#[]⟩, .string ⟨#[]⟩]).cells 1).toList = [.string ⟨#[]⟩, .string ⟨#[]⟩] := by kernel_rfl
    unfold Hid; rw [e, ez]; intro u hu; simp at hu; rw [hu]; rfl
  have hnm : 0 < n - m := by omega
  have HM := Lib.hid hm
  have HSL := Lib.hid hsl
  clear hm hsl hm1
  go_wp2_with (refine wpList_clear_known rfl _ 26 rfl 68 (.agg #[.string ⟨#[]⟩, .string ⟨#[]⟩]) 2 Tryz.underlying26 Tryz.zeroValue68 rfl g (m * 2) (n - m) (cap - m) rfl hnm _ hrow.out hz1.out hz2.out g w hb1 (Nat.le_refl _) ?_; intro w2 hrow2 hb2 _)
  go_ret
  have hme : m = n - 1 := by have := HM.out; have := HI.out; omega
  subst hme
  refine ⟨rfl, ⟨_, hrow2.out, by omega, by unfold maxLen; omega, ?_, ?_⟩, hb2⟩
  · rw [length_splice _ _ _ (by rw [Array.length_toList, size_zeroCells]; exact hz1.out), HSL.out]
  · have e0 : i * 2 + news.length = (n - 1) * 2 := by rw [hnl.out]; exact HX3.out
    unfold splice
    rw [List.take_append_of_le_length (by rw [List.length_take]; have := HSL.out; unfold splice at this; omega), List.take_take, Nat.min_self]
    have := splice_take cur (i * 2) news hfit.out ((n - 1) * 2) e0.symm
    unfold splice at this
    rw [this, ← HN.out, ← HK.out.take, List.take_take, Nat.min_eq_left (by omega)]
end Go.Proofs.YtkmpbkhlcapbgaaGreatDoor
namespace Go.Proofs.YtkmpbkhlcapbgaaGreatDoor
open Go Go.RowKit
theorem varInfo : (Tryz.prog.info? 68).map (fun i => (i.zero, i.size, i.bytes)) = some (some (.agg #[.string ⟨#[]⟩, .string ⟨#[]⟩]), 2, 32) := by kernel_rfl
set_option maxRecDepth 100000 in
set_option maxHeartbeats 8000000 in
theorem insert_end (base n vb : Nat) (v c d : Value) (xs : List Value) (hn : n ≤ 1000000000) (w : World) (hown : w.ownsRow base 68 2 v n xs) (hb : base ≤ w.heap.size) (hv : RowIs w vb 68 [c, d]) (hc : c.oneCell' = true ∧ d.oneCell' = true) :
    Calls Tryz.prog 27 #[v, .int .i64 n, .slice (some ⟨vb, 0, none⟩) 1 1] w fun e w' =>
      ∃ v', e = .returned v' ∧ w'.ownsRow base 68 2 v' (n + 1) (xs ++ [c, d]) ∧ Below base w w' := by
  have HB : ∀ w', w.grownBy w' v.ownBlock → Below base w w' := fun w' hg => (Below.refl base w).grown hg hb (fun k hk => (hown.lt k hk).1)
  obtain ⟨a, cp, rfl⟩ := own_slice hown
  have hcp : n ≤ cp := by
    rcases hown.2 with ⟨h, rfl⟩ | ⟨g, cap, cur, h, _, _, h2, _⟩
    · omega
    · cases h; exact h2
  have hncp : (n : Int) ≤ (cp : Int) := by omega
  obtain ⟨i0, hi, hz0, hz1, hz2⟩ := info_parts varInfo
  have q1 : Hid (∀ j u, [c, d][j]? = some u → w.cell? ((⟨vb, 0, none⟩ : Addr).add j) = some u) := by
    intro j u hj
    have h := hv.cell j
    rw [Addr.add_lit, Nat.zero_add, h]; exact hj
  have q2 : Hid (∀ u ∈ [c, d], u.oneCell' = true) := by
    intro u hu
    simp at hu
    rcases hu with rfl | rfl
    · exact hc.1
    · exact hc.2
  have q3 : Hid (n + 1 ≤ maxLen ∧ (n + 1) * 32 ≤ 140737488355328) := by unfold Hid maxLen; omega
  have HB2 := Lib.hid HB
  have HO := Lib.hid hown
  clear hown hv hc HB
  by_cases hcn : n = cp
  · subst hcn
    go_enter Tryz.func27, Tryz.ntmps27
    go_wp2_with (at_builtin; refine wpList_append_own _ rfl _ _ 26 rfl base 68 i0 (.agg #[.string ⟨#[]⟩, .string ⟨#[]⟩]) 2 32 Tryz.underlying26 hi hz0 hz1 hz2 rfl (by decide) _ _ _ rfl HO.out ⟨vb, 0, none⟩ 1 1 [c, d] rfl rfl q1.out q2.out q3.out.1 q3.out.2 hb ?_)
    intro v' w1 hown hgrow _
    have HG := Lib.hid hgrow
    have HO2 := Lib.hid hown
    clear hown hgrow
    go_wp2
    go_ret
    exact ⟨v', rfl, HO2.out, HB2.out _ HG.out⟩
  · have hcn2 : ¬ (cp = n) := fun e => hcn e.symm
    clear hcn
    go_enter Tryz.func27, Tryz.ntmps27
    go_wp2_with (at_builtin; refine wpList_append_own _ rfl _ _ 26 rfl base 68 i0 (.agg #[.string ⟨#[]⟩, .string ⟨#[]⟩]) 2 32 Tryz.underlying26 hi hz0 hz1 hz2 rfl (by decide) _ _ _ rfl HO.out ⟨vb, 0, none⟩ 1 1 [c, d] rfl rfl q1.out q2.out q3.out.1 q3.out.2 hb ?_)
    intro v' w1 hown hgrow _
    have HG := Lib.hid hgrow
    have HO2 := Lib.hid hown
    clear hown hgrow
    go_wp2
    go_ret
    exact ⟨v', rfl, HO2.out, HB2.out _ HG.out⟩
end Go.Proofs.YtkmpbkhlcapbgaaGreatDoor
