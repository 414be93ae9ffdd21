/-
  DERIVED. Plain: variables rising by name: where a name is, or should be; what setting and unsetting make of them. No program in sight. The walk of env's find. The walk of env's Get at a name (lexer.Name's answer is handed in). The walks of env's Ifs (Get's answer is handed in) and Has.
-/
import Derived.Test.YtkmpbkhlcapbgaaGreatDoorZ02
import Derived.Test.YtkmpbkhlcapbgaaGreatDoorZ03
import Derived.Laws.EntriesVeiled
namespace Go.Proofs.YtkmpbkhlcapbgaaGreatDoor
theorem ltL_irrefl : ∀ s : List UInt8, ltL s s = false
  | [] => rfl
  | a :: s => by
    have := ltL_irrefl s
    simp only [ltL, Nat.lt_irrefl, if_false]
    exact this
theorem ltL_trans : ∀ a b c : List UInt8, ltL a b = true → ltL b c = true → ltL a c = true
  | [], [], _, h, _ => by simp [ltL] at h
  | [], _ :: _, [], _, h => by simp [ltL] at h
  | [], _ :: _, _ :: _, _, _ => rfl
  | _ :: _, [], _, h, _ => by simp [ltL] at h
  | _ :: _, _ :: _, [], _, h => by simp [ltL] at h
  | x :: a, y :: b, z :: c, h, k => by
    have ih := ltL_trans a b c
    unfold ltL at h k ⊢
    repeat' split at h
    all_goals repeat' split at k
    all_goals repeat' split
    all_goals first | rfl | omega | exact ih h k | (simp at h; done) | (simp at k; done) | skip
theorem ltL_total : ∀ a b : List UInt8, ltL a b = false → ltL b a = false → a = b
  | [], [], _, _ => rfl
  | [], _ :: _, h, _ => by simp [ltL] at h
  | _ :: _, [], _, h => by simp [ltL] at h
  | x :: a, y :: b, h, k => by
    have ih := ltL_total a b
    unfold ltL at h k
    repeat' split at h
    all_goals repeat' split at k
    all_goals first | (simp at h; done) | (simp at k; done) | omega | skip
    rw [ih h k, show x = y from UInt8.toNat_inj.1 (by omega)]
theorem compare_lt : ∀ a b : List UInt8, Lib.compareBytes a b = 1 ↔ ltL b a = true
  | [], [] => by simp [Lib.compareBytes, ltL]
  | [], _ :: _ => by simp [Lib.compareBytes, ltL]
  | _ :: _, [] => by simp [Lib.compareBytes, ltL]
  | x :: a, y :: b => by
    have ih := compare_lt a b
    unfold Lib.compareBytes ltL
    simp only [UInt8.lt_iff_toNat_lt]
    repeat' split
    all_goals first | exact ih | (simp; done) | (exfalso; omega)
theorem compare_eq : ∀ a b : List UInt8, Lib.compareBytes a b = 0 ↔ a = b
  | [], [] => by simp [Lib.compareBytes]
  | [], _ :: _ => by simp [Lib.compareBytes]
  | _ :: _, [] => by simp [Lib.compareBytes]
  | x :: a, y :: b => by
    have ih := compare_eq a b
    unfold Lib.compareBytes
    simp only [UInt8.lt_iff_toNat_lt, List.cons.injEq]
    repeat' split
    · rename_i h; simp; intro e; subst e; omega
    · rename_i h; simp; intro e; subst e; omega
    · rename_i h1 h2
      rw [ih]
      have e : x = y := UInt8.toNat_inj.1 (by omega)
      simp [e]
theorem cmpV_neg (n s : List UInt8) : cmpV n s < 0 ↔ ltL n s = true := by
  rw [← compare_lt s n, cmpV]
  rcases cmp3 s n with h | h | h <;> rw [h] <;> simp
theorem cmpV_zero (n s : List UInt8) : cmpV n s = 0 ↔ s = n := by
  rw [← compare_eq s n, cmpV]
  omega
/-- Variables that rise by name. -/
def Rising (l : List (List UInt8 × List UInt8)) : Prop := l.Pairwise fun p q => ltL p.1 q.1 = true
/-- Variables as they lie in memory. -/
def bv (l : List (List UInt8 × List UInt8)) : List (ByteArray × ByteArray) := l.map fun p => (⟨p.1.toArray⟩, ⟨p.2.toArray⟩)
theorem bv_length (l : List (List UInt8 × List UInt8)) : (bv l).length = l.length := by simp [bv]
theorem takeWhile_at {α : Type} (p : α → Bool) : ∀ (l : List α) (t : Nat) (h : t < l.length), t < (l.takeWhile p).length → p l[t] = true
  | a :: l, t, h, ht => by
    rw [List.takeWhile_cons] at ht
    split at ht
    · rename_i ha
      cases t with
      | zero => exact ha
      | succ t => exact takeWhile_at p l t (by simpa using h) (by simpa using ht)
    · simp at ht
theorem takeWhile_stop {α : Type} (p : α → Bool) : ∀ (l : List α) (h : (l.takeWhile p).length < l.length), p (l[(l.takeWhile p).length]) = false
  | a :: l, h => by
    cases ha : p a with
    | false => simp [ha]
    | true =>
      have := takeWhile_stop p l (by simpa [List.takeWhile_cons, ha] using h)
      simpa [List.takeWhile_cons, ha] using this
theorem lowF_le (l : List (List UInt8 × List UInt8)) (s : List UInt8) : lowF l s ≤ l.length := (List.takeWhile_prefix _).length_le
theorem rising_hi {l : List (List UInt8 × List UInt8)} (hr : Rising l) (s : List UInt8) (t : Nat) (h : t < l.length) (hc : lowF l s ≤ t) : ltL l[t].1 s = false := by
  have h0 : lowF l s < l.length := by omega
  have hs : ltL l[lowF l s].1 s = false := takeWhile_stop (fun p : List UInt8 × List UInt8 => ltL p.1 s) l h0
  by_cases e : lowF l s = t
  · subst e; exact hs
  · cases ht : ltL l[t].1 s with
    | false => rfl
    | true =>
      have hp := List.pairwise_iff_getElem.1 hr (lowF l s) t h0 h (by omega)
      have := ltL_trans _ _ _ hp ht
      rw [hs] at this
      cases this
theorem findF_at (l : List (List UInt8 × List UInt8)) (s : List UInt8) (h : lowF l s < l.length) : (findF l s).2 = (l[lowF l s].1 == s) := by
  unfold findF
  simp [List.head?_drop, List.getElem?_eq_getElem h]
theorem findF_end (l : List (List UInt8 × List UInt8)) (s : List UInt8) (h : lowF l s = l.length) : (findF l s).2 = false := by
  unfold findF
  simp [h]
theorem low_at {l : List (List UInt8 × List UInt8)} (hr : Rising l) (s : ByteArray) : LowAt (bv l) s (lowF l s.data.toList) (findF l s.data.toList).2 where
  le := by rw [bv_length]; exact lowF_le _ _
  lo := fun t h ht => by
    rw [cmpV_neg]
    have h' : t < l.length := by rwa [bv_length] at h
    have := takeWhile_at (fun p : List UInt8 × List UInt8 => ltL p.1 s.data.toList) l t h' ht
    simpa [bv] using this
  hi := fun t h ht => by
    have h' : t < l.length := by rwa [bv_length] at h
    have := rising_hi hr s.data.toList t h' ht
    rcases Int.lt_or_le (cmpV (bv l)[t].1.data.toList s.data.toList) 0 with k | k
    · rw [cmpV_neg] at k
      simp [bv] at k
      rw [this] at k; cases k
    · exact k
  is := fun h => by
    have h' : lowF l s.data.toList < l.length := by rwa [bv_length] at h
    rw [findF_at l _ h']
    have : (cmpV (bv l)[lowF l s.data.toList].1.data.toList s.data.toList = 0) ↔ (l[lowF l s.data.toList].1 = s.data.toList) := by
      rw [cmpV_zero]
      simp [bv]
      exact eq_comm
    rw [Bool.eq_iff_iff, beq_iff_eq, decide_eq_true_iff]
    exact this.symm
  no := fun h => findF_end l _ (by rw [bv_length] at h; exact h)
/-! ### Setting and unsetting, by recursion -/
def insV (s v : List UInt8) : List (List UInt8 × List UInt8) → List (List UInt8 × List UInt8)
  | [] => [(s, v)]
  | p :: l => if ltL p.1 s then p :: insV s v l else if p.1 = s then (s, v) :: l else (s, v) :: p :: l
def remV (s : List UInt8) : List (List UInt8 × List UInt8) → List (List UInt8 × List UInt8)
  | [] => []
  | p :: l => if ltL p.1 s then p :: remV s l else if p.1 = s then l else p :: l
def getV (s : List UInt8) : List (List UInt8 × List UInt8) → Option (List UInt8)
  | [] => none
  | p :: l => if p.1 = s then some p.2 else getV s l
theorem lowF_cons (p : List UInt8 × List UInt8) (l : List (List UInt8 × List UInt8)) (s : List UInt8) : lowF (p :: l) s = if ltL p.1 s then lowF l s + 1 else 0 := by
  unfold lowF
  rw [List.takeWhile_cons]
  split <;> simp_all
theorem findF_cons (p : List UInt8 × List UInt8) (l : List (List UInt8 × List UInt8)) (s : List UInt8) : (findF (p :: l) s).2 = if ltL p.1 s then (findF l s).2 else p.1 == s := by
  unfold findF
  simp only [lowF_cons]
  split <;> simp
theorem unsetV_rem : ∀ (l : List (List UInt8 × List UInt8)) (s : List UInt8), unsetV l s = remV s l
  | [], s => by simp [unsetV, findF, remV]
  | p :: l, s => by
    have ih := unsetV_rem l s
    unfold unsetV at ih ⊢
    simp only [findF_cons, lowF_cons, remV]
    by_cases h : ltL p.1 s
    · simp only [h, if_true, List.take_succ_cons, List.drop_succ_cons, ← ih]
      split <;> simp
    · simp only [h, Bool.false_eq_true, if_false]
      by_cases e : p.1 = s
      · simp [e]
      · simp [e]
theorem getV_none {s : List UInt8} : ∀ {l : List (List UInt8 × List UInt8)}, (∀ q ∈ l, q.1 ≠ s) → getV s l = none
  | [], _ => rfl
  | p :: l, h => by
    unfold getV
    rw [if_neg (h p (by simp)), getV_none fun q hq => h q (by simp [hq])]
theorem ltL_ne {a b : List UInt8} (h : ltL a b = true) : a ≠ b := by
  rintro rfl; rw [ltL_irrefl] at h; cases h
theorem get_getV {l : List (List UInt8 × List UInt8)} (hr : Rising l) (s : List UInt8) : (if (findF l s).2 then (l.drop (lowF l s)).head?.map (·.2) else none) = getV s l := by
  induction l with
  | nil => simp [findF, getV]
  | cons p l ih =>
    have hp := (List.pairwise_cons.1 hr)
    simp only [findF_cons, lowF_cons, getV]
    by_cases h : ltL p.1 s
    · simp only [h, if_true, List.drop_succ_cons, ih hp.2, if_neg (ltL_ne h)]
    · simp only [h, Bool.false_eq_true, if_false]
      by_cases e : p.1 = s
      · simp [e]
      · have hn : getV s l = none := getV_none fun q hq e2 => by
          have := hp.1 q hq
          rw [e2] at this
          exact h this
        simp [e, hn]
theorem mem_rem {s : List UInt8} {q : List UInt8 × List UInt8} : ∀ {l : List (List UInt8 × List UInt8)}, q ∈ remV s l → q ∈ l
  | p :: l, h => by
    unfold remV at h
    split at h
    · rcases List.mem_cons.1 h with rfl | h
      · simp
      · exact List.mem_cons_of_mem _ (mem_rem h)
    · split at h
      · exact List.mem_cons_of_mem _ h
      · exact h
theorem rem_rising {s : List UInt8} : ∀ {l : List (List UInt8 × List UInt8)}, Rising l → Rising (remV s l)
  | [], h => h
  | p :: l, h => by
    have hp := List.pairwise_cons.1 h
    unfold remV
    split
    · exact List.pairwise_cons.2 ⟨fun q hq => hp.1 q (mem_rem hq), rem_rising hp.2⟩
    · split
      · exact hp.2
      · exact h
theorem set_ins : ∀ {l : List (List UInt8 × List UInt8)}, Rising l → ∀ (s v : List UInt8), setV l s v = insV s v l
  | [], _, s, v => by simp [setV, unsetV, findF, lowF, insV]
  | p :: l, hr, s, v => by
    have hp := List.pairwise_cons.1 hr
    have ih := set_ins hp.2 s v
    unfold setV at ih ⊢
    simp only [unsetV_rem] at ih ⊢
    unfold insV remV
    by_cases h : ltL p.1 s
    · simp only [h, if_true, lowF_cons, List.take_succ_cons, List.drop_succ_cons, ← ih, List.cons_append]
    · simp only [h, Bool.false_eq_true, if_false]
      by_cases e : p.1 = s
      · simp only [e, if_true]
        have h0 : lowF l s = 0 := by
          cases l with
          | nil => rfl
          | cons q l =>
            rw [lowF_cons, if_neg]
            have := hp.1 q (by simp)
            rw [e] at this
            intro k
            have := ltL_trans _ _ _ this k
            rw [ltL_irrefl] at this; cases this
        simp [h0]
      · simp [e, lowF_cons, h]
theorem mem_ins {s v : List UInt8} {q : List UInt8 × List UInt8} : ∀ {l : List (List UInt8 × List UInt8)}, q ∈ insV s v l → q = (s, v) ∨ q ∈ l
  | [], h => by simp [insV] at h; exact .inl h
  | p :: l, h => by
    unfold insV at h
    repeat' split at h
    · rcases List.mem_cons.1 h with rfl | h
      · simp
      · rcases mem_ins h with h | h
        · exact .inl h
        · exact .inr (List.mem_cons_of_mem _ h)
    · rcases List.mem_cons.1 h with rfl | h
      · simp
      · exact .inr (List.mem_cons_of_mem _ h)
    · rcases List.mem_cons.1 h with rfl | h
      · simp
      · exact .inr h
theorem ins_rising {s v : List UInt8} : ∀ {l : List (List UInt8 × List UInt8)}, Rising l → Rising (insV s v l)
  | [], _ => by simp [insV, Rising]
  | p :: l, h => by
    have hp := List.pairwise_cons.1 h
    unfold insV
    split
    · rename_i hlt
      refine List.pairwise_cons.2 ⟨fun q hq => ?_, ins_rising hp.2⟩
      rcases mem_ins hq with rfl | hq
      · exact hlt
      · exact hp.1 q hq
    · split
      · rename_i e
        exact List.pairwise_cons.2 ⟨fun q hq => by rw [← e]; exact hp.1 q hq, hp.2⟩
      · rename_i hn e
        have hsp : ltL s p.1 = true := by
          cases k : ltL s p.1 with
          | true => rfl
          | false => exact absurd (ltL_total _ _ (by simpa using hn) k) e
        refine List.pairwise_cons.2 ⟨fun q hq => ?_, h⟩
        rcases List.mem_cons.1 hq with rfl | hq
        · exact hsp
        · exact ltL_trans _ _ _ hsp (hp.1 q hq)
theorem get_ins (s v : List UInt8) : ∀ l : List (List UInt8 × List UInt8), Rising l → getV s (insV s v l) = some v
  | [], _ => by simp [insV, getV]
  | p :: l, h => by
    have hp := List.pairwise_cons.1 h
    unfold insV
    split
    · rename_i hlt
      unfold getV
      rw [if_neg (ltL_ne hlt), get_ins s v l hp.2]
    · split <;> simp [getV]
theorem get_ins_ne {s t : List UInt8} (v : List UInt8) (hne : t ≠ s) : ∀ l : List (List UInt8 × List UInt8), getV t (insV s v l) = getV t l
  | [] => by simp [insV, getV, Ne.symm hne]
  | p :: l => by
    unfold insV
    split
    · unfold getV
      rw [get_ins_ne v hne l]
    · split
      · rename_i e
        have h1 : getV t ((s, v) :: l) = getV t l := by rw [getV, if_neg (Ne.symm hne)]
        have h2 : getV t (p :: l) = getV t l := by rw [getV, if_neg (by rw [e]; exact Ne.symm hne)]
        rw [h1, h2]
      · conv => lhs; unfold getV
        rw [if_neg (Ne.symm hne)]
theorem get_rem (s : List UInt8) : ∀ l : List (List UInt8 × List UInt8), Rising l → getV s (remV s l) = none
  | [], _ => rfl
  | p :: l, h => by
    have hp := List.pairwise_cons.1 h
    unfold remV
    split
    · rename_i hlt
      unfold getV
      rw [if_neg (ltL_ne hlt), get_rem s l hp.2]
    · rename_i hlt
      split
      · rename_i e
        exact getV_none fun q hq e2 => by
          have := hp.1 q hq
          rw [e, e2, ltL_irrefl] at this; cases this
      · rename_i e
        refine getV_none fun q hq e2 => ?_
        rcases List.mem_cons.1 hq with rfl | hq
        · exact e e2
        · have := hp.1 q hq
          rw [e2] at this; exact hlt this
theorem get_rem_ne {s t : List UInt8} (hne : t ≠ s) : ∀ l : List (List UInt8 × List UInt8), getV t (remV s l) = getV t l
  | [] => rfl
  | p :: l => by
    unfold remV
    split
    · unfold getV
      rw [get_rem_ne hne l]
    · split
      · rename_i e
        conv => rhs; unfold getV
        rw [if_neg (by rw [e]; exact Ne.symm hne)]
      · rfl
theorem ins_length (s v : List UInt8) : ∀ l : List (List UInt8 × List UInt8), (insV s v l).length ≤ l.length + 1
  | [] => by simp [insV]
  | p :: l => by
    have := ins_length s v l
    unfold insV
    repeat' split
    all_goals simp
    omega
theorem rem_length (s : List UInt8) : ∀ l : List (List UInt8 × List UInt8), (remV s l).length ≤ l.length
  | [] => by simp [remV]
  | p :: l => by
    have := rem_length s l
    unfold remV
    repeat' split
    all_goals simp
    omega
end Go.Proofs.YtkmpbkhlcapbgaaGreatDoor
namespace Go.Proofs.YtkmpbkhlcapbgaaGreatDoor
open Go.RowKit
/-- A slice of variables in memory. -/
def RowV (w : World) (v : Value) (l : List (ByteArray × ByteArray)) : Prop :=
  ∃ (a : Option Addr) (cap : Nat), v = .slice a l.length cap ∧ l.length ≤ cap ∧ l.length ≤ 1000000000 ∧ ((a = none ∧ l = []) ∨ ∃ b off, a = some ⟨b, off, none⟩ ∧ CellsV w b off l)
theorem CellsV.below {w w' : World} {b off : Nat} {l : List (ByteArray × ByteArray)} (h : CellsV w b off l) (hb : Below w.heap.size w w') : CellsV w' b off l :=
  fun i hi => ⟨(hb.cell (block_lt_of_cell (h i hi).1)).trans (h i hi).1, (hb.cell (block_lt_of_cell (h i hi).2)).trans (h i hi).2⟩
theorem RowV.below {w w' : World} {v : Value} {l : List (ByteArray × ByteArray)} (h : RowV w v l) (hb : Below w.heap.size w w') : RowV w' v l := by
  obtain ⟨a, cap, hv, h1, h2, h3⟩ := h
  refine ⟨a, cap, hv, h1, h2, ?_⟩
  rcases h3 with h3 | ⟨b, off, ha, hc⟩
  · exact .inl h3
  · exact .inr ⟨b, off, ha, hc.below hb⟩
set_option maxRecDepth 100000 in
set_option maxHeartbeats 8000000 in
theorem bsf_none (s : ByteArray) (a : Option Addr) (cap : Nat) (B : Nat) (w : World) :
    Calls Tryz.prog 54 #[.slice a 0 cap, .string s, .func (.func 55) #[] #[.pointer (some ⟨B, 0, none⟩)]] w fun e w' =>
      e = .returned (.tuple #[.int .i64 0, .bool false]) ∧ Below w.heap.size w w' := by
  go_enter Tryz.func54, Tryz.ntmps54
  go_wp2_with fail
  go_loopg [9, 10] 0 (fun gk s9 s10 wx => Below w.heap.size w wx ∧ s9 = .int .i64 0 ∧ s10 = .int .i64 0)
  case atStart => exact ⟨Below.refl _ _, rfl, rfl⟩
  case round =>
    obtain ⟨hW, rfl, rfl⟩ := hrel
    go_wp2_with fail
    go_ret2
    exact ⟨rfl, hW⟩
theorem bsf_row (s : ByteArray) (l : List (ByteArray × ByteArray)) (cnt : Nat) (fnd : Bool) (hl : LowAt l s cnt fnd) (B : Nat) (v : Value) (w : World) (hv : RowV w v l)
    (hb : w.cell? ⟨B, 0, none⟩ = some (.func (.func 53) #[] #[])) :
    Calls Tryz.prog 54 #[v, .string s, .func (.func 55) #[] #[.pointer (some ⟨B, 0, none⟩)]] w fun e w' =>
      e = .returned (.tuple #[.int .i64 (cnt : Nat), .bool fnd]) ∧ Below w.heap.size w w' := by
  obtain ⟨a, cap, rfl, h1, h2, h3⟩ := hv
  rcases h3 with ⟨rfl, rfl⟩ | ⟨b, off, rfl, hc⟩
  · have h0 : cnt = 0 := Nat.le_zero.1 hl.le
    subst h0
    have hf : fnd = false := hl.no rfl
    subst hf
    exact bsf_none s none cap B w
  · exact bsf_any s l b off cap h1 h2 cnt fnd hl B w hc hb
set_option maxRecDepth 100000 in
set_option maxHeartbeats 8000000 in
theorem find_any (s : ByteArray) (l : List (ByteArray × ByteArray)) (cnt : Nat) (fnd : Bool) (hl : LowAt l s cnt fnd) (v va vs vf : Value) (w : World) (hv : RowV w v l) :
    Calls Tryz.prog 26 #[.agg #[v, va, vs, vf], .string s] w fun e w' =>
      e = .returned (.tuple #[.int .i64 (cnt : Nat), .bool fnd]) ∧ Below w.heap.size w w' := by
  have HC := Lib.hid (fun (B : Nat) (W : World) (hW : RowV W v l) (hb : W.cell? ⟨B, 0, none⟩ = some (.func (.func 53) #[] #[])) => bsf_row s l cnt fnd hl B v W hW hb)
  have HV := Lib.hid hv
  clear hv hl
  go_enter Tryz.func26, Tryz.ntmps26
  go_wp2_with fail
  refine (HC.out _ _ ?_ ?_).mono ?_
  · exact HV.out.below (((Below.refl w.heap.size w).alloc (Nat.le_refl _) _).alloc (by simp) _)
  · simp
  · rintro e w1 ⟨rfl, hw⟩
    have K := below_call hw (((Below.refl w.heap.size w).alloc (Nat.le_refl _) _).alloc (by simp) _)
    go_wp2_with fail
    go_ret2
    exact ⟨rfl, K⟩
end Go.Proofs.YtkmpbkhlcapbgaaGreatDoor
namespace Go.Proofs.YtkmpbkhlcapbgaaGreatDoor
open Go.RowKit
set_option maxRecDepth 100000 in
set_option maxHeartbeats 8000000 in
theorem get_none (s : ByteArray) (hN : ∀ W, Calls Tryz.prog 25 #[.string s] W fun e w' => e = .returned (.bool true) ∧ Below W.heap.size W w') (l : List (ByteArray × ByteArray)) (cnt : Nat) (hl : LowAt l s cnt false) (v va vs vf : Value) (w : World) (hv : RowV w v l) :
    Calls Tryz.prog 15 #[.agg #[v, va, vs, vf], .string s] w fun e w' => e = .returned (.tuple #[.string ⟨#[]⟩, .bool false]) ∧ Below w.heap.size w w' := by
  have HF := Lib.hid (fun (W : World) (hW : RowV W v l) => find_any s l cnt false hl v va vs vf W hW)
  have HV := Lib.hid hv
  have HN := Lib.hid hN
  clear hv hl hN
  go_enter Tryz.func15, Tryz.ntmps15
  go_wp2_with fail
  refine (HN.out _).mono ?_; rintro e w1 ⟨rfl, k1⟩
  have cs : ∀ j, j < 4 → w1.cell? ⟨w.heap.size, j, none⟩ = (w.alloc (.cells #[v, va, vs, vf] 28)).cell? ⟨w.heap.size, j, none⟩ := fun j _ => k1.cell (p := ⟨w.heap.size, j, none⟩) (by simp)
  have c0 := cs 0 (by omega)
  have c1 := cs 1 (by omega)
  have c2 := cs 2 (by omega)
  have c3 := cs 3 (by omega)
  simp at c0 c1 c2 c3
  have K1 := below_call k1 ((Below.refl w.heap.size w).alloc (Nat.le_refl _) _)
  have HK := Lib.hid K1
  clear cs k1 K1
  go_wp2_with fail
  refine (HF.out _ (HV.out.below HK.out)).mono ?_; rintro e w2 ⟨rfl, k2⟩
  have K2 := below_call k2 HK.out
  go_wp2_with fail
  go_ret2
  exact ⟨rfl, K2⟩
set_option maxRecDepth 100000 in
set_option maxHeartbeats 8000000 in
theorem get_some (s : ByteArray) (hN : ∀ W, Calls Tryz.prog 25 #[.string s] W fun e w' => e = .returned (.bool true) ∧ Below W.heap.size W w') (l : List (ByteArray × ByteArray)) (cnt : Nat) (hl : LowAt l s cnt true) (hc : cnt < l.length) (x : ByteArray) (hx : l[cnt].2 = x) (va vs vf v : Value) (w : World) (hv : RowV w v l) :
    Calls Tryz.prog 15 #[.agg #[v, va, vs, vf], .string s] w fun e w' => e = .returned (.tuple #[.string x, .bool true]) ∧ Below w.heap.size w w' := by
  have HF := Lib.hid (fun (W : World) (hW : RowV W v l) => find_any s l cnt true hl v va vs vf W hW)
  have HV := Lib.hid hv
  have HN := Lib.hid hN
  obtain ⟨a, cap, rfl, h1, h2, h3⟩ := hv
  have h3' : ∃ b off, a = some ⟨b, off, none⟩ ∧ CellsV w b off l := by
    rcases h3 with ⟨_, rfl⟩ | h3
    · simp at hc
    · exact h3
  obtain ⟨b, off, rfl, hcv⟩ := h3'
  have cx := (hcv cnt hc).2
  rw [hx] at cx
  have lb := block_lt_of_cell cx
  obtain ⟨N, hNN⟩ : ∃ N, l.length = N := ⟨_, rfl⟩
  rw [hNN] at HF HV hc h1 h2
  rw [hNN]
  have hcN : (cnt : Int) < (N : Int) := by omega
  have hnb : (N : Int) ≤ 1000000000 := by omega
  have hcap' : (N : Int) ≤ (cap : Int) := by omega
  clear h3 hcv hx hN hl h1 h2 hNN
  go_enter Tryz.func15, Tryz.ntmps15
  go_wp2_with fail
  refine (HN.out _).mono ?_; rintro e w1 ⟨rfl, k1⟩
  have cs : ∀ j, j < 4 → w1.cell? ⟨w.heap.size, j, none⟩ = (w.alloc (.cells #[.slice (some ⟨b, off, none⟩) N cap, va, vs, vf] 28)).cell? ⟨w.heap.size, j, none⟩ := fun j _ => k1.cell (p := ⟨w.heap.size, j, none⟩) (by simp)
  have c0 := cs 0 (by omega)
  have c1 := cs 1 (by omega)
  have c2 := cs 2 (by omega)
  have c3 := cs 3 (by omega)
  simp at c0 c1 c2 c3
  have l1 : w.heap.size < w1.heap.size := block_lt_of_cell c0
  have K1 := below_call k1 ((Below.refl w.heap.size w).alloc (Nat.le_refl _) _)
  have HK := Lib.hid K1
  clear cs k1 K1
  go_wp2_with fail
  refine (HF.out _ (HV.out.below HK.out)).mono ?_; rintro e w2 ⟨rfl, k2⟩
  have K2 := below_call k2 HK.out
  have d0 := (k2.cell (p := ⟨w.heap.size, 0, none⟩) l1).trans c0
  have dx := (K2.cell lb).trans cx
  go_wp2_with fail
  go_ret2
  exact ⟨rfl, K2⟩
end Go.Proofs.YtkmpbkhlcapbgaaGreatDoor
namespace Go.Proofs.YtkmpbkhlcapbgaaGreatDoor
open Go.RowKit
set_option maxRecDepth 100000 in
set_option maxHeartbeats 8000000 in
theorem ifs_any (l : List (ByteArray × ByteArray)) (v va vs vf : Value) (x : ByteArray) (b : Bool) (hG : ∀ W, RowV W v l → Calls Tryz.prog 15 #[.agg #[v, va, vs, vf], .string ⟨#[73, 70, 83]⟩] W fun e w' => e = .returned (.tuple #[.string x, .bool b]) ∧ Below W.heap.size W w') (w : World) (hv : RowV w v l) :
    Calls Tryz.prog 24 #[.agg #[v, va, vs, vf]] w fun e w' => e = .returned (.string (if b then x else ⟨#[32, 9, 10]⟩)) ∧ Below w.heap.size w w' := by
  have HG := Lib.hid hG
  have HV := Lib.hid hv
  clear hv hG
  cases b
  · go_enter Tryz.func24, Tryz.ntmps24
    go_wp2_with fail
    refine (HG.out _ (HV.out.below ((Below.refl w.heap.size w).alloc (Nat.le_refl _) _))).mono ?_; rintro e w1 ⟨rfl, k1⟩
    have K := below_call k1 ((Below.refl w.heap.size w).alloc (Nat.le_refl _) _)
    go_wp2_with fail
    go_ret
    exact ⟨rfl, K⟩
  · go_enter Tryz.func24, Tryz.ntmps24
    go_wp2_with fail
    refine (HG.out _ (HV.out.below ((Below.refl w.heap.size w).alloc (Nat.le_refl _) _))).mono ?_; rintro e w1 ⟨rfl, k1⟩
    have K := below_call k1 ((Below.refl w.heap.size w).alloc (Nat.le_refl _) _)
    go_wp2_with fail
    go_ret
    exact ⟨rfl, K⟩
set_option maxRecDepth 100000 in
set_option maxHeartbeats 8000000 in
theorem has_any (v va vs : Value) (f : ByteArray) (c : Int) (w : World) :
    Calls Tryz.prog 38 #[.agg #[v, va, vs, .string f], .int .u8 c] w fun e w' => e = .returned (.bool (decide (0 ≤ Lib.indexByte f.data.toList c.toNat.toUInt8))) ∧ Below w.heap.size w w' := by
  have HI := Lib.hid (fun w => Tryz.strings_IndexByte f c w)
  obtain ⟨n, hn⟩ : ∃ n : Int, Lib.indexByte f.data.toList c.toNat.toUInt8 = n := ⟨_, rfl⟩
  rw [hn] at HI
  rw [hn]
  clear hn
  by_cases h : 0 ≤ n
  · go_enter Tryz.func38, Tryz.ntmps38
    go_wp2_with fail
    refine (HI.out _).mono ?_; rintro e w1 ⟨rfl, hw⟩; subst hw
    go_wp2_with fail
    go_ret
    exact ⟨by simp [h], (Below.refl w.heap.size w).alloc (Nat.le_refl _) _⟩
  · go_enter Tryz.func38, Tryz.ntmps38
    go_wp2_with fail
    refine (HI.out _).mono ?_; rintro e w1 ⟨rfl, hw⟩; subst hw
    go_wp2_with fail
    go_ret
    exact ⟨by simp, (Below.refl w.heap.size w).alloc (Nat.le_refl _) _⟩
end Go.Proofs.YtkmpbkhlcapbgaaGreatDoor
