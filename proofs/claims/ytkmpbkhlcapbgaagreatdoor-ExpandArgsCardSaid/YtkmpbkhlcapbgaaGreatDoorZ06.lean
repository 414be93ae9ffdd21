/-
  DERIVED. copy(dst, src) where an element has any number of cells, dst a row that is known whole; clear there. No program in sight. The walk of slices.Delete of one variable, in a row of the call's own. The walk of slices.Insert of one variable, in a row of the call's own.
-/
import Derived.Laws.CopyOwn
import Derived.WalkKit
import Derived.Test.YtkmpbkhlcapbgaaGreatDoorZ05
import Derived.Test.YtkmpbkhlcapbgaaGreatDoorProg
import Derived.WalkSpells
import Derived.WalkLawsBesides
import Derived.Handy
import Derived.Deep.RegionLaw
import Derived.Lib.Hide
import Derived.Lib.AppendZerosOnto
import Derived.Lib.Overlaps
import Derived.Laws.Externs
import Derived.Laws.AppendOwnNone
namespace Go.Proofs.YtkmpbkhlcapbgaaGreatDoor
open Go Go.RowKit
section
variable {P : Program}
theorem run_copy_rowN (w : World) (dT sT ty elem : TypeId) (size : Nat) (g o dLen dCap : Nat) (a : Addr) (sLen sCap : Nat) (cur : List Value) (t : TypeId) (cs : List Value)
    (hu : P.underlying dT = some (.slice elem)) (hs : (P.info? elem).map (·.size) = some size)
    (hg : w.heap[g]? = some (.cells cur.toArray t (0, 0))) (k : Nat) (hk : Nat.min sLen dLen = k) (hn : cs.length = k * size)
    (hsrc : ∀ j v, cs[j]? = some v → w.cell? (a.add j) = some v) (hfit : o + cs.length ≤ cur.length) (h1 : ∀ v ∈ cs, v.oneCell' = true) :
    (Builtin.copy_ #[dT, sT] ty #[.slice (some ⟨g, o, none⟩) dLen dCap, .slice (some a) sLen sCap]).run P w = .ok (goInt k) (w.setRow g (splice cur o cs).toArray) := by
  have hl := run_loadCells_list (P := P) w a cs hsrc
  have hst := run_storeCells_at P g o t cs 0 cur.toArray w hg (by simpa using hfit) h1
  cases hq : P.info? elem with
  | none => simp [hq] at hs
  | some i =>
    have hi : i.size = size := by simpa [hq] using hs
    simp only [Nat.add_zero] at hst
    simp [Builtin.copy_, run_underlying hu, Builtin.lenOf, Builtin.firstCells, sizeOf, typeInfo, hq, hi, hk, ← hn, hl, hst, splice]
theorem run_copy_noneN (w : World) (dT sT ty elem : TypeId) (size : Nat) (d a : Option Addr) (dLen dCap sLen sCap : Nat) (hu : P.underlying dT = some (.slice elem)) (hs : (P.info? elem).map (·.size) = some size) (hn : Nat.min sLen dLen = 0) :
    (Builtin.copy_ #[dT, sT] ty #[.slice d dLen dCap, .slice a sLen sCap]).run P w = .ok (goInt 0) w := by
  cases hq : P.info? elem with
  | none => simp [hq] at hs
  | some i =>
    have hl : ∀ (x : Addr), (loadCells x 0).run P w = .ok #[] w := fun x => by simpa using run_loadCells_list (P := P) w x [] (by simp)
    cases d <;> cases a <;> simp [Builtin.copy_, run_underlying hu, Builtin.lenOf, Builtin.firstCells, sizeOf, typeInfo, hq, hn, storeCells, hl]
theorem wpList_copy_known {w : World} {ops : Array Oper} {rest : List Oper} {o : Oper} {a : Act} {Q : Exit → Act → World → Prop} (hgd : o.guard = none) (d s : Operand) (dT sT : TypeId)
    (ho : o.op = .call { callee := .builtin .copy, args := #[d, s], argTypes := #[dT, sT] }) (elem : TypeId) (size : Nat) (hu : P.underlying dT = some (.slice elem)) (hsz : (P.info? elem).map (·.size) = some size)
    (dp sp : Option Addr) (dLen dCap sLen sCap : Nat) (hd : a.eval d = .slice dp dLen dCap) (hs : a.eval s = .slice sp sLen sCap)
    (g off : Nat) (cur : List Value) (t : TypeId) (hg : w.heap[g]? = some (.cells cur.toArray t (0, 0))) (k : Nat) (hk : Nat.min sLen dLen = k) (cs : List Value) (hn : cs.length = k * size)
    (hpos : 0 < k → dp = some ⟨g, off, none⟩ ∧ ∃ ad, sp = some ad ∧ ∀ j v, cs[j]? = some v → w.cell? (ad.add j) = some v)
    (hfit : off + cs.length ≤ cur.length) (h1 : ∀ v ∈ cs, v.oneCell' = true) (B : Nat) (w0 : World) (hb : Below B w0 w) (hBg : B ≤ g)
    (h : ∀ w', Hid (w'.heap[g]? = some (.cells (splice cur off cs).toArray t (0, 0))) → Below B w0 w' → Hid (∀ k, k ≠ g → w'.heap[k]? = w.heap[k]?) → wpList P ops Q rest (a.put o.dst (goInt k)) w') :
    wpList P ops Q (o :: rest) a w := by
  refine wpList_plain hgd fun K hK => ?_
  by_cases h0 : k = 0
  · subst h0
    obtain rfl : cs = [] := List.eq_nil_of_length_eq_zero (by simpa using hn)
    have hrun := run_copy_noneN (P := P) w dT sT o.type elem size dp sp dLen dCap sLen sCap hu hsz hk
    unfold Oper.wp
    simp [execOp, ho, resolve, invoke, builtin, hd, hs, hrun, Result.andThen]
    exact hK _ _ (h w (show _ = _ by simpa [splice] using hg) hb (fun _ _ => rfl))
  · obtain ⟨rfl, ad, rfl, hsrc⟩ := hpos (by omega)
    have hrun := run_copy_rowN (P := P) w dT sT o.type elem size g off dLen dCap ad sLen sCap cur t cs hu hsz hg k hk hn hsrc hfit h1
    unfold Oper.wp
    simp [execOp, ho, resolve, invoke, builtin, hd, hs, hrun, Result.andThen]
    exact hK _ _ (h _ (show _ = _ by simpa using setRow_heap w g _ _ t _ hg) (below_setRow hb hBg _) (fun k hk => setRow_other w g k _ hk))
theorem step_copy_known {w : World} {ops : Array Oper} {o : Oper} {a : Act} {K : Act → World → Prop} {Q : Exit → Act → World → Prop} {E : Prop} (hgd : o.guard = none) (d s : Operand) (dT sT : TypeId)
    (ho : o.op = .call { callee := .builtin .copy, args := #[d, s], argTypes := #[dT, sT] }) (elem : TypeId) (size : Nat) (hu : P.underlying dT = some (.slice elem)) (hsz : (P.info? elem).map (·.size) = some size)
    (dp sp : Option Addr) (dLen dCap sLen sCap : Nat) (hd : a.eval d = .slice dp dLen dCap) (hs : a.eval s = .slice sp sLen sCap)
    (g off : Nat) (cur : List Value) (t : TypeId) (hg : w.heap[g]? = some (.cells cur.toArray t (0, 0))) (k : Nat) (hk : Nat.min sLen dLen = k) (cs : List Value) (hn : cs.length = k * size)
    (hpos : 0 < k → dp = some ⟨g, off, none⟩ ∧ ∃ ad, sp = some ad ∧ ∀ j v, cs[j]? = some v → w.cell? (ad.add j) = some v)
    (hfit : off + cs.length ≤ cur.length) (h1 : ∀ v ∈ cs, v.oneCell' = true) (B : Nat) (w0 : World) (hb : Below B w0 w) (hBg : B ≤ g)
    (h : ∀ w', Hid (w'.heap[g]? = some (.cells (splice cur off cs).toArray t (0, 0))) → Below B w0 w' → Hid (∀ k, k ≠ g → w'.heap[k]? = w.heap[k]?) → K (a.put o.dst (goInt k)) w') :
    if Region.wanted o (yielded ops a.tmps) = true then Oper.wp P o a w K Q else E := by
  have hw : Region.wanted o (yielded ops a.tmps) = true := by simp [Region.wanted, hgd]
  rw [if_pos hw]
  by_cases h0 : k = 0
  · subst h0
    obtain rfl : cs = [] := List.eq_nil_of_length_eq_zero (by simpa using hn)
    have hrun := run_copy_noneN (P := P) w dT sT o.type elem size dp sp dLen dCap sLen sCap hu hsz hk
    unfold Oper.wp
    simp [execOp, ho, resolve, invoke, builtin, hd, hs, hrun, Result.andThen]
    exact h w (show _ = _ by simpa [splice] using hg) hb (fun _ _ => rfl)
  · obtain ⟨rfl, ad, rfl, hsrc⟩ := hpos (by omega)
    have hrun := run_copy_rowN (P := P) w dT sT o.type elem size g off dLen dCap ad sLen sCap cur t cs hu hsz hg k hk hn hsrc hfit h1
    unfold Oper.wp
    simp [execOp, ho, resolve, invoke, builtin, hd, hs, hrun, Result.andThen]
    exact h _ (show _ = _ by simpa using setRow_heap w g _ _ t _ hg) (below_setRow hb hBg _) (fun k hk => setRow_other w g k _ hk)
theorem setRow_cell {w : World} {g : Nat} {cur : List Value} {t : TypeId} (hg : w.heap[g]? = some (.cells cur.toArray t (0, 0))) (j : Nat) : w.cell? ⟨g, j, none⟩ = cur[j]? := by
  simp [World.cell?, hg]
/-- append where there is room, onto a row that is known whole, as a step of a region that draws. -/
theorem step_append_known {w : World} {ops : Array Oper} {o : Oper} {a : Act} {K : Act → World → Prop} {Q : Exit → Act → World → Prop} {E : Prop} (hgd : o.guard = none) (s x : Operand) (t : TypeId)
    (ho : o.op = .call { callee := .builtin .append, args := #[s, x], argTypes := #[t, t] }) (e : TypeId) (z : Value) (size bytes : Nat) (ht : P.underlying t = some (.slice e)) (hinfo : (P.info? e).map (fun i => (i.zero, i.size, i.bytes)) = some (some z, size, bytes))
    (g n cap : Nat) (hs : a.eval s = .slice (some ⟨g, 0, none⟩) n cap) (cur : List Value) (hg : w.heap[g]? = some (.cells cur.toArray e (0, 0)))
    (ad : Addr) (m c : Nat) (hx : a.eval x = .slice (some ad) m c) (news : List Value) (hl : news.length = m * size) (hnews : ∀ j u, news[j]? = some u → w.cell? (ad.add j) = some u) (h1 : ∀ u ∈ news, u.oneCell' = true)
    (hroom : n + m ≤ cap) (hfit : n * size + news.length ≤ cur.length) (B : Nat) (w0 : World) (hb : Below B w0 w) (hBg : B ≤ g)
    (h : ∀ w', Hid (w'.heap[g]? = some (.cells (splice cur (n * size) news).toArray e (0, 0))) → Below B w0 w' → Hid (∀ k, k ≠ g → w'.heap[k]? = w.heap[k]?) → K (a.put o.dst (.slice (some ⟨g, 0, none⟩) (n + m) cap)) w') :
    if Region.wanted o (yielded ops a.tmps) = true then Oper.wp P o a w K Q else E := by
  have hw : Region.wanted o (yielded ops a.tmps) = true := by simp [Region.wanted, hgd]
  rw [if_pos hw]
  obtain ⟨i, hi, hz, hsize, hby⟩ := info_parts hinfo
  subst hsize
  have hrun := run_append_room (P := P) w t o.type e i ht hi g n cap cur.toArray hg ad m c news hl hnews h1 hroom (by simpa using hfit)
  unfold Oper.wp
  simp [execOp, ho, resolve, invoke, builtin, hs, hx, hrun, Result.andThen]
  exact h _ (show _ = _ by simpa [splice] using setRow_heap w g _ _ e _ hg) (by simpa [splice] using below_setRow hb hBg _) (fun k hk => setRow_other w g k _ hk)
/-- clear(s), in a row that is known whole. -/
theorem wpList_clear_known {w : World} {ops : Array Oper} {rest : List Oper} {o : Oper} {a : Act} {Q : Exit → Act → World → Prop} (hgd : o.guard = none) (x : Operand) (t : TypeId)
    (ho : o.op = .call { callee := .builtin .clear, args := #[x], argTypes := #[t] }) (e : TypeId) (z : Value) (size : Nat) (ht : P.underlying t = some (.slice e)) (hz : ∀ w, (zeroValue e).run P w = .ok z w) (hzs : z.cells.size = size)
    (g off n cap : Nat) (hx : a.eval x = .slice (some ⟨g, off, none⟩) n cap) (hn : 0 < n) (cur : List Value) (hg : w.heap[g]? = some (.cells cur.toArray e (0, 0))) (hfit : off + n * size ≤ cur.length)
    (h1 : ∀ u ∈ (Builtin.zeroCells z.cells n).toList, u.oneCell' = true) (B : Nat) (w0 : World) (hb : Below B w0 w) (hBg : B ≤ g)
    (h : ∀ w', Hid (w'.heap[g]? = some (.cells (splice cur off (Builtin.zeroCells z.cells n).toList).toArray e (0, 0))) → Below B w0 w' → Hid (∀ k, k ≠ g → w'.heap[k]? = w.heap[k]?) → wpList P ops Q rest (a.put o.dst (.tuple #[])) w') :
    wpList P ops Q (o :: rest) a w := by
  refine wpList_plain hgd fun K hK => ?_
  have hl : (Builtin.zeroCells z.cells n).toList.length = n * size := by rw [Array.length_toList, size_zeroCells, hzs]
  have hst := run_storeCells_at P g off e (Builtin.zeroCells z.cells n).toList 0 cur.toArray w hg (by simp only [List.size_toArray]; omega) h1
  obtain ⟨m, rfl⟩ : ∃ m, n = m + 1 := ⟨n - 1, by omega⟩
  have hrun : ∀ ty, (Builtin.clear_ #[t] ty #[.slice (some ⟨g, off, none⟩) (m + 1) cap]).run P w = .ok (.tuple #[]) (w.setRow g (splice cur off (Builtin.zeroCells z.cells (m + 1)).toList).toArray) := fun ty => by
    simp only [Nat.add_zero] at hst
    simp [Builtin.clear_, run_underlying ht, hz, hst, splice]
  unfold Oper.wp
  simp [execOp, ho, resolve, invoke, builtin, hx, hrun, Result.andThen]
  exact hK _ _ (h _ (show _ = _ by simpa using setRow_heap w g _ _ e _ hg) (below_setRow hb hBg _) (fun k hk => setRow_other w g k _ hk))
end
/-- A row known whole, with room behind its elements. -/
structure Known (w : World) (e : TypeId) (size g cap : Nat) (cur : List Value) (n : Nat) (xs : List Value) : Prop where
  row : w.heap[g]? = some (.cells cur.toArray e (0, 0))
  le : n ≤ cap
  big : cap ≤ maxLen
  len : cur.length = cap * size
  take : cur.take (n * size) = xs
theorem Known.own {w : World} {e : TypeId} {size g cap : Nat} {cur : List Value} {n : Nat} {xs : List Value} (h : Known w e size g cap cur n xs) {base : Nat} (hb : base ≤ g) : w.ownsRow base e size (.slice (some ⟨g, 0, none⟩) n cap) n xs := by
  refine ⟨?_, .inr ⟨g, cap, cur.toArray, rfl, hb, h.row, h.le, h.big, by simpa using h.len, by simpa using h.take⟩⟩
  rw [← h.take, List.length_take, h.len]
  exact Nat.min_eq_left (Nat.mul_le_mul_right _ h.le)
theorem known_of_own {w : World} {base e size n : Nat} {v : Value} {xs : List Value} (h : w.ownsRow base e size v n xs) : (v = .slice none 0 0 ∧ n = 0) ∨ ∃ g cap cur, v = .slice (some ⟨g, 0, none⟩) n cap ∧ base ≤ g ∧ Known w e size g cap cur n xs := by
  rcases h.2 with h2 | ⟨g, cap, cur, hv, hb, hg, h1, h2, h3, h4⟩
  · exact .inl h2
  · exact .inr ⟨g, cap, cur.toList, hv, hb, by simpa using hg, h1, h2, by simpa using h3, h4⟩
theorem Known.cell {w : World} {e : TypeId} {size g cap : Nat} {cur : List Value} {n : Nat} {xs : List Value} (h : Known w e size g cap cur n xs) (j : Nat) (u : Value) (hu : xs[j]? = some u) : w.cell? ⟨g, j, none⟩ = some u := by
  rw [setRow_cell h.row]
  rw [← h.take, List.getElem?_take] at hu
  split at hu
  · exact hu
  · cases hu
theorem Known.below {w w' : World} {e : TypeId} {size g cap : Nat} {cur : List Value} {n : Nat} {xs : List Value} (h : Known w e size g cap cur n xs) (hb : Below w.heap.size w w') : Known w' e size g cap cur n xs :=
  ⟨by rw [hb.block g (lt_of_block h.row)]; exact h.row, h.le, h.big, h.len, h.take⟩
theorem splice_take {α : Type} (L : List α) (off : Nat) (cs : List α) (h : off + cs.length ≤ L.length) (k : Nat) (hk : k = off + cs.length) : (splice L off cs).take k = L.take off ++ cs := by
  subst hk
  unfold splice
  rw [← List.append_assoc, List.take_append_of_le_length (by simp; omega)]
  exact List.take_of_length_le (by simp; omega)
end Go.Proofs.YtkmpbkhlcapbgaaGreatDoor
namespace Go.Proofs.YtkmpbkhlcapbgaaGreatDoor
open Go Go.RowKit
set_option maxRecDepth 100000 in
set_option maxHeartbeats 8000000 in
theorem delete_own (g cap i n : Nat) (cur xs : List Value) (hn : n ≤ 1000000000) (hi : i < n) (w : World) (hk : Known w 68 2 g cap cur n xs) (h1 : ∀ u ∈ xs, u.oneCell' = true) :
    Calls Tryz.prog 35 #[.slice (some ⟨g, 0, none⟩) n cap, .int .i64 i, .int .i64 ((i : Int) + 1)] w fun e w' =>
      e = .returned (.slice (some ⟨g, 0, none⟩) (n - 1) cap) ∧ (∃ cur', Known w' 68 2 g cap cur' (n - 1) (xs.take (i * 2) ++ xs.drop ((i + 1) * 2))) ∧ Below g w w' := by
  have hlen : xs.length = n * 2 := by
    rw [← hk.take, List.length_take, hk.len]
    exact Nat.min_eq_left (Nat.mul_le_mul_right _ hk.le)
  have hcurl := hk.len
  have hle := hk.le
  have hbig := hk.big
  unfold maxLen at hbig
  obtain ⟨A, hA, hsrc⟩ : ∃ A : Addr, (if cap = i + 1 then (some ⟨g, 0, none⟩ : Option Addr) else some ⟨g, (i + 1) * 2, none⟩) = some A ∧ Hid (∀ (W : World), Known W 68 2 g cap cur n xs → ∀ t u, (xs.drop ((i + 1) * 2))[t]? = some u → W.cell? (A.add t) = some u) := by
    by_cases h : cap = i + 1
    · refine ⟨⟨g, 0, none⟩, by simp [h], fun W hW t u hu => ?_⟩
      have := (List.getElem?_eq_some_iff.1 hu).1
      rw [List.length_drop] at this
      omega
    · refine ⟨⟨g, (i + 1) * 2, none⟩, by simp [h], fun W hW t u hu => ?_⟩
      rw [Addr.add_lit]
      rw [List.getElem?_drop] at hu
      exact hW.cell _ _ hu
  have hi1 : (i : Int) + 1 ≤ (n : Int) := by omega
  have hi2 : (0 : Int) ≤ (i : Int) + 1 := by omega
  have HX1 : Hid (n * 2 - (i + 1) * 2 = (n - (i + 1)) * 2) := by unfold Hid; omega
  have HX2 : Hid (i * 2 + (n - (i + 1)) * 2 ≤ cap * 2) := by unfold Hid; omega
  have HX3 : Hid (i * 2 + (n - (i + 1)) * 2 = (n - 1) * 2) := by unfold Hid; omega
  have hi3 : ((i : Int) + 1).toNat = i + 1 := by omega
  have hi4 : i + 1 ≤ n := by omega
  have hi5 : ((i : Int) == (i : Int) + 1) = false := by simp; omega
  have hi6 : i ≤ cap := by omega
  have hi7 : i + 1 ≤ cap := by omega
  have hi8 : (n : Int) ≤ (cap : Int) := by omega
  have HK := Lib.hid hk
  have H1 := Lib.hid h1
  have HL := Lib.hid hlen
  have HCL := Lib.hid hcurl
  have HI := Lib.hid hi
  clear hk h1 hlen hcurl
  go_enter Tryz.func35, Tryz.ntmps35
  go_wp2_with fail
  obtain ⟨news, hnews⟩ : ∃ news, xs.drop ((i + 1) * 2) = news := ⟨_, rfl⟩
  have HN := Lib.hid hnews
  have hKd : Hid (Known w.drew 68 2 g cap cur n xs) := ⟨HK.out.row, HK.out.le, HK.out.big, HK.out.len, HK.out.take⟩
  have hnl : Hid (news.length = (n - (i + 1)) * 2) := by rw [← hnews, List.length_drop, HL.out]; exact HX1.out
  have hsn : Hid (∀ t u, news[t]? = some u → w.drew.cell? (A.add t) = some u) := by rw [← hnews]; exact hsrc.out _ hKd.out
  have hn1 : Hid (∀ u ∈ news, u.oneCell' = true) := fun u hu => H1.out u (by rw [← hnews] at hu; exact List.mem_of_mem_drop hu)
  have hfit : Hid (i * 2 + news.length ≤ cur.length) := by rw [hnl.out, HCL.out]; exact HX2.out
  clear hnews
  go_region_law (refine step_append_known rfl (.tmp 22) (.tmp 25) 26 rfl 68 (.agg #[.string ⟨#[]⟩, .string ⟨#[]⟩]) 2 32 Tryz.underlying26 (by kernel_rfl) g i cap (by simp [Act.eval, Act.put]) cur hKd.out.row A (n - (i + 1)) (cap - (i + 1)) (by simp [Act.eval, Act.put]) news hnl.out hsn.out hn1.out (by omega) hfit.out g w ((Below.refl _ w).drew) (Nat.le_refl _) ?_; intro w1 hrow hb1 _)
  obtain ⟨m, hm⟩ : ∃ m, i + (n - (i + 1)) = m := ⟨_, rfl⟩
  have hm1 : m + 1 = n := by omega
  have hm2 : ¬ (cap = m) := by omega
  have hm3 : (m : Int) ≤ (n : Int) := by omega
  have hm4 : m ≤ n := by omega
  rw [hm]
  have hsl : (splice cur (i * 2) news).length = cap * 2 := by rw [length_splice _ _ _ hfit.out, HCL.out]
  have hz1 : Hid (m * 2 + (n - m) * 2 ≤ (splice cur (i * 2) news).length) := by unfold Hid; rw [hsl]; omega
  have hz2 : Hid (∀ u ∈ (Builtin.zeroCells (Value.agg #[.string ⟨#[]⟩, .string ⟨#[]⟩]).cells (n - m)).toList, u.oneCell' = true) := by
    have e : n - m = 1 := by omega
    have ez : (Builtin.zeroCells (Value.agg #[.string ⟨#[]⟩, .string ⟨#[]⟩]).cells 1).toList = [.string ⟨#[]⟩, .string ⟨#[]⟩] := by kernel_rfl
    unfold Hid; rw [e, ez]; intro u hu; simp at hu; rw [hu]; rfl
  have hnm : 0 < n - m := by omega
  have HM := Lib.hid hm
  have HSL := Lib.hid hsl
  clear hm hsl hm1
  go_wp2_with (refine wpList_clear_known rfl _ 26 rfl 68 (.agg #[.string ⟨#[]⟩, .string ⟨#[]⟩]) 2 Tryz.underlying26 Tryz.zeroValue68 rfl g (m * 2) (n - m) (cap - m) rfl hnm _ hrow.out hz1.out hz2.out g w hb1 (Nat.le_refl _) ?_; intro w2 hrow2 hb2 _)
  go_ret
  have hme : m = n - 1 := by have := HM.out; have := HI.out; omega
  subst hme
  refine ⟨rfl, ⟨_, hrow2.out, by omega, by unfold maxLen; omega, ?_, ?_⟩, hb2⟩
  · rw [length_splice _ _ _ (by rw [Array.length_toList, size_zeroCells]; exact hz1.out), HSL.out]
  · have e0 : i * 2 + news.length = (n - 1) * 2 := by rw [hnl.out]; exact HX3.out
    unfold splice
    rw [List.take_append_of_le_length (by rw [List.length_take]; have := HSL.out; unfold splice at this; omega), List.take_take, Nat.min_self]
    have := splice_take cur (i * 2) news hfit.out ((n - 1) * 2) e0.symm
    unfold splice at this
    rw [this, ← HN.out, ← HK.out.take, List.take_take, Nat.min_eq_left (by omega)]
end Go.Proofs.YtkmpbkhlcapbgaaGreatDoor
namespace Go.Proofs.YtkmpbkhlcapbgaaGreatDoor
open Go Go.RowKit
theorem varInfo : (Tryz.prog.info? 68).map (fun i => (i.zero, i.size, i.bytes)) = some (some (.agg #[.string ⟨#[]⟩, .string ⟨#[]⟩]), 2, 32) := by kernel_rfl
set_option maxRecDepth 100000 in
set_option maxHeartbeats 8000000 in
theorem insert_end (base n vb : Nat) (v c d : Value) (xs : List Value) (hn : n ≤ 1000000000) (w : World) (hown : w.ownsRow base 68 2 v n xs) (hb : base ≤ w.heap.size) (hv : RowIs w vb 68 [c, d]) (hc : c.oneCell' = true ∧ d.oneCell' = true) :
    Calls Tryz.prog 27 #[v, .int .i64 n, .slice (some ⟨vb, 0, none⟩) 1 1] w fun e w' =>
      ∃ v', e = .returned v' ∧ w'.ownsRow base 68 2 v' (n + 1) (xs ++ [c, d]) ∧ Below base w w' := by
  have HB : ∀ w', w.grownBy w' v.ownBlock → Below base w w' := fun w' hg => (Below.refl base w).grown hg hb (fun k hk => (hown.lt k hk).1)
  obtain ⟨a, cp, rfl⟩ := own_slice hown
  have hcp : n ≤ cp := by
    rcases hown.2 with ⟨h, rfl⟩ | ⟨g, cap, cur, h, _, _, h2, _⟩
    · omega
    · cases h; exact h2
  have hncp : (n : Int) ≤ (cp : Int) := by omega
  obtain ⟨i0, hi, hz0, hz1, hz2⟩ := info_parts varInfo
  have q1 : Hid (∀ j u, [c, d][j]? = some u → w.cell? ((⟨vb, 0, none⟩ : Addr).add j) = some u) := by
    intro j u hj
    have h := hv.cell j
    rw [Addr.add_lit, Nat.zero_add, h]; exact hj
  have q2 : Hid (∀ u ∈ [c, d], u.oneCell' = true) := by
    intro u hu
    simp at hu
    rcases hu with rfl | rfl
    · exact hc.1
    · exact hc.2
  have q3 : Hid (n + 1 ≤ maxLen ∧ (n + 1) * 32 ≤ 140737488355328) := by unfold Hid maxLen; omega
  have HB2 := Lib.hid HB
  have HO := Lib.hid hown
  clear hown hv hc HB
  by_cases hcn : n = cp
  · subst hcn
    go_enter Tryz.func27, Tryz.ntmps27
    go_wp2_with (at_builtin; refine wpList_append_own _ rfl _ _ 26 rfl base 68 i0 (.agg #[.string ⟨#[]⟩, .string ⟨#[]⟩]) 2 32 Tryz.underlying26 hi hz0 hz1 hz2 rfl (by decide) _ _ _ rfl HO.out ⟨vb, 0, none⟩ 1 1 [c, d] rfl rfl q1.out q2.out q3.out.1 q3.out.2 hb ?_)
    intro v' w1 hown hgrow _
    have HG := Lib.hid hgrow
    have HO2 := Lib.hid hown
    clear hown hgrow
    go_wp2
    go_ret
    exact ⟨v', rfl, HO2.out, HB2.out _ HG.out⟩
  · have hcn2 : ¬ (cp = n) := fun e => hcn e.symm
    clear hcn
    go_enter Tryz.func27, Tryz.ntmps27
    go_wp2_with (at_builtin; refine wpList_append_own _ rfl _ _ 26 rfl base 68 i0 (.agg #[.string ⟨#[]⟩, .string ⟨#[]⟩]) 2 32 Tryz.underlying26 hi hz0 hz1 hz2 rfl (by decide) _ _ _ rfl HO.out ⟨vb, 0, none⟩ 1 1 [c, d] rfl rfl q1.out q2.out q3.out.1 q3.out.2 hb ?_)
    intro v' w1 hown hgrow _
    have HG := Lib.hid hgrow
    have HO2 := Lib.hid hown
    clear hown hgrow
    go_wp2
    go_ret
    exact ⟨v', rfl, HO2.out, HB2.out _ HG.out⟩
end Go.Proofs.YtkmpbkhlcapbgaaGreatDoor
