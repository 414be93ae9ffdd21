/-
  DERIVED. Rows of cells that a call makes: a push of one element, what stays beside other writes; a block known whole. No program in sight. The walk of slices.Clone at variables. The walk of slices.Clone at variables: a row of the call's own. Clone of any row of variables; the walk of env's Unset of a name that isn't there.
-/
import Derived.WalkKit
import Derived.Test.YtkmpbkhlcapbgaaGreatDoorZ04
import Derived.Laws.AppendOwnNone
namespace Go.Proofs.YtkmpbkhlcapbgaaGreatDoor
open Go.RowKit
theorem own_apart {w : World} {b1 b2 e1 e2 s1 s2 n1 n2 : Nat} {v1 v2 : Value} {x1 x2 : List Value} (h1 : w.ownsRow b1 e1 s1 v1 n1 x1) (h2 : w.ownsRow b2 e2 s2 v2 n2 x2) (hne : e1 ≠ e2) : v1.ownBlock = none ∨ v1.ownBlock ≠ v2.ownBlock := by
  rcases h1.2 with ⟨rfl, _⟩ | ⟨g1, c1, cur1, rfl, _, hh1, _⟩
  · exact .inl rfl
  · right
    rcases h2.2 with ⟨rfl, _⟩ | ⟨g2, c2, cur2, rfl, _, hh2, _⟩
    · simp [Value.ownBlock]
    · intro e
      simp only [Value.ownBlock, Option.some.injEq] at e
      subst e
      rw [hh1] at hh2
      simp at hh2
      exact hne hh2.2
theorem own_below {w w' : World} {b e s n : Nat} {v : Value} {xs : List Value} (h : w.ownsRow b e s v n xs) (hb : Below w.heap.size w w') : w'.ownsRow b e s v n xs := by
  refine ⟨h.1, ?_⟩
  rcases h.2 with h2 | ⟨g, c, cur, hv, hg, hh, r⟩
  · exact .inl h2
  · exact .inr ⟨g, c, cur, hv, hg, by rw [hb.block g (lt_of_block hh)]; exact hh, r⟩
theorem own_base {w : World} {b b' e s n : Nat} {v : Value} {xs : List Value} (h : w.ownsRow b e s v n xs) (hb : b' ≤ b) : w.ownsRow b' e s v n xs := by
  refine ⟨h.1, ?_⟩
  rcases h.2 with h2 | ⟨g, c, cur, hv, hg, r⟩
  · exact .inl h2
  · exact .inr ⟨g, c, cur, hv, by omega, r⟩
theorem own_slice {w : World} {b e s n : Nat} {v : Value} {xs : List Value} (h : w.ownsRow b e s v n xs) : ∃ a c, v = .slice a n c := by
  rcases h.2 with ⟨rfl, rfl⟩ | ⟨g, c, cur, rfl, _⟩
  · exact ⟨_, _, rfl⟩
  · exact ⟨_, _, rfl⟩
/-- An owned row that has elements lies somewhere, and its cells read. -/
theorem own_cells {w : World} {b e s n : Nat} {v : Value} {xs : List Value} (h : w.ownsRow b e s v n xs) (hn : 0 < n) : ∃ g cap, v = .slice (some ⟨g, 0, none⟩) n cap ∧ b ≤ g ∧ n ≤ cap ∧ cap ≤ maxLen ∧ ∀ j, j < n * s → w.cell? ⟨g, j, none⟩ = xs[j]? := by
  have h0 := h
  rcases h.2 with ⟨rfl, h2⟩ | ⟨g, c, cur, rfl, hg, hh, h3, h4, _⟩
  · omega
  · exact ⟨g, c, rfl, hg, h3, h4, fun j hj => h0.cellAt j hj⟩
section
variable {P : Program} {w0 : World}
/-- 'out = append(out, x)': x of one cell, laid in a block of its own just before. -/
theorem wpList_push {ops : Array Oper} {rest : List Oper} {o : Oper} {a : Act} {Q : Exit → Act → World → Prop} (hgd : o.guard = none) (s x : Operand) (t : TypeId)
    (ho : o.op = .call { callee := .builtin .append, args := #[s, x], argTypes := #[t, t] })
    (base : Nat) (e : TypeId) (z : Value) (bytes : Nat) (ht : P.underlying t = some (.slice e)) (hinfo : (P.info? e).map (fun i => (i.zero, i.size, i.bytes)) = some (some z, 1, bytes)) (hzs : z.cells.size = 1)
    (v : Value) (n : Nat) (xs : List Value) (hs : a.eval s = v) (hown : w0.ownsRow base e 1 v n xs) (c : Value) (b0 : Nat) (hx : a.eval x = .slice (some ⟨b0, 0, none⟩) 1 1) (hb0 : b0 = w0.heap.size) (h1 : c.oneCell' = true)
    (hsz : n + 1 ≤ maxLen ∧ (n + 1) * bytes ≤ 140737488355328) (hbase : base ≤ w0.heap.size)
    (h : ∀ v' w', w'.ownsRow base e 1 v' (n + 1) (xs ++ [c]) → (w0.alloc (.cells #[c] e)).grownBy w' v.ownBlock → wpList P ops Q rest (a.put o.dst v') w') : wpList P ops Q (o :: rest) a (w0.alloc (.cells #[c] e)) := by
  subst hb0
  obtain ⟨i, hi, hz, hsize, hby⟩ := info_parts hinfo
  refine wpList_append_own _ hgd s x t ho base e i z 1 bytes ht hi hz hsize hby hzs (by decide) v n xs hs (hown.alloc _) ⟨w0.heap.size, 0, none⟩ 1 1 [c] hx rfl ?_ ?_ hsz.1 hsz.2 (by simp; omega) (fun v' w' h1 h2 _ => h v' w' h1 h2)
  · intro j u hj
    match j, hj with
    | 0, hj => simp at hj; subst hj; simp [Addr.add]
  · intro u hu; simp at hu; subst hu; exact h1
/-- 'out = append(out, x)': x of two cells. -/
theorem wpList_push2 {ops : Array Oper} {rest : List Oper} {o : Oper} {a : Act} {Q : Exit → Act → World → Prop} (hgd : o.guard = none) (s x : Operand) (t : TypeId)
    (ho : o.op = .call { callee := .builtin .append, args := #[s, x], argTypes := #[t, t] })
    (base : Nat) (e : TypeId) (z : Value) (bytes : Nat) (ht : P.underlying t = some (.slice e)) (hinfo : (P.info? e).map (fun i => (i.zero, i.size, i.bytes)) = some (some z, 2, bytes)) (hzs : z.cells.size = 2)
    (v : Value) (n : Nat) (xs : List Value) (hs : a.eval s = v) (hown : w0.ownsRow base e 2 v n xs) (c d : Value) (b0 : Nat) (hx : a.eval x = .slice (some ⟨b0, 0, none⟩) 1 1) (hb0 : b0 = w0.heap.size) (h1 : c.oneCell' = true ∧ d.oneCell' = true)
    (hsz : n + 1 ≤ maxLen ∧ (n + 1) * bytes ≤ 140737488355328) (hbase : base ≤ w0.heap.size)
    (h : ∀ v' w', w'.ownsRow base e 2 v' (n + 1) (xs ++ [c, d]) → (w0.alloc (.cells #[c, d] e)).grownBy w' v.ownBlock → wpList P ops Q rest (a.put o.dst v') w') : wpList P ops Q (o :: rest) a (w0.alloc (.cells #[c, d] e)) := by
  subst hb0
  obtain ⟨i, hi, hz, hsize, hby⟩ := info_parts hinfo
  refine wpList_append_own _ hgd s x t ho base e i z 2 bytes ht hi hz hsize hby hzs (by decide) v n xs hs (hown.alloc _) ⟨w0.heap.size, 0, none⟩ 1 1 [c, d] hx rfl ?_ ?_ hsz.1 hsz.2 (by simp; omega) (fun v' w' h1 h2 _ => h v' w' h1 h2)
  · intro j u hj
    match j, hj with
    | 0, hj => simp at hj; subst hj; simp [Addr.add]
    | 1, hj => simp at hj; subst hj; simp [Addr.add]
  · intro u hu; simp at hu; rcases hu with rfl | rfl
    · exact h1.1
    · exact h1.2
end
/-! ### A block that is known whole -/
def RowIs (w : World) (b e : Nat) (l : List Value) : Prop := w.heap[b]? = some (.cells l.toArray e (0, 0))
theorem RowIs.lt {w : World} {b e : Nat} {l : List Value} (h : RowIs w b e l) : b < w.heap.size := lt_of_block h
theorem RowIs.cell {w : World} {b e : Nat} {l : List Value} (h : RowIs w b e l) (j : Nat) : w.cell? ⟨b, j, none⟩ = l[j]? := by
  unfold RowIs at h; simp [World.cell?, h]
theorem RowIs.free {w : World} {b e : Nat} {l : List Value} (h : RowIs w b e l) (j : Nat) : w.frozen? ⟨b, j, none⟩ = false := by
  unfold RowIs at h; simp [World.frozen?, h]
theorem RowIs.below {w w' : World} {b e : Nat} {l : List Value} (h : RowIs w b e l) (hb : Below w.heap.size w w') : RowIs w' b e l := by
  unfold RowIs; rw [hb.block b h.lt]; exact h
theorem RowIs.alloc {w : World} {b e : Nat} {l : List Value} (h : RowIs w b e l) (o : Obj) : RowIs (w.alloc o) b e l := h.below ((Below.refl _ _).alloc (Nat.le_refl _) o)
theorem RowIs.new (w : World) (e : Nat) (l : List Value) : RowIs (w.alloc (.cells l.toArray e)) w.heap.size e l := by
  show (w.heap.push _)[w.heap.size]? = _; simp
theorem RowIs.other {w : World} {b e : Nat} {l : List Value} (h : RowIs w b e l) {a : Addr} (ha : b ≠ a.block) (u : Value) : RowIs (w.setCell a u) b e l := by
  unfold RowIs; rw [Below.heap_setCell _ _ _ _ ha]; exact h
theorem RowIs.set {w : World} {b e : Nat} {l : List Value} (h : RowIs w b e l) (j : Nat) (u : Value) : RowIs (w.setCell ⟨b, j, none⟩ u) b e (l.set j u) := by
  have hlt := h.lt
  have h' : w.heap[b] = .cells l.toArray e (0, 0) := by have := h; unfold RowIs at this; simpa [Array.getElem?_eq_getElem hlt] using this
  show (w.heap.modify b _)[b]? = _
  rw [Array.getElem?_eq_getElem (by simpa using hlt), Array.getElem_modify_self, h']
  simp
/-- A row that was made full is known whole. -/
theorem row_made {w : World} {b e g n : Nat} {xs : List Value} (h : w.ownsRow b e 1 (.slice (some ⟨g, 0, none⟩) n n) n xs) : RowIs w g e xs := by
  rcases h.2 with ⟨h1, _⟩ | ⟨g1, c1, cur, h1, _, hh, h3, h4, h5, h6⟩
  · cases h1
  · simp only [Value.slice.injEq, Option.some.injEq, Addr.mk.injEq] at h1
    obtain ⟨⟨rfl, _⟩, _, rfl⟩ := h1
    unfold RowIs
    rw [hh, ← h6]
    have : cur.toList.take (n * 1) = cur.toList := List.take_of_length_le (by simp; omega)
    rw [this]
/-- 'make([]T, n)' of elements of one cell: the new row is known whole. -/
theorem wpList_mkrow {P : Program} (w : World) {ops : Array Oper} {rest : List Oper} {o : Oper} {a : Act} {Q : Exit → Act → World → Prop}
    (hg : o.guard = none) (l c : Operand) (t : TypeId) (hop : o.op = Op.makeSlice t l c)
    (e : TypeId) (z : Value) (bytes : Nat) (h1 : P.underlying t = some (.slice e)) (hinfo : (P.info? e).map (fun i => (i.zero, i.size, i.bytes)) = some (some z, 1, bytes)) (hz : z.cells = #[z])
    (kl kc : IntKind) (L C : Int) (n : Nat) (hl : a.eval l = .int kl L) (hc : a.eval c = .int kc C) (hL : L = (n : Int)) (hC : C = (n : Int)) (hb : bytes * n ≤ 281474976710656 ∧ n ≤ maxLen) (b0 : Nat) (hb0 : b0 = w.heap.size)
    (hK : ∀ w', RowIs w' b0 e (List.replicate n z) → Below w.heap.size w w' → b0 < w'.heap.size → wpList P ops Q rest (a.put o.dst (.slice (some ⟨b0, 0, none⟩) n n)) w') :
    wpList P ops Q (o :: rest) a w := by
  subst hb0
  obtain ⟨i, hi, hz0, hz1, hz2⟩ := info_parts hinfo
  refine wpList_make_full w hg l c t hop w.heap.size e i z 1 h1 hi hz0 hz1 kl kc L C n hl hc hL hC (by rw [hz2]; exact hb.1) hb.2 (Nat.le_refl _) fun w' hown hgr => ?_
  have hr := row_made hown
  rw [hz, Nat.mul_one, toList_madeCells_one] at hr
  exact hK w' hr ((Below.refl _ _).grown hgr (Nat.le_refl _) (fun k h => by cases h)) hr.lt
end Go.Proofs.YtkmpbkhlcapbgaaGreatDoor
namespace Go.Proofs.YtkmpbkhlcapbgaaGreatDoor
open Go.RowKit
/-- Variables' cells. -/
def cellsL (l : List (ByteArray × ByteArray)) : List Value := l.flatMap fun p => [.string p.1, .string p.2]
theorem cellsL_length (l : List (ByteArray × ByteArray)) : (cellsL l).length = l.length * 2 := by
  induction l with
  | nil => rfl
  | cons p l ih => simp [cellsL] at *; omega
theorem cellsL_one (l : List (ByteArray × ByteArray)) : ∀ u ∈ cellsL l, u.oneCell' = true := by
  intro u hu
  simp only [cellsL, List.mem_flatMap] at hu
  obtain ⟨p, _, hp⟩ := hu
  simp at hp
  rcases hp with rfl | rfl <;> rfl
theorem cellsL_get : ∀ (l : List (ByteArray × ByteArray)) (i : Nat) (h : i < l.length), (cellsL l)[i * 2]? = some (.string l[i].1) ∧ (cellsL l)[i * 2 + 1]? = some (.string l[i].2)
  | p :: l, 0, _ => ⟨rfl, rfl⟩
  | p :: l, i + 1, h => by
    have ih := cellsL_get l i (by simpa using h)
    have e : cellsL (p :: l) = .string p.1 :: .string p.2 :: cellsL l := rfl
    rw [e, show (i + 1) * 2 = i * 2 + 2 by omega, show i * 2 + 2 + 1 = (i * 2 + 1) + 2 by omega]
    simpa using ih
theorem cellsL_append (a b : List (ByteArray × ByteArray)) : cellsL (a ++ b) = cellsL a ++ cellsL b := by simp [cellsL]
theorem cellsL_take : ∀ (l : List (ByteArray × ByteArray)) (i : Nat), cellsL (l.take i) = (cellsL l).take (i * 2)
  | _, 0 => by simp [cellsL]
  | [], i + 1 => by simp [cellsL]
  | p :: l, i + 1 => by
    have ih := cellsL_take l i
    have e : cellsL (p :: l) = .string p.1 :: .string p.2 :: cellsL l := rfl
    have e2 : cellsL (p :: l.take i) = .string p.1 :: .string p.2 :: cellsL (l.take i) := rfl
    rw [List.take_succ_cons, e, e2, ih, show (i + 1) * 2 = i * 2 + 1 + 1 by omega]
    rfl
theorem cellsL_drop : ∀ (l : List (ByteArray × ByteArray)) (i : Nat), cellsL (l.drop i) = (cellsL l).drop (i * 2)
  | _, 0 => by simp
  | [], i + 1 => by simp [cellsL]
  | p :: l, i + 1 => by
    have ih := cellsL_drop l i
    have e : cellsL (p :: l) = .string p.1 :: .string p.2 :: cellsL l := rfl
    rw [List.drop_succ_cons, e, ih, show (i + 1) * 2 = i * 2 + 1 + 1 by omega]
    rfl
theorem CellsV.at {w : World} {b off : Nat} {l : List (ByteArray × ByteArray)} (h : CellsV w b off l) (j : Nat) (u : Value) (hu : (cellsL l)[j]? = some u) : w.cell? ⟨b, off + j, none⟩ = some u := by
  have hj : j < l.length * 2 := by rw [← cellsL_length]; exact (List.getElem?_eq_some_iff.1 hu).1
  have h2 : j / 2 < l.length := by omega
  have g := cellsL_get l (j / 2) h2
  have c := h (j / 2) h2
  rcases Nat.mod_two_eq_zero_or_one j with hm | hm
  · have e : j = j / 2 * 2 := by omega
    rw [← e] at g c
    rw [c.1, ← g.1, hu]
  · have e : j = j / 2 * 2 + 1 := by omega
    have e2 : off + j / 2 * 2 + 1 = off + j := by omega
    rw [← e] at g
    rw [e2] at c
    rw [c.2, ← g.2, hu]
theorem RowV.own {w : World} {base e : Nat} {v : Value} {l : List (ByteArray × ByteArray)} (h : w.ownsRow base e 2 v l.length (cellsL l)) (hn : l.length ≤ 1000000000) : RowV w v l := by
  by_cases h0 : l = []
  · subst h0
    rcases h.2 with ⟨rfl, _⟩ | ⟨g, cap, cur, rfl, _, _, h1, _⟩
    · exact ⟨none, 0, rfl, Nat.le_refl _, by simp, .inl ⟨rfl, rfl⟩⟩
    · exact ⟨_, cap, rfl, h1, by simp, .inr ⟨g, 0, rfl, fun i hi => absurd hi (by simp)⟩⟩
  · obtain ⟨g, cap, rfl, _, h1, _, h2⟩ := own_cells h (List.length_pos_iff.2 h0)
    refine ⟨_, cap, rfl, h1, hn, .inr ⟨g, 0, rfl, fun i hi => ?_⟩⟩
    have gt := cellsL_get l i hi
    rw [Nat.zero_add]
    exact ⟨(h2 _ (by omega)).trans gt.1, (h2 _ (by omega)).trans gt.2⟩
end Go.Proofs.YtkmpbkhlcapbgaaGreatDoor
namespace Go.Proofs.YtkmpbkhlcapbgaaGreatDoor
open Go.RowKit
set_option maxRecDepth 100000 in
set_option maxHeartbeats 8000000 in
theorem clone_any (l : List (ByteArray × ByteArray)) (b off cap : Nat) (hn : l.length ≤ 1000000000) (w : World) (hc : CellsV w b off l) :
    Calls Tryz.prog 34 #[.slice (some ⟨b, off, none⟩) l.length cap] w fun e w' => ∃ v, e = .returned v ∧ w'.ownsRow w.heap.size 68 2 v l.length (cellsL l) ∧ v ≠ .slice none 0 0 ∧ Below w.heap.size w w' := by
  have HC := Lib.hid hc
  clear hc
  obtain ⟨i0, hi, hz0, hz1, hz2⟩ := info_parts (P := Tryz.prog) (e := 68) (z := .agg #[.string ⟨#[]⟩, .string ⟨#[]⟩]) (size := 2) (bytes := 32) (by kernel_rfl)
  have q := fun (w : World) (a : Option Addr) (n c n' c' : Nat) => Lib.run_eql_slice_nil (P := Tryz.prog) w _ _ a n c n' c' Tryz.underlying26
  go_enter Tryz.func34, Tryz.ntmps34
  go_wp2_with (at_builtin; refine wpList_append_own _ rfl _ _ 26 rfl w.heap.size 68 i0 (.agg #[.string ⟨#[]⟩, .string ⟨#[]⟩]) 2 32 Tryz.underlying26 hi hz0 hz1 hz2 rfl (by decide) _ _ _ rfl (World.ownsRow_made w #[] 0 (Nat.le_refl _) (Nat.zero_le _) rfl) ⟨b, off, none⟩ l.length cap (cellsL l) rfl ?qc1 ?qc2 ?qc3 ?qc4 ?qc5 ?qc6 ?_)
  case qc1 => exact cellsL_length l
  case qc2 =>
    intro j u hj
    rw [Addr.add_lit]
    exact Lib.cell?_alloc_some _ (HC.out.at j u hj)
  case qc3 => exact cellsL_one l
  case qc4 => unfold maxLen; omega
  case qc5 => omega
  case qc6 => simp
  intro v' w1 hown hgrow hnil
  go_wp2
  go_ret
  refine ⟨v', rfl, by simpa using hown, ?_, ?_⟩
  · exact hnil
  · exact ((Below.refl _ w).alloc (Nat.le_refl _) _).grown hgrow (by simp) (by intro k hk; simp [Value.ownBlock] at hk; omega)
end Go.Proofs.YtkmpbkhlcapbgaaGreatDoor
namespace Go.Proofs.YtkmpbkhlcapbgaaGreatDoor
open Go.RowKit
/-- A row that the call made, or nil. -/
def OwnV (base : Nat) (w : World) (v : Value) (l : List (ByteArray × ByteArray)) : Prop := w.ownsRow base 68 2 v l.length (cellsL l) ∧ l.length ≤ 1000000000
theorem OwnV.row {base : Nat} {w : World} {v : Value} {l : List (ByteArray × ByteArray)} (h : OwnV base w v l) : RowV w v l := RowV.own h.1 h.2
set_option maxRecDepth 100000 in
set_option maxHeartbeats 8000000 in
theorem clone_nil (n c : Nat) (w : World) :
    Calls Tryz.prog 34 #[.slice none n c] w fun e w' => e = .returned (.slice none 0 0) ∧ w' = w := by
  have q := fun (w : World) (a : Option Addr) (n c n' c' : Nat) => Lib.run_eql_slice_nil (P := Tryz.prog) w _ _ a n c n' c' Tryz.underlying26
  go_enter Tryz.func34, Tryz.ntmps34
  go_wp2_with fail
  go_ret
  exact ⟨rfl, rfl⟩
end Go.Proofs.YtkmpbkhlcapbgaaGreatDoor
