/-
  DERIVED. Appending from any slice that reads as a list: nil, empty, or cut out of a row of the call's own; a slice cut at its end, or its beginning. No program in sight.
-/
import Derived.Test.YtjpdhbalngpdpaaGreatDoorOwn
import Derived.Laws.AppendOwnNone
namespace Go.Proofs.YtjpdhbalngpdpaaGreatDoor
open Go.RowKit
/-- A slice of m elements of one cell that reads as a list of cells. -/
def SrcAt (w : World) (y : Value) (m : Nat) (news : List Value) : Prop :=
  ∃ (ao : Option Addr) (c : Nat), y = .slice ao m c ∧ news.length = m ∧ (ao = none → m = 0 ∧ c = 0) ∧ ∀ ad, ao = some ad → ad.spot = none ∧ ∀ j u, news[j]? = some u → w.cell? (ad.add j) = some u
theorem SrcAt.below {w w' : World} {y : Value} {m : Nat} {news : List Value} (h : SrcAt w y m news) (hb : Below w.heap.size w w') : SrcAt w' y m news := by
  obtain ⟨ao, c, h1, h2, h3, h4⟩ := h
  refine ⟨ao, c, h1, h2, h3, fun ad ha => ⟨(h4 ad ha).1, fun j u hu => ?_⟩⟩
  have h5 := (h4 ad ha).2 j u hu
  have h6 : (ad.add j).block < w.heap.size := by
    have : ∀ a : Addr, w.cell? a = some u → a.block < w.heap.size := fun a h => by
      unfold World.cell? at h
      cases hx : w.heap[a.block]? with
      | none => rw [hx] at h; simp at h
      | some o => exact (Array.getElem?_eq_some_iff.1 hx).1
    exact this _ h5
  rw [hb.cell (p := ad.add j) h6]; exact h5
theorem add_add (a : Addr) (h : a.spot = none) (k j : Nat) : (a.add k).add j = a.add (k + j) := by
  obtain ⟨b, o, s⟩ := a
  simp at h; subst h
  unfold Addr.add
  by_cases hk : k = 0
  · subst hk; simp
  · by_cases hj : j = 0
    · subst hj; simp
    · simp [hk, hj]; omega
theorem add_spot (a : Addr) (h : a.spot = none) (k : Nat) : (a.add k).spot = none := by
  unfold Addr.add; split
  · exact h
  · rfl
section
variable {P : Program}
theorem SrcAt.to {w : World} {v : Value} {m : Nat} {xs : List Value} (h : SrcAt w v m xs) (hc : ∀ a n c, v = .slice a n c → n ≤ c) (t : TypeId) (ht : P.underlying t = some (.slice (P.elem t))) (hs : ∀ w', (sizeOf (P.elem t)).run P w' = .ok 1 w')
    (k : Nat) (hk : k ≤ m) (z : Int) (hz : z = (k : Int)) : ∃ y, (∀ w', (Instr.slice t v none (some (.int .i64 z)) none).run P w' = .ok y w') ∧ SrcAt w y k (xs.take k) ∧ ∀ a n c, y = .slice a n c → n ≤ c := by
  subst hz
  obtain ⟨ao, c, rfl, h2, h3, h4⟩ := h
  have hmc := hc _ _ _ rfl
  refine ⟨.slice ao k c, fun w' => ?_, ⟨ao, c, rfl, by rw [List.length_take]; omega, fun e => by have := h3 e; omega, fun ad ha => ⟨(h4 ad ha).1, fun j u hu => ?_⟩⟩, fun a n c' e => by cases e; omega⟩
  · rw [run_slice_h w' t ao m c ht .i64 (k : Int) (by omega) (by omega), hs w']
    simp only [Result.andThen, sliced, Int.toNat_natCast, Nat.sub_zero, Nat.zero_mul]
    congr 2
    by_cases hc0 : c = 0
    · simp [hc0]
    · rw [if_neg hc0]
      cases ao with
      | none => rfl
      | some ad => simp [Addr.add]
  · refine (h4 ad ha).2 j u ?_
    by_cases hj : j < k
    · rw [List.getElem?_take_of_lt hj] at hu; exact hu
    · rw [List.getElem?_eq_none (by simp; omega)] at hu; cases hu
theorem SrcAt.from {w : World} {v : Value} {m : Nat} {xs : List Value} (h : SrcAt w v m xs) (hc : ∀ a n c, v = .slice a n c → n ≤ c) (t : TypeId) (ht : P.underlying t = some (.slice (P.elem t))) (hs : ∀ w', (sizeOf (P.elem t)).run P w' = .ok 1 w')
    (k : Nat) (hk : k ≤ m) (z : Int) (hz : z = (k : Int)) : ∃ y, (∀ w', (Instr.slice t v (some (.int .i64 z)) none none).run P w' = .ok y w') ∧ SrcAt w y (m - k) (xs.drop k) ∧ ∀ a n c, y = .slice a n c → n ≤ c := by
  subst hz
  obtain ⟨ao, c, rfl, h2, h3, h4⟩ := h
  have hmc := hc _ _ _ rfl
  refine ⟨.slice (if c = k then ao else ao.map (·.add (k * 1))) (m - k) (c - k), fun w' => ?_, ⟨_, c - k, rfl, by rw [List.length_drop]; omega, fun e => ?_, fun ad ha => ?_⟩, fun a n c' e => by cases e; omega⟩
  · rw [run_slice_l w' t ao m c ht .i64 (k : Int) (by omega) (by omega), hs w']
    simp only [Result.andThen, sliced, Int.toNat_natCast]
  · cases ao with
    | none => have := h3 rfl; omega
    | some ad => split at e <;> simp at e
  · cases ao with
    | none => split at ha <;> simp at ha
    | some ad0 =>
      have h5 := h4 ad0 rfl
      split at ha
      · rename_i hck
        simp only [Option.some.injEq] at ha; subst ha
        refine ⟨h5.1, fun j u hu => ?_⟩
        rw [List.getElem?_eq_none (by simp; omega)] at hu; cases hu
      · simp only [Option.map_some, Option.some.injEq] at ha; subst ha
        refine ⟨add_spot _ h5.1 _, fun j u hu => ?_⟩
        rw [add_add _ h5.1, Nat.mul_one]
        refine h5.2 (k + j) u ?_
        rw [List.getElem?_drop] at hu; exact hu
theorem srcOf_own {w : World} {base e n : Nat} {v : Value} {xs : List Value} (h : w.ownsRow base e 1 v n xs) : SrcAt w v n xs ∧ ∀ a n c, v = .slice a n c → n ≤ c := by
  have h0 := h
  rcases h.2 with ⟨rfl, h2⟩ | ⟨g, c, cur, rfl, hg, hh, h3, h4, _⟩
  · have hl := h.1
    subst h2
    exact ⟨⟨none, 0, rfl, by simpa using hl, fun _ => ⟨rfl, rfl⟩, fun ad e => by cases e⟩, fun a n c e => by cases e; omega⟩
  · refine ⟨⟨some ⟨g, 0, none⟩, c, rfl, by have := h.1; omega, (fun e => by cases e), fun ad e => ?_⟩, fun a n c e => by cases e; omega⟩
    cases e
    exact ⟨rfl, h0.cells (g := g) rfl⟩
/-- 'out = append(out, src...)', both of one cell an element. -/
theorem wpList_append_src {w : World} {ops : Array Oper} {rest : List Oper} {o : Oper} {a : Act} {Q : Exit → Act → World → Prop} (hgd : o.guard = none) (s x : Operand) (t : TypeId)
    (ho : o.op = .call { callee := .builtin .append, args := #[s, x], argTypes := #[t, t] })
    (base : Nat) (e : TypeId) (z : Value) (bytes : Nat) (ht : P.underlying t = some (.slice e)) (hinfo : (P.info? e).map (fun i => (i.zero, i.size, i.bytes)) = some (some z, 1, bytes)) (hzs : z.cells.size = 1)
    (v : Value) (n : Nat) (xs : List Value) (hs : a.eval s = v) (hown : w.ownsRow base e 1 v n xs) (y : Value) (m : Nat) (news : List Value) (hx : a.eval x = y) (hsrc : SrcAt w y m news) (h1 : ∀ u ∈ news, u.oneCell' = true)
    (hsz : n + m ≤ maxLen ∧ (n + m) * bytes ≤ 140737488355328) (hbase : base ≤ w.heap.size)
    (h : ∀ v' w', w'.ownsRow base e 1 v' (n + m) (xs ++ news) → w.grownBy w' v.ownBlock → wpList P ops Q rest (a.put o.dst v') w') : wpList P ops Q (o :: rest) a w := by
  obtain ⟨i, hi, hz, hsize, hby⟩ := info_parts hinfo
  obtain ⟨ao, c, rfl, h2, h3, h4⟩ := hsrc
  cases ao with
  | none =>
    obtain ⟨rfl, rfl⟩ := h3 rfl
    have hnil : news = [] := List.length_eq_zero_iff.1 h2
    subst hnil
    refine wpList_append_own_none hgd s x t ho base e i 1 ht hi v n xs hs hown hx (h v w (by simpa using hown) ⟨rfl, rfl, rfl, Nat.le_refl _, fun _ _ _ => rfl⟩)
  | some ad =>
    refine wpList_append_own _ hgd s x t ho base e i z 1 bytes ht hi hz hsize hby hzs (by decide) v n xs hs hown ad m c news hx (by omega) (h4 ad rfl).2 h1 hsz.1 hsz.2 hbase (fun v' w' h1 h2 _ => h v' w' h1 h2)
end
end Go.Proofs.YtjpdhbalngpdpaaGreatDoor
