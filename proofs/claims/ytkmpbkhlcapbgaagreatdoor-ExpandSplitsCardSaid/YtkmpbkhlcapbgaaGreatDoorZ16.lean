/-
  DERIVED. Plain: what rows are parted into. No program in sight. Plain: what the laws' words are read as. No program in sight. Plain: what the laws' parts come to. No program in sight. An Env in memory: what Get, Set, Has come to, by the plain functions. The walk of split's add.
-/
import Derived.Test.YtkmpbkhlcapbgaaGreatDoorZ10
import Derived.WalkKit
import Derived.Test.YtkmpbkhlcapbgaaGreatDoorZ04
import Derived.Test.YtkmpbkhlcapbgaaGreatDoorZ09
import Derived.Test.YtkmpbkhlcapbgaaGreatDoorZ15
import Derived.Test.YtkmpbkhlcapbgaaGreatDoorProg
import Derived.Test.YtkmpbkhlcapbgaaGreatDoorZ02
import Derived.Test.YtkmpbkhlcapbgaaGreatDoorZ05
import Derived.WalkSpells
import Derived.WalkLawsBesides
import Derived.Handy
import Derived.RegionTactic
import Derived.Lib.Hide
namespace Go.Proofs.YtkmpbkhlcapbgaaGreatDoor
/-- Bytes of one letter that are no separators, no border, no nothing. -/
theorem fold_one (ifs : List UInt8) (c : UInt8) (h98 : c ≠ 98) (h101 : c ≠ 101) : ∀ (s : List UInt8) (_ : c = 115 → ∀ x ∈ s, ifs.contains x = false) (F : FieldsT),
    (s.zip (List.replicate s.length c)).foldl (FieldsT.take ifs) F = if s = [] then F else ⟨F.l, (F.now.1 ++ s, F.now.2 ++ List.replicate s.length c), true, false⟩ := by
  intro s
  induction s with
  | nil => intro _ F; rfl
  | cons a s ih =>
    intro hs F
    have hs' : c = 115 → ∀ x ∈ s, ifs.contains x = false := fun e x hx => hs e x (List.mem_cons_of_mem _ hx)
    have h1 : (c == 115 && ifs.contains a) = false := by
      by_cases e : c = 115
      · rw [hs e a (by simp)]; simp
      · simp [e]
    have h2 : (c == 98) = false := by simpa using h98
    have h3 : (c == 101) = false := by simpa using h101
    have ht : FieldsT.take ifs F (a, c) = ⟨F.l, (F.now.1 ++ [a], F.now.2 ++ [c]), true, false⟩ := by
      simp only [FieldsT.take, h1, h2, h3, if_false, Bool.false_eq_true]
    rw [List.length_cons, List.replicate_succ, List.zip_cons_cons, List.foldl_cons, ht, ih hs']
    by_cases h0 : s = []
    · subst h0; simp
    · simp [h0]
theorem zip_join (a b : RowT) (h : a.1.length = a.2.length) : (joinR a b).1.zip (joinR a b).2 = a.1.zip a.2 ++ b.1.zip b.2 := by
  unfold joinR; rw [List.zip_append h]
def foldF (ifs : List UInt8) (r : RowT) (F : FieldsT) : FieldsT := (r.1.zip r.2).foldl (FieldsT.take ifs) F
theorem fold_join (ifs : List UInt8) (a b : RowT) (h : a.1.length = a.2.length) (F : FieldsT) : foldF ifs (joinR a b) F = foldF ifs b (foldF ifs a F) := by
  unfold foldF; rw [zip_join a b h, List.foldl_append]
theorem fold_put (ifs : List UInt8) (r : RowT) (h : r.1.length = r.2.length) (s : List UInt8) (F : FieldsT) :
    foldF ifs (putR r s 113) F = ⟨(foldF ifs r F).l, ((foldF ifs r F).now.1 ++ s, (foldF ifs r F).now.2 ++ List.replicate s.length 113), true, false⟩ := by
  unfold putR
  rw [fold_join ifs r _ h]
  by_cases h0 : s = []
  · subst h0
    rw [if_pos ⟨rfl, rfl⟩]
    simp [foldF, FieldsT.take]
  · rw [if_neg (fun h => h0 h.1)]
    unfold foldF ofR
    rw [fold_one ifs 113 (by decide) (by decide) s (fun e => absurd e (by decide)), if_neg h0]
theorem put_len (r : RowT) (h : r.1.length = r.2.length) (s : List UInt8) (c : UInt8) : (putR r s c).1.length = (putR r s c).2.length := by
  unfold putR joinR
  split <;> simp [h, ofR]
theorem split_quoted (ifs s : List UInt8) : splitR (putR ([], []) s 113) ifs = [(s, List.replicate s.length 113)] := by
  unfold splitR
  have := fold_put ifs ([], []) rfl s ⟨[], ([], []), false, false⟩
  unfold foldF at this
  rw [this]
  simp [FieldsT.stop]
theorem drop_last {α : Type} {l : List α} {a : α} (h : l.getLast? = some a) : l.dropLast ++ [a] = l := by
  obtain ⟨ys, rfl⟩ := List.getLast?_eq_some_iff.1 h
  simp
/-- All arguments, quoted. -/
theorem fold_args (ifs : List UInt8) : ∀ (l : List (List UInt8)) (r : RowT) (_ : r.1.length = r.2.length) (L : List RowT) (now : RowT) (_ : foldF ifs r ⟨[], ([], []), false, false⟩ = ⟨L, now, true, false⟩),
    ∃ now2, foldF ifs (argsR r true l false) ⟨[], ([], []), false, false⟩ = ⟨((L ++ [now] ++ l.map fun s => (s, List.replicate s.length (113 : UInt8))) : List RowT).dropLast, now2, true, false⟩ ∧
      (L ++ [now] ++ l.map fun s => (s, List.replicate s.length (113 : UInt8))).getLast? = some now2 := by
  intro l
  induction l with
  | nil => intro r _ L now hF; exact ⟨now, by simp [argsR, hF], by simp⟩
  | cons a l ih =>
    intro r hr L now hF
    have h1 : foldF ifs (putR r [32] 98) ⟨[], ([], []), false, false⟩ = ⟨L ++ [now], ([], []), false, false⟩ := by
      unfold putR
      rw [fold_join ifs r _ hr, hF]
      simp [foldF, ofR, FieldsT.take, FieldsT.stop]
    have h2 := fold_put ifs (putR r [32] 98) (put_len r hr _ _) a ⟨[], ([], []), false, false⟩
    rw [h1] at h2
    simp only [List.nil_append] at h2
    obtain ⟨n2, e1, e2⟩ := ih (putR (putR r [32] 98) a 113) (put_len _ (put_len r hr _ _) _ _) (L ++ [now]) _ h2
    refine ⟨n2, ?_, ?_⟩
    · show foldF ifs (argsR (putR (putR r [32] 98) a 113) true l false) _ = _
      rw [e1]; simp [List.append_assoc]
    · rw [← e2]; simp [List.append_assoc]
theorem split_args (ifs : List UInt8) (l : List (List UInt8)) : splitR (argsR ([], []) true l true) ifs = l.map fun s => (s, List.replicate s.length (113 : UInt8)) := by
  cases l with
  | nil => rfl
  | cons a l =>
    have h2 := fold_put ifs ([], []) rfl a ⟨[], ([], []), false, false⟩
    obtain ⟨n2, e1, e2⟩ := fold_args ifs l (putR ([], []) a 113) (put_len _ rfl _ _) [] (a, List.replicate a.length 113) (by rw [h2]; simp [foldF])
    have e3 : splitR (argsR ([], []) true (a :: l) true) ifs = ((foldF ifs (argsR (putR ([], []) a 113) true l false) ⟨[], ([], []), false, false⟩).stop false).l := rfl
    rw [e3, e1]
    simp only [FieldsT.stop, if_true]
    rw [drop_last e2]
    rfl
/-- All arguments, unquoted, with no separators: those that have bytes. -/
theorem fold_bare : ∀ (l : List (List UInt8)) (r : RowT) (_ : r.1.length = r.2.length) (F : FieldsT) (_ : foldF [] r ⟨[], ([], []), false, false⟩ = F) (_ : F.begun = false → F.now = ([], [])),
    (((foldF [] (argsR r false l false) ⟨[], ([], []), false, false⟩).stop false).l : List RowT).map (·.1) = (F.stop false).l.map (·.1) ++ l.filter (· ≠ []) := by
  intro l
  induction l with
  | nil => intro r _ F hF _; subst hF; simp [argsR]
  | cons a l ih =>
    intro r hr F hF hb
    have h1 : foldF [] (putR r [32] 98) ⟨[], ([], []), false, false⟩ = F.stop false := by
      unfold putR
      rw [fold_join [] r _ hr, hF]
      simp [foldF, ofR, FieldsT.take]
    have h2 : foldF [] (putR (putR r [32] 98) a 115) ⟨[], ([], []), false, false⟩ = if a = [] then F.stop false else ⟨(F.stop false).l, (a, List.replicate a.length 115), true, false⟩ := by
      have : ∀ r2 : RowT, putR r2 a 115 = joinR r2 (ofR a 115) := fun r2 => by
        unfold putR; rw [if_neg (by rintro ⟨_, h⟩; exact absurd h (by decide))]
      rw [this, fold_join [] _ _ (put_len r hr _ _), h1]
      have := fold_one [] 115 (by decide) (by decide) a (fun _ x _ => by simp) (F.stop false)
      unfold foldF ofR
      rw [this]
      rfl
    have := ih (putR (putR r [32] 98) a 115) (put_len _ (put_len r hr _ _) _ _) _ h2 (by split <;> simp [FieldsT.stop])
    show (((foldF [] (argsR (putR (putR r [32] 98) a 115) false l false) _).stop false).l).map (·.1) = _
    rw [this]
    by_cases h0 : a = []
    · simp [h0, FieldsT.stop]
    · simp [h0, FieldsT.stop]
theorem split_bare (l : List (List UInt8)) : (splitR (argsR ([], []) false l true) []).map (·.1) = l.filter (· ≠ []) := by
  cases l with
  | nil => rfl
  | cons a l =>
    have h1 : foldF [] (putR ([], []) a 115) ⟨[], ([], []), false, false⟩ = if a = [] then ⟨[], ([], []), false, false⟩ else ⟨[], (a, List.replicate a.length 115), true, false⟩ := by
      have : putR ([], []) a 115 = ofR a 115 := by
        unfold putR; rw [if_neg (by rintro ⟨_, h⟩; exact absurd h (by decide))]; simp [joinR]
      rw [this]
      have := fold_one [] 115 (by decide) (by decide) a (fun _ x _ => by simp) ⟨[], ([], []), false, false⟩
      unfold foldF ofR
      rw [this]
      rfl
    have := fold_bare l (putR ([], []) a 115) (put_len _ rfl _ _) _ h1 (by split <;> simp)
    show (((foldF [] (argsR (putR ([], []) a 115) false l false) _).stop false).l).map (·.1) = _
    rw [this]
    by_cases h0 : a = []
    · simp [h0, FieldsT.stop]
    · simp [h0, FieldsT.stop]
end Go.Proofs.YtkmpbkhlcapbgaaGreatDoor
namespace Go.Proofs.YtkmpbkhlcapbgaaGreatDoor
theorem takeWhile_quote (s t : List UInt8) (h : (39 : UInt8) ∉ s) : (s ++ 39 :: t).takeWhile (· != 39) = s ∧ (s ++ 39 :: t).dropWhile (· != 39) = 39 :: t := by
  induction s with
  | nil => exact ⟨rfl, rfl⟩
  | cons c s ih =>
    have hc : (c != 39) = true := by
      simp only [List.mem_cons, not_or] at h
      simp only [bne_iff_ne, ne_eq]
      exact fun e => h.1 e.symm
    have hs : (39 : UInt8) ∉ s := fun h' => h (List.mem_cons_of_mem _ h')
    obtain ⟨h1, h2⟩ := ih hs
    refine ⟨?_, ?_⟩
    · rw [List.cons_append, List.takeWhile_cons, if_pos hc, h1]
    · rw [List.cons_append, List.dropWhile_cons, if_pos hc, h2]
/-- A text in single quotes, and what stands behind it. -/
theorem wpart_quote (f d : Nat) (l : List PartT) (s t : List UInt8) (h : (39 : UInt8) ∉ s) : wpartF (f + 1) d l (39 :: (s ++ 39 :: t)) = some (putF l (.mk 2 s [] false []), t) := by
  rw [wpartF]
  obtain ⟨h1, h2⟩ := takeWhile_quote s t h
  simp [h1, h2]
theorem word_quoted (s : List UInt8) (h : (39 : UInt8) ∉ s) : wordF 3 (39 :: (s ++ [39])) = some [.mk 2 s [] false []] := by
  unfold wordF
  rw [if_neg (by simp [List.isPrefixOf])]
  simp only [allF]
  rw [if_neg (by simp), wpart_quote 1 0 [] s [] h]
  rfl
theorem until_quote (f : Nat) (s t : List UInt8) (h : (39 : UInt8) ∉ s) : untilF (f + 2) 1 [] (39 :: (s ++ 39 :: 125 :: t)) = some ([.mk 2 s [] false []], t) := by
  rw [untilF, if_neg (by simp), wpart_quote f 1 [] s (125 :: t) h]
  show untilF (f + 1) 1 _ _ = _
  rw [untilF, if_pos (by rfl)]
  rfl
/-- The operations of ExpandDefault. -/
theorem word_default (op : List UInt8) (ho : op = [58, 45] ∨ op = [45] ∨ op = [58, 61] ∨ op = [58, 43] ∨ op = [43] ∨ op = [37]) (s : List UInt8) (h : (39 : UInt8) ∉ s) :
    wordF 8 ([36, 123, 120] ++ op ++ 39 :: (s ++ [39, 125])) = some [.mk 3 [120] op false [.mk 2 s [] false []]] := by
  have hu := until_quote 2 s [] h
  simp only [Nat.reduceAdd] at hu
  rcases ho with rfl | rfl | rfl | rfl | rfl | rfl
  all_goals
    unfold wordF
    rw [if_neg (by simp [List.isPrefixOf])]
    simp only [allF, List.cons_append, List.nil_append]
    rw [if_neg (by simp), wpartF, dollarF]
    simp only [List.tail_cons, List.head?_cons, if_true]
    rw [if_neg (by decide), braceF]
    simp only [List.head?_cons]
    rw [if_neg (by simp)]
    simp [wparF, longF, letterU, wordU, digU, wopsL, List.isPrefixOf, List.find?, hu, putF, PartT.with]
theorem word_v : wordF 9 [34, 36, 118, 34] = some [.mk 3 [118] [] true []] := by kernel_rfl
theorem word_v2 : wordF 9 [36, 118] = some [.mk 3 [118] [] false []] := by kernel_rfl
theorem word_x : wordF 9 [36, 120] = some [.mk 3 [120] [] false []] := by kernel_rfl
theorem word_qx : wordF 9 [34, 36, 120, 34] = some [.mk 3 [120] [] true []] := by kernel_rfl
theorem word_z : wordF 9 [36, 122] = some [.mk 3 [122] [] false []] := by kernel_rfl
theorem word_y : wordF 12 [36, 123, 121, 58, 61, 49, 125, 36, 121] = some [.mk 3 [121] [58, 61] false [.mk 1 [49] [] false []], .mk 3 [121] [] false []] := by kernel_rfl
theorem word_all : wordF 9 [34, 36, 64, 34] = some [.mk 3 [64] [] true []] := by kernel_rfl
theorem word_all2 : wordF 9 [36, 64] = some [.mk 3 [64] [] false []] := by kernel_rfl
theorem word_fail : wordF 9 [36, 123, 120, 58, 63, 125] = some [.mk 3 [120] [58, 63] false []] := by kernel_rfl
theorem word_cuty : wordF 12 [36, 123, 120, 35, 34, 36, 121, 34, 125] = some [.mk 3 [120] [35] false [.mk 3 [121] [] true []]] := by kernel_rfl
theorem word_cut2 : wordF 12 [36, 123, 120, 35, 35, 42, 125] = some [.mk 3 [120] [35, 35] false [.mk 1 [42] [] false []]] := by kernel_rfl
theorem word_cut3 : wordF 12 [36, 123, 120, 37, 42, 125] = some [.mk 3 [120] [37] false [.mk 1 [42] [] false []]] := by kernel_rfl
theorem word_len : wordF 9 [36, 123, 35, 120, 125] = some [.mk 3 [120] [108, 101, 110] false []] := by kernel_rfl
theorem word_bad : wordF 20 [36, 40, 40, 36, 123, 120, 43, 49, 125, 48, 43, 49, 41, 41] = some [.mk 4 [36, 123, 120, 43, 49, 125, 48, 43, 49] [] false []] := by kernel_rfl
theorem word_axb : wordF 9 [65, 36, 120, 34, 66, 34] = some [.mk 1 [65] [] false [], .mk 3 [120] [] false [], .mk 2 [66] [] false []] := by kernel_rfl
theorem word_sum : wordF 20 [36, 40, 40, 120, 43, 36, 121, 41, 41] = some [.mk 4 [120, 43, 36, 121] [] false []] := by kernel_rfl
theorem word_more : wordF 20 [36, 40, 40, 120, 62, 121, 41, 41] = some [.mk 4 [120, 62, 121] [] false []] := by kernel_rfl
theorem word_home : wordF 9 [126, 47, 97] = some [.mk 5 [] [] false [], .mk 1 [47, 97] [] false []] := by kernel_rfl
theorem word_tilde2 : wordF 12 [97, 126, 47, 39, 126, 39] = some [.mk 1 [97, 126, 47] [] false [], .mk 2 [126] [] false []] := by kernel_rfl
theorem word_tilde : wordF 9 [126] = some [.mk 5 [] [] false []] := by kernel_rfl
end Go.Proofs.YtkmpbkhlcapbgaaGreatDoor
namespace Go.Proofs.YtkmpbkhlcapbgaaGreatDoor
variable (P : Par)
theorem keepR_some {e : EnvT} {r : RowT} (h : r.1.length ≤ 1000000) (hv : e.vars.length ≤ 1000000) : keepR e r = some (.ok e r) := by unfold keepR; rw [if_pos ⟨h, hv⟩]
theorem unsetV_length (l : List (List UInt8 × List UInt8)) (s : List UInt8) : (unsetV l s).length ≤ l.length := by
  unfold unsetV
  split
  · rw [List.length_append, List.length_take, List.length_drop]; omega
  · exact Nat.le_refl _
theorem setV_length (l : List (List UInt8 × List UInt8)) (s v : List UInt8) : (setV l s v).length ≤ l.length + 1 := by
  have := unsetV_length l s
  unfold setV
  rw [List.length_append, List.length_cons, List.length_take, List.length_drop]; omega
theorem set_length (e : EnvT) (s v : List UInt8) : (e.set s v).vars.length ≤ e.vars.length + 1 := by
  unfold EnvT.set
  split
  · exact setV_length _ _ _
  · exact Nat.le_succ _
theorem putR_length (r : RowT) (s : List UInt8) (c : UInt8) : (putR r s c).1.length ≤ r.1.length + s.length + 1 := by
  unfold putR; rw [joinR_length]; split <;> simp [ofR] <;> omega
theorem bareR_append (a b : RowT) (h : a.1.length = a.2.length) : bareR (joinR a b) = joinR (bareR a) (bareR b) := by
  unfold bareR
  rw [zip_join a b h, List.filter_append]
  simp [List.unzip_eq_map, joinR]
theorem flatR_join (a b : RowT) (h : a.1.length = a.2.length) : flatR (joinR a b) = flatR a ++ flatR b := by
  unfold flatR; rw [bareR_append a b h]; rfl
theorem bareR_of (s : List UInt8) (c : UInt8) (hc : c ≠ 101) : bareR (ofR s c) = ofR s c := by
  unfold bareR ofR
  have : ((s.zip (List.replicate s.length c)).filter fun p => p.2 != 101) = s.zip (List.replicate s.length c) := by
    rw [List.filter_eq_self]
    intro p hp
    have := (List.of_mem_zip hp).2
    rw [List.mem_replicate] at this
    simp [this.2, hc]
  rw [this]
  rw [List.unzip_zip (by simp)]
theorem bareR_put (s : List UInt8) (c : UInt8) (hc : c ≠ 101) : bareR (putR ([], []) s c) = ofR s c := by
  unfold putR
  rw [bareR_append _ _ rfl]
  split
  · rename_i h
    rw [h.1]; rfl
  · rw [bareR_of s c hc]; rfl
theorem flatR_put (s : List UInt8) (c : UInt8) (hc : c ≠ 101) : flatR (putR ([], []) s c) = s := by
  unfold flatR; rw [bareR_put s c hc]; rfl
theorem flatR_put2 (r : RowT) (h : r.1.length = r.2.length) (s : List UInt8) (c : UInt8) (hc : c ≠ 101) : flatR (putR r s c) = flatR r ++ s := by
  have : putR r s c = joinR r (putR ([], []) s c) := by unfold putR joinR; simp
  rw [this, flatR_join _ _ h, flatR_put s c hc]
theorem sortC_ne (q : Bool) : sortC q ≠ 101 := by cases q <;> decide
/-- One part alone. -/
theorem parts_one (f : Nat) (e : EnvT) (r : RowT) (p : PartT) (e2 : EnvT) (r2 : RowT) (h : partE P (f + 1) e r p = some (.ok e2 r2)) : partsE P (f + 2) e r [p] = some (.ok e2 r2) := by
  rw [partsE, h]; rfl
theorem parts_fault (f : Nat) (e : EnvT) (r : RowT) (p : PartT) (l : List PartT) (n : Int) (t : List UInt8) (h : partE P (f + 1) e r p = some (.fault n t)) : partsE P (f + 2) e r (p :: l) = some (.fault n t) := by
  rw [partsE, h]
theorem parts_cons (f : Nat) (e : EnvT) (r : RowT) (p : PartT) (l : List PartT) (e2 : EnvT) (r2 : RowT) (h : partE P (f + 1) e r p = some (.ok e2 r2)) : partsE P (f + 2) e r (p :: l) = partsE P (f + 1) e2 r2 l := by
  rw [partsE, h]
theorem part_quo (f : Nat) (e : EnvT) (r : RowT) (t op : List UInt8) (q : Bool) (wd : List PartT) (h : r.1.length + t.length + 1 ≤ 1000000) (hv0 : e.vars.length ≤ 1000000) : partE P (f + 1) e r (.mk 2 t op q wd) = some (.ok e (putR r t 113)) := by
  rw [partE, if_neg (by decide), if_pos rfl]
  exact keepR_some (by have := putR_length r t 113; omega) hv0
theorem part_lit (f : Nat) (e : EnvT) (r : RowT) (t op : List UInt8) (q : Bool) (wd : List PartT) (h : r.1.length + t.length + 1 ≤ 1000000) (hv0 : e.vars.length ≤ 1000000) : partE P (f + 1) e r (.mk 1 t op q wd) = some (.ok e (putR r t 108)) := by
  rw [partE, if_pos rfl]
  exact keepR_some (by have := putR_length r t 108; omega) hv0
/-- A parameter's value: without an operation, or with one that comes to it, and cuts nothing. -/
theorem part_val (f : Nat) (e : EnvT) (r : RowT) (t op : List UInt8) (q : Bool) (wd : List PartT) (v : List UInt8) (hn : isName t = true) (hv : e.get t = some v) (hop : op ≠ [108, 101, 110]) (ht : (trimsF op).1 = false) (hd : doesP op v true = 1) (h : r.1.length + v.length + 1 ≤ 1000000) (hv0 : e.vars.length ≤ 1000000) :
    partE P (f + 1) e r (.mk 3 t op q wd) = some (.ok e (putR r v (sortC q))) := by
  have hna : ¬ (op = [] ∧ (t = [64] ∨ (t = [42] ∧ q = false))) := by
    rintro ⟨_, rfl | ⟨rfl, _⟩⟩ <;> exact absurd hn (by decide)
  rw [partE, if_neg (by decide), if_neg (by decide), if_neg (by decide), if_neg (by decide), if_pos rfl, if_neg hna, if_neg (by rw [hn]; decide), hv]
  simp only [Option.isSome_some, Option.getD_some, Bool.true_eq_false, false_and, if_false]
  rw [if_neg hop, if_pos hd, if_neg (by rw [ht]; decide)]
  exact keepR_some (by have := putR_length r v (sortC q); omega) hv0
/-- All arguments. -/
theorem part_args (f : Nat) (e : EnvT) (r : RowT) (q : Bool) (wd : List PartT) (h : (argsR r q e.args true).1.length ≤ 1000000) (hv0 : e.vars.length ≤ 1000000) : partE P (f + 1) e r (.mk 3 [64] [] q wd) = some (.ok e (argsR r q e.args true)) := by
  rw [partE, if_neg (by decide), if_neg (by decide), if_neg (by decide), if_neg (by decide), if_pos rfl, if_pos ⟨rfl, .inl rfl⟩]
  exact keepR_some h hv0
theorem argsR_length : ∀ (l : List (List UInt8)) (r : RowT) (q first : Bool) (N : Nat) (_ : ∀ a ∈ l, a.length ≤ N), (argsR r q l first).1.length ≤ r.1.length + l.length * (N + 3) := by
  intro l
  induction l with
  | nil => intro r q first N _; simp [argsR]
  | cons a l ih =>
    intro r q first N h
    have h1 := h a (by simp)
    have h2 := ih (putR (if first then r else putR r [32] 98) a (sortC q)) q false N (fun x hx => h x (List.mem_cons_of_mem _ hx))
    have h3 := putR_length (if first then r else putR r [32] 98) a (sortC q)
    have h4 : (if first then r else putR r [32] 98).1.length ≤ r.1.length + 2 := by
      cases first
      · have := putR_length r [32] 98; simpa using this
      · simp
    show (argsR (putR (if first then r else putR r [32] 98) a (sortC q)) q l false).1.length ≤ _
    rw [List.length_cons, Nat.add_mul]
    omega
/-- A name that isn't set, where that may not be. -/
theorem part_unset (f : Nat) (e : EnvT) (r : RowT) (t op : List UInt8) (q : Bool) (wd : List PartT) (hn : isName t = true) (hv : e.get t = none) (hu : e.has 117 = true) (ho : op ∉ aloneL) :
    partE P (f + 1) e r (.mk 3 t op q wd) = some (.fault 23 t) := by
  have hna : ¬ (op = [] ∧ (t = [64] ∨ (t = [42] ∧ q = false))) := by
    rintro ⟨_, rfl | ⟨rfl, _⟩⟩ <;> exact absurd hn (by decide)
  rw [partE, if_neg (by decide), if_neg (by decide), if_neg (by decide), if_neg (by decide), if_pos rfl, if_neg hna, if_neg (by rw [hn]; decide), hv]
  rw [if_pos ⟨rfl, hu, ho⟩]
/-- What a name comes to with one of the operations that ask whether it is set. -/
def condE (f : Nat) (e : EnvT) (r : RowT) (t op : List UInt8) (q : Bool) (wd : List PartT) : Option ExT :=
  if doesP op ((e.get t).getD []) (e.get t).isSome = 1 then keepR e (putR r ((e.get t).getD []) (sortC q))
  else if doesP op ((e.get t).getD []) (e.get t).isSome = 2 then (match partsE P f e ([], []) wd with
    | some (.ok e2 r2) => keepR e2 (if q then putR r (flatR r2) 113 else joinR r (r2.1, some2 r2.2))
    | x => x)
  else if doesP op ((e.get t).getD []) (e.get t).isSome = 3 then (match partsE P f e ([], []) wd with
    | some (.ok e2 r2) => keepR (e2.set t (flatR r2)) (putR r (flatR r2) (sortC q))
    | x => x)
  else if doesP op ((e.get t).getD []) (e.get t).isSome = 4 then some (.fault 23 t)
  else keepR e (putR r [] (sortC q))
theorem part_cond (f : Nat) (e : EnvT) (r : RowT) (t op : List UInt8) (q : Bool) (wd : List PartT) (hn : isName t = true) (ho : op ∈ aloneL) :
    partE P (f + 1) e r (.mk 3 t op q wd) = condE P f e r t op q wd := by
  have hna : ¬ (op = [] ∧ (t = [64] ∨ (t = [42] ∧ q = false))) := by
    rintro ⟨_, rfl | ⟨rfl, _⟩⟩ <;> exact absurd hn (by decide)
  have hl : op ≠ [108, 101, 110] := by rintro rfl; exact absurd ho (by decide)
  have ht : (trimsF op).1 = false := by
    have : ∀ o ∈ aloneL, (trimsF o).1 = false := by decide
    exact this op ho
  rw [partE, if_neg (by decide), if_neg (by decide), if_neg (by decide), if_neg (by decide), if_pos rfl, if_neg hna, if_neg (by rw [hn]; decide), if_neg (by rintro ⟨_, _, h⟩; exact h ho), if_neg hl]
  unfold condE
  rw [if_neg (show ¬ ((trimsF op).1 = true) by rw [ht]; decide)]
  rfl
end Go.Proofs.YtkmpbkhlcapbgaaGreatDoor
namespace Go.Proofs.YtkmpbkhlcapbgaaGreatDoor
open Go Go.RowKit
/-- Variables in memory, in blocks that S allows. -/
def RowS (w : World) (S : Nat → Prop) (v : Value) (l : List (ByteArray × ByteArray)) : Prop := RowV w v l ∧ ∀ a n c, v = .slice (some a) n c → S a.block ∧ a.block < w.heap.size
theorem RowS.keep {w w' : World} {S S' : Nat → Prop} (hs : w.heap.size ≤ w'.heap.size) (hk : ∀ b, S b → b < w.heap.size → w'.heap[b]? = w.heap[b]? ∧ S' b) {v : Value} {l : List (ByteArray × ByteArray)} (h : RowS w S v l) : RowS w' S' v l := by
  obtain ⟨⟨a, cap, rfl, h1, h2, h3⟩, h4⟩ := h
  refine ⟨⟨a, cap, rfl, h1, h2, ?_⟩, fun a' n c e => ?_⟩
  · rcases h3 with h3 | ⟨b, off, rfl, hc⟩
    · exact .inl h3
    · obtain ⟨q1, q2⟩ := h4 _ _ _ rfl
      have q3 := (hk b q1 q2).1
      exact .inr ⟨b, off, rfl, fun i hi => ⟨(World.cell?_of_block (w := w) (a := ⟨b, off + i * 2, none⟩) q3).trans (hc i hi).1, (World.cell?_of_block (w := w) (a := ⟨b, off + i * 2 + 1, none⟩) q3).trans (hc i hi).2⟩⟩
  · obtain ⟨q1, q2⟩ := h4 a' n c e
    exact ⟨(hk _ q1 q2).2, Nat.lt_of_lt_of_le q2 hs⟩
/-- Texts in memory, in blocks that S allows. -/
def ArgsS (w : World) (S : Nat → Prop) (v : Value) (l : List (List UInt8)) : Prop :=
  ∃ (a : Option Addr) (cap : Nat), v = .slice a l.length cap ∧ l.length ≤ cap ∧ l.length ≤ 1000000000 ∧ (l = [] ∨ ∃ b off, a = some ⟨b, off, none⟩ ∧ S b ∧ b < w.heap.size ∧ ∀ i (h : i < l.length), w.cell? ⟨b, off + i, none⟩ = some (.string ⟨l[i].toArray⟩))
theorem ArgsS.keep {w w' : World} {S S' : Nat → Prop} (hs : w.heap.size ≤ w'.heap.size) (hk : ∀ b, S b → b < w.heap.size → w'.heap[b]? = w.heap[b]? ∧ S' b) {v : Value} {l : List (List UInt8)} (h : ArgsS w S v l) : ArgsS w' S' v l := by
  obtain ⟨a, cap, rfl, h1, h2, h3⟩ := h
  refine ⟨a, cap, rfl, h1, h2, ?_⟩
  rcases h3 with h3 | ⟨b, off, rfl, q1, q2, hc⟩
  · exact .inl h3
  · exact .inr ⟨b, off, rfl, (hk b q1 q2).2, Nat.lt_of_lt_of_le q2 hs, fun i hi => (World.cell?_of_block (w := w) (a := ⟨b, off + i, none⟩) (hk b q1 q2).1).trans (hc i hi)⟩
/-- An Env's four values. -/
structure EnvC (w : World) (S : Nat → Prop) (vv av : Value) (e : EnvT) : Prop where
  vars : RowS w S vv (bv e.vars)
  args : ArgsS w S av e.args
  up : Rising e.vars
  few : e.vars.length ≤ 1000000
theorem EnvC.keep {w w' : World} {S S' : Nat → Prop} (hs : w.heap.size ≤ w'.heap.size) (hk : ∀ b, S b → b < w.heap.size → w'.heap[b]? = w.heap[b]? ∧ S' b) {vv av : Value} {e : EnvT} (h : EnvC w S vv av e) : EnvC w' S' vv av e :=
  ⟨h.vars.keep hs hk, h.args.keep hs hk, h.up, h.few⟩
def flB (e : EnvT) : ByteArray := ⟨e.flags.toArray⟩
theorem name_below (s : ByteArray) (hs : s.size ≤ 281474976710656) (h : isName s.data.toList = true) (W : World) : Calls Tryz.prog 25 #[.string s] W fun e w' => e = .returned (.bool true) ∧ Below W.heap.size W w' :=
  (name_at s true hs h W).mono fun e w' ⟨h1, h2⟩ => ⟨h1, by rw [← h2]; exact Below.refl _ _⟩
/-- What Get comes to, at a name. -/
theorem get_at (s : ByteArray) (hs : s.size ≤ 281474976710656) (hn : isName s.data.toList = true) (e : EnvT) (S : Nat → Prop) (vv av vs vf : Value) (w : World) (h : EnvC w S vv av e) :
    Calls Tryz.prog 15 #[.agg #[vv, av, vs, vf], .string s] w fun x w' => x = .returned (.tuple #[.string ⟨((e.get s.data.toList).getD []).toArray⟩, .bool (e.get s.data.toList).isSome]) ∧ Below w.heap.size w w' := by
  have hl := low_at h.up s
  unfold EnvT.get
  cases hf : (findF e.vars s.data.toList).2
  · rw [hf] at hl
    exact get_none s (name_below s hs hn) _ _ hl vv av vs vf w h.vars.1
  · rw [hf] at hl
    have hlt : lowF e.vars s.data.toList < e.vars.length := by
      rcases Nat.lt_or_ge (lowF e.vars s.data.toList) e.vars.length with q | q
      · exact q
      · have := findF_end e.vars s.data.toList (Nat.le_antisymm (lowF_le _ _) q)
        rw [this] at hf; cases hf
    have hlt2 : lowF e.vars s.data.toList < (bv e.vars).length := by rw [bv_length]; exact hlt
    have := get_some s (name_below s hs hn) _ _ hl hlt2 _ rfl av vs vf vv w h.vars.1
    rw [if_pos rfl, List.head?_drop, List.getElem?_eq_getElem hlt]
    simpa [bv] using this
theorem bv_cut (l : List (List UInt8 × List UInt8)) (s : List UInt8) : cutV (bv l) (lowF l s) (findF l s).2 = bv (unsetV l s) := by
  unfold cutV unsetV bv
  split <;> simp [List.map_take, List.map_drop]
theorem bv_ins (l : List (List UInt8 × List UInt8)) (s : ByteArray) (x : List UInt8) : (bv l).take (lowF l s.data.toList) ++ (s, ⟨x.toArray⟩) :: (bv l).drop (lowF l s.data.toList) = bv (l.take (lowF l s.data.toList) ++ (s.data.toList, x) :: l.drop (lowF l s.data.toList)) := by
  unfold bv
  simp [List.map_take, List.map_drop]
/-- What Set comes to, at a name. -/
theorem set_at (s x : ByteArray) (hs : s.size ≤ 281474976710656) (hn : isName s.data.toList = true) (e : EnvT) (S : Nat → Prop) (vv : Value) (aa : Option Addr) (na ca : Nat) (st : Int) (fl : ByteArray) (w : World) (h : EnvC w S vv (.slice aa na ca) e) (hfew : (e.set s.data.toList x.data.toList).vars.length ≤ 1000000) :
    Calls Tryz.prog 13 #[.agg #[vv, .slice aa na ca, .int .i64 st, .string fl], .string s, .string x] w fun r w' => ∃ v', r = .returned (.agg #[v', .slice aa na ca, .int .i64 st, .string fl]) ∧ EnvC w' (fun b => S b ∨ w.heap.size ≤ b) v' (.slice aa na ca) (e.set s.data.toList x.data.toList) ∧ v'.oneCell' = true ∧ Below w.heap.size w w' := by
  have hl := low_at h.up s
  have hup : Rising (unsetV e.vars s.data.toList) := by rw [unsetV_rem]; exact rem_rising h.up
  have hl2 := low_at hup s
  rw [← bv_cut] at hl2
  have hlen : (cutV (bv e.vars) (lowF e.vars s.data.toList) (findF e.vars s.data.toList).2).length < 1000000000 := by
    rw [bv_cut, bv_length]
    have := unsetV_length e.vars s.data.toList
    have := h.few
    omega
  have hset : (e.set s.data.toList x.data.toList).vars = setV e.vars s.data.toList x.data.toList := by unfold EnvT.set; rw [if_pos hn]
  have hargs : (e.set s.data.toList x.data.toList).args = e.args := by unfold EnvT.set; rw [if_pos hn]
  refine (set_any s x (name_below s hs hn) _ _ _ _ _ hl hl2 hlen vv aa na ca st fl w h.vars.1).mono ?_
  rintro r w' ⟨v', rfl, ho, hb⟩
  rw [bv_cut] at ho
  have e1 : (bv (unsetV e.vars s.data.toList)).take (lowF (unsetV e.vars s.data.toList) s.data.toList) ++ (s, x) :: (bv (unsetV e.vars s.data.toList)).drop (lowF (unsetV e.vars s.data.toList) s.data.toList) = bv (setV e.vars s.data.toList x.data.toList) := by
    have := bv_ins (unsetV e.vars s.data.toList) s x.data.toList
    rw [Lib.mk_data] at this
    rw [this]; rfl
  rw [e1] at ho
  refine ⟨v', rfl, ⟨⟨by rw [hset]; exact ho.row, fun a n c e2 => ?_⟩, ?_, ?_, hfew⟩, ?_, hb⟩
  · have h3 := ho.1.lt a.block (by rw [e2]; rfl)
    exact ⟨.inr h3.1, h3.2⟩
  · rw [hargs]
    exact h.args.keep hb.size fun b q1 q2 => ⟨hb.block b q2, .inl q1⟩
  · rw [hset, set_ins h.up]; exact ins_rising h.up
  · obtain ⟨a, c, e2⟩ := own_slice ho.1
    rw [e2]; rfl
theorem index_contains (c : UInt8) : ∀ l : List UInt8, decide (0 ≤ Lib.indexByte l c) = l.contains c := by
  intro l
  induction l with
  | nil => rfl
  | cons a l ih =>
    unfold Lib.indexByte
    by_cases h : a = c
    · subst h; simp
    · have h2 : ¬ c = a := fun e => h e.symm
      rw [List.contains_cons]
      have h3 : (c == a) = false := by simpa using h2
      rw [h3, Bool.false_or, ← ih]
      have h4 : (a == c) = false := by simpa using h
      have := Lib.indexByte_ge l c
      simp only [h4, Bool.false_eq_true, if_false]
      by_cases h5 : Lib.indexByte l c = -1
      · rw [h5]; rfl
      · have h6 : (Lib.indexByte l c == -1) = false := by simpa using h5
        rw [h6]
        simp only [Bool.false_eq_true, if_false]
        rw [decide_eq_decide]; omega
/-- What Has comes to. -/
theorem hasE_at (vv av vs : Value) (e : EnvT) (c : UInt8) (w : World) :
    Calls Tryz.prog 38 #[.agg #[vv, av, vs, .string ⟨e.flags.toArray⟩], .int .u8 (c.toNat : Int)] w fun x w' => x = .returned (.bool (e.has c)) ∧ Below w.heap.size w w' := by
  have := has_any vv av vs ⟨e.flags.toArray⟩ (c.toNat : Int) w
  have e1 : (c.toNat : Int).toNat.toUInt8 = c := by simp
  rw [e1, index_contains] at this
  exact this
end Go.Proofs.YtkmpbkhlcapbgaaGreatDoor
namespace Go.Proofs.YtkmpbkhlcapbgaaGreatDoor
open Go Go.RowKit
theorem two_facts {W : World} {b e : Nat} {x0 x1 : Value} (r : RowIs W b e [x0, x1]) :
    W.cell? ⟨b, 0, none⟩ = some x0 ∧ W.cell? ⟨b, 1, none⟩ = some x1 ∧ W.frozen? ⟨b, 0, none⟩ = false ∧ W.frozen? ⟨b, 1, none⟩ = false ∧ b < W.heap.size :=
  ⟨by rw [r.cell]; rfl, by rw [r.cell]; rfl, r.free _, r.free _, r.lt⟩
/-- 'string(b[i:i+1])'. -/
theorem run_str1o {P : Program} {src dst e : TypeId} (hs : P.underlying src = some (.slice e)) (he : P.underlying e = some (.int .u8)) (hd : P.underlying dst = some .string) (w : World) (b off cap : Nat) (x : Int)
    (hc : w.cell? ⟨b, off, none⟩ = some (.int .u8 x)) :
    Sem.run P (convert src dst (.slice (some ⟨b, off, none⟩) 1 cap)) w = .ok (.string ⟨[UInt8.ofNat x.toNat].toArray⟩) w := by
  have := run_convert_bytes_arg (P := P) w src e hs he b off 1 cap [x] rfl (fun i hi => by
    obtain rfl : i = 0 := by omega
    simpa using hc) dst hd
  rw [this]
  rfl
set_option maxRecDepth 100000 in
set_option maxHeartbeats 4000000 in
theorem add_at (t m : ByteArray) (x y : UInt8) (h1 : t.size ≤ 2000000000) (h2 : m.size ≤ 2000000000) (w : World) :
    Calls Tryz.prog 51 #[.agg #[.string t, .string m], .agg #[.int .u8 (x.toNat : Int), .int .u8 (y.toNat : Int)]] w fun e w' => e = .returned (.agg #[.string (t ++ ⟨#[x]⟩), .string (m ++ ⟨#[y]⟩)]) ∧ Below w.heap.size w w' := by
  have hst := fun (w : World) (b off cap : Nat) (x : Int) => run_str1o (P := Tryz.prog) Tryz.underlying73 Tryz.underlying5 Tryz.underlying9 w b off cap x
  have hc1 : ¬ 9223372036854775807 < t.size + 1 := by omega
  have hc2 : ¬ 9223372036854775807 < m.size + 1 := by omega
  have hc3 : t.size + 1 ≤ 9223372036854775807 := by omega
  have hc4 : m.size + 1 ≤ 9223372036854775807 := by omega
  go_enter Tryz.func51, Tryz.ntmps51
  go_wp2_with fail
  go_region
  go_wp2_with fail
  have hB := ((((Below.refl w.heap.size w).alloc (Nat.le_refl _) (.cells #[.string t, .string m] 38)).alloc (by simp) (.cells #[.int .u8 (x.toNat : Int), .int .u8 (y.toNat : Int)] 100)).alloc (by simp; omega) (.cells #[.string (t ++ ⟨#[x]⟩), .string (m ++ ⟨#[y]⟩)] 38)).drew
  exact bodyPost_ret (v := .agg #[.string (t ++ ⟨#[x]⟩), .string (m ++ ⟨#[y]⟩)]) (by simp [results, Tryz.results51, go_sem]) rfl ⟨rfl, hB⟩
end Go.Proofs.YtkmpbkhlcapbgaaGreatDoor
