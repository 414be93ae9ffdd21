/-
  DERIVED. The walks of the library's ParseInt at base 0 and 64 bits, the inner one and the one that is called: the number, or some error. The plain law of digits: what is looked at ahead of ParseInt, and what ParseInt gathers, are the document's Digits. No program in sight. strings.IndexRune at runes beyond ASCII, strings.IndexAny and ContainsAny of whatever bytes, with the five letters that arith's digits asks for.
-/
import Derived.Test.YtkmpbkhlcapbgaaGreatDoorZ34
import Derived.Test.YtkmpbkhlcapbgaaGreatDoorZ11
import Derived.Test.YtkmpbkhlcapbgaaGreatDoorShelf
import Derived.Lib.IfaceNeq
import Derived.Shelf.Strings.CaseAny
import Derived.Test.YtkmpbkhlcapbgaaGreatDoorZ33
import Derived.Lib.IndexAny
import Derived.Lib.Case
import Derived.Test.YtkmpbkhlcapbgaaGreatDoorZ01
import Derived.Laws.Runes
import Derived.Laws.RangeAny
import Derived.WalkMore
import Derived.Deep.RegionHeld3
import Derived.Lib.OthersKept
import Derived.Shelf.Strings.IndexAnyAll
namespace Go.Proofs.YtkmpbkhlcapbgaaGreatDoor
open Go.RowKit
/-- What ParseInt comes to, given what is gathered without a sign: the number, if it is one of 64 bits; or some error, of one of two kinds. -/
def PiPost (R : Option Int) (w : World) (e : Ending) (w' : World) : Prop :=
  Below w.heap.size w w' ∧ match (R.bind fun v => if v ≤ maxI then some v else none) with
  | some v => e = .returned (.tuple #[.int .i64 v, .nilIface])
  | none => ∃ x k : Int, (k = 1 ∨ k = 2) ∧ e = .returned (.tuple #[.int .i64 x, .iface 155 (.int .i64 k)])
theorem pi_some {w w' : World} {v x : Int} (hb : Below w.heap.size w w') (h1 : v ≤ maxI) (h : v = x) : PiPost (some v) w (.returned (.tuple #[.int .i64 x, .nilIface])) w' := by
  subst h; refine ⟨hb, ?_⟩; simp [h1]
theorem pi_big {w w' : World} {v x : Int} (hb : Below w.heap.size w w') (h1 : ¬ v ≤ maxI) : PiPost (some v) w (.returned (.tuple #[.int .i64 x, .iface 155 (.int .i64 1)])) w' := by
  refine ⟨hb, ?_⟩; simp only [Option.bind_some, if_neg h1]; exact ⟨x, 1, .inl rfl, rfl⟩
theorem pi_none {w w' : World} {x k : Int} (hb : Below w.heap.size w w') (hk : k = 1 ∨ k = 2) : PiPost none w (.returned (.tuple #[.int .i64 x, .iface 155 (.int .i64 k)])) w' := ⟨hb, x, k, hk, rfl⟩
theorem cmpE : (Tryz.prog.info? 155).map (·.comparable) = some true := by kernel_rfl
set_option maxRecDepth 100000 in
set_option maxHeartbeats 8000000 in
theorem pint_any (s : ByteArray) (hpos : 0 < s.size) (h43 : bt s 0 ≠ 43) (h45 : bt s 0 ≠ 45) (R : Option Int) (hR : ∀ v, R = some v → 0 ≤ v ∧ v ≤ maxU) (w : World)
    (hpu : ∀ w, Calls Tryz.prog 142 #[.string s, .int .i64 0, .int .i64 64] w (PuPost R w)) :
    Calls Tryz.prog 114 #[.string s, .int .i64 0, .int .i64 64] w (PiPost R w) := by
  have HPU := Lib.hid hpu
  have hgs := get_bt s
  have hem : s.toList.isEmpty = false := by rw [empty_iff]; simp [hpos]
  have c1 : (bt s 0 == 43) = false := by simp [h43]
  have c2 : (bt s 0 == 45) = false := by simp [h45]
  clear h43 h45 hpu
  have hsh : IntKind.u64.wrap 9223372036854775808 = 9223372036854775808 := by rw [IntKind.wrap_u64]; decide
  have hneq := fun (W : World) (a b : Int) => Lib.run_neq_iface_int (P := Tryz.prog) W (t := 116) (tx := 155) (k := .i64) a b Tryz.underlying116 cmpE Tryz.underlying155
  go_enter Tryz.func114, Tryz.ntmps114
  go_wp2_with fail
  refine (HPU.out _).mono ?_
  rintro e w1 ⟨hb, hp⟩
  cases R with
  | some v =>
    simp only at hp
    subst hp
    obtain ⟨hv0, hv1⟩ := hR v rfl
    rw [maxU_eq] at hv1
    clear hR HPU
    by_cases hv : v ≤ 9223372036854775807
    · have hlt : v < 9223372036854775808 := by omega
      go_wp2_with fail
      go_ret2
      exact pi_some hb (by rw [maxI_eq]; exact hv) (by first | rfl | omega)
    · have hge : 9223372036854775808 ≤ v := by omega
      go_wp2_with fail
      go_ret2
      exact pi_big hb (by rw [maxI_eq]; omega)
  | none =>
    simp only at hp
    obtain ⟨x, k, hk, rfl⟩ := hp
    clear hR HPU
    rcases hk with ⟨rfl, rfl⟩ | ⟨rfl, rfl⟩
    · go_wp2_with fail
      go_ret2
      exact pi_none hb (.inl rfl)
    · go_wp2_with fail
      go_ret2
      exact pi_none hb (.inr rfl)
/-- Some error, in new memory. -/
def ErrPost (w : World) (e : Ending) (w' : World) : Prop := Below w.heap.size w w' ∧ ∃ te pe, e = .returned (.iface te pe)
theorem toErr_any (s : ByteArray) (k : Int) (hk : k = 1 ∨ k = 2) (hs : s.size ≤ 281474976710656) (w : World) (hE : Env w) :
    Calls Tryz.prog 83 #[.string ⟨#[80, 97, 114, 115, 101, 73, 110, 116]⟩, .string s, .int .i64 0, .int .i64 64, .iface 155 (.int .i64 k)] w (ErrPost w) := by
  rcases hk with rfl | rfl
  · obtain ⟨ev, h1, h2⟩ := hE.rng
    exact (Tryz.strconv_toError_range _ s 0 64 ev w hs h1 h2).mono fun e w' ⟨N, he, _, _, hb⟩ => ⟨hb, _, _, he⟩
  · obtain ⟨ev, h1, h2⟩ := hE.syn
    exact (Tryz.strconv_toError_syntax _ s 0 64 ev w hs h1 h2).mono fun e w' ⟨N, he, _, _, hb⟩ => ⟨hb, _, _, he⟩
/-- What the called ParseInt comes to. -/
def PpPost (R : Option Int) (w : World) (e : Ending) (w' : World) : Prop :=
  Below w.heap.size w w' ∧ match R with
  | some v => e = .returned (.tuple #[.int .i64 v, .nilIface])
  | none => ∃ (x : Int) (te : TypeId) (pe : Value), e = .returned (.tuple #[.int .i64 x, .iface te pe])
theorem pp_none {w w' : World} {x : Int} {te : TypeId} {pe : Value} (hb : Below w.heap.size w w') : PpPost none w (.returned (.tuple #[.int .i64 x, .iface te pe])) w' := ⟨hb, x, te, pe, rfl⟩
theorem pp_some {w w' : World} {v : Int} (hb : Below w.heap.size w w') : PpPost (some v) w (.returned (.tuple #[.int .i64 v, .nilIface])) w' := ⟨hb, rfl⟩
set_option maxRecDepth 100000 in
set_option maxHeartbeats 4000000 in
theorem ppint_any (s : ByteArray) (hs : s.size ≤ 281474976710656) (R R' : Option Int) (hR : (R.bind fun v => if v ≤ maxI then some v else none) = R') (w : World) (hE : Env w)
    (hpi : ∀ w, Calls Tryz.prog 114 #[.string s, .int .i64 0, .int .i64 64] w (PiPost R w)) :
    Calls Tryz.prog 218 #[.string s, .int .i64 0, .int .i64 64] w (PpPost R' w) := by
  have HPI := Lib.hid hpi; have HE := Lib.hid hE; have HR := Lib.hid hR
  clear hpi hE hR
  go_enter Tryz.func218, Tryz.ntmps218
  go_wp2_with fail
  refine (HPI.out _).mono ?_
  rintro e w1 ⟨hb, hp⟩
  rw [HR.out] at hp
  cases R' with
  | some v =>
    simp only at hp
    subst hp
    go_wp2_with fail
    go_ret2
    exact pp_some hb
  | none =>
    simp only at hp
    obtain ⟨x, k, hk, rfl⟩ := hp
    have HT := Lib.hid (toErr_any s k hk hs w1 (HE.out.keep hb))
    go_wp2_with fail
    refine HT.out.mono ?_
    rintro e w2 ⟨hb2, te, pe, rfl⟩
    go_wp2_with fail
    go_ret2
    exact pp_none (hb.trans (hb2.mono hb.size))
end Go.Proofs.YtkmpbkhlcapbgaaGreatDoor
namespace Go.Proofs.YtkmpbkhlcapbgaaGreatDoor
open Go
def chB : List UInt8 := [95, 98, 66, 111, 79]
theorem dig_all (B : Int) : ∀ (l : List Int) (n r : Int), digGo B l n = some r → ∀ c ∈ l, digitV c < B := by
  intro l
  induction l with
  | nil => intro n r _ c hc; simp at hc
  | cons x l ih =>
    intro n r h c hc
    simp only [digGo] at h
    split at h
    · cases h
    · rename_i hn
      rcases List.mem_cons.1 hc with rfl | hc
      · omega
      · exact ih _ _ h c hc
theorem any_iff (cs : List UInt8) : ∀ l : List UInt8, 0 ≤ Lib.indexAny l cs ↔ l.any cs.contains = true := by
  intro l
  induction l with
  | nil => simp [Lib.indexAny]
  | cons x l ih =>
    have h1 := Lib.indexAny_ge cs l
    have e : Lib.indexAny (x :: l) cs = if cs.contains x then 0 else if Lib.indexAny l cs == -1 then -1 else Lib.indexAny l cs + 1 := rfl
    rw [e, List.any_cons, Bool.or_eq_true, ← ih]
    by_cases hx : cs.contains x = true
    · rw [if_pos hx]; exact ⟨fun _ => .inl hx, fun _ => by omega⟩
    · rw [if_neg hx]
      by_cases h2 : Lib.indexAny l cs = -1
      · rw [if_pos (by rw [h2]; rfl), h2]
        exact ⟨fun h => by omega, fun h => h.elim (fun h => absurd h hx) (fun h => by omega)⟩
      · rw [if_neg (by simpa using h2)]
        exact ⟨fun h => .inr (by omega), fun h => h.elim (fun h => absurd h hx) (fun h => by omega)⟩
theorem any_eq (cs : List UInt8) (l : List UInt8) : Lib.containsAny l cs = l.any cs.contains := by
  rw [Bool.eq_iff_iff, ← any_iff]; unfold Lib.containsAny; exact decide_eq_true_iff
theorem one_eq (l : List UInt8) (c : UInt8) : decide (0 ≤ Lib.indexByte l c) = l.any [c].contains := by
  rw [← any_eq, Lib.containsAny, Lib.indexAny_one]
theorem byte_eq (c : UInt8) (k : Nat) (hk : k < 256) : c = UInt8.ofNat k ↔ (c.toNat : Int) = (k : Int) := by
  constructor
  · intro e; rw [e, UInt8.toNat_ofNat_of_lt' (by simpa [UInt8.size] using hk)]
  · intro e
    refine UInt8.toNat_inj.1 ?_
    rw [UInt8.toNat_ofNat_of_lt' (by simpa [UInt8.size] using hk)]; omega
/-- Does some byte of a text be one of some? -/
theorem any_bt {s : ByteArray} {f : UInt8 → Bool} {P : Int → Prop} (hf : ∀ c : UInt8, f c = true ↔ P (c.toNat : Int)) : s.data.toList.any f = true ↔ ∃ k, k < s.size ∧ P (bt s k) := by
  rw [List.any_eq_true]
  constructor
  · rintro ⟨c, hc, h⟩
    obtain ⟨k, hk, rfl⟩ := List.getElem_of_mem hc
    have hk2 : k < s.size := by rw [Lib.size_eq]; exact hk
    refine ⟨k, hk2, ?_⟩
    have := (hf _).1 h
    rw [← get_bt s k hk2]
    have e : s[k] = s.data.toList[k] := by simp; rfl
    rw [e]; exact this
  · rintro ⟨k, hk, h⟩
    have hk2 : k < s.data.toList.length := by rw [← Lib.size_eq]; exact hk
    refine ⟨s.data.toList[k], List.getElem_mem hk2, (hf _).2 ?_⟩
    have e : s[k] = s.data.toList[k] := by simp; rfl
    rw [← get_bt s k hk, e] at h
    exact h
theorem ch_iff (c : UInt8) : chB.contains c = true ↔ ((c.toNat : Int) = 95 ∨ (c.toNat : Int) = 98 ∨ (c.toNat : Int) = 66 ∨ (c.toNat : Int) = 111 ∨ (c.toNat : Int) = 79) := by
  have h1 := byte_eq c 95 (by omega); have h2 := byte_eq c 98 (by omega); have h3 := byte_eq c 66 (by omega); have h4 := byte_eq c 111 (by omega); have h5 := byte_eq c 79 (by omega)
  unfold chB
  simp only [List.contains_cons, List.contains_nil, Bool.or_false, Bool.or_eq_true, beq_iff_eq]
  exact or_congr h1 (or_congr h2 (or_congr h3 (or_congr h4 h5)))
theorem us_iff (c : UInt8) : ([95] : List UInt8).contains c = true ↔ (c.toNat : Int) = 95 := by
  have h1 := byte_eq c 95 (by omega)
  simp only [List.contains_cons, List.contains_nil, Bool.or_false, beq_iff_eq]
  exact h1
def anyCh (s : ByteArray) : Bool := Lib.containsAny s.data.toList chB
def anyUs (s : ByteArray) : Bool := decide (0 ≤ Lib.indexByte s.data.toList 95)
def hexP (s : ByteArray) : Bool := Lib.hasPrefix (Lib.toLowerA s.data.toList) [48, 120]
theorem anyCh_iff (s : ByteArray) : anyCh s = true ↔ ∃ k, k < s.size ∧ (bt s k = 95 ∨ bt s k = 98 ∨ bt s k = 66 ∨ bt s k = 111 ∨ bt s k = 79) := by
  unfold anyCh; rw [any_eq]; exact any_bt (P := fun x => x = 95 ∨ x = 98 ∨ x = 66 ∨ x = 111 ∨ x = 79) ch_iff
theorem anyUs_iff (s : ByteArray) : anyUs s = true ↔ ∃ k, k < s.size ∧ bt s k = 95 := by
  unfold anyUs; rw [one_eq]; exact any_bt (P := fun x => x = 95) us_iff
theorem low_fin : ∀ k : Fin 256, (Lib.lowerB (UInt8.ofNat k.val) = 48 ↔ UInt8.ofNat k.val = 48) ∧ (Lib.lowerB (UInt8.ofNat k.val) = 120 ↔ UInt8.ofNat k.val = 120 ∨ UInt8.ofNat k.val = 88) := by decide +kernel
theorem low48 (c : UInt8) : Lib.lowerB c = 48 ↔ c = 48 := by
  have := (low_fin ⟨c.toNat, c.toNat_lt⟩).1; simpa using this
theorem low120 (c : UInt8) : Lib.lowerB c = 120 ↔ c = 120 ∨ c = 88 := by
  have := (low_fin ⟨c.toNat, c.toNat_lt⟩).2; simpa using this
theorem hexP_iff (s : ByteArray) : hexP s = true ↔ 2 ≤ s.size ∧ bt s 0 = 48 ∧ (bt s 1 = 120 ∨ bt s 1 = 88) := by
  have hget : ∀ k (h : k < s.data.toList.length), bt s k = ((s.data.toList[k]).toNat : Int) := fun k h => by
    have hk : k < s.size := by rw [Lib.size_eq]; exact h
    rw [← get_bt s k hk]
    have e : s[k] = s.data.toList[k] := by simp; rfl
    rw [e]
  unfold hexP Lib.hasPrefix Lib.toLowerA
  rw [Lib.size_eq]
  cases hl : s.data.toList with
  | nil => simp
  | cons x r =>
    cases hr : r with
    | nil => simp [List.isPrefixOf]
    | cons y r2 =>
      have h0 := hget 0 (by rw [hl]; simp)
      have h1 := hget 1 (by rw [hl, hr]; simp)
      simp only [hl, hr, List.getElem_cons_zero, List.getElem_cons_succ] at h0 h1
      rw [h0, h1]
      simp only [List.map_cons, List.isPrefixOf, Bool.and_true, Bool.and_eq_true, beq_iff_eq, List.length_cons]
      have a1 := low48 x; have a2 := low120 y
      have b1 := byte_eq x 48 (by omega); have b2 := byte_eq y 120 (by omega); have b3 := byte_eq y 88 (by omega)
      constructor
      · rintro ⟨e1, e2⟩
        refine ⟨by omega, b1.1 (a1.1 e1.symm), ?_⟩
        rcases a2.1 e2.symm with e | e
        · exact .inl (b2.1 e)
        · exact .inr (b3.1 e)
      · rintro ⟨_, e1, e2⟩
        refine ⟨(a1.2 (b1.2 e1)).symm, (a2.2 ?_).symm⟩
        rcases e2 with e | e
        · exact .inl (b2.2 e)
        · exact .inr (b3.2 e)
theorem bl_mem {s : ByteArray} {k F : Nat} (h : k < s.size) (hF : F ≤ k) : bt s k ∈ (bl s).drop F := by
  rw [← bl_get s k h]
  have e : (bl s)[k]'(by rw [bl_length]; exact h) = ((bl s).drop F)[k - F]'(by rw [List.length_drop, bl_length]; omega) := by
    rw [List.getElem_drop]; congr 1; omega
  rw [e]; exact List.getElem_mem _
/-- What digits refuses ahead of ParseInt is no number. -/
theorem dig_refused (s : ByteArray) (h : (anyCh s && !hexP s || anyUs s) = true) : digitsF s = none := by
  cases hd : digitsF s with
  | none => rfl
  | some r =>
    exfalso
    unfold digitsF at hd
    split at hd
    · cases hd
    rename_i h0
    have hall := dig_all _ _ _ _ hd
    rw [Bool.or_eq_true] at h
    have dv95 : digitV 95 = 16 := by decide
    have dv98 : digitV 98 = 11 := by decide
    have dv66 : digitV 66 = 11 := by decide
    have dv111 : digitV 111 = 16 := by decide
    have dv79 : digitV 79 = 16 := by decide
    unfold baseF at hall
    split at hall
    · rename_i h1
      obtain ⟨h1, h2, h3⟩ := h1
      have hx : hexP s = true := (hexP_iff s).2 ⟨by omega, h2, h3⟩
      rw [hx] at h
      simp at h
      obtain ⟨k, hk, e⟩ := (anyUs_iff s).1 h
      by_cases hk2 : 2 ≤ k
      · have := hall _ (bl_mem hk hk2); rw [e, dv95] at this; omega
      · rcases (show k = 0 ∨ k = 1 by omega) with rfl | rfl <;> omega
    · rename_i h1
      have key : ∀ (B : Int) (F : Nat), B ≤ 10 → (F = 0 ∨ (F = 1 ∧ bt s 0 = 48)) → (∀ c ∈ (bl s).drop F, digitV c < B) → ∀ k, k < s.size → (bt s k = 95 ∨ bt s k = 98 ∨ bt s k = 66 ∨ bt s k = 111 ∨ bt s k = 79) → False := by
        intro B F hB hF hA k hk e
        by_cases hkF : F ≤ k
        · have := hA _ (bl_mem hk hkF)
          rcases e with e | e | e | e | e <;> rw [e] at this <;> simp only [dv95, dv98, dv66, dv111, dv79] at this <;> omega
        · rcases hF with rfl | ⟨rfl, h48⟩
          · omega
          · obtain rfl : k = 0 := by omega
            omega
      have hex : ∃ k, k < s.size ∧ (bt s k = 95 ∨ bt s k = 98 ∨ bt s k = 66 ∨ bt s k = 111 ∨ bt s k = 79) := by
        rcases h with h | h
        · rw [Bool.and_eq_true] at h; exact (anyCh_iff s).1 h.1
        · obtain ⟨k, hk, e⟩ := (anyUs_iff s).1 h; exact ⟨k, hk, .inl e⟩
      obtain ⟨k, hk, e⟩ := hex
      split at hall
      · rename_i h2; exact key 8 1 (by omega) (.inr ⟨rfl, h2.2⟩) hall k hk e
      · exact key 10 0 (by omega) (.inl rfl) hall k hk e
theorem dig_first (s : ByteArray) (_h0 : 0 < s.size) (h : ¬ (48 ≤ bt s 0 ∧ bt s 0 ≤ 57)) : digitsF s = none := by
  have hb : baseF s = (10, 0) := by unfold baseF; rw [if_neg (fun e => h (by have := e.2.1; omega)), if_neg (fun e => h (by have := e.2; omega))]
  unfold digitsF
  rw [if_neg (by omega), hb]
  simp only
  rw [bl_drop s 0 (by omega)]
  simp only [digGo]
  rw [if_pos]
  left
  unfold digitV
  rw [if_neg h]
  split
  · omega
  · split <;> omega
end Go.Proofs.YtkmpbkhlcapbgaaGreatDoor
namespace Go.Proofs.YtkmpbkhlcapbgaaGreatDoor
open Go.RowKit
/-- "_bBoO". -/
def five : ByteArray := ⟨#[95, 98, 66, 111, 79]⟩
theorem five_low : ∀ b ∈ five.data.toList, b.toNat < 128 := by decide
theorem five_bt : ∀ k, bt five k < 128 := fun k => by
  unfold bt
  split
  · rename_i h
    have := five_low _ (Array.getElem_mem_toList (xs := five.data) h)
    have e : five[k] = five.data[k] := rfl
    rw [e]; omega
  · omega
theorem five_no (c : UInt8) (h : 128 ≤ c.toNat) : five.data.toList.contains c = false := by
  cases hc : five.data.toList.contains c with
  | false => rfl
  | true => have := five_low c (List.contains_iff_mem.1 hc); omega
theorem five_none (c : UInt8) (a e : Nat) (h : 128 ≤ c.toNat) : Lib.indexByte (five.extract a e).data.toList c = -1 := by
  have key : ∀ l : List UInt8, (∀ b ∈ l, b.toNat < 128) → Lib.indexByte l c = -1 := fun l hl => by
    have h1 := Lib.contains_iff_indexByte l c
    have h2 : l.contains c = false := by
      cases hc : l.contains c with
      | false => rfl
      | true => have := hl c (List.contains_iff_mem.1 hc); omega
    rw [h2] at h1
    have h3 := of_decide_eq_false h1.symm
    have h4 := Lib.indexAny_ge [c] l
    rw [Lib.indexAny_one] at h4
    omega
  exact key _ fun b hb => five_low b (mem_extract hb)
/-- A rune that begins with a byte from 128 on: how many bytes it takes, and none of them is below. -/
theorem decode_width (s : ByteArray) (i : Nat) (h : i < s.size) (ha : 128 ≤ (s.get! (i + 0)).toNat) :
    1 ≤ (Utf8.decode s i).2 ∧ i + (Utf8.decode s i).2 ≤ s.size ∧ ∀ k, k < (Utf8.decode s i).2 → 128 ≤ (s.get! (i + k)).toNat := by
  have hn : ¬ (s.get! (i + 0)).toNat < 128 := by omega
  have one : (1 : Nat) ≤ 1 ∧ i + 1 ≤ s.size ∧ ∀ k, k < 1 → 128 ≤ (s.get! (i + k)).toNat := ⟨by omega, by omega, fun k hk => by
    have e : k = 0 := by omega
    subst e
    exact ha⟩
  simp only [Utf8.decode, hn, if_false]
  split
  · rename_i hc
    simp only [Bool.and_eq_true, beq_iff_eq, decide_eq_true_eq] at hc
    split
    · refine ⟨by simp, by simp only; omega, fun k hk => ?_⟩
      simp only at hk
      match k, hk with
      | 0, _ => exact ha
      | 1, _ => omega
      | n + 2, hk => omega
    · exact one
  · split
    · rename_i hc
      simp only [Bool.and_eq_true, beq_iff_eq, decide_eq_true_eq] at hc
      split
      · refine ⟨by simp, by simp only; omega, fun k hk => ?_⟩
        simp only at hk
        match k, hk with
        | 0, _ => exact ha
        | 1, _ => omega
        | 2, _ => omega
        | n + 3, hk => omega
      · exact one
    · split
      · rename_i hc
        simp only [Bool.and_eq_true, beq_iff_eq, decide_eq_true_eq] at hc
        split
        · refine ⟨by simp, by simp only; omega, fun k hk => ?_⟩
          simp only at hk
          match k, hk with
          | 0, _ => exact ha
          | 1, _ => omega
          | 2, _ => omega
          | 3, _ => omega
          | n + 4, hk => omega
        · exact one
      · exact one
theorem noAny_jump {s : ByteArray} {i d : Nat} (h : Lib.NoAny s.data.toList five.data.toList i) (hd : i + d ≤ s.size) (hb : ∀ k, k < d → 128 ≤ (s.get! (i + k)).toNat) : Lib.NoAny s.data.toList five.data.toList (i + d) := fun j b hj hbj => by
  by_cases e : j < i
  · exact h j b e hbj
  · have hjs : j < s.size := by omega
    have h1 := Lib.data_getElem? s j hjs
    rw [hbj] at h1
    have h2 := hb (j - i) (by omega)
    rw [show i + (j - i) = j + 0 by omega, Go.get_at s j hjs] at h2
    obtain rfl := Option.some.inj h1
    exact five_no _ h2
set_option maxRecDepth 100000 in
set_option maxHeartbeats 4000000 in
theorem irune_bad (w : World) :
    Calls Tryz.prog 207 #[.string five, .int .i32 65533] w fun e w' => e = .returned (.int .i64 (-1)) ∧ Below w.heap.size w w' := by
  go_enter Tryz.func207, Tryz.ntmps207
  go_wp2_with fail
  go_loopg [5, 6] 5 (fun g _ _ wx => ∃ i : Nat, i + g = 5 ∧ wx = w.iter five i)
  case atStart => exact ⟨0, rfl, rfl⟩
  case round =>
    obtain ⟨i, hig, rfl⟩ := hrel
    cases gk with
    | zero =>
      obtain rfl : i = 5 := by omega
      have hnx := fun ty => run_next_end (P := Tryz.prog) w five 5 ty (by decide)
      go_wp2
      go_ret
      exact ⟨rfl, (Below.refl _ _).alloc (Nat.le_refl _) _⟩
    | succ g =>
      have hi : i < five.size := by show i < 5; omega
      have hx128 : (five[i]'hi).toNat < 128 := five_low _ (Array.getElem_mem_toList (xs := five.data) hi)
      have hnx := fun ty => run_next_ascii (P := Tryz.prog) w five i ty hi hx128
      obtain ⟨x, hx⟩ : ∃ x : Nat, (five[i]'hi).toNat = x := ⟨_, rfl⟩
      rw [hx] at hnx hx128
      have hne : ((x : Int) == 65533) = false := beq_eq_false_iff_ne.2 (by omega)
      clear hx
      go_wp2
      go_roundg g
      case measure => omega
      case rel => exact ⟨i + 1, by omega, rfl⟩
set_option maxRecDepth 100000 in
set_option maxHeartbeats 4000000 in
theorem irune_invalid (r : Int) (h128 : 128 ≤ r) (h1 : r ≤ 2147483647) (hne : r ≠ 65533) (hv : Lib.validRune r = false) (w : World) :
    Calls Tryz.prog 207 #[.string five, .int .i32 r] w fun e w' => e = .returned (.int .i64 (-1)) ∧ Below w.heap.size w w' := by
  have hv' := Tryz.utf8_ValidRune r w
  rw [hv] at hv'
  have HV := Lib.hid hv'
  have e1 : (r == 65533) = false := beq_eq_false_iff_ne.2 hne
  have e2 : ¬ r < 128 := by omega
  clear hv hv' hne
  go_enter Tryz.func207, Tryz.ntmps207
  go_wp2_with fail
  refine HV.out.mono ?_; rintro e w1 ⟨rfl, rfl⟩
  go_wp2_with fail
  go_ret
  exact ⟨rfl, Below.refl _ _⟩
/-- Nothing of the world was turned. -/
def Grew (w wx : World) : Prop := Below w.heap.size w wx
theorem Grew.drew {w wx : World} (h : Grew w wx) : Grew w wx.drew := Below.drew h
set_option maxRecDepth 100000 in
set_option maxHeartbeats 4000000 in
theorem irune_valid (r : Int) (h128 : 128 ≤ r) (h1 : r ≤ 2147483647) (hne : r ≠ 65533) (hv : Lib.validRune r = true) (w : World) :
    Calls Tryz.prog 207 #[.string five, .int .i32 r] w fun e w' => e = .returned (.int .i64 (-1)) ∧ Below w.heap.size w w' := by
  have hv' := Tryz.utf8_ValidRune r w
  rw [hv] at hv'
  have HV := Lib.hid hv'
  have e1 : (r == 65533) = false := beq_eq_false_iff_ne.2 hne
  have e2 : ¬ r < 128 := by omega
  obtain ⟨f1, f2, f3⟩ := encode_facts r (by rw [validRune_eq]; exact hv) h128
  obtain ⟨rs, hrs⟩ : ∃ rs, Utf8.encode r = rs := ⟨_, rfl⟩
  rw [hrs] at f1 f2 f3
  have hconv : ∀ w', (convert 21 9 (.int .i32 r)).run Tryz.prog w' = .ok (.string rs) w' := fun w' => by
    rw [run_convert_int_string w' _ _ _ _ (by kernel_rfl) Tryz.underlying9, hrs]
  obtain ⟨n, hn⟩ : ∃ n, rs.size = n + 1 := ⟨rs.size - 1, by omega⟩
  have hn3 : n ≤ 3 := by omega
  have hb : 128 ≤ bt rs n := by
    have h := f3 (by omega)
    have e := get_bt rs (rs.size - 1) (by omega)
    have e' : rs.size - 1 = n := by omega
    rw [show bt rs n = bt rs (rs.size - 1) by rw [e'], ← e]
    omega
  have hb2 := bt_le rs n
  have hgs := get_bt five
  have hgr := get_bt rs
  have h5 : five.size = 5 := rfl
  have hq := five_bt n
  have hneq : (bt five n == bt rs n) = false := beq_eq_false_iff_ne.2 (by omega)
  have hlt : (n : Int) < 5 := by omega
  have hi5 : n < five.size := by show n < 5; omega
  have hin : n < rs.size := by omega
  have hw1 : IntKind.i64.wrap ((n : Int) + 1) = (n : Int) + 1 := wrap_small _ (by omega) (by omega)
  have hz1 : ((n : Int) + 1).toNat = n + 1 := by omega
  have h01 : (0 : Int) ≤ (n : Int) + 1 := by omega
  have h15 : (n : Int) + 1 ≤ 5 := by omega
  have HIB : Hid (∀ w, Calls Tryz.prog 48 #[.string (five.extract (n + 1) 5), .int .u8 (bt rs n)] w fun e w' => e = .returned (.int .i64 (-1)) ∧ w' = w) := fun w => by
    have h := Tryz.strings_IndexByte (five.extract (n + 1) 5) (bt rs n) w
    rw [five_none _ _ _ (by
      obtain ⟨k, hk⟩ : ∃ k : Nat, bt rs n = k := ⟨(bt rs n).toNat, by omega⟩
      rw [hk]
      simp
      omega)] at h
    exact h
  clear hv hv' hne f1 f2 f3 hrs hq
  go_enter Tryz.func207, Tryz.ntmps207
  go_wp2_with fail
  refine HV.out.mono ?_; rintro e w1 ⟨rfl, rfl⟩
  go_wp2_with fail
  go_step3
  go_wp2_with fail
  go_loopg [9, 10] 1 (fun g s9 s10 wx => s9 = .int .i64 n ∧ wx = w1)
  case atStart => exact ⟨by simp, rfl⟩
  case round =>
    obtain ⟨rfl, rfl⟩ := hrel
    go_wp2_with fail
    go_step3
    go_wp2_with fail
    go_region
    all_goals
      go_wp2_with fail
      have L0 : Grew wr wr.drew.drew := (Below.refl _ _).drew.drew
      go_region_held3 (fun wx => Grew wr wx) (assumption)
        ((go_at_call 48; refine (HIB.out _).mono ?_; rintro e wn ⟨rfl, hw⟩; have hn : Grew wr wn := hw ▸ (by assumption)))
      all_goals
        go_wp2_with fail
        simp only [Exit.noGoto_ret, Exit.inBlock, Exit.then]
        go_ret
        exact ⟨rfl, (Below.refl _ _).drew.drew⟩
theorem irune_high (r : Int) (h128 : 128 ≤ r) (h1 : r ≤ 2147483647) (w : World) :
    Calls Tryz.prog 207 #[.string five, .int .i32 r] w fun e w' => e = .returned (.int .i64 (-1)) ∧ Below w.heap.size w w' := by
  by_cases hne : r = 65533
  · subst hne; exact irune_bad w
  · cases hv : Lib.validRune r
    · exact irune_invalid r h128 h1 hne hv w
    · exact irune_valid r h128 h1 hne hv w
theorem irune_low (x : UInt8) (h : x.toNat < 128) (w : World) :
    Calls Tryz.prog 207 #[.string five, .int .i32 x.toNat] w fun e w' => e = .returned (.int .i64 (Lib.indexByte five.data.toList x)) ∧ w' = w := by
  have h' := Tryz.strings_IndexRune_ascii five (x.toNat : Int) w (by omega) (by omega)
  have e : ((x.toNat : Int)).toNat.toUInt8 = x := by simp
  rw [e] at h'
  exact h'
/-- Where the iterator stands, and that none of the letters was met so far. -/
def AnyRel (s : ByteArray) (w : World) (i : Nat) (wx : World) : Prop := wx.heap[w.heap.size]? = some (.stringIter s i) ∧ Below w.heap.size w wx ∧ Lib.NoAny s.data.toList five.data.toList i
theorem AnyRel.on {s : ByteArray} {w wx wy : World} {i j : Nat} (h : AnyRel s w i wx) (hb : Below (wx.iterAt w.heap.size s j).heap.size (wx.iterAt w.heap.size s j) wy) (hn : Lib.NoAny s.data.toList five.data.toList j) : AnyRel s w j wy := by
  obtain ⟨h1, h2, _⟩ := h
  have hl : w.heap.size < wx.heap.size := (Array.getElem?_eq_some_iff.1 h1).1
  have k := Lib.iterAt_heap wx w.heap.size s i j h1
  exact ⟨(hb.block _ (by rw [Lib.iterAt_size]; exact hl)).trans k, (Lib.below_iterAt h2 (Nat.le_refl _) s j).trans (hb.mono (by rw [Lib.iterAt_size]; omega)), hn⟩
set_option maxRecDepth 100000 in
set_option maxHeartbeats 8000000 in
theorem iany_short (s : ByteArray) (h8 : s.size ≤ 8) (w : World) :
    Calls Tryz.prog 220 #[.string s, .string five] w fun e w' => e = .returned (.int .i64 (Lib.indexAny s.data.toList five.data.toList)) ∧ Below w.heap.size w w' := by
  have h5 : five.size = 5 := rfl
  have hemp : five.toList.isEmpty = false := by rw [Lib.toList_data]; decide
  have h8z : decide ((8 : Int) < (s.size : Int)) = false := decide_eq_false (by omega)
  have HS := Lib.hid (fun (w : World) => Tryz.strings_shouldUseASCIISet (s.size : Int) w)
  rw [h8z] at HS
  go_enter Tryz.func220, Tryz.ntmps220
  go_wp2_with fail
  refine (HS.out _).mono ?_; rintro e w1 ⟨rfl, hw⟩; subst hw
  go_wp2_with fail
  go_loopg [9, 10] s.size (fun g _ _ wx => ∃ i : Nat, i ≤ s.size ∧ s.size ≤ i + g ∧ AnyRel s w1 i wx)
  case atStart => exact ⟨0, by omega, by omega, World.iter_heap w1 s 0, (Below.refl _ _).alloc (Nat.le_refl _) _, Lib.NoAny.zero _ _⟩
  case round =>
    obtain ⟨i, hi0, hig, hrel⟩ := hrel
    have HR := Lib.hid hrel
    have hk := hrel.1
    clear hrel
    by_cases hi : i < s.size
    · obtain ⟨g, rfl⟩ : ∃ g, gk = g + 1 := ⟨gk - 1, by omega⟩
      by_cases h128 : (s[i]'hi).toNat < 128
      · have hnx := fun ty => Lib.run_next_ascii_at (P := Tryz.prog) wr w1.heap.size s i ty hk hi h128
        obtain ⟨x, hx⟩ : ∃ x : UInt8, s[i]'hi = x := ⟨_, rfl⟩
        have hxl : s.data.toList[i]? = some x := by rw [← hx]; exact Lib.data_getElem? s i hi
        rw [hx] at hnx h128
        have HX := Lib.hid hxl
        have hcon := Lib.contains_iff_indexByte five.data.toList x
        have HL := Lib.hid (irune_low x h128)
        clear hx hxl
        cases hin : five.data.toList.contains x
        · rw [hin] at hcon
          have hlt : ¬ ((0 : Int) ≤ Lib.indexByte five.data.toList x) := of_decide_eq_false hcon.symm
          have HN := Lib.hid hin
          clear hcon hin
          go_wp2_with fail
          refine (HL.out _).mono ?_; rintro e w2 ⟨rfl, hw⟩; subst hw
          go_wp2_with fail
          go_roundg g
          case measure => omega
          case rel => exact ⟨i + 1, by omega, by omega, HR.out.on (Below.refl _ _) (HR.out.2.2.succ HX.out HN.out)⟩
        · rw [hin] at hcon
          have hge : (0 : Int) ≤ Lib.indexByte five.data.toList x := of_decide_eq_true hcon.symm
          have HN := Lib.hid hin
          clear hcon hin
          go_wp2_with fail
          refine (HL.out _).mono ?_; rintro e w2 ⟨rfl, hw⟩; subst hw
          go_wp2_with fail
          go_ret
          exact ⟨by rw [Lib.indexAny_hit HR.out.2.2 HX.out HN.out]; rfl, Lib.below_iterAt HR.out.2.1 (Nat.le_refl _) s _⟩
      · have hnx := fun ty => Lib.run_next_any_at (P := Tryz.prog) wr w1.heap.size s i ty hk hi
        have ha : 128 ≤ (s.get! (i + 0)).toNat := by rw [Go.get_at s i hi]; omega
        obtain ⟨d1, d2, d3⟩ := decode_width s i hi ha
        have d4 := (decode_high s i hi (by omega)).1
        have d5 := decode_le s i
        obtain ⟨k, hkk⟩ : ∃ k, (Utf8.decode s i).2 = k := ⟨_, rfl⟩
        obtain ⟨r, hr⟩ : ∃ r, (Utf8.decode s i).1 = r := ⟨_, rfl⟩
        rw [hkk] at d1 d2 d3 hnx
        rw [hr] at d4 d5 hnx
        have HL := Lib.hid (irune_high (r : Int) (by omega) (by omega))
        have HD := Lib.hid d3
        clear hkk hr d3 h128 ha
        go_wp2_with fail
        refine (HL.out _).mono ?_; rintro e w2 ⟨rfl, hb2⟩
        go_wp2_with fail
        go_roundg g
        case measure => omega
        case rel => exact ⟨i + k, by omega, by omega, HR.out.on hb2 (noAny_jump HR.out.2.2 (by omega) HD.out)⟩
    · obtain rfl : i = s.size := by omega
      have hnx := fun ty => Lib.run_next_end_at (P := Tryz.prog) wr w1.heap.size s s.size ty hk hi
      go_wp2_with fail
      go_ret
      exact ⟨by rw [Lib.indexAny_none (by rw [← Lib.size_eq]; exact HR.out.2.2)]; rfl, HR.out.2.1⟩
theorem iany_five (s : ByteArray) (hs : s.size < 4294967281) (w : World) :
    Calls Tryz.prog 220 #[.string s, .string five] w fun e w' => e = .returned (.int .i64 (Lib.indexAny s.data.toList five.data.toList)) ∧ Below w.heap.size w w' := by
  by_cases h8 : s.size ≤ 8
  · exact iany_short s h8 w
  · refine (Tryz.strings_IndexAny_long (zero_of_info (n := 256) (by kernel_rfl)).1 s five w (by decide) (by omega) hs (by decide) (fun j b hb => five_low b (List.mem_of_getElem? hb))).mono fun e w' ⟨h1, h2⟩ => ⟨h1, ?_⟩
    rw [h2]
    exact ((Below.refl _ _).alloc (Nat.le_refl _) _).alloc (by simp) _
set_option maxHeartbeats 1000000 in
theorem containsAny_five (s : ByteArray) (hs : s.size < 4294967281) (w : World) :
    Calls Tryz.prog 216 #[.string s, .string ⟨#[95, 98, 66, 111, 79]⟩] w fun e w' => e = .returned (.bool (Lib.containsAny s.data.toList five.data.toList)) ∧ Below w.heap.size w w' := by
  have HC := Lib.hid (fun w => iany_five s hs w)
  obtain ⟨v, hv⟩ : ∃ v : ByteArray, v = ⟨#[95, 98, 66, 111, 79]⟩ := ⟨_, rfl⟩
  have hf : five = v := hv.symm
  rw [hf] at HC ⊢
  rw [← hv]
  have hcx : Lib.containsAny s.data.toList v.data.toList = decide (0 ≤ Lib.indexAny s.data.toList v.data.toList) := rfl
  rw [hcx]
  obtain ⟨z, hz⟩ : ∃ z, Lib.indexAny s.data.toList v.data.toList = z := ⟨_, rfl⟩
  rw [hz] at HC ⊢
  clear hz hcx hv hf
  go_enter Tryz.func216, Tryz.ntmps216
  go_wp2_with fail
  refine (HC.out _).mono ?_; rintro e w1 ⟨rfl, hb⟩
  go_wp2_with fail
  go_ret
  exact ⟨rfl, hb⟩
end Go.Proofs.YtkmpbkhlcapbgaaGreatDoor
