/-
  DERIVED. strings.IndexRune at runes beyond ASCII, strings.IndexAny and ContainsAny of whatever bytes, with the five letters that arith's digits asks for.
-/
import Derived.Test.YtdfpijbngbfjaaaGreatDoorBy
import Derived.Test.YtdfpijbngbfjaaaGreatDoorShelf
import Derived.Laws.Runes
import Derived.Laws.RangeAny
import Derived.WalkMore
import Derived.Deep.RegionHeld3
import Derived.Lib.OthersKept
import Derived.Shelf.Strings.IndexAnyAll
namespace Go.Proofs.YtdfpijbngbfjaaaGreatDoor
open Go.RowKit
/-- "_bBoO". -/
def five : ByteArray := ⟨#[95, 98, 66, 111, 79]⟩
theorem five_low : ∀ b ∈ five.data.toList, b.toNat < 128 := by decide
theorem five_bt : ∀ k, bt five k < 128 := fun k => by
  unfold bt
  split
  · rename_i h
    have := five_low _ (Array.getElem_mem_toList (xs := five.data) h)
    have e : five[k] = five.data[k] := rfl
    rw [e]; omega
  · omega
theorem five_no (c : UInt8) (h : 128 ≤ c.toNat) : five.data.toList.contains c = false := by
  cases hc : five.data.toList.contains c with
  | false => rfl
  | true => have := five_low c (List.contains_iff_mem.1 hc); omega
theorem five_none (c : UInt8) (a e : Nat) (h : 128 ≤ c.toNat) : Lib.indexByte (five.extract a e).data.toList c = -1 := by
  have key : ∀ l : List UInt8, (∀ b ∈ l, b.toNat < 128) → Lib.indexByte l c = -1 := fun l hl => by
    have h1 := Lib.contains_iff_indexByte l c
    have h2 : l.contains c = false := by
      cases hc : l.contains c with
      | false => rfl
      | true => have := hl c (List.contains_iff_mem.1 hc); omega
    rw [h2] at h1
    have h3 := of_decide_eq_false h1.symm
    have h4 := Lib.indexAny_ge [c] l
    rw [Lib.indexAny_one] at h4
    omega
  exact key _ fun b hb => five_low b (mem_extract hb)
/-- A rune that begins with a byte from 128 on: how many bytes it takes, and none of them is below. -/
theorem decode_width (s : ByteArray) (i : Nat) (h : i < s.size) (ha : 128 ≤ (s.get! (i + 0)).toNat) :
    1 ≤ (Utf8.decode s i).2 ∧ i + (Utf8.decode s i).2 ≤ s.size ∧ ∀ k, k < (Utf8.decode s i).2 → 128 ≤ (s.get! (i + k)).toNat := by
  have hn : ¬ (s.get! (i + 0)).toNat < 128 := by omega
  have one : (1 : Nat) ≤ 1 ∧ i + 1 ≤ s.size ∧ ∀ k, k < 1 → 128 ≤ (s.get! (i + k)).toNat := ⟨by omega, by omega, fun k hk => by
    have e : k = 0 := by omega
    subst e
    exact ha⟩
  simp only [Utf8.decode, hn, if_false]
  split
  · rename_i hc
    simp only [Bool.and_eq_true, beq_iff_eq, decide_eq_true_eq] at hc
    split
    · refine ⟨by simp, by simp only; omega, fun k hk => ?_⟩
      simp only at hk
      match k, hk with
      | 0, _ => exact ha
      | 1, _ => omega
      | n + 2, hk => omega
    · exact one
  · split
    · rename_i hc
      simp only [Bool.and_eq_true, beq_iff_eq, decide_eq_true_eq] at hc
      split
      · refine ⟨by simp, by simp only; omega, fun k hk => ?_⟩
        simp only at hk
        match k, hk with
        | 0, _ => exact ha
        | 1, _ => omega
        | 2, _ => omega
        | n + 3, hk => omega
      · exact one
    · split
      · rename_i hc
        simp only [Bool.and_eq_true, beq_iff_eq, decide_eq_true_eq] at hc
        split
        · refine ⟨by simp, by simp only; omega, fun k hk => ?_⟩
          simp only at hk
          match k, hk with
          | 0, _ => exact ha
          | 1, _ => omega
          | 2, _ => omega
          | 3, _ => omega
          | n + 4, hk => omega
        · exact one
      · exact one
theorem noAny_jump {s : ByteArray} {i d : Nat} (h : Lib.NoAny s.data.toList five.data.toList i) (hd : i + d ≤ s.size) (hb : ∀ k, k < d → 128 ≤ (s.get! (i + k)).toNat) : Lib.NoAny s.data.toList five.data.toList (i + d) := fun j b hj hbj => by
  by_cases e : j < i
  · exact h j b e hbj
  · have hjs : j < s.size := by omega
    have h1 := Lib.data_getElem? s j hjs
    rw [hbj] at h1
    have h2 := hb (j - i) (by omega)
    rw [show i + (j - i) = j + 0 by omega, get_at s j hjs] at h2
    obtain rfl := Option.some.inj h1
    exact five_no _ h2
set_option maxRecDepth 100000 in
set_option maxHeartbeats 4000000 in
theorem irune_bad (w : World) :
    Calls Tryz.prog 76 #[.string five, .int .i32 65533] w fun e w' => e = .returned (.int .i64 (-1)) ∧ Below w.heap.size w w' := by
  go_enter Tryz.func76, Tryz.ntmps76
  go_wp2_with fail
  go_loopg [5, 6] 5 (fun g _ _ wx => ∃ i : Nat, i + g = 5 ∧ wx = w.iter five i)
  case atStart => exact ⟨0, rfl, rfl⟩
  case round =>
    obtain ⟨i, hig, rfl⟩ := hrel
    cases gk with
    | zero =>
      obtain rfl : i = 5 := by omega
      have hnx := fun ty => run_next_end (P := Tryz.prog) w five 5 ty (by decide)
      go_wp2
      go_ret
      exact ⟨rfl, (Below.refl _ _).alloc (Nat.le_refl _) _⟩
    | succ g =>
      have hi : i < five.size := by show i < 5; omega
      have hx128 : (five[i]'hi).toNat < 128 := five_low _ (Array.getElem_mem_toList (xs := five.data) hi)
      have hnx := fun ty => run_next_ascii (P := Tryz.prog) w five i ty hi hx128
      obtain ⟨x, hx⟩ : ∃ x : Nat, (five[i]'hi).toNat = x := ⟨_, rfl⟩
      rw [hx] at hnx hx128
      have hne : ((x : Int) == 65533) = false := beq_eq_false_iff_ne.2 (by omega)
      clear hx
      go_wp2
      go_roundg g
      case measure => omega
      case rel => exact ⟨i + 1, by omega, rfl⟩
set_option maxRecDepth 100000 in
set_option maxHeartbeats 4000000 in
theorem irune_invalid (r : Int) (h128 : 128 ≤ r) (h1 : r ≤ 2147483647) (hne : r ≠ 65533) (hv : Lib.validRune r = false) (w : World) :
    Calls Tryz.prog 76 #[.string five, .int .i32 r] w fun e w' => e = .returned (.int .i64 (-1)) ∧ Below w.heap.size w w' := by
  have hv' := Tryz.utf8_ValidRune r w
  rw [hv] at hv'
  have HV := Lib.hid hv'
  have e1 : (r == 65533) = false := beq_eq_false_iff_ne.2 hne
  have e2 : ¬ r < 128 := by omega
  clear hv hv' hne
  go_enter Tryz.func76, Tryz.ntmps76
  go_wp2_with fail
  refine HV.out.mono ?_; rintro e w1 ⟨rfl, rfl⟩
  go_wp2_with fail
  go_ret
  exact ⟨rfl, Below.refl _ _⟩
/-- Nothing of the world was turned. -/
def Grew (w wx : World) : Prop := Below w.heap.size w wx
theorem Grew.drew {w wx : World} (h : Grew w wx) : Grew w wx.drew := Below.drew h
set_option maxRecDepth 100000 in
set_option maxHeartbeats 4000000 in
theorem irune_valid (r : Int) (h128 : 128 ≤ r) (h1 : r ≤ 2147483647) (hne : r ≠ 65533) (hv : Lib.validRune r = true) (w : World) :
    Calls Tryz.prog 76 #[.string five, .int .i32 r] w fun e w' => e = .returned (.int .i64 (-1)) ∧ Below w.heap.size w w' := by
  have hv' := Tryz.utf8_ValidRune r w
  rw [hv] at hv'
  have HV := Lib.hid hv'
  have e1 : (r == 65533) = false := beq_eq_false_iff_ne.2 hne
  have e2 : ¬ r < 128 := by omega
  obtain ⟨f1, f2, f3⟩ := encode_facts r (by rw [validRune_eq]; exact hv) h128
  obtain ⟨rs, hrs⟩ : ∃ rs, Utf8.encode r = rs := ⟨_, rfl⟩
  rw [hrs] at f1 f2 f3
  have hconv : ∀ w', (convert 21 9 (.int .i32 r)).run Tryz.prog w' = .ok (.string rs) w' := fun w' => by
    rw [run_convert_int_string w' _ _ _ _ (by kernel_rfl) Tryz.underlying9, hrs]
  obtain ⟨n, hn⟩ : ∃ n, rs.size = n + 1 := ⟨rs.size - 1, by omega⟩
  have hn3 : n ≤ 3 := by omega
  have hb : 128 ≤ bt rs n := by
    have h := f3 (by omega)
    have e := get_bt rs (rs.size - 1) (by omega)
    have e' : rs.size - 1 = n := by omega
    rw [show bt rs n = bt rs (rs.size - 1) by rw [e'], ← e]
    omega
  have hb2 := bt_le rs n
  have hgs := get_bt five
  have hgr := get_bt rs
  have h5 : five.size = 5 := rfl
  have hq := five_bt n
  have hneq : (bt five n == bt rs n) = false := beq_eq_false_iff_ne.2 (by omega)
  have hlt : (n : Int) < 5 := by omega
  have hi5 : n < five.size := by show n < 5; omega
  have hin : n < rs.size := by omega
  have hw1 : IntKind.i64.wrap ((n : Int) + 1) = (n : Int) + 1 := wrap_small _ (by omega) (by omega)
  have hz1 : ((n : Int) + 1).toNat = n + 1 := by omega
  have h01 : (0 : Int) ≤ (n : Int) + 1 := by omega
  have h15 : (n : Int) + 1 ≤ 5 := by omega
  have HIB : Hid (∀ w, Calls Tryz.prog 93 #[.string (five.extract (n + 1) 5), .int .u8 (bt rs n)] w fun e w' => e = .returned (.int .i64 (-1)) ∧ w' = w) := fun w => by
    have h := Tryz.strings_IndexByte (five.extract (n + 1) 5) (bt rs n) w
    rw [five_none _ _ _ (by
      obtain ⟨k, hk⟩ : ∃ k : Nat, bt rs n = k := ⟨(bt rs n).toNat, by omega⟩
      rw [hk]
      simp
      omega)] at h
    exact h
  clear hv hv' hne f1 f2 f3 hrs hq
  go_enter Tryz.func76, Tryz.ntmps76
  go_wp2_with fail
  refine HV.out.mono ?_; rintro e w1 ⟨rfl, rfl⟩
  go_wp2_with fail
  go_step3
  go_wp2_with fail
  go_loopg [9, 10] 1 (fun g s9 s10 wx => s9 = .int .i64 n ∧ wx = w1)
  case atStart => exact ⟨by simp, rfl⟩
  case round =>
    obtain ⟨rfl, rfl⟩ := hrel
    go_wp2_with fail
    go_step3
    go_wp2_with fail
    go_region
    all_goals
      go_wp2_with fail
      have L0 : Grew wr wr.drew.drew := (Below.refl _ _).drew.drew
      go_region_held3 (fun wx => Grew wr wx) (assumption)
        ((go_at_call 93; refine (HIB.out _).mono ?_; rintro e wn ⟨rfl, hw⟩; have hn : Grew wr wn := hw ▸ (by assumption)))
      all_goals
        go_wp2_with fail
        simp only [Exit.noGoto_ret, Exit.inBlock, Exit.then]
        go_ret
        exact ⟨rfl, (Below.refl _ _).drew.drew⟩
theorem irune_high (r : Int) (h128 : 128 ≤ r) (h1 : r ≤ 2147483647) (w : World) :
    Calls Tryz.prog 76 #[.string five, .int .i32 r] w fun e w' => e = .returned (.int .i64 (-1)) ∧ Below w.heap.size w w' := by
  by_cases hne : r = 65533
  · subst hne; exact irune_bad w
  · cases hv : Lib.validRune r
    · exact irune_invalid r h128 h1 hne hv w
    · exact irune_valid r h128 h1 hne hv w
theorem irune_low (x : UInt8) (h : x.toNat < 128) (w : World) :
    Calls Tryz.prog 76 #[.string five, .int .i32 x.toNat] w fun e w' => e = .returned (.int .i64 (Lib.indexByte five.data.toList x)) ∧ w' = w := by
  have h' := Tryz.strings_IndexRune_ascii five (x.toNat : Int) w (by omega) (by omega)
  have e : ((x.toNat : Int)).toNat.toUInt8 = x := by simp
  rw [e] at h'
  exact h'
/-- Where the iterator stands, and that none of the letters was met so far. -/
def AnyRel (s : ByteArray) (w : World) (i : Nat) (wx : World) : Prop := wx.heap[w.heap.size]? = some (.stringIter s i) ∧ Below w.heap.size w wx ∧ Lib.NoAny s.data.toList five.data.toList i
theorem AnyRel.on {s : ByteArray} {w wx wy : World} {i j : Nat} (h : AnyRel s w i wx) (hb : Below (wx.iterAt w.heap.size s j).heap.size (wx.iterAt w.heap.size s j) wy) (hn : Lib.NoAny s.data.toList five.data.toList j) : AnyRel s w j wy := by
  obtain ⟨h1, h2, _⟩ := h
  have hl : w.heap.size < wx.heap.size := (Array.getElem?_eq_some_iff.1 h1).1
  have k := Lib.iterAt_heap wx w.heap.size s i j h1
  exact ⟨(hb.block _ (by rw [Lib.iterAt_size]; exact hl)).trans k, (Lib.below_iterAt h2 (Nat.le_refl _) s j).trans (hb.mono (by rw [Lib.iterAt_size]; omega)), hn⟩
set_option maxRecDepth 100000 in
set_option maxHeartbeats 8000000 in
theorem iany_short (s : ByteArray) (h8 : s.size ≤ 8) (w : World) :
    Calls Tryz.prog 61 #[.string s, .string five] w fun e w' => e = .returned (.int .i64 (Lib.indexAny s.data.toList five.data.toList)) ∧ Below w.heap.size w w' := by
  have h5 : five.size = 5 := rfl
  have hemp : five.toList.isEmpty = false := by rw [Lib.toList_data]; decide
  have h8z : decide ((8 : Int) < (s.size : Int)) = false := decide_eq_false (by omega)
  have HS := Lib.hid (fun (w : World) => Tryz.strings_shouldUseASCIISet (s.size : Int) w)
  rw [h8z] at HS
  go_enter Tryz.func61, Tryz.ntmps61
  go_wp2_with fail
  refine (HS.out _).mono ?_; rintro e w1 ⟨rfl, hw⟩; subst hw
  go_wp2_with fail
  go_loopg [9, 10] s.size (fun g _ _ wx => ∃ i : Nat, i ≤ s.size ∧ s.size ≤ i + g ∧ AnyRel s w1 i wx)
  case atStart => exact ⟨0, by omega, by omega, World.iter_heap w1 s 0, (Below.refl _ _).alloc (Nat.le_refl _) _, Lib.NoAny.zero _ _⟩
  case round =>
    obtain ⟨i, hi0, hig, hrel⟩ := hrel
    have HR := Lib.hid hrel
    have hk := hrel.1
    clear hrel
    by_cases hi : i < s.size
    · obtain ⟨g, rfl⟩ : ∃ g, gk = g + 1 := ⟨gk - 1, by omega⟩
      by_cases h128 : (s[i]'hi).toNat < 128
      · have hnx := fun ty => Lib.run_next_ascii_at (P := Tryz.prog) wr w1.heap.size s i ty hk hi h128
        obtain ⟨x, hx⟩ : ∃ x : UInt8, s[i]'hi = x := ⟨_, rfl⟩
        have hxl : s.data.toList[i]? = some x := by rw [← hx]; exact Lib.data_getElem? s i hi
        rw [hx] at hnx h128
        have HX := Lib.hid hxl
        have hcon := Lib.contains_iff_indexByte five.data.toList x
        have HL := Lib.hid (irune_low x h128)
        clear hx hxl
        cases hin : five.data.toList.contains x
        · rw [hin] at hcon
          have hlt : ¬ ((0 : Int) ≤ Lib.indexByte five.data.toList x) := of_decide_eq_false hcon.symm
          have HN := Lib.hid hin
          clear hcon hin
          go_wp2_with fail
          refine (HL.out _).mono ?_; rintro e w2 ⟨rfl, hw⟩; subst hw
          go_wp2_with fail
          go_roundg g
          case measure => omega
          case rel => exact ⟨i + 1, by omega, by omega, HR.out.on (Below.refl _ _) (HR.out.2.2.succ HX.out HN.out)⟩
        · rw [hin] at hcon
          have hge : (0 : Int) ≤ Lib.indexByte five.data.toList x := of_decide_eq_true hcon.symm
          have HN := Lib.hid hin
          clear hcon hin
          go_wp2_with fail
          refine (HL.out _).mono ?_; rintro e w2 ⟨rfl, hw⟩; subst hw
          go_wp2_with fail
          go_ret
          exact ⟨by rw [Lib.indexAny_hit HR.out.2.2 HX.out HN.out]; rfl, Lib.below_iterAt HR.out.2.1 (Nat.le_refl _) s _⟩
      · have hnx := fun ty => Lib.run_next_any_at (P := Tryz.prog) wr w1.heap.size s i ty hk hi
        have ha : 128 ≤ (s.get! (i + 0)).toNat := by rw [get_at s i hi]; omega
        obtain ⟨d1, d2, d3⟩ := decode_width s i hi ha
        have d4 := (decode_high s i hi (by omega)).1
        have d5 := decode_le s i
        obtain ⟨k, hkk⟩ : ∃ k, (Utf8.decode s i).2 = k := ⟨_, rfl⟩
        obtain ⟨r, hr⟩ : ∃ r, (Utf8.decode s i).1 = r := ⟨_, rfl⟩
        rw [hkk] at d1 d2 d3 hnx
        rw [hr] at d4 d5 hnx
        have HL := Lib.hid (irune_high (r : Int) (by omega) (by omega))
        have HD := Lib.hid d3
        clear hkk hr d3 h128 ha
        go_wp2_with fail
        refine (HL.out _).mono ?_; rintro e w2 ⟨rfl, hb2⟩
        go_wp2_with fail
        go_roundg g
        case measure => omega
        case rel => exact ⟨i + k, by omega, by omega, HR.out.on hb2 (noAny_jump HR.out.2.2 (by omega) HD.out)⟩
    · obtain rfl : i = s.size := by omega
      have hnx := fun ty => Lib.run_next_end_at (P := Tryz.prog) wr w1.heap.size s s.size ty hk hi
      go_wp2_with fail
      go_ret
      exact ⟨by rw [Lib.indexAny_none (by rw [← Lib.size_eq]; exact HR.out.2.2)]; rfl, HR.out.2.1⟩
theorem iany_five (s : ByteArray) (hs : s.size < 4294967281) (w : World) :
    Calls Tryz.prog 61 #[.string s, .string five] w fun e w' => e = .returned (.int .i64 (Lib.indexAny s.data.toList five.data.toList)) ∧ Below w.heap.size w w' := by
  by_cases h8 : s.size ≤ 8
  · exact iany_short s h8 w
  · refine (Tryz.strings_IndexAny_long (zero_of_info (n := 256) (by kernel_rfl)).1 s five w (by decide) (by omega) hs (by decide) (fun j b hb => five_low b (List.mem_of_getElem? hb))).mono fun e w' ⟨h1, h2⟩ => ⟨h1, ?_⟩
    rw [h2]
    exact ((Below.refl _ _).alloc (Nat.le_refl _) _).alloc (by simp) _
set_option maxHeartbeats 1000000 in
theorem containsAny_five (s : ByteArray) (hs : s.size < 4294967281) (w : World) :
    Calls Tryz.prog 35 #[.string s, .string ⟨#[95, 98, 66, 111, 79]⟩] w fun e w' => e = .returned (.bool (Lib.containsAny s.data.toList five.data.toList)) ∧ Below w.heap.size w w' := by
  have HC := Lib.hid (fun w => iany_five s hs w)
  obtain ⟨v, hv⟩ : ∃ v : ByteArray, v = ⟨#[95, 98, 66, 111, 79]⟩ := ⟨_, rfl⟩
  have hf : five = v := hv.symm
  rw [hf] at HC ⊢
  rw [← hv]
  have hcx : Lib.containsAny s.data.toList v.data.toList = decide (0 ≤ Lib.indexAny s.data.toList v.data.toList) := rfl
  rw [hcx]
  obtain ⟨z, hz⟩ : ∃ z, Lib.indexAny s.data.toList v.data.toList = z := ⟨_, rfl⟩
  rw [hz] at HC ⊢
  clear hz hcx hv hf
  go_enter Tryz.func35, Tryz.ntmps35
  go_wp2_with fail
  refine (HC.out _).mono ?_; rintro e w1 ⟨rfl, hb⟩
  go_wp2_with fail
  go_ret
  exact ⟨rfl, hb⟩
end Go.Proofs.YtdfpijbngbfjaaaGreatDoor
