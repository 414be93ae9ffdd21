/-
  DERIVED. The walk of word's brace: a parameter alone, one with an operation; the front of both.
-/
import Derived.Test.YtkmpbkhlcapbgaaGreatDoorZ12
import Derived.Shelf.Strings.SlTrimAscii
import Derived.Deep.MidRow
namespace Go.Proofs.YtkmpbkhlcapbgaaGreatDoor
open Go Go.RowKit
theorem dig_has : ∀ k : Fin 256, [48, 49, 50, 51, 52, 53, 54, 55, 56, 57].contains (UInt8.ofNat k.val) = digU (UInt8.ofNat k.val) := by decide +kernel
theorem dig_has_u (c : UInt8) : ([48, 49, 50, 51, 52, 53, 54, 55, 56, 57] : List UInt8).contains c = digU c := by
  have := dig_has ⟨c.toNat, c.toNat_lt⟩
  simpa using this
theorem trimD_at (s x : ByteArray) (hx : x.data.toList = s.data.toList.dropWhile digU) (w : World) :
    Calls Tryz.prog 133 #[.string s, .string ⟨#[48, 49, 50, 51, 52, 53, 54, 55, 56, 57]⟩] w fun e w' => e = .returned (.string x) ∧ Below w.heap.size w w' := by
  have h := Any.strings_TrimLeft_laid Tryz.lays161 (by kernel_rfl) s ⟨#[48, 49, 50, 51, 52, 53, 54, 55, 56, 57]⟩ w (by decide) (fun j b hb => by
    have hm := List.mem_of_getElem? hb
    have : ∀ b ∈ (⟨#[48, 49, 50, 51, 52, 53, 54, 55, 56, 57]⟩ : ByteArray).data.toList, b.toNat < 128 := by decide
    exact this b hm)
  have e : (⟨(Lib.trimLeftS s.data.toList (⟨#[48, 49, 50, 51, 52, 53, 54, 55, 56, 57]⟩ : ByteArray).data.toList).toArray⟩ : ByteArray) = x := by
    rw [← Lib.mk_data x, hx]
    unfold Lib.trimLeftS
    have : (fun c : UInt8 => (⟨#[48, 49, 50, 51, 52, 53, 54, 55, 56, 57]⟩ : ByteArray).data.toList.contains c) = digU := funext dig_has_u
    rw [this]
  rw [e] at h
  exact h
theorem while_len {α : Type} (p : α → Bool) (l : List α) : (l.takeWhile p).length + (l.dropWhile p).length = l.length := by
  rw [← List.length_append, List.takeWhile_append_dropWhile]
theorem op_idx (cs : Array Value) (hs : cs.size = 12) (j : Nat) (v : Value) (h : cs[j]? = some v) (z : Int) (hz : z = (j : Int)) : ∀ w', (Instr.index 180 (.agg cs) (.int .i64 z)).run Tryz.prog w' = .ok v w' := fun w' => by
  subst hz
  obtain ⟨h1, _⟩ := Array.getElem?_eq_some_iff.1 h
  have hn : (0 : Int) ≤ (j : Int) ∧ (j : Int) < ((12 : Nat) : Int) := by omega
  simp [Instr.index, run_underlying Tryz.underlying180, asIntOf, hn, go_sem]
  rw [if_pos (by omega), h]
  rfl
theorem op_lit (i : Nat) (h : i < 12) : (#[.string ⟨#[58, 45]⟩, .string ⟨#[58, 61]⟩, .string ⟨#[58, 63]⟩, .string ⟨#[58, 43]⟩, .string ⟨#[37, 37]⟩, .string ⟨#[35, 35]⟩, .string ⟨#[45]⟩, .string ⟨#[61]⟩, .string ⟨#[63]⟩, .string ⟨#[43]⟩, .string ⟨#[37]⟩, .string ⟨#[35]⟩] : Array Value)[i]? = some (.string ⟨(wopsL.getD i []).toArray⟩) := by
  rcases (show i = 0 ∨ i = 1 ∨ i = 2 ∨ i = 3 ∨ i = 4 ∨ i = 5 ∨ i = 6 ∨ i = 7 ∨ i = 8 ∨ i = 9 ∨ i = 10 ∨ i = 11 by omega) with rfl | rfl | rfl | rfl | rfl | rfl | rfl | rfl | rfl | rfl | rfl | rfl
  all_goals rfl
theorem op_range {w : World} (hS : Tab w) : w.rangeAt 0 0 [.string ⟨#[58, 45]⟩, .string ⟨#[58, 61]⟩, .string ⟨#[58, 63]⟩, .string ⟨#[58, 43]⟩, .string ⟨#[37, 37]⟩, .string ⟨#[35, 35]⟩, .string ⟨#[45]⟩, .string ⟨#[61]⟩, .string ⟨#[63]⟩, .string ⟨#[43]⟩, .string ⟨#[37]⟩, .string ⟨#[35]⟩] := fun j v hv => by
  have hj : j < 12 := (List.getElem?_eq_some_iff.1 hv).1
  have h := op_lit j hj
  rw [List.getElem?_toArray] at h
  rw [h] at hv
  cases hv
  rw [Nat.zero_add]
  exact hS.ops j hj
/-- Which operation is the first that is next. -/
theorem op_first (s : List UInt8) (o : List UInt8) (h : (wopsL.find? fun o => o.isPrefixOf s) = some o) : ∃ j, j < 12 ∧ wopsL.getD j [] = o ∧ o.isPrefixOf s = true ∧ ∀ i, i < j → (wopsL.getD i []).isPrefixOf s = false := by
  obtain ⟨h1, aa, bb, h2, h3⟩ := List.find?_eq_some_iff_append.1 h
  refine ⟨aa.length, ?_, ?_, h1, fun i hi => ?_⟩
  · have : wopsL.length = 12 := rfl
    rw [h2] at this; simp at this; omega
  · rw [h2]; simp [List.getD]
  · have h4 : wopsL.getD i [] = aa[i] := by rw [h2]; simp [List.getD, List.getElem?_append_left hi, List.getElem?_eq_getElem hi]
    rw [h4]
    simpa using h3 aa[i] (List.getElem_mem hi)
/-- What comes behind a parameter's name. -/
def Behind (f d : Nat) (s : List UInt8) (N : Nat) (p : PartT) (u : List UInt8) : Prop :=
  ((s.drop N).head? = some 125 ∧ p = .mk 3 (s.take N) [] false [] ∧ u = (s.drop N).tail) ∨
  ((s.drop N).head? ≠ some 125 ∧ d < 8 ∧ ∃ o l, (wopsL.find? fun o => o.isPrefixOf (s.drop N)) = some o ∧ untilF f (d + 1) [] ((s.drop N).drop o.length) = some (l, u) ∧ p = .mk 3 (s.take N) o false l)
set_option maxRecDepth 100000 in
set_option maxHeartbeats 4000000 in
theorem brace_some (f : Nat) (hP : ∀ f', f' < f → PartOK f') (d g : Nat) (v : Value) (s u : ByteArray) (p : PartT) (N : Nat) (w : World) (hr : Wr g v s d w) (hs : s.data.toList.head? ≠ some 35) (hN : max (wparF s.data.toList) (s.data.toList.takeWhile digU).length = N) (h0 : 0 < N) (hb : Behind f d s.data.toList N p u.data.toList) :
    Calls Tryz.prog 102 #[.pointer (some ⟨g, 0, none⟩)] w (BracePost g v d p u s.size w) := by
  obtain ⟨r0, r1, r2, f0, f1, f2, lt0⟩ := three_facts hr.row
  obtain ⟨x, hx⟩ : ∃ x : ByteArray, x.data.toList = s.data.toList.dropWhile digU := ⟨⟨(s.data.toList.dropWhile digU).toArray⟩, rfl⟩
  obtain ⟨n1, hn1⟩ : ∃ n, wparF s.data.toList = n := ⟨_, rfl⟩
  obtain ⟨n2, hn2⟩ : ∃ n, (s.data.toList.takeWhile digU).length = n := ⟨_, rfl⟩
  have hlen : N + 1 ≤ s.size := by
    have e2 : s.size = s.data.toList.length := by simp
    rw [e2]
    rcases Nat.lt_or_ge N s.data.toList.length with h | h
    · exact h
    · have h0 : s.data.toList.drop N = [] := List.drop_of_length_le h
      rcases hb with ⟨h1, _⟩ | ⟨_, _, o, l, h1, _⟩
      · rw [h0] at h1; cases h1
      · rw [h0] at h1; cases h1
  have hxs : n2 + x.size = s.size := by
    have e1 : x.size = x.data.toList.length := by simp
    have e2 : s.size = s.data.toList.length := by simp
    rw [e1, hx, ← hn2, e2]; exact while_len _ _
  have hsub : (s.size : Int) - (x.size : Int) = (n2 : Int) := by omega
  have hsz := hr.size
  have hw1 : IntKind.i64.wrap ((n2 : Nat) : Int) = (n2 : Int) := wrap_small _ (by omega) (by omega)
  have hmx : max (n1 : Int) (n2 : Int) = (N : Int) := by rw [← hN, hn1, hn2]; omega
  have hN0 : ((N : Int) == 0) = false := by simp; omega
  have hN1 : (N : Int) ≤ (s.size : Int) := by omega
  have HH := Lib.hid (fun W (R : Wr g v s d W) => has_at g ⟨#[35]⟩ v s d false W R (by rw [head_is]; exact decide_eq_false hs))
  have HX := Lib.hid hx
  have HR := Lib.hid hr
  have HL := Lib.hid hlen
  have HN1 := Lib.hid hn1
  have HBH := Lib.hid hb
  have HP := Lib.hid hP
  have HXS := Lib.hid hxs
  clear hr hs hb hxs hn1 hn2 hN hx hlen hP
  go_enter Tryz.func102, Tryz.ntmps102
  go_wp2_with fail
  have B1 := Bc.start HR.out
  obtain ⟨W1, hW1⟩ : ∃ W1, ((w.alloc (.cells #[.int .i64 0, .string ⟨#[]⟩, .string ⟨#[]⟩, .bool false, .slice none 0 0] 92)).alloc (.cells #[.int .i64 3, .string ⟨#[]⟩, .string ⟨#[]⟩, .bool false, .slice none 0 0] 92)) = W1 := ⟨_, rfl⟩
  rw [hW1] at B1 ⊢
  have HB1 := Lib.hid B1
  clear hW1 r0 r1 r2 f0 f1 f2
  obtain ⟨r0, r1, r2, f0, f1, f2, lt1⟩ := three_facts B1.rd.row
  clear B1
  refine (HH.out W1 HB1.out.rd).mono ?_; rintro e w1 ⟨rfl, rfl⟩
  go_upto_region 11 with fail
  go_cut [6] (fun s6 wx => s6 = .int .i64 (N : Int) ∧ Bc g v s d ⟨#[]⟩ ⟨#[]⟩ (.slice none 0 0) w wx)
  case first =>
    have HPR : Hid (∀ W, Below W1.heap.size W1 W → Calls Tryz.prog 104 #[.pointer (some ⟨g, 0, none⟩)] W fun e w' => e = .returned (.int .i64 (n1 : Nat)) ∧ W = w') := fun W hW => by
      have := parameter_at g v s d W (HB1.out.below hW).rd
      rw [HN1.out] at this
      exact this
    have HTL : Hid (∀ W, Below W1.heap.size W1 W → Calls Tryz.prog 133 #[.string s, .string ⟨#[48, 49, 50, 51, 52, 53, 54, 55, 56, 57]⟩] W fun e w' => e = .returned (.string x) ∧ Below W1.heap.size W1 w') := fun W hW =>
      (trimD_at s x HX.out W).mono fun e w' ⟨h1, h2⟩ => ⟨h1, hW.trans (h2.mono hW.size)⟩
    have hbd := (Below.refl W1.heap.size W1).drew
    have hc1 : W1.drew.cell? ⟨g, 1, none⟩ = some (.string s) := r1
    go_region_with (first
      | (go_at_call 104; refine (HPR.out _ (by assumption)).mono ?_; rintro e w' ⟨rfl, rfl⟩)
      | (go_at_call 133; refine (HTL.out _ (by assumption)).mono ?_; rintro e wn ⟨rfl, hbn⟩; have hcn := ((HB1.out.below hbn).rd.row.cell 1)))
    all_goals
      go_wp2_with fail
      go_meet
      exact ⟨rfl, HB1.out.below (by assumption)⟩
  case rest =>
    obtain ⟨rfl, B2⟩ := hcut
    clear r0 r1 r2 f0 f1 f2
    have HT := Lib.hid (take_at g N v s d wc B2.rd (by have := HL.out; omega))
    have HB2 := Lib.hid B2
    clear B2
    go_wp2_with fail
    refine HT.out.mono ?_; rintro e w3 ⟨rfl, R3, K3⟩
    have B3 := HB2.out.next K3 R3
    obtain ⟨p0, p1, p2, p3, p4, q0, q1, q2, q3, q4, ltp⟩ := five_facts B3.par
    have HB3 := Lib.hid B3
    clear R3 K3 B3
    go_wp2_with fail
    have B4 := HB3.out.setP 1 (.string (s.extract 0 N)) (t' := s.extract 0 N) (op' := ⟨#[]⟩) (wv' := .slice none 0 0) rfl
    obtain ⟨W4, hW4⟩ : ∃ W4, (w3.setCell ⟨w.heap.size + 1, 1, none⟩ (.string (s.extract 0 N))) = W4 := ⟨_, rfl⟩
    rw [hW4] at B4 ⊢
    have HB4 := Lib.hid B4
    have hd0 : (s.extract N s.size).data.toList = s.data.toList.drop N := by rw [Lib.extract_to_end]
    have hz4 : (s.extract N s.size).size = s.size - N := by rw [ByteArray.size_extract]; omega
    obtain ⟨s2, hs2⟩ : ∃ s2, s.extract N s.size = s2 := ⟨_, rfl⟩
    rw [hs2] at HB4 hd0 hz4
    have HD0 := Lib.hid hd0
    have HZ4 := Lib.hid hz4
    clear p0 p1 p2 p3 p4 q0 q1 q2 q3 q4 hW4 B4 hd0 hz4 hs2
    rcases HBH.out with ⟨hb, hpe, hu⟩ | ⟨hb, hd8, o, l, ho, hun, hpe⟩
    · -- A PARAMETER ALONE
      have HH4 := Lib.hid (has_at g ⟨#[125]⟩ v s2 d true W4 HB4.out.rd (by rw [head_is, HD0.out, hb]; simp))
      have HT4 := Lib.hid (take_at g 1 v s2 d W4 HB4.out.rd (by have := HL.out; have := HZ4.out; omega))
      have huu : s2.extract 1 s2.size = u := by
        rw [← Lib.mk_data (ByteArray.extract _ 1 _), ← Lib.mk_data u, Lib.extract_to_end, HD0.out, hu, List.drop_one]
      have hus : N + u.size < s.size := by
        have := HZ4.out
        have := HL.out
        rw [← huu, ByteArray.size_extract]; omega
      rw [huu] at HT4
      have HUS := Lib.hid hus
      have HPE := Lib.hid hpe
      clear hb hpe hu huu hus HBH
      refine HH4.out.mono ?_; rintro e w5 ⟨rfl, rfl⟩
      go_wp2_with fail
      refine HT4.out.mono ?_; rintro e w6 ⟨rfl, R6, K6⟩
      have B6 := HB4.out.next K6 R6
      obtain ⟨p0, p1, p2, p3, p4, q0, q1, q2, q3, q4, ltp6⟩ := five_facts B6.par
      obtain ⟨a0, a1, a2, a3, a4, b0, b1, b2, b3, b4, ltq6⟩ := five_facts B6.res
      have HB6 := Lib.hid B6
      clear R6 K6 B6
      go_wp2_with fail
      obtain ⟨W', hW'⟩ : ∃ W', (((((w6.setCell ⟨w.heap.size, 0, none⟩ (.int .i64 3)).setCell ⟨w.heap.size, 1, none⟩ (.string (s.extract 0 N))).setCell ⟨w.heap.size, 2, none⟩ (.string ⟨#[]⟩)).setCell ⟨w.heap.size, 3, none⟩ (.bool false)).setCell ⟨w.heap.size, 4, none⟩ (.slice none 0 0)) = W' := ⟨_, rfl⟩
      obtain ⟨rf, Rf, Kf, _, _⟩ := HB6.out.finish W' hW'
      rw [hW']
      obtain ⟨j0, j1, j2, j3, j4, _⟩ := five_facts rf
      exact bodyPost_ret (v := .agg #[.int .i64 3, .string (s.extract 0 N), .string ⟨#[]⟩, .bool false, .slice none 0 0]) (by simp [results, Tryz.results102, go_sem, j0, j1, j2, j3, j4]) rfl
        ⟨_, _, none, 0, 0, rfl, by rw [HPE.out]; exact take_one W' _ 3 s N ⟨#[]⟩ false, Rf, Kf, by rw [ByteArray.size_extract]; have := HUS.out; omega⟩
    · -- ONE WITH AN OPERATION
      obtain ⟨j, hj, hjo, hjp, hjn⟩ := op_first _ o ho
      have HRA := Lib.hid (op_range HB4.out.rd.tab)
      have HH4 := Lib.hid (has_at g ⟨#[125]⟩ v s2 d false W4 HB4.out.rd (by rw [head_is, HD0.out]; exact decide_eq_false hb))
      have HJ := Lib.hid (And.intro hj (And.intro hjo (And.intro hjp hjn)))
      have HUN := Lib.hid hun
      have HPE := Lib.hid hpe
      have HD8 := Lib.hid hd8
      clear hb ho hun hpe hj hjo hjp hjn hd8 HBH
      refine HH4.out.mono ?_; rintro e w5 ⟨rfl, rfl⟩
      go_wp2_with (refine wpList_load_mid rfl 180 _ rfl 0 0 rfl [.string ⟨#[58, 45]⟩, .string ⟨#[58, 61]⟩, .string ⟨#[58, 63]⟩, .string ⟨#[58, 43]⟩, .string ⟨#[37, 37]⟩, .string ⟨#[35, 35]⟩, .string ⟨#[45]⟩, .string ⟨#[61]⟩, .string ⟨#[63]⟩, .string ⟨#[43]⟩, .string ⟨#[37]⟩, .string ⟨#[35]⟩] _ HRA.out Tryz.underlying180 rfl (by kernel_rfl) ?_)
      go_loopg [8, 70] 12 (fun gk s8 s70 wx => wx = W4 ∧ ∃ i : Nat, i + gk = 12 ∧ s70 = .int .i64 i ∧ i ≤ j)
      case atStart => exact ⟨rfl, 0, rfl, rfl, Nat.zero_le _⟩
      case round =>
        obtain ⟨rfl, i, hik, rfl, hij⟩ := hrel
        cases gk with
        | zero => have := HJ.out.1; omega
        | succ gk =>
          have hi12 : i < 12 := by omega
          have hiz : (i : Int) < 12 := by omega
          have HI := op_idx #[.string ⟨#[58, 45]⟩, .string ⟨#[58, 61]⟩, .string ⟨#[58, 63]⟩, .string ⟨#[58, 43]⟩, .string ⟨#[37, 37]⟩, .string ⟨#[35, 35]⟩, .string ⟨#[45]⟩, .string ⟨#[61]⟩, .string ⟨#[63]⟩, .string ⟨#[43]⟩, .string ⟨#[37]⟩, .string ⟨#[35]⟩] rfl i (.string ⟨(wopsL.getD i []).toArray⟩) (op_lit i hi12) (i : Int) rfl
          have hw2 : IntKind.i64.wrap ((i : Int) + 1) = (i : Int) + 1 := wrap_small _ (by omega) (by omega)
          obtain ⟨xo, hxo⟩ : ∃ xo : ByteArray, (⟨(wopsL.getD i []).toArray⟩ : ByteArray) = xo := ⟨_, rfl⟩
          have hxl : xo.data.toList = wopsL.getD i [] := by rw [← hxo]
          rw [hxo] at HI
          have HXL := Lib.hid hxl
          have HIJ := Lib.hid hij
          clear hxo hxl hij
          by_cases hm : i = j
          · subst hm
            have hpre : xo.data.toList.isPrefixOf s2.data.toList = true := by rw [HXL.out, HD0.out, HJ.out.2.1]; exact HJ.out.2.2.1
            have HH5 := Lib.hid (has_at g xo v s2 d true wr HB4.out.rd hpre)
            have hxsz : xo.size ≤ s2.size := by
              have e1 : xo.size = xo.data.toList.length := by simp
              have e2 : s2.size = s2.data.toList.length := by simp
              rw [e1, e2]
              exact (List.isPrefixOf_iff_prefix.1 hpre).length_le
            have hex : s2.extract 0 xo.size = xo := by
              have e1 : xo.size = xo.data.toList.length := by simp
              rw [← Lib.mk_data (ByteArray.extract _ 0 _), Lib.extract_data]
              have h := List.prefix_iff_eq_take.1 (List.isPrefixOf_iff_prefix.1 hpre)
              rw [e1]
              simp only [List.drop_zero, Nat.sub_zero]
              rw [← h, Lib.mk_data]
            have HT5 := Lib.hid (take_at g xo.size v s2 d wr HB4.out.rd hxsz)
            rw [hex] at HT5
            have hun2 : untilF f (d + 1) [] (s2.extract xo.size s2.size).data.toList = some (l, u.data.toList) := by
              rw [Lib.extract_to_end, HD0.out, show xo.size = o.length by rw [← HJ.out.2.1, ← HXL.out]; simp]
              exact HUN.out
            have HUN2 := Lib.hid hun2
            have hsz6 : xo.size + (s2.extract xo.size s2.size).size = s2.size := by rw [ByteArray.size_extract]; omega
            have HS6 := Lib.hid hsz6
            clear hpre hxsz hex hun2 hsz6
            go_wp2_with fail
            refine HH5.out.mono ?_; rintro e w6 ⟨rfl, rfl⟩
            go_wp2_with fail
            refine HT5.out.mono ?_; rintro e w7 ⟨rfl, R7, K7⟩
            have B7 := HB4.out.next K7 R7
            obtain ⟨p0, p1, p2, p3, p4, q0, q1, q2, q3, q4, ltp7⟩ := five_facts B7.par
            have HB7 := Lib.hid B7
            clear R7 K7 B7
            go_wp2_with fail
            have B8 := HB7.out.setP 2 (.string xo) (t' := s.extract 0 N) (op' := xo) (wv' := .slice none 0 0) rfl
            obtain ⟨W8, hW8⟩ : ∃ W8, (w7.setCell ⟨w.heap.size + 1, 2, none⟩ (.string xo)) = W8 := ⟨_, rfl⟩
            rw [hW8] at B8 ⊢
            have HWT := Lib.hid (within_word f HP.out d HD8.out g v (s2.extract xo.size s2.size) u l W8 B8.rd HUN2.out)
            have HB8 := Lib.hid B8
            clear p0 p1 p2 p3 p4 q0 q1 q2 q3 q4 hW8 B8
            refine HWT.out.mono ?_; rintro e w9 ⟨wa, wn, wcp, rfl, WI9, R9, K9, L9⟩
            have B9 := HB8.out.next K9 R9
            obtain ⟨p0, p1, p2, p3, p4, q0, q1, q2, q3, q4, ltp9⟩ := five_facts B9.par
            obtain ⟨a0, a1, a2, a3, a4, b0, b1, b2, b3, b4, ltq9⟩ := five_facts B9.res
            have HB9 := Lib.hid B9
            have HWI := Lib.hid WI9
            have HL9 := Lib.hid L9
            have HK8 := Lib.hid HB8.out.kept.size
            clear R9 K9 B9 WI9 L9
            go_wp2_with fail
            have B10 := HB9.out.setP 4 (.slice wa wn wcp) (t' := s.extract 0 N) (op' := xo) (wv' := .slice wa wn wcp) rfl
            obtain ⟨W10, hW10⟩ : ∃ W10, (w9.setCell ⟨w.heap.size + 1, 4, none⟩ (.slice wa wn wcp)) = W10 := ⟨_, rfl⟩
            have hlt10 : w.heap.size + 1 < W8.heap.size := HB8.out.par.lt
            have WI10 : WordIn W10 (fun b => W8.heap.size ≤ b) (.slice wa wn wcp) l := HWI.out.keep (by rw [← hW10]; simp) fun b hb _ => ⟨by rw [← hW10]; exact Below.heap_setCell _ _ _ _ (by show b ≠ w.heap.size + 1; omega), hb⟩
            rw [hW10] at B10
            clear p0 p1 p2 p3 p4 q0 q1 q2 q3 q4
            obtain ⟨W', hW'⟩ : ∃ W', (((((W10.setCell ⟨w.heap.size, 0, none⟩ (.int .i64 3)).setCell ⟨w.heap.size, 1, none⟩ (.string (s.extract 0 N))).setCell ⟨w.heap.size, 2, none⟩ (.string xo)).setCell ⟨w.heap.size, 3, none⟩ (.bool false)).setCell ⟨w.heap.size, 4, none⟩ (.slice wa wn wcp)) = W' := ⟨_, rfl⟩
            obtain ⟨rf, Rf, Kf, hzf, hhf⟩ := B10.finish W' hW'
            have WIf : WordIn W' (fun b => w.heap.size ≤ b) (.slice wa wn wcp) l := WI10.keep hzf fun b hb _ => ⟨hhf b (by omega), by omega⟩
            rw [hW10, hW']
            obtain ⟨j0, j1, j2, j3, j4, _⟩ := five_facts rf
            exact bodyPost_ret (v := .agg #[.int .i64 3, .string (s.extract 0 N), .string xo, .bool false, .slice wa wn wcp]) (by simp [results, Tryz.results102, go_sem, j0, j1, j2, j3, j4]) rfl
              ⟨_, _, wa, wn, wcp, rfl, by
                obtain ⟨ys, wv1, wv2⟩ := WIf
                refine ⟨l, ys, ?_, wv1, wv2⟩
                rw [HPE.out, ← HJ.out.2.1, ← HXL.out, Lib.extract_data]
                simp, Rf, Kf, by rw [ByteArray.size_extract]; have := HL9.out; have := HS6.out; have := HZ4.out; have := HL.out; omega⟩
          · have hnp : xo.data.toList.isPrefixOf s2.data.toList = false := by rw [HXL.out, HD0.out]; exact HJ.out.2.2.2 i (by have := HIJ.out; omega)
            have HH5 := Lib.hid (has_at g xo v s2 d false wr HB4.out.rd hnp)
            clear hnp
            go_wp2_with fail
            refine HH5.out.mono ?_; rintro e w6 ⟨rfl, rfl⟩
            go_wp2_with fail
            go_roundg gk
            case measure => omega
            case rel => exact ⟨rfl, i + 1, by omega, by go_num, by have := HIJ.out; omega⟩
end Go.Proofs.YtkmpbkhlcapbgaaGreatDoor
