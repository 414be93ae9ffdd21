/-
  DERIVED. The walk of word's dollar: what belongs to a dollar. The walk of word's dollar: with parentheses, with braces.
-/
import Derived.Test.YtkmpbkhlcapbgaaGreatDoorZ12
namespace Go.Proofs.YtkmpbkhlcapbgaaGreatDoor
open Go Go.RowKit
/-- What brace comes to, by the plain function; handed in. -/
def BraceOK (f : Nat) : Prop := ∀ (d g : Nat) (v : Value) (s u : ByteArray) (p : PartT) (w : World), d < 8 → Wr g v s d w → braceF f d s.data.toList = some (p, u.data.toList) →
  Calls Tryz.prog 102 #[.pointer (some ⟨g, 0, none⟩)] w (BracePost g v d p u s.size w)
theorem put_plain {g : Nat} {v : Value} {d : Nat} {l : List PartT} {w : World} (hp : Wp g v l w) {n : Nat} (hf : Few l n) (k : Nat) (t op : ByteArray) (q : Bool) (ht : t.size ≤ n) (W : World) (u : ByteArray) (K : Kept g w W) (R : Wr g v u d W) :
    Calls Tryz.prog 45 #[.pointer (some ⟨g, 0, none⟩), .agg #[.int .i64 (k : Nat), .string t, .string op, .bool q, .slice none 0 0]] W (PutPost g u d (putF l (.mk k t.data.toList op.data.toList q [])) W) :=
  put_at g v u d l _ k t op q (.slice none 0 0) W R (hp.kept K) n hf ht (plain_one W _ k t op q)
theorem wpost_of {g d : Nat} {l2 : List PartT} {u : ByteArray} {ul : List UInt8} {n : Nat} {w W w' : World} {e : Ending} (h : PutPost g u d l2 W e w') (K : Kept g w W) (hg : g ≤ w.heap.size) (hu : u.data.toList = ul) (hf : Few l2 u.size) (hn : u.size < n) : WPost g d l2 ul n w e w' := by
  obtain ⟨he, v, h1, h2, h3⟩ := h
  exact ⟨u, hu, ⟨he, v, h1, h2, (K.below hg).trans h3⟩, hf, hn⟩
theorem size_len (s : ByteArray) : s.size = s.data.toList.length := by simp
theorem few_plain {l : List PartT} {n m : Nat} {k : Nat} {t op : ByteArray} {q : Bool} (h : Few l n) (h1 : t.size + m ≤ n) (h2 : m < n) : Few (putF l (.mk k t.data.toList op.data.toList q [])) m :=
  h.put (by show t.data.toList.length + m ≤ n; rw [← size_len]; exact h1) h2
theorem pre_two (s : ByteArray) : (⟨#[40, 40]⟩ : ByteArray).data.toList.isPrefixOf s.data.toList = [40, 40].isPrefixOf s.data.toList := rfl
theorem tail_of {s t : ByteArray} {c : UInt8} (h : s.data.toList = c :: t.data.toList) : s.extract 1 s.size = t ∧ s.extract 0 1 = ⟨#[c]⟩ ∧ s.size = t.size + 1 := by
  refine ⟨?_, ?_, by rw [size_len, h, size_len]; rfl⟩
  · rw [← Lib.mk_data (ByteArray.extract _ 1 _), ← Lib.mk_data t, Lib.extract_to_end, h]; rfl
  · rw [← Lib.mk_data (ByteArray.extract _ 0 _), Lib.extract_data, h]; rfl
set_option maxRecDepth 100000 in
set_option maxHeartbeats 4000000 in
/-- A dollar alone. -/
theorem dollar_bare (d g : Nat) (v : Value) (s t : ByteArray) (q : Bool) (l : List PartT) (w : World) (hr : Wr g v s d w) (hp : Wp g v l w) (hf : Few l s.size) (hs : s.data.toList = 36 :: t.data.toList)
    (h1 : t.data.toList.head? ≠ some 123) (h3 : t.data.toList.head? ≠ some 40) (h4 : wparF t.data.toList = 0) :
    Calls Tryz.prog 74 #[.pointer (some ⟨g, 0, none⟩), .bool q] w (WPost g d (putF l (.mk (if q then 2 else 1) [36] [] false [])) t.data.toList s.size w) := by
  obtain ⟨e1, e2, e3⟩ := tail_of hs
  have h2 : [40, 40].isPrefixOf t.data.toList = false := by
    cases h : t.data.toList with
    | nil => rfl
    | cons a b =>
      rw [h] at h3
      have : ¬ 40 = a := fun e => h3 (by rw [e]; rfl)
      simp [List.isPrefixOf, this]
  have HT := Lib.hid (take_at g 1 v s d w hr (by omega))
  rw [e1] at HT
  have H1 := Lib.hid (fun W (R : Wr g v t d W) => has_at g ⟨#[123]⟩ v t d false W R (by rw [head_is]; exact decide_eq_false h1))
  have H2 := Lib.hid (fun W (R : Wr g v t d W) => has_at g ⟨#[40, 40]⟩ v t d false W R h2)
  have H3 := Lib.hid (fun W (R : Wr g v t d W) => has_at g ⟨#[40]⟩ v t d false W R (by rw [head_is]; exact decide_eq_false h3))
  have H4 := Lib.hid (fun W (R : Wr g v t d W) => parameter_at g v t d W R)
  rw [h4] at H4
  have HPT := Lib.hid (fun k W => put_plain (d := d) hp hf k ⟨#[36]⟩ ⟨#[]⟩ false (by rw [e3]; show 1 ≤ _; omega) W t)
  have HFW := Lib.hid (fun k => few_plain (k := k) (t := ⟨#[36]⟩) (op := ⟨#[]⟩) (q := false) (m := t.size) hf (by rw [e3]; show 1 + _ ≤ _; omega) (by omega))
  have HE3 := Lib.hid e3
  have HG := Lib.hid (Nat.le_of_lt hr.row.lt)
  obtain ⟨l2, hl2⟩ : ∃ l2, putF l (.mk (if q then 2 else 1) [36] [] false []) = l2 := ⟨_, rfl⟩
  rw [hl2]
  have HL2 := Lib.hid hl2
  clear hr hp hf hs h1 h2 h3 h4 e1 e2 e3 hl2
  go_enter Tryz.func74, Tryz.ntmps74
  go_wp2_with fail
  refine HT.out.mono ?_; rintro e w1 ⟨rfl, R1, K1⟩
  have HR := Lib.hid R1
  have HK := Lib.hid K1
  clear R1 K1
  go_wp2_with fail
  refine (H1.out _ HR.out).mono ?_; rintro e w2 ⟨rfl, rfl⟩
  go_wp2_with fail
  refine (H2.out _ HR.out).mono ?_; rintro e w2 ⟨rfl, rfl⟩
  go_wp2_with fail
  refine (H3.out _ HR.out).mono ?_; rintro e w2 ⟨rfl, rfl⟩
  go_wp2_with fail
  refine (H4.out _ HR.out).mono ?_; rintro e w2 ⟨rfl, rfl⟩
  cases q
  · go_wp2_with fail
    refine (HPT.out 1 _ HK.out HR.out).mono ?_; rintro e w2 ⟨rfl, hx⟩
    go_wp2_with fail
    go_end0
    rw [← HL2.out]
    exact wpost_of ⟨rfl, hx⟩ HK.out HG.out rfl (HFW.out 1) (by have := HE3.out; omega)
  · go_wp2_with fail
    refine (HPT.out 2 _ HK.out HR.out).mono ?_; rintro e w2 ⟨rfl, hx⟩
    go_wp2_with fail
    go_end0
    rw [← HL2.out]
    exact wpost_of ⟨rfl, hx⟩ HK.out HG.out rfl (HFW.out 2) (by have := HE3.out; omega)
set_option maxRecDepth 100000 in
set_option maxHeartbeats 4000000 in
/-- A parameter without braces. -/
theorem dollar_name (d g : Nat) (v : Value) (s t : ByteArray) (q : Bool) (l : List PartT) (n : Nat) (w : World) (hr : Wr g v s d w) (hp : Wp g v l w) (hf : Few l s.size) (hs : s.data.toList = 36 :: t.data.toList)
    (h1 : t.data.toList.head? ≠ some 123) (h3 : t.data.toList.head? ≠ some 40) (h4 : wparF t.data.toList = n) (h0 : 0 < n) (hn : n ≤ t.size) :
    Calls Tryz.prog 74 #[.pointer (some ⟨g, 0, none⟩), .bool q] w (WPost g d (putF l (.mk 3 (t.data.toList.take n) [] q [])) (t.data.toList.drop n) s.size w) := by
  obtain ⟨e1, e2, e3⟩ := tail_of hs
  have h2 : [40, 40].isPrefixOf t.data.toList = false := by
    cases h : t.data.toList with
    | nil => rfl
    | cons a b =>
      rw [h] at h3
      have : ¬ 40 = a := fun e => h3 (by rw [e]; rfl)
      simp [List.isPrefixOf, this]
  have HT := Lib.hid (take_at g 1 v s d w hr (by omega))
  rw [e1] at HT
  have H1 := Lib.hid (fun W (R : Wr g v t d W) => has_at g ⟨#[123]⟩ v t d false W R (by rw [head_is]; exact decide_eq_false h1))
  have H2 := Lib.hid (fun W (R : Wr g v t d W) => has_at g ⟨#[40, 40]⟩ v t d false W R h2)
  have H3 := Lib.hid (fun W (R : Wr g v t d W) => has_at g ⟨#[40]⟩ v t d false W R (by rw [head_is]; exact decide_eq_false h3))
  have H4 := Lib.hid (fun W (R : Wr g v t d W) => parameter_at g v t d W R)
  rw [h4] at H4
  have H5 := Lib.hid (fun W (R : Wr g v t d W) => take_at g n v t d W R hn)
  have hsz1 : (t.extract 0 n).size = n := by rw [ByteArray.size_extract]; omega
  have hsz2 : (t.extract n t.size).size = t.size - n := by rw [ByteArray.size_extract]; omega
  have hd1 : (t.extract 0 n).data.toList = t.data.toList.take n := by rw [Lib.extract_data]; simp
  have HPT := Lib.hid (fun W => put_plain (d := d) hp hf 3 (t.extract 0 n) ⟨#[]⟩ q (by rw [hsz1]; omega) W (t.extract n t.size))
  have HFW := Lib.hid (few_plain (k := 3) (t := t.extract 0 n) (op := ⟨#[]⟩) (q := q) (m := (t.extract n t.size).size) hf (by rw [hsz1, hsz2]; omega) (by rw [hsz2]; omega))
  have HE3 : Hid ((t.extract n t.size).size < s.size) := by unfold Hid; rw [hsz2]; omega
  have HD1 := Lib.hid hd1
  have HG := Lib.hid (Nat.le_of_lt hr.row.lt)
  have hn0 : (0 : Int) < (n : Int) := by omega
  clear hr hp hf hs h1 h2 h3 h4 e1 e2 e3 hsz1 hsz2 hd1
  go_enter Tryz.func74, Tryz.ntmps74
  go_wp2_with fail
  refine HT.out.mono ?_; rintro e w1 ⟨rfl, R1, K1⟩
  have HR := Lib.hid R1
  have HK := Lib.hid K1
  clear R1 K1
  go_wp2_with fail
  refine (H1.out _ HR.out).mono ?_; rintro e w2 ⟨rfl, rfl⟩
  go_wp2_with fail
  refine (H2.out _ HR.out).mono ?_; rintro e w2 ⟨rfl, rfl⟩
  go_wp2_with fail
  refine (H3.out _ HR.out).mono ?_; rintro e w2 ⟨rfl, rfl⟩
  go_wp2_with fail
  refine (H4.out _ HR.out).mono ?_; rintro e w2 ⟨rfl, rfl⟩
  go_wp2_with fail
  have hRd : Wr g v t d w1.drew := ⟨HR.out.row, HR.out.size, HR.out.deep, HR.out.far, ⟨HR.out.tab.ops, HR.out.tab.max⟩⟩
  have hKd : Hid (Kept g w w1.drew) := HK.out.trans (Kept.of (Below.refl _ _).drew)
  go_region_with (first
    | (go_at_call 104; refine (H4.out _ (by assumption)).mono ?_; rintro e w' ⟨rfl, rfl⟩)
    | (go_at_call 44; refine (H5.out _ (by assumption)).mono ?_; rintro e wn ⟨rfl, Rn, Kn⟩)
    | (go_at_call 45; refine (HPT.out _ (hKd.out.trans (by assumption)) (by assumption)).mono ?_; rintro e wm ⟨rfl, hx⟩))
  all_goals
    go_end0
    have hx2 := Lib.hid (wpost_of (W := _) ⟨rfl, hx⟩ (hKd.out.trans (by assumption)) HG.out (show (t.extract n t.size).data.toList = t.data.toList.drop n from Lib.extract_to_end _ _) HFW.out HE3.out)
    have hx3 := hx2.out
    rw [HD1.out] at hx3
    exact hx3
end Go.Proofs.YtkmpbkhlcapbgaaGreatDoor
namespace Go.Proofs.YtkmpbkhlcapbgaaGreatDoor
open Go Go.RowKit
theorem Wr.drew {g : Nat} {v : Value} {s : ByteArray} {d : Nat} {w : World} (h : Wr g v s d w) : Wr g v s d w.drew := ⟨h.row, h.size, h.deep, h.far, ⟨h.tab.ops, h.tab.max⟩⟩
set_option maxRecDepth 100000 in
set_option maxHeartbeats 4000000 in
theorem dollar_arith (d g : Nat) (v : Value) (s t x u : ByteArray) (q : Bool) (l : List PartT) (f : Nat) (w : World) (hr : Wr g v s d w) (hp : Wp g v l w) (hf : Few l s.size) (hs : s.data.toList = 36 :: t.data.toList)
    (h2 : [40, 40].isPrefixOf t.data.toList = true) (h4 : arithT f 0 (t.data.toList.drop 2) [] = some (x.data.toList, u.data.toList)) :
    Calls Tryz.prog 74 #[.pointer (some ⟨g, 0, none⟩), .bool q] w (WPost g d (putF l (.mk 4 x.data.toList [] q [])) u.data.toList s.size w) := by
  obtain ⟨e1, e2, e3⟩ := tail_of hs
  have hpl := (List.isPrefixOf_iff_prefix.1 h2)
  have h1 : t.data.toList.head? ≠ some 123 := by
    obtain ⟨r, hr⟩ := hpl
    rw [← hr]
    intro h
    exact absurd (Option.some.inj h) (by decide)
  have htl : 2 ≤ t.size := by rw [size_len]; exact hpl.length_le
  have HT := Lib.hid (take_at g 1 v s d w hr (by omega))
  rw [e1] at HT
  have H1 := Lib.hid (fun W (R : Wr g v t d W) => has_at g ⟨#[123]⟩ v t d false W R (by rw [head_is]; exact decide_eq_false h1))
  have H2 := Lib.hid (fun W (R : Wr g v t d W) => has_at g ⟨#[40, 40]⟩ v t d true W R h2)
  have H3 := Lib.hid (fun W (R : Wr g v t d W) => take_at g 2 v t d W R htl)
  obtain ⟨t2, ht2⟩ : ∃ t2, t.extract 2 t.size = t2 := ⟨_, rfl⟩
  have hsz2 : t2.size + 2 = t.size := by rw [← ht2, ByteArray.size_extract]; omega
  have hdd : t2.data.toList = t.data.toList.drop 2 := by rw [← ht2, Lib.extract_to_end]
  rw [ht2] at H3
  rw [← hdd] at h4
  have H4 := Lib.hid (fun W (R : Wr g v t2 d W) => arith_at g v t2 d f x u W R h4)
  have HPT := Lib.hid (fun W (hx : x.size ≤ s.size) => put_plain (d := d) hp hf 4 x ⟨#[]⟩ q hx W u)
  have HFW := Lib.hid (fun (hx : x.size + u.size ≤ t2.size) => few_plain (k := 4) (t := x) (op := ⟨#[]⟩) (q := q) (m := u.size) hf (by omega) (by omega))
  have HE3 : Hid (t2.size < s.size) := by unfold Hid; omega
  have HG := Lib.hid (Nat.le_of_lt hr.row.lt)
  clear hr hp hf hs h1 h2 h4 e1 e2 e3 hsz2 hdd ht2 hpl htl
  go_enter Tryz.func74, Tryz.ntmps74
  go_wp2_with fail
  refine HT.out.mono ?_; rintro e w1 ⟨rfl, R1, K1⟩
  have HR := Lib.hid R1
  have HK := Lib.hid K1
  clear R1 K1
  go_wp2_with fail
  refine (H1.out _ HR.out).mono ?_; rintro e w2 ⟨rfl, rfl⟩
  go_wp2_with fail
  refine (H2.out _ HR.out).mono ?_; rintro e w2 ⟨rfl, rfl⟩
  go_wp2_with fail
  refine (H3.out _ HR.out).mono ?_; rintro e w2 ⟨rfl, R2, K2⟩
  have hRd := R2.drew
  have hKd : Hid (Kept g w w2.drew) := (HK.out.trans K2).trans (Kept.of (Below.refl _ _).drew)
  clear R2 K2
  go_wp2_with fail
  go_region_with (first
    | (go_at_call 103; refine (H4.out _ (by assumption)).mono ?_; rintro e wn ⟨rfl, Rn, Kn, Ln⟩)
    | (go_at_call 45; refine (HPT.out _ (by have := HE3.out; omega) (hKd.out.trans (by assumption)) (by assumption)).mono ?_; rintro e wm ⟨rfl, hx⟩))
  all_goals
    go_end0
    exact wpost_of (W := _) ⟨rfl, hx⟩ (hKd.out.trans (by assumption)) HG.out rfl (HFW.out (by assumption)) (by have := HE3.out; omega)
set_option maxRecDepth 100000 in
set_option maxHeartbeats 4000000 in
theorem dollar_brace (f : Nat) (hB : BraceOK f) (d g : Nat) (hd : d < 8) (v : Value) (s t t2 u : ByteArray) (q : Bool) (l : List PartT) (p : PartT) (w : World) (hr : Wr g v s d w) (hp : Wp g v l w) (hf : Few l s.size) (hs : s.data.toList = 36 :: t.data.toList) (ht : t.data.toList = 123 :: t2.data.toList)
    (h4 : braceF f d t2.data.toList = some (p, u.data.toList)) :
    Calls Tryz.prog 74 #[.pointer (some ⟨g, 0, none⟩), .bool q] w (WPost g d (putF l (p.with q)) u.data.toList s.size w) := by
  obtain ⟨e1, e2, e3⟩ := tail_of hs
  obtain ⟨i1, i2, i3⟩ := tail_of ht
  have HT := Lib.hid (take_at g 1 v s d w hr (by omega))
  rw [e1] at HT
  have H1 := Lib.hid (fun W (R : Wr g v t d W) => has_at g ⟨#[123]⟩ v t d true W R (by rw [head_is, ht]; rfl))
  have H3 := Lib.hid (fun W (R : Wr g v t d W) => take_at g 1 v t d W R (by omega))
  rw [i1] at H3
  have H4 := Lib.hid (fun W (R : Wr g v t2 d W) => hB d g v t2 u p W hd R h4)
  have hd8 : ((d : Int) == 8) = false := by simp; omega
  have HPT : Hid (∀ W W1, w.heap.size ≤ W1 → Kept g w W → Wr g v u d W → ∀ (x op : ByteArray) (a : Option Addr) (m c : Nat), x.size ≤ s.size → OneAt W (fun b => W1 ≤ b) (p.with q) 3 x op q (.slice a m c) → Calls Tryz.prog 45 #[.pointer (some ⟨g, 0, none⟩), .agg #[.int .i64 3, .string x, .string op, .bool q, .slice a m c]] W (PutPost g u d (putF l (p.with q)) W)) := by
    intro W W1 hW K R x op a m c hx ho
    refine put_at g v u d l _ 3 x op q (.slice a m c) W R (hp.kept K) s.size hf hx (ho.keep (Nat.le_refl _) fun b hb hbl => ⟨rfl, ?_, ?_⟩)
    · have := hr.row.lt; omega
    · intro e
      obtain ⟨xs, h1, _⟩ := hp.has
      have := (h1.lt b e).2
      omega
  have HFW : Hid (∀ (x op : ByteArray) (wd : List PartT), p = .mk 3 x.data.toList op.data.toList false wd → x.size + u.size < t2.size → Few (putF l (p.with q)) u.size) := by
    intro x op wd hpe hx
    refine hf.put ?_ (by omega)
    rw [hpe]
    show x.data.toList.length + u.size ≤ s.size
    rw [← size_len]; omega
  have HE3 : Hid (t2.size < s.size) := by unfold Hid; omega
  have HG := Lib.hid (Nat.le_of_lt hr.row.lt)
  clear hp hf hs ht h4 e1 e2 e3 i1 i2 i3 hr
  go_enter Tryz.func74, Tryz.ntmps74
  go_wp2_with fail
  refine HT.out.mono ?_; rintro e w1 ⟨rfl, R1, K1⟩
  have HR := Lib.hid R1
  have HK := Lib.hid K1
  obtain ⟨r0, r1, r2, f0, f1, f2, lt0⟩ := three_facts R1.row
  clear R1 K1
  go_wp2_with fail
  refine (H1.out _ HR.out).mono ?_; rintro e w2 ⟨rfl, rfl⟩
  go_wp2_with fail
  refine (H3.out _ HR.out).mono ?_; rintro e w2 ⟨rfl, R2, K2⟩
  have HR2 := Lib.hid R2
  have HK2 := Lib.hid (HK.out.trans K2)
  clear R2 K2 r0 r1 r2 f0 f1 f2
  go_wp2_with fail
  refine (H4.out _ HR2.out).mono ?_; rintro e w3 ⟨x, op, a, m, c, rfl, O3, R3, K3, L3⟩
  have HR3 := Lib.hid R3
  have HK3 := Lib.hid (HK2.out.trans K3)
  have HO3 := Lib.hid O3
  have HL3 := Lib.hid L3
  clear R3 K3 O3 L3
  go_wp2_with fail
  have hRd : Wr g v u d (w3.alloc (.cells #[.int .i64 3, .string x, .string op, .bool q, .slice a m c] 92)).drew := (HR3.out.next ((Kept.refl g w3).alloc _) (HR3.out.row.alloc _) HR3.out.size).drew
  have hKd : Hid (Kept g w (w3.alloc (.cells #[.int .i64 3, .string x, .string op, .bool q, .slice a m c] 92)).drew) := (HK3.out.alloc _).trans (Kept.of (Below.refl _ _).drew)
  obtain ⟨wd, ys, hpe, hv, hwp⟩ := HO3.out
  have HPE := Lib.hid hpe
  have hOd : Hid (OneAt (w3.alloc (.cells #[.int .i64 3, .string x, .string op, .bool q, .slice a m c] 92)).drew (fun b => w2.heap.size ≤ b) (p.with q) 3 x op q (.slice a m c)) := by
    have hk : ∀ b, w2.heap.size ≤ b → b < w3.heap.size → (w3.alloc (.cells #[.int .i64 3, .string x, .string op, .bool q, .slice a m c] 92)).drew.heap[b]? = w3.heap[b]? ∧ w2.heap.size ≤ b := fun b hb hbl => ⟨((Below.refl w3.heap.size w3).alloc (Nat.le_refl _) _).drew.block b hbl, hb⟩
    exact ⟨wd, ys, by rw [hpe]; rfl, hv.keep (by simp) hk, hwp.keep (by simp) hk⟩
  clear hpe hv hwp
  go_region_with (go_at_call 45; refine (HPT.out _ w2.heap.size HK2.out.size hKd.out (by assumption) x op a m c (by have := HL3.out; have := HE3.out; omega) hOd.out).mono ?_; rintro e wm ⟨rfl, hx⟩)
  all_goals
    go_end0
    exact wpost_of (W := _) ⟨rfl, hx⟩ hKd.out HG.out rfl (HFW.out x op wd HPE.out HL3.out) (by have := HE3.out; have := HL3.out; omega)
end Go.Proofs.YtkmpbkhlcapbgaaGreatDoor
