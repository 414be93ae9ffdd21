/-
  DERIVED. What the laws of expand call, at an Env in memory: Set, Get, Flag, One, Fields. The walk of the document's examples (awake): they hold.
-/
import Derived.Test.YtkmpbkhlcapbgaaGreatDoorZ44
import Derived.Test.YtkmpbkhlcapbgaaGreatDoorZ40
import Derived.Lib.IndexAny
namespace Go.Proofs.YtkmpbkhlcapbgaaGreatDoor
open Go Go.RowKit
theorem p0_all (f : Nat) (hf : f ≤ 1000000) : ExPs P0 f := (ex_all P0 (fun _ => rfl) (fun _ _ => rfl) f hf).2
theorem one_ok (fw : Nat) (s : ByteArray) (hs : s.size ≤ 1000000000) (l : List PartT) (hl : wordF fw s.data.toList = some l) (hsm : smallL l) (f : Nat) (hf : f ≤ 1000000) (e : EnvT) (out : ExT) (ho : partsE P0 f e ([], []) l = some out)
    (va : Option Addr) (nv cv : Nat) (aa : Option Addr) (na ca : Nat) (w : World) (hE : EnvA w (.slice va nv cv) (.slice aa na ca) e) (hT : Tab w) :
    Calls Tryz.prog 14 #[envVal va nv cv aa na ca e, .string s] w (OneRes (resOf e out) w) :=
  one_of s e (resOf e out) va nv cv aa na ca w fun W hW =>
    all_res P0 f (p0_all f hf) fw s hs l hl hsm e out ho (fun b => b < w.heap.size) va nv cv aa na ca W (hE.keep hW.size fun b _ q2 => ⟨hW.block b q2, q2⟩) (fun _ hb => Nat.lt_of_lt_of_le hb hW.size) (hT.below hT.lt hW)
theorem fields_ok (fw : Nat) (s : ByteArray) (hs : s.size ≤ 1000000000) (l : List PartT) (hl : wordF fw s.data.toList = some l) (hsm : smallL l) (f : Nat) (hf : f ≤ 1000000) (e : EnvT) (out : ExT) (ho : partsE P0 f e ([], []) l = some out)
    (va : Option Addr) (nv cv : Nat) (aa : Option Addr) (na ca : Nat) (w : World) (hE : EnvA w (.slice va nv cv) (.slice aa na ca) e) (hT : Tab w) :
    Calls Tryz.prog 12 #[envVal va nv cv aa na ca e, .string s] w (FieldsRes (resOf e out) w) :=
  fields_of s e (resOf e out) va nv cv aa na ca w fun W hW =>
    all_res P0 f (p0_all f hf) fw s hs l hl hsm e out ho (fun b => b < w.heap.size) va nv cv aa na ca W (hE.keep hW.size fun b _ q2 => ⟨hW.block b q2, q2⟩) (fun _ hb => Nat.lt_of_lt_of_le hb hW.size) (hT.below hT.lt hW)
theorem set_status (e : EnvT) (s x : List UInt8) : (e.set s x).status = e.status ∧ (e.set s x).flags = e.flags ∧ (e.set s x).args = e.args := by
  unfold EnvT.set
  split <;> exact ⟨rfl, rfl, rfl⟩
theorem rowv_is {w : World} {v : Value} {l : List (ByteArray × ByteArray)} (h : RowV w v l) : ∃ a n c, v = .slice a n c := h.elim fun a h => h.elim fun cap h => ⟨a, _, cap, h.1⟩
theorem set_ok (s x : ByteArray) (hs : s.size ≤ 281474976710656) (hn : isName s.data.toList = true) (e : EnvT) (va : Option Addr) (nv cv : Nat) (aa : Option Addr) (na ca : Nat) (w : World) (hE : EnvA w (.slice va nv cv) (.slice aa na ca) e) (hfew : (e.set s.data.toList x.data.toList).vars.length ≤ 1000000) :
    Calls Tryz.prog 13 #[envVal va nv cv aa na ca e, .string s, .string x] w fun r w' => ∃ va2 nv2 cv2, r = .returned (envVal va2 nv2 cv2 aa na ca (e.set s.data.toList x.data.toList)) ∧ EnvA w' (.slice va2 nv2 cv2) (.slice aa na ca) (e.set s.data.toList x.data.toList) ∧ Below w.heap.size w w' := by
  refine (set_at s x hs hn e _ (.slice va nv cv) aa na ca e.status ⟨e.flags.toArray⟩ w hE hfew).mono ?_
  rintro r w' ⟨v', rfl, hE2, -, hb⟩
  obtain ⟨va2, nv2, cv2, rfl⟩ := rowv_is hE2.vars.1
  obtain ⟨h1, h2, -⟩ := set_status e s.data.toList x.data.toList
  refine ⟨va2, nv2, cv2, by simp only [envVal, h1, h2], hE2.keep (Nat.le_refl _) fun b _ _ => ⟨rfl, trivial⟩, hb⟩
theorem get_ok (s : ByteArray) (hs : s.size ≤ 281474976710656) (hn : isName s.data.toList = true) (e : EnvT) (va : Option Addr) (nv cv : Nat) (aa : Option Addr) (na ca : Nat) (w : World) (hE : EnvA w (.slice va nv cv) (.slice aa na ca) e) :
    Calls Tryz.prog 15 #[envVal va nv cv aa na ca e, .string s] w fun x w' => x = .returned (.tuple #[.string ⟨((e.get s.data.toList).getD []).toArray⟩, .bool (e.get s.data.toList).isSome]) ∧ Below w.heap.size w w' :=
  get_at s hs hn e _ _ _ _ _ w hE
theorem ones_flag (e : EnvT) (c : UInt8) (on : Bool) : onesL ⟨e.flags.toArray⟩ c on 4 = ⟨((e.flag c on).flags).toArray⟩ := by
  unfold onesL EnvT.flag
  have hk : ∀ f, keepB ⟨e.flags.toArray⟩ c on f = ((f == c && on) || (f != c && e.has f)) := by
    intro f
    unfold keepB hasB EnvT.has
    rw [Lib.contains_iff_indexByte]
  have : efuxL.take 4 = [101, 102, 117, 120] := rfl
  rw [this]
  congr 2
  exact List.filter_congr fun f _ => hk f
theorem flag_ok (e : EnvT) (c : UInt8) (on : Bool) (va : Option Addr) (nv cv : Nat) (aa : Option Addr) (na ca : Nat) (w : World) (hE : EnvA w (.slice va nv cv) (.slice aa na ca) e) :
    Calls Tryz.prog 20 #[envVal va nv cv aa na ca e, .int .u8 (c.toNat : Int), .bool on] w fun r w' => r = .returned (envVal va nv cv aa na ca (e.flag c on)) ∧ EnvA w' (.slice va nv cv) (.slice aa na ca) (e.flag c on) ∧ Below w.heap.size w w' := by
  refine (flag_any va nv cv aa na ca e.status ⟨e.flags.toArray⟩ c on w).mono ?_
  rintro r w' ⟨rfl, hb⟩
  refine ⟨by rw [ones_flag]; rfl, ?_, hb⟩
  have h := hE.below hb
  exact ⟨h.vars, h.args, h.up, h.few⟩
theorem env_zero (w : World) : EnvA w (.slice none 0 0) (.slice none 0 0) E0 where
  vars := ⟨⟨none, 0, rfl, Nat.le_refl _, by decide, .inl ⟨rfl, rfl⟩⟩, fun a n c e => by cases e⟩
  args := ⟨none, 0, rfl, Nat.le_refl _, by decide, .inl rfl⟩
  up := List.Pairwise.nil
  few := by decide
/-- A field of a row of fields. -/
theorem field_at {w : World} {b n : Nat} {a : Option Addr} {n' c : Nat} {L : List RowT} (h : w.ownsRow b 38 2 (.slice a n' c) n (cellsL (bvR L))) (i : Nat) (hi : i < L.length) :
    ∃ q, a = some ⟨q, 0, none⟩ ∧ w.cell? ⟨q, i * 2, none⟩ = some (.string ⟨L[i].1.toArray⟩) ∧ w.cell? ⟨q, i * 2 + 1, none⟩ = some (.string ⟨L[i].2.toArray⟩) := by
  have hg := cellsL_get (bvR L) i (by rw [bvR_length]; exact hi)
  have he : (bvR L)[i]'(by rw [bvR_length]; exact hi) = rb L[i] := by simp [bvR]
  rw [he] at hg
  rcases h.2 with ⟨hv, rfl⟩ | ⟨q, cap, cur, hv, hgq, r⟩
  · have := h.1
    rw [cellsL_length, bvR_length] at this
    omega
  · obtain ⟨rfl, rfl, rfl⟩ : a = some ⟨q, 0, none⟩ ∧ n' = n ∧ c = cap := by simpa using hv
    have hc := h.cells (g := q) rfl
    have h1 := hc _ _ hg.1
    have h2 := hc _ _ hg.2
    rw [Addr.add_lit] at h1 h2
    exact ⟨q, rfl, by simpa [rb] using h1, by simpa [rb] using h2⟩
end Go.Proofs.YtkmpbkhlcapbgaaGreatDoor
namespace Go.Proofs.YtkmpbkhlcapbgaaGreatDoor
open Go Go.RowKit
abbrev env0 (va : Option Addr) (nv cv : Nat) (aa : Option Addr) (na ca : Nat) (fl : ByteArray) : Value := .agg #[.slice va nv cv, .slice aa na ca, .int .i64 0, .string fl]
theorem aw_set (w : World) : Calls Tryz.prog 13 #[env0 none 0 0 none 0 0 ⟨#[]⟩, .string ⟨#[120]⟩, .string ⟨#[97, 32, 98]⟩] w fun r w' => ∃ va nv cv, r = .returned (env0 va nv cv none 0 0 ⟨#[]⟩) ∧ EnvA w' (.slice va nv cv) (.slice none 0 0) Eab ∧ Below w.heap.size w w' :=
  set_ok ⟨#[120]⟩ ⟨#[97, 32, 98]⟩ (by decide) (by decide) E0 none 0 0 none 0 0 w (env_zero w) (by decide)
theorem aw_fields1 (va : Option Addr) (nv cv : Nat) (aa : Option Addr) (na ca : Nat) (w : World) (hE : EnvA w (.slice va nv cv) (.slice aa na ca) Eab) (hT : Tab w) :
    Calls Tryz.prog 12 #[env0 va nv cv aa na ca ⟨#[]⟩, .string ⟨#[36, 120]⟩] w fun x w' => ∃ a c va2 nv2 cv2 aa2 na2 ca2, x = .returned (.tuple #[.slice a 2 c, env0 va2 nv2 cv2 aa2 na2 ca2 ⟨#[]⟩, .agg #[.int .i64 0, .string ⟨#[]⟩]]) ∧ Below w.heap.size w w' := by
  refine (fields_ok 9 ⟨#[36, 120]⟩ (by decide) _ word_x (small_x [120] false (by decide)) 8 (by decide) Eab _ awake1 va nv cv aa na ca w hE hT).mono ?_
  rintro x w' ⟨l, va2, nv2, cv2, aa2, na2, ca2, rfl, hown, -, hb⟩
  have hs : splitR (resOf Eab (.ok Eab ([97, 32, 98], [115, 115, 115]))).1 (resOf Eab (.ok Eab ([97, 32, 98], [115, 115, 115]))).2.1.ifs = [([97], [115]), ([98], [115])] := awake1s
  rw [hs] at hown
  obtain ⟨a, c, rfl⟩ := own_slice hown
  exact ⟨a, c, va2, nv2, cv2, aa2, na2, ca2, rfl, hb⟩
theorem aw_fields2 (va : Option Addr) (nv cv : Nat) (aa : Option Addr) (na ca : Nat) (w : World) (hE : EnvA w (.slice va nv cv) (.slice aa na ca) Eab) (hT : Tab w) :
    Calls Tryz.prog 12 #[env0 va nv cv aa na ca ⟨#[]⟩, .string ⟨#[34, 36, 120, 34]⟩] w fun x w' => ∃ q c va2 nv2 cv2 aa2 na2 ca2, x = .returned (.tuple #[.slice (some ⟨q, 0, none⟩) 1 c, env0 va2 nv2 cv2 aa2 na2 ca2 ⟨#[]⟩, .agg #[.int .i64 0, .string ⟨#[]⟩]]) ∧ w'.cell? ⟨q, 0, none⟩ = some (.string ⟨#[97, 32, 98]⟩) ∧ Below w.heap.size w w' := by
  refine (fields_ok 9 ⟨#[34, 36, 120, 34]⟩ (by decide) _ word_qx (small_x [120] true (by decide)) 8 (by decide) Eab _ awake2 va nv cv aa na ca w hE hT).mono ?_
  rintro x w' ⟨l, va2, nv2, cv2, aa2, na2, ca2, rfl, hown, -, hb⟩
  have hs : splitR (resOf Eab (.ok Eab ([97, 32, 98], [113, 113, 113]))).1 (resOf Eab (.ok Eab ([97, 32, 98], [113, 113, 113]))).2.1.ifs = [([97, 32, 98], [113, 113, 113])] := awake2s
  rw [hs] at hown
  obtain ⟨a, c, rfl⟩ := own_slice hown
  obtain ⟨q, rfl, h1, -⟩ := field_at hown 0 (by decide)
  exact ⟨q, c, va2, nv2, cv2, aa2, na2, ca2, rfl, h1, hb⟩
theorem aw_one3 (va : Option Addr) (nv cv : Nat) (aa : Option Addr) (na ca : Nat) (w : World) (hE : EnvA w (.slice va nv cv) (.slice aa na ca) Eab) (hT : Tab w) :
    Calls Tryz.prog 14 #[env0 va nv cv aa na ca ⟨#[]⟩, .string ⟨#[36, 123, 121, 58, 61, 49, 125, 36, 121]⟩] w fun x w' => ∃ va2 cv2 aa2 na2 ca2, x = .returned (.tuple #[.string ⟨#[49, 49]⟩, env0 va2 2 cv2 aa2 na2 ca2 ⟨#[]⟩, .agg #[.int .i64 0, .string ⟨#[]⟩]]) ∧ Below w.heap.size w w' := by
  refine (one_ok 12 ⟨#[36, 123, 121, 58, 61, 49, 125, 36, 121]⟩ (by decide) _ word_y small_y 8 (by decide) Eab _ awake3 va nv cv aa na ca w hE hT).mono ?_
  rintro x w' ⟨va2, nv2, cv2, aa2, na2, ca2, rfl, hE2, hb⟩
  obtain ⟨a, c, hv, -⟩ := hE2.vars.1
  obtain ⟨rfl, rfl, rfl⟩ : va2 = a ∧ nv2 = (bv (resOf Eab (.ok Eab2 ([49, 49], [115, 115]))).2.1.vars).length ∧ cv2 = c := by simpa using hv
  exact ⟨va2, cv2, aa2, na2, ca2, rfl, hb⟩
theorem aw_flag (va : Option Addr) (nv cv : Nat) (aa : Option Addr) (na ca : Nat) (w : World) (hE : EnvA w (.slice va nv cv) (.slice aa na ca) Eab) :
    Calls Tryz.prog 20 #[env0 va nv cv aa na ca ⟨#[]⟩, .int .u8 117, .bool true] w fun r w' => r = .returned (env0 va nv cv aa na ca ⟨#[117]⟩) ∧ EnvA w' (.slice va nv cv) (.slice aa na ca) (Eab.flag 117 true) ∧ Below w.heap.size w w' :=
  flag_ok Eab 117 true va nv cv aa na ca w hE
theorem aw_one4 (va : Option Addr) (nv cv : Nat) (aa : Option Addr) (na ca : Nat) (w : World) (hE : EnvA w (.slice va nv cv) (.slice aa na ca) (Eab.flag 117 true)) (hT : Tab w) :
    Calls Tryz.prog 14 #[env0 va nv cv aa na ca ⟨#[117]⟩, .string ⟨#[36, 122]⟩] w fun x w' => ∃ va2 nv2 cv2 aa2 na2 ca2, x = .returned (.tuple #[.string ⟨#[]⟩, env0 va2 nv2 cv2 aa2 na2 ca2 ⟨#[117]⟩, .agg #[.int .i64 23, .string ⟨#[122]⟩]]) ∧ Below w.heap.size w w' := by
  refine (one_ok 9 ⟨#[36, 122]⟩ (by decide) _ word_z (small_x [122] false (by decide)) 8 (by decide) (Eab.flag 117 true) _ awake4 va nv cv aa na ca w hE hT).mono ?_
  rintro x w' ⟨va2, nv2, cv2, aa2, na2, ca2, rfl, hE2, hb⟩
  exact ⟨va2, nv2, cv2, aa2, na2, ca2, rfl, hb⟩
theorem below_two {w w' : World} {n : Nat} (h : Below n w w') (hn : n ≤ w'.heap.size) (A B : Obj) : Below n w ((w'.alloc A).alloc B) := (h.alloc hn A).alloc (by simp; omega) B
theorem two_boxes {w2 W2 : World} (a b : List Value) (ea eb : TypeId) (h : (w2.alloc (.cells a.toArray ea)).alloc (.cells b.toArray eb) = W2) : RowIs W2 w2.heap.size ea a ∧ RowIs W2 (w2.heap.size + 1) eb b ∧ Below w2.heap.size w2 W2 := by
  have r := (RowIs.new w2 ea a).alloc (.cells b.toArray eb)
  have q := RowIs.new (w2.alloc (.cells a.toArray ea)) eb b
  rw [World.size_alloc] at q
  rw [h] at r q
  exact ⟨r, q, by rw [← h]; exact ((Below.refl _ _).alloc (Nat.le_refl _) _).alloc (by simp) _⟩
set_option maxRecDepth 100000 in
set_option maxHeartbeats 16000000 in
theorem awake_any (w : World) (hT : Tab w) : Calls Tryz.prog 9 #[] w fun e w' => e = .returned (.bool true) ∧ Below w.heap.size w w' := by
  have HT := Lib.hid hT
  have HF := Lib.hid hT.lt
  have HS := Lib.hid (aw_set w)
  clear hT
  go_enter Tryz.func9, Tryz.ntmps9
  go_wp2_with fail
  refine HS.out.mono ?_; rintro r w1 ⟨va, nv, cv, rfl, hE1, hb1⟩
  go_wp2_with fail
  obtain ⟨W1, hW1⟩ : ∃ W1, w1.alloc (.cells #[.slice va nv cv, .slice none 0 0, .int .i64 0, .string ⟨#[]⟩] 28) = W1 := ⟨_, rfl⟩
  have r1 : RowIs W1 w1.heap.size 28 [.slice va nv cv, .slice none 0 0, .int .i64 0, .string ⟨#[]⟩] := by rw [← hW1]; exact RowIs.new w1 _ _
  have B1 : Below w.heap.size w W1 := by rw [← hW1]; exact hb1.alloc hb1.size _
  have E1 : EnvA W1 (.slice va nv cv) (.slice none 0 0) Eab := by rw [← hW1]; exact hE1.below ((Below.refl _ _).alloc (Nat.le_refl _) _)
  have HF1 := Lib.hid (aw_fields1 va nv cv none 0 0 W1 E1 (HT.out.below HF.out B1))
  have HR1 := Lib.hid r1
  have HB1 := Lib.hid B1
  have HE1 := Lib.hid E1
  rw [hW1]
  clear r1 B1 E1 hE1 hb1 HS hW1
  refine HF1.out.mono ?_; rintro x w2 ⟨a2, k2, va2, nv2, cv2, aa2, na2, ca2, rfl, hb2⟩
  obtain ⟨c0, c1, c2, c3, f0, f1, f2, f3, lt1⟩ := four_facts (HR1.out.below hb2)
  clear HF1
  go_wp2_with fail
  obtain ⟨W2, hW2⟩ : ∃ W2, (w2.alloc (.cells #[.slice va2 nv2 cv2, .slice aa2 na2 ca2, .int .i64 0, .string ⟨#[]⟩] 28)).alloc (.cells #[(.int .i64 0), (.string ⟨#[]⟩)] 33) = W2 := ⟨_, rfl⟩
  obtain ⟨re2, rf2, bb2⟩ := two_boxes [.slice va2 nv2 cv2, .slice aa2 na2 ca2, .int .i64 0, .string ⟨#[]⟩] [(.int .i64 0), (.string ⟨#[]⟩)] 28 33 hW2
  rw [hW2]
  clear hW2
  have b2 : Below W1.heap.size W1 W2 := hb2.trans (bb2.mono hb2.size)
  have r12 := HR1.out.below b2
  have HF2 := Lib.hid (aw_fields2 va nv cv none 0 0 W2 (HE1.out.below b2) (HT.out.below HF.out (HB1.out.trans (b2.mono HB1.out.size))))
  have HX2 := Lib.hid (And.intro b2 (And.intro r12 rf2))
  clear b2 r12 rf2 re2 bb2 hb2 c0 c1 c2 c3 f0 f1 f2 f3 lt1
  refine HF2.out.mono ?_; rintro x w3 ⟨q, k3, va3, nv3, cv3, aa3, na3, ca3, rfl, cq, hb3⟩
  obtain ⟨c0, c1, c2, c3, f0, f1, f2, f3, lt1⟩ := four_facts (HX2.out.2.1.below hb3)
  clear HF2
  go_wp2_with fail
  obtain ⟨W3, hW3⟩ : ∃ W3, (w3.alloc (.cells #[.slice va3 nv3 cv3, .slice aa3 na3 ca3, .int .i64 0, .string ⟨#[]⟩] 28)).alloc (.cells #[(.int .i64 0), (.string ⟨#[]⟩)] 33) = W3 := ⟨_, rfl⟩
  obtain ⟨re3, rf3, bb3⟩ := two_boxes [.slice va3 nv3 cv3, .slice aa3 na3 ca3, .int .i64 0, .string ⟨#[]⟩] [(.int .i64 0), (.string ⟨#[]⟩)] 28 33 hW3
  rw [hW3]
  clear hW3
  have b3 : Below W2.heap.size W2 W3 := hb3.trans (bb3.mono hb3.size)
  have b13 := HX2.out.1.trans (b3.mono HX2.out.1.size)
  have HF3 := Lib.hid (aw_one3 va nv cv none 0 0 W3 (HE1.out.below b13) (HT.out.below HF.out (HB1.out.trans (b13.mono HB1.out.size))))
  have cq3 : W3.cell? ⟨q, 0, none⟩ = some (.string ⟨#[97, 32, 98]⟩) := (bb3.cell (block_lt_of_cell cq)).trans cq
  have HX3 := Lib.hid (And.intro b3 (And.intro b13 (And.intro rf3 cq3)))
  clear b3 b13 rf3 re3 bb3 hb3 c0 c1 c2 c3 f0 f1 f2 f3 lt1 cq cq3
  refine HF3.out.mono ?_; rintro x w4 ⟨va4, cv4, aa4, na4, ca4, rfl, hb4⟩
  obtain ⟨c0, c1, c2, c3, f0, f1, f2, f3, lt1⟩ := four_facts ((HR1.out.below HX3.out.2.1).below hb4)
  clear HF3
  go_wp2_with fail
  obtain ⟨W4, hW4⟩ : ∃ W4, (w4.alloc (.cells #[.slice va4 2 cv4, .slice aa4 na4 ca4, .int .i64 0, .string ⟨#[]⟩] 28)).alloc (.cells #[(.int .i64 0), (.string ⟨#[]⟩)] 33) = W4 := ⟨_, rfl⟩
  obtain ⟨re4, rf4, bb4⟩ := two_boxes [.slice va4 2 cv4, .slice aa4 na4 ca4, .int .i64 0, .string ⟨#[]⟩] [(.int .i64 0), (.string ⟨#[]⟩)] 28 33 hW4
  rw [hW4]
  clear hW4
  have b4 : Below W3.heap.size W3 W4 := hb4.trans (bb4.mono hb4.size)
  have b14 := HX3.out.2.1.trans (b4.mono HX3.out.2.1.size)
  have HF4 := Lib.hid (aw_flag va nv cv none 0 0 W4 (HE1.out.below b14))
  have HX4 := Lib.hid (And.intro b4 (And.intro b14 (And.intro re4 rf4)))
  clear b4 b14 rf4 re4 bb4 hb4 c0 c1 c2 c3 f0 f1 f2 f3 lt1
  refine HF4.out.mono ?_; rintro x w5 ⟨rfl, hE5, hb5⟩
  have b15 := HX4.out.2.1.trans (hb5.mono HX4.out.2.1.size)
  have HF5 := Lib.hid (aw_one4 va nv cv none 0 0 w5 hE5 (HT.out.below HF.out (HB1.out.trans (b15.mono HB1.out.size))))
  have HX5 := Lib.hid (And.intro hb5 b15)
  clear hE5 hb5 b15 HF4
  go_wp2_with fail
  refine HF5.out.mono ?_; rintro x w6 ⟨va6, nv6, cv6, aa6, na6, ca6, rfl, hb6⟩
  have b46 := HX5.out.1.trans (hb6.mono HX5.out.1.size)
  have b36 := HX4.out.1.trans (b46.mono HX4.out.1.size)
  have b26 := HX3.out.1.trans (b36.mono HX3.out.1.size)
  have b16 := HX2.out.1.trans (b26.mono HX2.out.1.size)
  obtain ⟨i0, i1, i2, i3, i4⟩ := two_facts (((HX2.out.2.2.below b26).alloc (.cells #[.slice va6 nv6 cv6, .slice aa6 na6 ca6, .int .i64 0, .string ⟨#[117]⟩] 28)).alloc (.cells #[.int .i64 23, .string ⟨#[122]⟩] 33))
  obtain ⟨j0, j1, j2, j3, j4⟩ := two_facts (((HX3.out.2.2.1.below b36).alloc (.cells #[.slice va6 nv6 cv6, .slice aa6 na6 ca6, .int .i64 0, .string ⟨#[117]⟩] 28)).alloc (.cells #[.int .i64 23, .string ⟨#[122]⟩] 33))
  have hq0 : q < w6.heap.size := Nat.lt_of_lt_of_le (block_lt_of_cell HX3.out.2.2.2) b36.size
  have hcq0 : w6.cell? ⟨q, 0, none⟩ = some (.string ⟨#[97, 32, 98]⟩) := (b36.cell (block_lt_of_cell HX3.out.2.2.2)).trans HX3.out.2.2.2
  have hcq : ((w6.alloc (.cells #[.slice va6 nv6 cv6, .slice aa6 na6 ca6, .int .i64 0, .string ⟨#[117]⟩] 28)).alloc (.cells #[.int .i64 23, .string ⟨#[122]⟩] 33)).cell? ⟨q, 0, none⟩ = some (.string ⟨#[97, 32, 98]⟩) := ((below_two (Below.refl _ w6) (Nat.le_refl _) (.cells #[.slice va6 nv6 cv6, .slice aa6 na6 ca6, .int .i64 0, .string ⟨#[117]⟩] 28) (.cells #[.int .i64 23, .string ⟨#[122]⟩] 33)).cell (show q < w6.heap.size from hq0)).trans hcq0
  clear hcq0
  obtain ⟨k0, k1, k2', k3', k4⟩ := two_facts (((HX4.out.2.2.2.below b46).alloc (.cells #[.slice va6 nv6 cv6, .slice aa6 na6 ca6, .int .i64 0, .string ⟨#[117]⟩] 28)).alloc (.cells #[.int .i64 23, .string ⟨#[122]⟩] 33))
  obtain ⟨o0, o1, o2, o3, o4, o5, o6, o7, o8⟩ := four_facts (((HX4.out.2.2.1.below b46).alloc (.cells #[.slice va6 nv6 cv6, .slice aa6 na6 ca6, .int .i64 0, .string ⟨#[117]⟩] 28)).alloc (.cells #[.int .i64 23, .string ⟨#[122]⟩] 33))
  have HBF := Lib.hid (HB1.out.trans (b16.mono HB1.out.size))
  clear HF5 hb6 b46 b36 b26 b16 HX2 HX3 HX4 HX5 HR1 HE1
  go_wp2_with fail
  go_ret
  exact ⟨rfl, (HBF.out.alloc HBF.out.size _).alloc (by have := HBF.out.size; simp; omega) _⟩
end Go.Proofs.YtkmpbkhlcapbgaaGreatDoor
