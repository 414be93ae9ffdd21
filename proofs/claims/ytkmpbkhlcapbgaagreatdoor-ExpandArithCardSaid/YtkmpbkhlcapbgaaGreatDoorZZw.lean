/-
  DERIVED. ExpandArith: what its calls come to.
-/
import Derived.Test.YtkmpbkhlcapbgaaGreatDoorZ49
import Derived.Test.YtkmpbkhlcapbgaaGreatDoorZNms
namespace Go.Proofs.YtkmpbkhlcapbgaaGreatDoor
open Go Go.RowKit
theorem unset_ok (s : ByteArray) (e : EnvT) (va : Option Addr) (nv cv : Nat) (aa : Option Addr) (na ca : Nat) (w : World) (hE : EnvA w (.slice va nv cv) (.slice aa na ca) e) :
    Calls Tryz.prog 18 #[envVal va nv cv aa na ca e, .string s] w fun r w' => ∃ va2 nv2 cv2, r = .returned (envVal va2 nv2 cv2 aa na ca (e.unset s.data.toList)) ∧ EnvA w' (.slice va2 nv2 cv2) (.slice aa na ca) (e.unset s.data.toList) ∧ Below w.heap.size w w' := by
  have hl := low_at hE.up s
  refine (unset_any s (bv e.vars) _ _ hl (.slice va nv cv) aa na ca e.status ⟨e.flags.toArray⟩ w hE.vars.1).mono ?_
  rintro r w' ⟨v', rfl, ho, hb⟩
  rw [bv_cut] at ho
  obtain ⟨va2, nv2, cv2, rfl⟩ := rowv_is ho.row
  refine ⟨va2, nv2, cv2, rfl, ⟨⟨ho.row, fun a n c e2 => ⟨trivial, ?_⟩⟩, ?_, ?_, ?_⟩, hb⟩
  · exact (ho.1.lt a.block (by rw [e2]; rfl)).2
  · exact hE.args.keep hb.size fun b _ q2 => ⟨hb.block b q2, trivial⟩
  · show Rising (unsetV e.vars s.data.toList)
    rw [unsetV_rem]; exact rem_rising hE.up
  · show (unsetV e.vars s.data.toList).length ≤ _
    have := unsetV_length e.vars s.data.toList
    have := hE.few
    omega
theorem envA_st (x y h : List UInt8) : (envA x y h).status = 0 ∧ (envA x y h).flags = [] := by rw [envA_is]; exact ⟨rfl, rfl⟩
/-- Home is set, and unset. -/
theorem third_set (x y h : ByteArray) (va : Option Addr) (nv cv : Nat) (aa : Option Addr) (na ca : Nat) (w : World) (hE : EnvA w (.slice va nv cv) (.slice aa na ca) (envT x.data.toList y.data.toList)) :
    Calls Tryz.prog 13 #[env0 va nv cv aa na ca ⟨#[]⟩, .string ⟨#[72, 79, 77, 69]⟩, .string h] w fun r w' => ∃ va2 nv2 cv2, r = .returned (env0 va2 nv2 cv2 aa na ca ⟨#[]⟩) ∧ EnvA w' (.slice va2 nv2 cv2) (.slice aa na ca) (envA x.data.toList y.data.toList h.data.toList) ∧ Below w.heap.size w w' := by
  have hh := set_ok ⟨#[72, 79, 77, 69]⟩ h (by decide) (by decide) (envT x.data.toList y.data.toList) va nv cv aa na ca w hE (by
    have : ((envT x.data.toList y.data.toList).set (⟨#[72, 79, 77, 69]⟩ : ByteArray).data.toList h.data.toList).vars.length = 3 := envA_few _ _ _
    omega)
  simp only [envVal, (envT_st _ _).1, (envT_st _ _).2] at hh
  refine hh.mono ?_
  rintro r w' ⟨va2, nv2, cv2, rfl, hE2, hb⟩
  exact ⟨va2, nv2, cv2, rfl, hE2, hb⟩
theorem home_unset (x y h : List UInt8) (va : Option Addr) (nv cv : Nat) (aa : Option Addr) (na ca : Nat) (w : World) (hE : EnvA w (.slice va nv cv) (.slice aa na ca) (envA x y h)) :
    Calls Tryz.prog 18 #[env0 va nv cv aa na ca ⟨#[]⟩, .string ⟨#[72, 79, 77, 69]⟩] w fun r w' => ∃ va2 nv2 cv2, r = .returned (env0 va2 nv2 cv2 aa na ca ⟨#[]⟩) ∧ EnvA w' (.slice va2 nv2 cv2) (.slice aa na ca) ((envA x y h).unset [72, 79, 77, 69]) ∧ Below w.heap.size w w' := by
  have hh := unset_ok ⟨#[72, 79, 77, 69]⟩ (envA x y h) va nv cv aa na ca w hE
  simp only [envVal, (envA_st _ _ _).1, (envA_st _ _ _).2] at hh
  refine hh.mono ?_
  rintro r w' ⟨va2, nv2, cv2, rfl, hE2, hb⟩
  exact ⟨va2, nv2, cv2, rfl, hE2, hb⟩
theorem small_two (p q : PartT) (hp : smallP p) (hq : smallP q) : smallL [p, q] := by
  rw [smallL_cons, smallL_cons, smallL_nil]
  exact ⟨hp, hq, trivial⟩
section
variable (x y : Int) (h : ByteArray) (x0 : -9223372036854775807 ≤ x) (x1 : x ≤ 9223372036854775807) (y0 : -9223372036854775807 ≤ y) (y1 : y ≤ 9223372036854775807) (hh : h.size ≤ 30)
variable (va : Option Addr) (nv cv : Nat) (aa : Option Addr) (na ca : Nat) (W : World) (hE : EnvA W (.slice va nv cv) (.slice aa na ca) (envA (numL x) (numL y) h.data.toList)) (hTab : Full W)
include x0 x1 y0 y1 hh hE hTab
theorem call_ra (T : ByteArray) (hT : T.data.toList = numL (wrap64 (x + y))) :
    Calls Tryz.prog 14 #[env0 va nv cv aa na ca ⟨#[]⟩, .string ⟨#[36, 40, 40, 120, 43, 36, 121, 41, 41]⟩] W (TextRes T 0 ⟨#[]⟩ (envA (numL x) (numL y) h.data.toList) W) := by
  have hl : h.data.toList.length ≤ 30 := by simpa using hh
  obtain ⟨s1, s2⟩ := envA_st (numL x) (numL y) h.data.toList
  obtain ⟨e, he⟩ : ∃ e, envA (numL x) (numL y) h.data.toList = e := ⟨_, rfl⟩
  have ha := arith_a x y h.data.toList x0 x1 y0 y1 hl e he
  rw [← hT] at ha
  rw [he] at hE s1 s2 ⊢
  exact text_call e s1 s2 T 20 ⟨#[36, 40, 40, 120, 43, 36, 121, 41, 41]⟩ (by decide) _ word_sum (small_one _ (small_leaf 4 _ _ _ (by decide) (by decide))) _ 6 (by decide) ha (flat_one T) va nv cv aa na ca W hE hTab
theorem call_rb (T : ByteArray) (hT : T.data.toList = if y < x then [49] else [48]) :
    Calls Tryz.prog 14 #[env0 va nv cv aa na ca ⟨#[]⟩, .string ⟨#[36, 40, 40, 120, 62, 121, 41, 41]⟩] W (TextRes T 0 ⟨#[]⟩ (envA (numL x) (numL y) h.data.toList) W) := by
  have hl : h.data.toList.length ≤ 30 := by simpa using hh
  obtain ⟨s1, s2⟩ := envA_st (numL x) (numL y) h.data.toList
  obtain ⟨e, he⟩ : ∃ e, envA (numL x) (numL y) h.data.toList = e := ⟨_, rfl⟩
  have ha := arith_b x y h.data.toList x0 x1 y0 y1 hl e he
  rw [← hT] at ha
  rw [he] at hE s1 s2 ⊢
  exact text_call e s1 s2 T 20 ⟨#[36, 40, 40, 120, 62, 121, 41, 41]⟩ (by decide) _ word_more (small_one _ (small_leaf 4 _ _ _ (by decide) (by decide))) _ 6 (by decide) ha (flat_one T) va nv cv aa na ca W hE hTab
end
section
variable (x y : List UInt8) (h : ByteArray) (hh : h.size ≤ 30)
variable (va : Option Addr) (nv cv : Nat) (aa : Option Addr) (na ca : Nat) (W : World)
include hh in
theorem call_rc (hE : EnvA W (.slice va nv cv) (.slice aa na ca) (envA x y h.data.toList)) (hTab : Full W) :
    Calls Tryz.prog 14 #[env0 va nv cv aa na ca ⟨#[]⟩, .string ⟨#[126, 47, 97]⟩] W (TextRes (h ++ ⟨#[47, 97]⟩) 0 ⟨#[]⟩ (envA x y h.data.toList) W) := by
  have hl : h.data.toList.length ≤ 30 := by simpa using hh
  obtain ⟨s1, s2⟩ := envA_st x y h.data.toList
  obtain ⟨e, he⟩ : ∃ e, envA x y h.data.toList = e := ⟨_, rfl⟩
  obtain ⟨g1, g2⟩ := envA_home2 x y h.data.toList e he
  rw [he] at hE s1 s2 ⊢
  exact text_call e s1 s2 (h ++ ⟨#[47, 97]⟩) 9 ⟨#[126, 47, 97]⟩ (by decide) _ word_home (small_two _ _ (small_leaf 5 _ _ _ (by decide) (by decide)) (small_leaf 1 _ _ _ (by decide) (by decide))) _ 6 (by decide)
    (home_c e g2 h.data.toList g1 hl) (by rw [flat_two _ _ _ _ (by decide) (by decide)]; simp) va nv cv aa na ca W hE hTab
theorem call_rd (hE : EnvA W (.slice va nv cv) (.slice aa na ca) (envA x y h.data.toList)) (hTab : Full W) :
    Calls Tryz.prog 14 #[env0 va nv cv aa na ca ⟨#[]⟩, .string ⟨#[97, 126, 47, 39, 126, 39]⟩] W (TextRes ⟨#[97, 126, 47, 126]⟩ 0 ⟨#[]⟩ (envA x y h.data.toList) W) := by
  obtain ⟨s1, s2⟩ := envA_st x y h.data.toList
  obtain ⟨e, he⟩ : ∃ e, envA x y h.data.toList = e := ⟨_, rfl⟩
  obtain ⟨g1, g2⟩ := envA_home2 x y h.data.toList e he
  rw [he] at hE s1 s2 ⊢
  exact text_call e s1 s2 ⟨#[97, 126, 47, 126]⟩ 12 ⟨#[97, 126, 47, 39, 126, 39]⟩ (by decide) _ word_tilde2 (small_two _ _ (small_leaf 1 _ _ _ (by decide) (by decide)) (small_leaf 2 _ _ _ (by decide) (by decide))) _ 6 (by decide)
    (home_d e g2) (by rw [flat_two _ _ _ _ (by decide) (by decide)]; rfl) va nv cv aa na ca W hE hTab
theorem call_rk (hE : EnvA W (.slice va nv cv) (.slice aa na ca) ((envA x y h.data.toList).unset [72, 79, 77, 69])) (hTab : Full W) :
    Calls Tryz.prog 14 #[env0 va nv cv aa na ca ⟨#[]⟩, .string ⟨#[126]⟩] W (TextRes ⟨#[126]⟩ 0 ⟨#[]⟩ ((envA x y h.data.toList).unset [72, 79, 77, 69]) W) := by
  have hs := envA_un x y h.data.toList
  obtain ⟨e, he⟩ : ∃ e, (envA x y h.data.toList).unset [72, 79, 77, 69] = e := ⟨_, rfl⟩
  obtain ⟨g1, g2⟩ := envA_gone x y h.data.toList e he
  rw [he] at hE hs ⊢
  have s1 : e.status = 0 := by rw [hs]
  have s2 : e.flags = [] := by rw [hs]
  exact text_call e s1 s2 ⟨#[126]⟩ 9 ⟨#[126]⟩ (by decide) _ word_tilde (small_one _ (small_leaf 5 _ _ _ (by decide) (by decide))) _ 6 (by decide)
    (home_k e g2 g1) (flatR_put _ _ (by decide)) va nv cv aa na ca W hE hTab
include hh in
theorem call_rm (hE : EnvA W (.slice va nv cv) (.slice aa na ca) (envA x y h.data.toList)) (hTab : Full W) :
    Calls Tryz.prog 12 #[env0 va nv cv aa na ca ⟨#[]⟩, .string ⟨#[126]⟩] W fun r w' => ∃ q c va2 nv2 cv2 aa2 na2 ca2, r = .returned (.tuple #[.slice (some ⟨q, 0, none⟩) 1 c, env0 va2 nv2 cv2 aa2 na2 ca2 ⟨#[]⟩, .agg #[.int .i64 0, .string ⟨#[]⟩]]) ∧ w'.cell? ⟨q, 0, none⟩ = some (.string h) ∧ Below W.heap.size W w' := by
  have hl : h.data.toList.length ≤ 30 := by simpa using hh
  obtain ⟨s1, s2⟩ := envA_st x y h.data.toList
  obtain ⟨e, he⟩ : ∃ e, envA x y h.data.toList = e := ⟨_, rfl⟩
  obtain ⟨g1, g2⟩ := envA_home2 x y h.data.toList e he
  rw [he] at hE s1 s2
  have hf := fields_okP PT pt_ok 9 ⟨#[126]⟩ (by decide) _ word_tilde (small_one _ (small_leaf 5 _ _ _ (by decide) (by decide))) 6 (by decide) e _ (home_m e g2 h.data.toList g1 hl) va nv cv aa na ca W hE hTab
  simp only [envVal, s1, s2] at hf
  refine hf.mono ?_
  rintro r w' ⟨l, va2, nv2, cv2, aa2, na2, ca2, rfl, hown, -, hb⟩
  have hs : splitR (resOf e (.ok e (putR ([], []) h.data.toList 113))).1 (resOf e (.ok e (putR ([], []) h.data.toList 113))).2.1.ifs = [(h.data.toList, List.replicate h.data.toList.length 113)] := split_quoted _ _
  rw [hs] at hown
  obtain ⟨a, c, rfl⟩ := own_slice hown
  obtain ⟨q, rfl, h1, -⟩ := field_at hown 0 (by simp)
  refine ⟨q, c, va2, nv2, cv2, aa2, na2, ca2, ?_, by simpa using h1, hb⟩
  simp only [envVal, resOf, s1, s2]
  rfl
end
end Go.Proofs.YtkmpbkhlcapbgaaGreatDoor
