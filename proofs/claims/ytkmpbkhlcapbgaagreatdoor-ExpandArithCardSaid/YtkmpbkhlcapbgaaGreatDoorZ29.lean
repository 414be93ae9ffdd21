/-
  DERIVED. The walks of Ifs, at an Env, and of expand's Fields. Plain: the document's four examples (awake), as closed data. No program in sight. What the laws of expand call, at an Env in memory: Set, Get, Flag, One, Fields. The walk of the document's examples (awake): they hold. Plain: what ExpandDefault's words come to. No program in sight. Plain: ExpandDefault's Env, and what its words come to in it. No program in sight. ExpandDefault: what its calls come to; the ways out ahead of them. The plain functions of package glob: what a pattern's bytes, signs and sets are, and what they match. No program in sight. The walks of the small functions of package glob: quoted, is; and of the document's Is, member.
-/
import Derived.Test.YtkmpbkhlcapbgaaGreatDoorZ27
import Derived.Test.YtkmpbkhlcapbgaaGreatDoorZ28
import Derived.Test.YtkmpbkhlcapbgaaGreatDoorZ08
import Derived.Test.YtkmpbkhlcapbgaaGreatDoorZ11
import Derived.Test.YtkmpbkhlcapbgaaGreatDoorZ25
import Derived.Lib.IndexAny
import Derived.Deep.LoopGhost
import Derived.Laws.Strings
import Derived.Test.YtkmpbkhlcapbgaaGreatDoorProg
import Derived.Test.YtkmpbkhlcapbgaaGreatDoorZ01
import Derived.WalkKit
import Derived.WalkSpells
import Derived.WalkLawsBesides
import Derived.Handy
import Derived.Lib.Hide
namespace Go.Proofs.YtkmpbkhlcapbgaaGreatDoor
open Go Go.RowKit
theorem split_at (t m ifs : ByteArray) (h : t.size = m.size) (hs : t.size ≤ 1000000) (w : World) :
    Calls Tryz.prog 23 #[.agg #[.string t, .string m], .string ifs] w fun e w' => ∃ v, e = .returned v ∧ w'.ownsRow w.heap.size 38 2 v (splitR (t.data.toList, m.data.toList) ifs.data.toList).length (cellsL (bvR (splitR (t.data.toList, m.data.toList) ifs.data.toList))) ∧ Below w.heap.size w w' :=
  callsIn_wide.1 (split_in 6 (Nat.le_refl _) t m ifs h hs w)
theorem split_row (r : RowT) (ifs : List UInt8) (h : r.1.length = r.2.length) (hs : r.1.length ≤ 1000000) (w : World) :
    Calls Tryz.prog 23 #[.agg #[.string ⟨r.1.toArray⟩, .string ⟨r.2.toArray⟩], .string ⟨ifs.toArray⟩] w fun e w' => ∃ v, e = .returned v ∧ w'.ownsRow w.heap.size 38 2 v (splitR r ifs).length (cellsL (bvR (splitR r ifs))) ∧ Below w.heap.size w w' := by
  have := split_at ⟨r.1.toArray⟩ ⟨r.2.toArray⟩ ⟨ifs.toArray⟩ (by show r.1.toArray.size = r.2.toArray.size; simpa using h) (by show r.1.toArray.size ≤ _; simpa using hs) w
  simpa using this
theorem get_row (s : ByteArray) (hs : s.size ≤ 281474976710656) (hn : isName s.data.toList = true) (e : EnvT) (vv av vs vf : Value) (w : World) (hup : Rising e.vars) (hv : RowV w vv (bv e.vars)) :
    Calls Tryz.prog 15 #[.agg #[vv, av, vs, vf], .string s] w fun x w' => x = .returned (.tuple #[.string ⟨((e.get s.data.toList).getD []).toArray⟩, .bool (e.get s.data.toList).isSome]) ∧ Below w.heap.size w w' := by
  have hl := low_at hup s
  unfold EnvT.get
  cases hf : (findF e.vars s.data.toList).2
  · rw [hf] at hl
    exact get_none s (name_below s hs hn) _ _ hl vv av vs vf w hv
  · rw [hf] at hl
    have hlt : lowF e.vars s.data.toList < e.vars.length := by
      rcases Nat.lt_or_ge (lowF e.vars s.data.toList) e.vars.length with q | q
      · exact q
      · have := findF_end e.vars s.data.toList (Nat.le_antisymm (lowF_le _ _) q)
        rw [this] at hf; cases hf
    have hlt2 : lowF e.vars s.data.toList < (bv e.vars).length := by rw [bv_length]; exact hlt
    have := get_some s (name_below s hs hn) _ _ hl hlt2 _ rfl av vs vf vv w hv
    rw [if_pos rfl, List.head?_drop, List.getElem?_eq_getElem hlt]
    simpa [bv] using this
theorem ifs_at (e : EnvT) (S : Nat → Prop) (vv av vs vf : Value) (w : World) (h : EnvC w S vv av e) :
    Calls Tryz.prog 24 #[.agg #[vv, av, vs, vf]] w fun x w' => x = .returned (.string ⟨e.ifs.toArray⟩) ∧ Below w.heap.size w w' := by
  have := ifs_any (bv e.vars) vv av vs vf ⟨((e.get [73, 70, 83]).getD []).toArray⟩ (e.get [73, 70, 83]).isSome (fun W hW => get_row ⟨#[73, 70, 83]⟩ (by decide) (by decide) e vv av vs vf W h.up hW) w h.vars.1
  refine this.mono ?_
  rintro x w' ⟨rfl, hb⟩
  refine ⟨?_, hb⟩
  unfold EnvT.ifs
  cases e.get [73, 70, 83] <;> rfl
def FieldsRes (o : RowT × EnvT × Int × List UInt8) (w : World) (x : Ending) (w' : World) : Prop :=
  ∃ l va nv cv aa na ca, x = .returned (.tuple #[l, envVal va nv cv aa na ca o.2.1, faultVal o.2.2.1 o.2.2.2]) ∧ w'.ownsRow w.heap.size 38 2 l (splitR o.1 o.2.1.ifs).length (cellsL (bvR (splitR o.1 o.2.1.ifs))) ∧ EnvA w' (.slice va nv cv) (.slice aa na ca) o.2.1 ∧ Below w.heap.size w w'
theorem ownsRow_less {w : World} {b b' e s n : Nat} {v : Value} {xs : List Value} (h : w.ownsRow b e s v n xs) (hb : b' ≤ b) : w.ownsRow b' e s v n xs := by
  refine ⟨h.1, ?_⟩
  rcases h.2 with q | ⟨q, c, cur, hv, hg, r⟩
  · exact .inl q
  · exact .inr ⟨q, c, cur, hv, by omega, r⟩
set_option maxRecDepth 100000 in
set_option maxHeartbeats 8000000 in
theorem fields_of (s : ByteArray) (e : EnvT) (o : RowT × EnvT × Int × List UInt8) (va : Option Addr) (nv cv : Nat) (aa : Option Addr) (na ca : Nat) (w : World) 
    (hA : ∀ W, Below w.heap.size w W → Calls Tryz.prog 21 #[envVal va nv cv aa na ca e, .string s, .func (.func 22) #[] #[]] W (AllRes (fun b => b < w.heap.size) o W)) :
    Calls Tryz.prog 12 #[envVal va nv cv aa na ca e, .string s] w (FieldsRes o w) := by
  obtain ⟨r, e2, n, t⟩ := o
  have HA := Lib.hid hA
  clear hA
  go_enter Tryz.func12, Tryz.ntmps12
  go_wp2_with fail
  have B0 := (((Below.refl w.heap.size w).alloc (Nat.le_refl _) (.cells #[.slice va nv cv, .slice aa na ca, .int .i64 e.status, .string ⟨e.flags.toArray⟩] 28)).alloc (by simp) (.cells #[.slice none 0 0, .slice none 0 0, .int .i64 0, .string ⟨#[]⟩] 28)).alloc (by simp; omega) (.cells #[.int .i64 0, .string ⟨#[]⟩] 33)
  have r5 := ((RowIs.new (w.alloc (.cells #[.slice va nv cv, .slice aa na ca, .int .i64 e.status, .string ⟨e.flags.toArray⟩] 28)) 28 [.slice none 0 0, .slice none 0 0, .int .i64 0, .string ⟨#[]⟩])).alloc (.cells #[.int .i64 0, .string ⟨#[]⟩] 33)
  have r6 := RowIs.new ((w.alloc (.cells #[.slice va nv cv, .slice aa na ca, .int .i64 e.status, .string ⟨e.flags.toArray⟩] 28)).alloc (.cells #[.slice none 0 0, .slice none 0 0, .int .i64 0, .string ⟨#[]⟩] 28)) 33 [.int .i64 0, .string ⟨#[]⟩]
  simp only [World.size_alloc] at r5 r6
  refine (HA.out _ B0).mono ?_
  rintro y w1 ⟨va2, nv2, cv2, aa2, na2, ca2, rfl, hev, hlen, hfew, hb⟩
  have hb1 := B0.trans (hb.mono B0.size)
  have s5 := r5.below hb
  have s6 := r6.below hb
  have HF := fun W => Lib.hid (split_row r e2.ifs hlen hfew W)
  have HE : Hid (EnvC w1 (fun b => b ≠ w.heap.size + 1 ∧ b ≠ w.heap.size + 1 + 1) (.slice va2 nv2 cv2) (.slice aa2 na2 ca2) e2) := hev.keep (Nat.le_refl _) fun b q1 q2 => ⟨rfl, by simp at q1; omega⟩
  have HB1 := Lib.hid hb1
  have HS5 := Lib.hid s5
  have HS6 := Lib.hid s6
  clear B0 r5 r6 hb hb1 s5 s6 hev hlen hfew
  go_wp2_with fail
  have hne : w.heap.size + 1 + 1 < w1.heap.size := HS6.out.lt
  obtain ⟨W2, hW2⟩ : ∃ W2, (((w1.alloc (.cells #[.string ⟨r.1.toArray⟩, .string ⟨r.2.toArray⟩] 38)).alloc (.cells #[.slice va2 nv2 cv2, .slice aa2 na2 ca2, .int .i64 e2.status, .string ⟨e2.flags.toArray⟩] 28)).alloc (.cells #[.int .i64 n, .string ⟨t.toArray⟩] 33)) = W2 := ⟨_, rfl⟩
  have B2 := (((Below.refl w1.heap.size w1).alloc (Nat.le_refl _) (.cells #[.string ⟨r.1.toArray⟩, .string ⟨r.2.toArray⟩] 38)).alloc (by simp) (.cells #[.slice va2 nv2 cv2, .slice aa2 na2 ca2, .int .i64 e2.status, .string ⟨e2.flags.toArray⟩] 28)).alloc (by simp; omega) (.cells #[.int .i64 n, .string ⟨t.toArray⟩] 33)
  have q7 := ((RowIs.new w1 38 [.string ⟨r.1.toArray⟩, .string ⟨r.2.toArray⟩]).alloc (.cells #[.slice va2 nv2 cv2, .slice aa2 na2 ca2, .int .i64 e2.status, .string ⟨e2.flags.toArray⟩] 28)).alloc (.cells #[.int .i64 n, .string ⟨t.toArray⟩] 33)
  have q8 := (RowIs.new (w1.alloc (.cells #[.string ⟨r.1.toArray⟩, .string ⟨r.2.toArray⟩] 38)) 28 [.slice va2 nv2 cv2, .slice aa2 na2 ca2, .int .i64 e2.status, .string ⟨e2.flags.toArray⟩]).alloc (.cells #[.int .i64 n, .string ⟨t.toArray⟩] 33)
  have q9 := RowIs.new ((w1.alloc (.cells #[.string ⟨r.1.toArray⟩, .string ⟨r.2.toArray⟩] 38)).alloc (.cells #[.slice va2 nv2 cv2, .slice aa2 na2 ca2, .int .i64 e2.status, .string ⟨e2.flags.toArray⟩] 28)) 33 [.int .i64 n, .string ⟨t.toArray⟩]
  simp only [World.size_alloc] at q8 q9
  rw [hW2] at B2 q7 q8 q9 ⊢
  have HL0 : LawF w w1.heap.size r va2 nv2 cv2 aa2 na2 ca2 e2 n t W2.drew := ⟨q7, q8, q9, ⟨_, _, _, _, row_drew (HS5.out.below B2)⟩, ⟨_, _, row_drew (HS6.out.below B2)⟩, (HB1.out.trans (B2.mono HB1.out.size)).drew, HE.out.keep (w' := W2.drew) B2.size (fun b q1 q2 => ⟨B2.block b q2, q1⟩), hne⟩
  have hl0 := HL0
  clear hW2
  have HL := Lib.hid HL0
  obtain ⟨x0, x1, y0, y1, y2, y3, z0, z1, u0, u1, u2, u3, v0, v1, k0, k1, k2, k3, k4, k5, k6, k7⟩ := hl0.facts
  have hsz : w.heap.size + 1 + 1 < w1.heap.size := hne
  have HIF := Lib.hid (ifs_at e2 _ (.slice va2 nv2 cv2) (.slice aa2 na2 ca2) (.int .i64 e2.status) (.string ⟨e2.flags.toArray⟩) W2.drew HL0.ev)
  clear q7 q8 q9 hl0 HL
  go_region_held3 (fun wx => (wx.cell? ⟨w1.heap.size, 0, none⟩ = some (.string ⟨r.1.toArray⟩) ∧ wx.cell? ⟨w1.heap.size, 1, none⟩ = some (.string ⟨r.2.toArray⟩) ∧   wx.cell? ⟨w1.heap.size + 1, 0, none⟩ = some (.slice va2 nv2 cv2) ∧ wx.cell? ⟨w1.heap.size + 1, 1, none⟩ = some (.slice aa2 na2 ca2) ∧ wx.cell? ⟨w1.heap.size + 1, 2, none⟩ = some (.int .i64 e2.status) ∧ wx.cell? ⟨w1.heap.size + 1, 3, none⟩ = some (.string ⟨e2.flags.toArray⟩) ∧   wx.cell? ⟨w1.heap.size + 1 + 1, 0, none⟩ = some (.int .i64 n) ∧ wx.cell? ⟨w1.heap.size + 1 + 1, 1, none⟩ = some (.string ⟨t.toArray⟩) ∧   wx.cell? ⟨w.heap.size + 1, 0, none⟩ = some (cellOf wx ⟨w.heap.size + 1, 0, none⟩) ∧ wx.cell? ⟨w.heap.size + 1, 1, none⟩ = some (cellOf wx ⟨w.heap.size + 1, 1, none⟩) ∧ wx.cell? ⟨w.heap.size + 1, 2, none⟩ = some (cellOf wx ⟨w.heap.size + 1, 2, none⟩) ∧ wx.cell? ⟨w.heap.size + 1, 3, none⟩ = some (cellOf wx ⟨w.heap.size + 1, 3, none⟩) ∧   wx.cell? ⟨w.heap.size + 1 + 1, 0, none⟩ = some (cellOf wx ⟨w.heap.size + 1 + 1, 0, none⟩) ∧ wx.cell? ⟨w.heap.size + 1 + 1, 1, none⟩ = some (cellOf wx ⟨w.heap.size + 1 + 1, 1, none⟩) ∧   wx.frozen? ⟨w.heap.size + 1, 0, none⟩ = false ∧ wx.frozen? ⟨w.heap.size + 1, 1, none⟩ = false ∧ wx.frozen? ⟨w.heap.size + 1, 2, none⟩ = false ∧ wx.frozen? ⟨w.heap.size + 1, 3, none⟩ = false ∧ wx.frozen? ⟨w.heap.size + 1 + 1, 0, none⟩ = false ∧ wx.frozen? ⟨w.heap.size + 1 + 1, 1, none⟩ = false ∧ w.heap.size + 1 < wx.heap.size ∧ w.heap.size + 1 + 1 < wx.heap.size) ∧ LawF w w1.heap.size r va2 nv2 cv2 aa2 na2 ca2 e2 n t wx) (first | with_reducible exact LawF.all hn | with_reducible exact LawF.all hm | with_reducible exact LawF.all HL0 | with_reducible exact LawF.all (LawF.setO hn _ _ _ _) | with_reducible exact LawF.all (LawF.setR (LawF.setO hn _ _ _ _) _ _))
    (first
      | (go_at_call 24; refine HIF.out.mono ?_; rintro e wm ⟨rfl, hbm⟩; have hm := LawF.next HL0 hbm)
      | (go_at_call 23; refine (HF _).out.mono ?_; rintro e wn ⟨lv, rfl, hown, hbn⟩; have hn := LawF.next hm hbn))
  all_goals
    go_wp2_with fail
    have hm1 := hm.be.size
    have hl := hm.lt
    have hl7 := hm.r7.lt
    have hfin := LawF.setR (LawF.setO hn (.slice va2 nv2 cv2) (.slice aa2 na2 ca2) (.int .i64 e2.status) (.string ⟨e2.flags.toArray⟩)) (.int .i64 n) (.string ⟨t.toArray⟩)
    have hown2 := own_set (own_set (own_set (own_set (own_set (own_set hown (w.heap.size + 1) 0 (by omega) (.slice va2 nv2 cv2)) (w.heap.size + 1) 1 (by omega) (.slice aa2 na2 ca2)) (w.heap.size + 1) 2 (by omega) (.int .i64 e2.status)) (w.heap.size + 1) 3 (by omega) (.string ⟨e2.flags.toArray⟩)) (w.heap.size + 1 + 1) 0 (by omega) (.int .i64 n)) (w.heap.size + 1 + 1) 1 (by omega) (.string ⟨t.toArray⟩)
    obtain ⟨pa, pb, pc, pd, g5⟩ := hn.r5
    obtain ⟨qa, qb, g6⟩ := hn.r6
    have n7 : ¬ w.heap.size + 1 = w.heap.size + 1 + 1 := by omega
    have n8 : ¬ w.heap.size + 1 + 1 = w.heap.size + 1 := by omega
    have hf5 := ((((g5.set 0 (.slice va2 nv2 cv2)).set 1 (.slice aa2 na2 ca2)).set 2 (.int .i64 e2.status)).set 3 (.string ⟨e2.flags.toArray⟩)).other (a := ⟨w.heap.size + 1 + 1, 0, none⟩) n7 (.int .i64 n) |>.other (a := ⟨w.heap.size + 1 + 1, 1, none⟩) n7 (.string ⟨t.toArray⟩)
    have hf6 := ((((g6.other (a := ⟨w.heap.size + 1, 0, none⟩) n8 (.slice va2 nv2 cv2)).other (a := ⟨w.heap.size + 1, 1, none⟩) n8 (.slice aa2 na2 ca2)).other (a := ⟨w.heap.size + 1, 2, none⟩) n8 (.int .i64 e2.status)).other (a := ⟨w.heap.size + 1, 3, none⟩) n8 (.string ⟨e2.flags.toArray⟩)).set 0 (.int .i64 n) |>.set 1 (.string ⟨t.toArray⟩)
    simp only [List.set] at hf5 hf6
    generalize ((((((wn.setCell ⟨w.heap.size + 1, 0, none⟩ (.slice va2 nv2 cv2)).setCell ⟨w.heap.size + 1, 1, none⟩ (.slice aa2 na2 ca2)).setCell ⟨w.heap.size + 1, 2, none⟩ (.int .i64 e2.status)).setCell ⟨w.heap.size + 1, 3, none⟩ (.string ⟨e2.flags.toArray⟩)).setCell ⟨w.heap.size + 1 + 1, 0, none⟩ (.int .i64 n)).setCell ⟨w.heap.size + 1 + 1, 1, none⟩ (.string ⟨t.toArray⟩)) = WN at hf5 hf6 hfin hown2 ⊢
    obtain ⟨a0, a1, a2, a3, a4, a5, a6, a7, al⟩ := four_facts hf5
    obtain ⟨b0, b1, b2, b3, bl⟩ := two_facts hf6
    exact bodyPost_ret (v := .tuple #[lv, envVal va2 nv2 cv2 aa2 na2 ca2 e2, faultVal n t]) (by simp [results, Tryz.results12, go_sem, a0, a1, a2, a3, b0, b1]) rfl ⟨lv, va2, nv2, cv2, aa2, na2, ca2, rfl, ownsRow_less hown2 (by omega), hfin.ev.keep (Nat.le_refl _) (fun b _ _ => ⟨rfl, trivial⟩), hfin.be⟩
end Go.Proofs.YtkmpbkhlcapbgaaGreatDoor
namespace Go.Proofs.YtkmpbkhlcapbgaaGreatDoor
/-- Of other chapters nothing is asked. -/
def P0 : Par := ⟨fun _ _ => none, fun _ _ _ => none, fun _ => none⟩
def E0 : EnvT := ⟨[], [], 0, []⟩
def Eab : EnvT := E0.set [120] [97, 32, 98]
def Eab2 : EnvT := Eab.set [121] [49]
theorem eab_is : Eab = ⟨[([120], [97, 32, 98])], [], 0, []⟩ := by kernel_rfl
theorem eab2_is : Eab2 = ⟨[([120], [97, 32, 98]), ([121], [49])], [], 0, []⟩ := by kernel_rfl
theorem awake1 : partsE P0 8 Eab ([], []) [.mk 3 [120] [] false []] = some (.ok Eab ([97, 32, 98], [115, 115, 115])) := by kernel_rfl
theorem awake1s : splitR ([97, 32, 98], [115, 115, 115]) Eab.ifs = [([97], [115]), ([98], [115])] := by kernel_rfl
theorem awake2 : partsE P0 8 Eab ([], []) [.mk 3 [120] [] true []] = some (.ok Eab ([97, 32, 98], [113, 113, 113])) := by kernel_rfl
theorem awake2s : splitR ([97, 32, 98], [113, 113, 113]) Eab.ifs = [([97, 32, 98], [113, 113, 113])] := by kernel_rfl
theorem awake3 : partsE P0 8 Eab ([], []) [.mk 3 [121] [58, 61] false [.mk 1 [49] [] false []], .mk 3 [121] [] false []] = some (.ok Eab2 ([49, 49], [115, 115])) := by kernel_rfl
theorem awake3f : flatR ([49, 49], [115, 115]) = [49, 49] := by kernel_rfl
theorem awake4 : partsE P0 8 (Eab.flag 117 true) ([], []) [.mk 3 [122] [] false []] = some (.fault 23 [122]) := by kernel_rfl
theorem small_x (t : List UInt8) (q : Bool) (h : t.length ≤ 1000000) : smallL [.mk 3 t [] q []] := by
  rw [smallL_cons, smallL_nil, smallP_mk, smallL_nil]
  exact ⟨⟨h, by simp, by decide, trivial⟩, trivial⟩
theorem small_y : smallL [.mk 3 [121] [58, 61] false [.mk 1 [49] [] false []], .mk 3 [121] [] false []] := by
  rw [smallL_cons, smallP_mk, smallL_cons, smallL_nil, smallP_mk, smallL_nil]
  exact ⟨⟨by decide, by decide, by decide, ⟨by decide, by decide, by decide, trivial⟩, trivial⟩, small_x [121] false (by decide)⟩
end Go.Proofs.YtkmpbkhlcapbgaaGreatDoor
namespace Go.Proofs.YtkmpbkhlcapbgaaGreatDoor
open Go Go.RowKit
theorem p0_ok : ParOK P0 where
  len _ _ h := by cases h
  cut _ _ _ _ h := by cases h
  ev _ _ _ h := by cases h
theorem one_okP (P : Par) (hPK : ParOK P) (fw : Nat) (s : ByteArray) (hs : s.size ≤ 1000000000) (l : List PartT) (hl : wordF fw s.data.toList = some l) (hsm : smallL l) (f : Nat) (hf : f ≤ 1000000) (e : EnvT) (out : ExT) (ho : partsE P f e ([], []) l = some out)
    (va : Option Addr) (nv cv : Nat) (aa : Option Addr) (na ca : Nat) (w : World) (hE : EnvA w (.slice va nv cv) (.slice aa na ca) e) (hT : Full w) :
    Calls Tryz.prog 14 #[envVal va nv cv aa na ca e, .string s] w (OneRes (resOf e out) w) :=
  one_of s e (resOf e out) va nv cv aa na ca w fun W hW =>
    all_res P f (ex_all P hPK f hf).2 fw s hs l hl hsm e out ho (fun b => b < w.heap.size) va nv cv aa na ca W (hE.keep hW.size fun b _ q2 => ⟨hW.block b q2, q2⟩) (fun _ hb => Nat.lt_of_lt_of_le hb hW.size) (hT.below hT.lt hW)
theorem fields_okP (P : Par) (hPK : ParOK P) (fw : Nat) (s : ByteArray) (hs : s.size ≤ 1000000000) (l : List PartT) (hl : wordF fw s.data.toList = some l) (hsm : smallL l) (f : Nat) (hf : f ≤ 1000000) (e : EnvT) (out : ExT) (ho : partsE P f e ([], []) l = some out)
    (va : Option Addr) (nv cv : Nat) (aa : Option Addr) (na ca : Nat) (w : World) (hE : EnvA w (.slice va nv cv) (.slice aa na ca) e) (hT : Full w) :
    Calls Tryz.prog 12 #[envVal va nv cv aa na ca e, .string s] w (FieldsRes (resOf e out) w) :=
  fields_of s e (resOf e out) va nv cv aa na ca w fun W hW =>
    all_res P f (ex_all P hPK f hf).2 fw s hs l hl hsm e out ho (fun b => b < w.heap.size) va nv cv aa na ca W (hE.keep hW.size fun b _ q2 => ⟨hW.block b q2, q2⟩) (fun _ hb => Nat.lt_of_lt_of_le hb hW.size) (hT.below hT.lt hW)
theorem one_ok (fw : Nat) (s : ByteArray) (hs : s.size ≤ 1000000000) (l : List PartT) (hl : wordF fw s.data.toList = some l) (hsm : smallL l) (f : Nat) (hf : f ≤ 1000000) (e : EnvT) (out : ExT) (ho : partsE P0 f e ([], []) l = some out)
    (va : Option Addr) (nv cv : Nat) (aa : Option Addr) (na ca : Nat) (w : World) (hE : EnvA w (.slice va nv cv) (.slice aa na ca) e) (hT : Full w) :
    Calls Tryz.prog 14 #[envVal va nv cv aa na ca e, .string s] w (OneRes (resOf e out) w) :=
  one_okP P0 p0_ok fw s hs l hl hsm f hf e out ho va nv cv aa na ca w hE hT
theorem fields_ok (fw : Nat) (s : ByteArray) (hs : s.size ≤ 1000000000) (l : List PartT) (hl : wordF fw s.data.toList = some l) (hsm : smallL l) (f : Nat) (hf : f ≤ 1000000) (e : EnvT) (out : ExT) (ho : partsE P0 f e ([], []) l = some out)
    (va : Option Addr) (nv cv : Nat) (aa : Option Addr) (na ca : Nat) (w : World) (hE : EnvA w (.slice va nv cv) (.slice aa na ca) e) (hT : Full w) :
    Calls Tryz.prog 12 #[envVal va nv cv aa na ca e, .string s] w (FieldsRes (resOf e out) w) :=
  fields_okP P0 p0_ok fw s hs l hl hsm f hf e out ho va nv cv aa na ca w hE hT
theorem set_status (e : EnvT) (s x : List UInt8) : (e.set s x).status = e.status ∧ (e.set s x).flags = e.flags ∧ (e.set s x).args = e.args := by
  unfold EnvT.set
  split <;> exact ⟨rfl, rfl, rfl⟩
theorem rowv_is {w : World} {v : Value} {l : List (ByteArray × ByteArray)} (h : RowV w v l) : ∃ a n c, v = .slice a n c := h.elim fun a h => h.elim fun cap h => ⟨a, _, cap, h.1⟩
theorem set_ok (s x : ByteArray) (hs : s.size ≤ 281474976710656) (hn : isName s.data.toList = true) (e : EnvT) (va : Option Addr) (nv cv : Nat) (aa : Option Addr) (na ca : Nat) (w : World) (hE : EnvA w (.slice va nv cv) (.slice aa na ca) e) (hfew : (e.set s.data.toList x.data.toList).vars.length ≤ 1000000) :
    Calls Tryz.prog 13 #[envVal va nv cv aa na ca e, .string s, .string x] w fun r w' => ∃ va2 nv2 cv2, r = .returned (envVal va2 nv2 cv2 aa na ca (e.set s.data.toList x.data.toList)) ∧ EnvA w' (.slice va2 nv2 cv2) (.slice aa na ca) (e.set s.data.toList x.data.toList) ∧ Below w.heap.size w w' := by
  refine (set_at s x hs hn e _ (.slice va nv cv) aa na ca e.status ⟨e.flags.toArray⟩ w hE hfew).mono ?_
  rintro r w' ⟨v', rfl, hE2, -, hb⟩
  obtain ⟨va2, nv2, cv2, rfl⟩ := rowv_is hE2.vars.1
  obtain ⟨h1, h2, -⟩ := set_status e s.data.toList x.data.toList
  refine ⟨va2, nv2, cv2, by simp only [envVal, h1, h2], hE2.keep (Nat.le_refl _) fun b _ _ => ⟨rfl, trivial⟩, hb⟩
theorem get_ok (s : ByteArray) (hs : s.size ≤ 281474976710656) (hn : isName s.data.toList = true) (e : EnvT) (va : Option Addr) (nv cv : Nat) (aa : Option Addr) (na ca : Nat) (w : World) (hE : EnvA w (.slice va nv cv) (.slice aa na ca) e) :
    Calls Tryz.prog 15 #[envVal va nv cv aa na ca e, .string s] w fun x w' => x = .returned (.tuple #[.string ⟨((e.get s.data.toList).getD []).toArray⟩, .bool (e.get s.data.toList).isSome]) ∧ Below w.heap.size w w' :=
  get_at s hs hn e _ _ _ _ _ w hE
theorem ones_flag (e : EnvT) (c : UInt8) (on : Bool) : onesL ⟨e.flags.toArray⟩ c on 4 = ⟨((e.flag c on).flags).toArray⟩ := by
  unfold onesL EnvT.flag
  have hk : ∀ f, keepB ⟨e.flags.toArray⟩ c on f = ((f == c && on) || (f != c && e.has f)) := by
    intro f
    unfold keepB hasB EnvT.has
    rw [Lib.contains_iff_indexByte]
  have : efuxL.take 4 = [101, 102, 117, 120] := rfl
  rw [this]
  congr 2
  exact List.filter_congr fun f _ => hk f
theorem flag_ok (e : EnvT) (c : UInt8) (on : Bool) (va : Option Addr) (nv cv : Nat) (aa : Option Addr) (na ca : Nat) (w : World) (hE : EnvA w (.slice va nv cv) (.slice aa na ca) e) :
    Calls Tryz.prog 20 #[envVal va nv cv aa na ca e, .int .u8 (c.toNat : Int), .bool on] w fun r w' => r = .returned (envVal va nv cv aa na ca (e.flag c on)) ∧ EnvA w' (.slice va nv cv) (.slice aa na ca) (e.flag c on) ∧ Below w.heap.size w w' := by
  refine (flag_any va nv cv aa na ca e.status ⟨e.flags.toArray⟩ c on w).mono ?_
  rintro r w' ⟨rfl, hb⟩
  refine ⟨by rw [ones_flag]; rfl, ?_, hb⟩
  have h := hE.below hb
  exact ⟨h.vars, h.args, h.up, h.few⟩
theorem env_zero (w : World) : EnvA w (.slice none 0 0) (.slice none 0 0) E0 where
  vars := ⟨⟨none, 0, rfl, Nat.le_refl _, by decide, .inl ⟨rfl, rfl⟩⟩, fun a n c e => by cases e⟩
  args := ⟨none, 0, rfl, Nat.le_refl _, by decide, .inl rfl⟩
  up := List.Pairwise.nil
  few := by decide
/-- A field of a row of fields. -/
theorem field_at {w : World} {b n : Nat} {a : Option Addr} {n' c : Nat} {L : List RowT} (h : w.ownsRow b 38 2 (.slice a n' c) n (cellsL (bvR L))) (i : Nat) (hi : i < L.length) :
    ∃ q, a = some ⟨q, 0, none⟩ ∧ w.cell? ⟨q, i * 2, none⟩ = some (.string ⟨L[i].1.toArray⟩) ∧ w.cell? ⟨q, i * 2 + 1, none⟩ = some (.string ⟨L[i].2.toArray⟩) := by
  have hg := cellsL_get (bvR L) i (by rw [bvR_length]; exact hi)
  have he : (bvR L)[i]'(by rw [bvR_length]; exact hi) = rb L[i] := by simp [bvR]
  rw [he] at hg
  rcases h.2 with ⟨hv, rfl⟩ | ⟨q, cap, cur, hv, hgq, r⟩
  · have := h.1
    rw [cellsL_length, bvR_length] at this
    omega
  · obtain ⟨rfl, rfl, rfl⟩ : a = some ⟨q, 0, none⟩ ∧ n' = n ∧ c = cap := by simpa using hv
    have hc := h.cells (g := q) rfl
    have h1 := hc _ _ hg.1
    have h2 := hc _ _ hg.2
    rw [Addr.add_lit] at h1 h2
    exact ⟨q, rfl, by simpa [rb] using h1, by simpa [rb] using h2⟩
end Go.Proofs.YtkmpbkhlcapbgaaGreatDoor
namespace Go.Proofs.YtkmpbkhlcapbgaaGreatDoor
open Go Go.RowKit
abbrev env0 (va : Option Addr) (nv cv : Nat) (aa : Option Addr) (na ca : Nat) (fl : ByteArray) : Value := .agg #[.slice va nv cv, .slice aa na ca, .int .i64 0, .string fl]
theorem aw_set (w : World) : Calls Tryz.prog 13 #[env0 none 0 0 none 0 0 ⟨#[]⟩, .string ⟨#[120]⟩, .string ⟨#[97, 32, 98]⟩] w fun r w' => ∃ va nv cv, r = .returned (env0 va nv cv none 0 0 ⟨#[]⟩) ∧ EnvA w' (.slice va nv cv) (.slice none 0 0) Eab ∧ Below w.heap.size w w' :=
  set_ok ⟨#[120]⟩ ⟨#[97, 32, 98]⟩ (by decide) (by decide) E0 none 0 0 none 0 0 w (env_zero w) (by decide)
theorem aw_fields1 (va : Option Addr) (nv cv : Nat) (aa : Option Addr) (na ca : Nat) (w : World) (hE : EnvA w (.slice va nv cv) (.slice aa na ca) Eab) (hT : Full w) :
    Calls Tryz.prog 12 #[env0 va nv cv aa na ca ⟨#[]⟩, .string ⟨#[36, 120]⟩] w fun x w' => ∃ a c va2 nv2 cv2 aa2 na2 ca2, x = .returned (.tuple #[.slice a 2 c, env0 va2 nv2 cv2 aa2 na2 ca2 ⟨#[]⟩, .agg #[.int .i64 0, .string ⟨#[]⟩]]) ∧ Below w.heap.size w w' := by
  refine (fields_ok 9 ⟨#[36, 120]⟩ (by decide) _ word_x (small_x [120] false (by decide)) 8 (by decide) Eab _ awake1 va nv cv aa na ca w hE hT).mono ?_
  rintro x w' ⟨l, va2, nv2, cv2, aa2, na2, ca2, rfl, hown, -, hb⟩
  have hs : splitR (resOf Eab (.ok Eab ([97, 32, 98], [115, 115, 115]))).1 (resOf Eab (.ok Eab ([97, 32, 98], [115, 115, 115]))).2.1.ifs = [([97], [115]), ([98], [115])] := awake1s
  rw [hs] at hown
  obtain ⟨a, c, rfl⟩ := own_slice hown
  exact ⟨a, c, va2, nv2, cv2, aa2, na2, ca2, rfl, hb⟩
theorem aw_fields2 (va : Option Addr) (nv cv : Nat) (aa : Option Addr) (na ca : Nat) (w : World) (hE : EnvA w (.slice va nv cv) (.slice aa na ca) Eab) (hT : Full w) :
    Calls Tryz.prog 12 #[env0 va nv cv aa na ca ⟨#[]⟩, .string ⟨#[34, 36, 120, 34]⟩] w fun x w' => ∃ q c va2 nv2 cv2 aa2 na2 ca2, x = .returned (.tuple #[.slice (some ⟨q, 0, none⟩) 1 c, env0 va2 nv2 cv2 aa2 na2 ca2 ⟨#[]⟩, .agg #[.int .i64 0, .string ⟨#[]⟩]]) ∧ w'.cell? ⟨q, 0, none⟩ = some (.string ⟨#[97, 32, 98]⟩) ∧ Below w.heap.size w w' := by
  refine (fields_ok 9 ⟨#[34, 36, 120, 34]⟩ (by decide) _ word_qx (small_x [120] true (by decide)) 8 (by decide) Eab _ awake2 va nv cv aa na ca w hE hT).mono ?_
  rintro x w' ⟨l, va2, nv2, cv2, aa2, na2, ca2, rfl, hown, -, hb⟩
  have hs : splitR (resOf Eab (.ok Eab ([97, 32, 98], [113, 113, 113]))).1 (resOf Eab (.ok Eab ([97, 32, 98], [113, 113, 113]))).2.1.ifs = [([97, 32, 98], [113, 113, 113])] := awake2s
  rw [hs] at hown
  obtain ⟨a, c, rfl⟩ := own_slice hown
  obtain ⟨q, rfl, h1, -⟩ := field_at hown 0 (by decide)
  exact ⟨q, c, va2, nv2, cv2, aa2, na2, ca2, rfl, h1, hb⟩
theorem aw_one3 (va : Option Addr) (nv cv : Nat) (aa : Option Addr) (na ca : Nat) (w : World) (hE : EnvA w (.slice va nv cv) (.slice aa na ca) Eab) (hT : Full w) :
    Calls Tryz.prog 14 #[env0 va nv cv aa na ca ⟨#[]⟩, .string ⟨#[36, 123, 121, 58, 61, 49, 125, 36, 121]⟩] w fun x w' => ∃ va2 cv2 aa2 na2 ca2, x = .returned (.tuple #[.string ⟨#[49, 49]⟩, env0 va2 2 cv2 aa2 na2 ca2 ⟨#[]⟩, .agg #[.int .i64 0, .string ⟨#[]⟩]]) ∧ Below w.heap.size w w' := by
  refine (one_ok 12 ⟨#[36, 123, 121, 58, 61, 49, 125, 36, 121]⟩ (by decide) _ word_y small_y 8 (by decide) Eab _ awake3 va nv cv aa na ca w hE hT).mono ?_
  rintro x w' ⟨va2, nv2, cv2, aa2, na2, ca2, rfl, hE2, hb⟩
  obtain ⟨a, c, hv, -⟩ := hE2.vars.1
  obtain ⟨rfl, rfl, rfl⟩ : va2 = a ∧ nv2 = (bv (resOf Eab (.ok Eab2 ([49, 49], [115, 115]))).2.1.vars).length ∧ cv2 = c := by simpa using hv
  exact ⟨va2, cv2, aa2, na2, ca2, rfl, hb⟩
theorem aw_flag (va : Option Addr) (nv cv : Nat) (aa : Option Addr) (na ca : Nat) (w : World) (hE : EnvA w (.slice va nv cv) (.slice aa na ca) Eab) :
    Calls Tryz.prog 20 #[env0 va nv cv aa na ca ⟨#[]⟩, .int .u8 117, .bool true] w fun r w' => r = .returned (env0 va nv cv aa na ca ⟨#[117]⟩) ∧ EnvA w' (.slice va nv cv) (.slice aa na ca) (Eab.flag 117 true) ∧ Below w.heap.size w w' :=
  flag_ok Eab 117 true va nv cv aa na ca w hE
theorem aw_one4 (va : Option Addr) (nv cv : Nat) (aa : Option Addr) (na ca : Nat) (w : World) (hE : EnvA w (.slice va nv cv) (.slice aa na ca) (Eab.flag 117 true)) (hT : Full w) :
    Calls Tryz.prog 14 #[env0 va nv cv aa na ca ⟨#[117]⟩, .string ⟨#[36, 122]⟩] w fun x w' => ∃ va2 nv2 cv2 aa2 na2 ca2, x = .returned (.tuple #[.string ⟨#[]⟩, env0 va2 nv2 cv2 aa2 na2 ca2 ⟨#[117]⟩, .agg #[.int .i64 23, .string ⟨#[122]⟩]]) ∧ Below w.heap.size w w' := by
  refine (one_ok 9 ⟨#[36, 122]⟩ (by decide) _ word_z (small_x [122] false (by decide)) 8 (by decide) (Eab.flag 117 true) _ awake4 va nv cv aa na ca w hE hT).mono ?_
  rintro x w' ⟨va2, nv2, cv2, aa2, na2, ca2, rfl, hE2, hb⟩
  exact ⟨va2, nv2, cv2, aa2, na2, ca2, rfl, hb⟩
theorem below_two {w w' : World} {n : Nat} (h : Below n w w') (hn : n ≤ w'.heap.size) (A B : Obj) : Below n w ((w'.alloc A).alloc B) := (h.alloc hn A).alloc (by simp; omega) B
theorem two_boxes {w2 W2 : World} (a b : List Value) (ea eb : TypeId) (h : (w2.alloc (.cells a.toArray ea)).alloc (.cells b.toArray eb) = W2) : RowIs W2 w2.heap.size ea a ∧ RowIs W2 (w2.heap.size + 1) eb b ∧ Below w2.heap.size w2 W2 := by
  have r := (RowIs.new w2 ea a).alloc (.cells b.toArray eb)
  have q := RowIs.new (w2.alloc (.cells a.toArray ea)) eb b
  rw [World.size_alloc] at q
  rw [h] at r q
  exact ⟨r, q, by rw [← h]; exact ((Below.refl _ _).alloc (Nat.le_refl _) _).alloc (by simp) _⟩
set_option maxRecDepth 100000 in
set_option maxHeartbeats 16000000 in
theorem awake_any (w : World) (hT : Full w) : Calls Tryz.prog 9 #[] w fun e w' => e = .returned (.bool true) ∧ Below w.heap.size w w' := by
  have HT := Lib.hid hT
  have HF := Lib.hid hT.lt
  have HS := Lib.hid (aw_set w)
  clear hT
  go_enter Tryz.func9, Tryz.ntmps9
  go_wp2_with fail
  refine HS.out.mono ?_; rintro r w1 ⟨va, nv, cv, rfl, hE1, hb1⟩
  go_wp2_with fail
  obtain ⟨W1, hW1⟩ : ∃ W1, w1.alloc (.cells #[.slice va nv cv, .slice none 0 0, .int .i64 0, .string ⟨#[]⟩] 28) = W1 := ⟨_, rfl⟩
  have r1 : RowIs W1 w1.heap.size 28 [.slice va nv cv, .slice none 0 0, .int .i64 0, .string ⟨#[]⟩] := by rw [← hW1]; exact RowIs.new w1 _ _
  have B1 : Below w.heap.size w W1 := by rw [← hW1]; exact hb1.alloc hb1.size _
  have E1 : EnvA W1 (.slice va nv cv) (.slice none 0 0) Eab := by rw [← hW1]; exact hE1.below ((Below.refl _ _).alloc (Nat.le_refl _) _)
  have HF1 := Lib.hid (aw_fields1 va nv cv none 0 0 W1 E1 (HT.out.below HF.out B1))
  have HR1 := Lib.hid r1
  have HB1 := Lib.hid B1
  have HE1 := Lib.hid E1
  rw [hW1]
  clear r1 B1 E1 hE1 hb1 HS hW1
  refine HF1.out.mono ?_; rintro x w2 ⟨a2, k2, va2, nv2, cv2, aa2, na2, ca2, rfl, hb2⟩
  obtain ⟨c0, c1, c2, c3, f0, f1, f2, f3, lt1⟩ := four_facts (HR1.out.below hb2)
  clear HF1
  go_wp2_with fail
  obtain ⟨W2, hW2⟩ : ∃ W2, (w2.alloc (.cells #[.slice va2 nv2 cv2, .slice aa2 na2 ca2, .int .i64 0, .string ⟨#[]⟩] 28)).alloc (.cells #[(.int .i64 0), (.string ⟨#[]⟩)] 33) = W2 := ⟨_, rfl⟩
  obtain ⟨re2, rf2, bb2⟩ := two_boxes [.slice va2 nv2 cv2, .slice aa2 na2 ca2, .int .i64 0, .string ⟨#[]⟩] [(.int .i64 0), (.string ⟨#[]⟩)] 28 33 hW2
  rw [hW2]
  clear hW2
  have b2 : Below W1.heap.size W1 W2 := hb2.trans (bb2.mono hb2.size)
  have r12 := HR1.out.below b2
  have HF2 := Lib.hid (aw_fields2 va nv cv none 0 0 W2 (HE1.out.below b2) (HT.out.below HF.out (HB1.out.trans (b2.mono HB1.out.size))))
  have HX2 := Lib.hid (And.intro b2 (And.intro r12 rf2))
  clear b2 r12 rf2 re2 bb2 hb2 c0 c1 c2 c3 f0 f1 f2 f3 lt1
  refine HF2.out.mono ?_; rintro x w3 ⟨q, k3, va3, nv3, cv3, aa3, na3, ca3, rfl, cq, hb3⟩
  obtain ⟨c0, c1, c2, c3, f0, f1, f2, f3, lt1⟩ := four_facts (HX2.out.2.1.below hb3)
  clear HF2
  go_wp2_with fail
  obtain ⟨W3, hW3⟩ : ∃ W3, (w3.alloc (.cells #[.slice va3 nv3 cv3, .slice aa3 na3 ca3, .int .i64 0, .string ⟨#[]⟩] 28)).alloc (.cells #[(.int .i64 0), (.string ⟨#[]⟩)] 33) = W3 := ⟨_, rfl⟩
  obtain ⟨re3, rf3, bb3⟩ := two_boxes [.slice va3 nv3 cv3, .slice aa3 na3 ca3, .int .i64 0, .string ⟨#[]⟩] [(.int .i64 0), (.string ⟨#[]⟩)] 28 33 hW3
  rw [hW3]
  clear hW3
  have b3 : Below W2.heap.size W2 W3 := hb3.trans (bb3.mono hb3.size)
  have b13 := HX2.out.1.trans (b3.mono HX2.out.1.size)
  have HF3 := Lib.hid (aw_one3 va nv cv none 0 0 W3 (HE1.out.below b13) (HT.out.below HF.out (HB1.out.trans (b13.mono HB1.out.size))))
  have cq3 : W3.cell? ⟨q, 0, none⟩ = some (.string ⟨#[97, 32, 98]⟩) := (bb3.cell (block_lt_of_cell cq)).trans cq
  have HX3 := Lib.hid (And.intro b3 (And.intro b13 (And.intro rf3 cq3)))
  clear b3 b13 rf3 re3 bb3 hb3 c0 c1 c2 c3 f0 f1 f2 f3 lt1 cq cq3
  refine HF3.out.mono ?_; rintro x w4 ⟨va4, cv4, aa4, na4, ca4, rfl, hb4⟩
  obtain ⟨c0, c1, c2, c3, f0, f1, f2, f3, lt1⟩ := four_facts ((HR1.out.below HX3.out.2.1).below hb4)
  clear HF3
  go_wp2_with fail
  obtain ⟨W4, hW4⟩ : ∃ W4, (w4.alloc (.cells #[.slice va4 2 cv4, .slice aa4 na4 ca4, .int .i64 0, .string ⟨#[]⟩] 28)).alloc (.cells #[(.int .i64 0), (.string ⟨#[]⟩)] 33) = W4 := ⟨_, rfl⟩
  obtain ⟨re4, rf4, bb4⟩ := two_boxes [.slice va4 2 cv4, .slice aa4 na4 ca4, .int .i64 0, .string ⟨#[]⟩] [(.int .i64 0), (.string ⟨#[]⟩)] 28 33 hW4
  rw [hW4]
  clear hW4
  have b4 : Below W3.heap.size W3 W4 := hb4.trans (bb4.mono hb4.size)
  have b14 := HX3.out.2.1.trans (b4.mono HX3.out.2.1.size)
  have HF4 := Lib.hid (aw_flag va nv cv none 0 0 W4 (HE1.out.below b14))
  have HX4 := Lib.hid (And.intro b4 (And.intro b14 (And.intro re4 rf4)))
  clear b4 b14 rf4 re4 bb4 hb4 c0 c1 c2 c3 f0 f1 f2 f3 lt1
  refine HF4.out.mono ?_; rintro x w5 ⟨rfl, hE5, hb5⟩
  have b15 := HX4.out.2.1.trans (hb5.mono HX4.out.2.1.size)
  have HF5 := Lib.hid (aw_one4 va nv cv none 0 0 w5 hE5 (HT.out.below HF.out (HB1.out.trans (b15.mono HB1.out.size))))
  have HX5 := Lib.hid (And.intro hb5 b15)
  clear hE5 hb5 b15 HF4
  go_wp2_with fail
  refine HF5.out.mono ?_; rintro x w6 ⟨va6, nv6, cv6, aa6, na6, ca6, rfl, hb6⟩
  have b46 := HX5.out.1.trans (hb6.mono HX5.out.1.size)
  have b36 := HX4.out.1.trans (b46.mono HX4.out.1.size)
  have b26 := HX3.out.1.trans (b36.mono HX3.out.1.size)
  have b16 := HX2.out.1.trans (b26.mono HX2.out.1.size)
  obtain ⟨i0, i1, i2, i3, i4⟩ := two_facts (((HX2.out.2.2.below b26).alloc (.cells #[.slice va6 nv6 cv6, .slice aa6 na6 ca6, .int .i64 0, .string ⟨#[117]⟩] 28)).alloc (.cells #[.int .i64 23, .string ⟨#[122]⟩] 33))
  obtain ⟨j0, j1, j2, j3, j4⟩ := two_facts (((HX3.out.2.2.1.below b36).alloc (.cells #[.slice va6 nv6 cv6, .slice aa6 na6 ca6, .int .i64 0, .string ⟨#[117]⟩] 28)).alloc (.cells #[.int .i64 23, .string ⟨#[122]⟩] 33))
  have hq0 : q < w6.heap.size := Nat.lt_of_lt_of_le (block_lt_of_cell HX3.out.2.2.2) b36.size
  have hcq0 : w6.cell? ⟨q, 0, none⟩ = some (.string ⟨#[97, 32, 98]⟩) := (b36.cell (block_lt_of_cell HX3.out.2.2.2)).trans HX3.out.2.2.2
  have hcq : ((w6.alloc (.cells #[.slice va6 nv6 cv6, .slice aa6 na6 ca6, .int .i64 0, .string ⟨#[117]⟩] 28)).alloc (.cells #[.int .i64 23, .string ⟨#[122]⟩] 33)).cell? ⟨q, 0, none⟩ = some (.string ⟨#[97, 32, 98]⟩) := ((below_two (Below.refl _ w6) (Nat.le_refl _) (.cells #[.slice va6 nv6 cv6, .slice aa6 na6 ca6, .int .i64 0, .string ⟨#[117]⟩] 28) (.cells #[.int .i64 23, .string ⟨#[122]⟩] 33)).cell (show q < w6.heap.size from hq0)).trans hcq0
  clear hcq0
  obtain ⟨k0, k1, k2', k3', k4⟩ := two_facts (((HX4.out.2.2.2.below b46).alloc (.cells #[.slice va6 nv6 cv6, .slice aa6 na6 ca6, .int .i64 0, .string ⟨#[117]⟩] 28)).alloc (.cells #[.int .i64 23, .string ⟨#[122]⟩] 33))
  obtain ⟨o0, o1, o2, o3, o4, o5, o6, o7, o8⟩ := four_facts (((HX4.out.2.2.1.below b46).alloc (.cells #[.slice va6 nv6 cv6, .slice aa6 na6 ca6, .int .i64 0, .string ⟨#[117]⟩] 28)).alloc (.cells #[.int .i64 23, .string ⟨#[122]⟩] 33))
  have HBF := Lib.hid (HB1.out.trans (b16.mono HB1.out.size))
  clear HF5 hb6 b46 b36 b26 b16 HX2 HX3 HX4 HX5 HR1 HE1
  go_wp2_with fail
  go_ret
  exact ⟨rfl, (HBF.out.alloc HBF.out.size _).alloc (by have := HBF.out.size; simp; omega) _⟩
end Go.Proofs.YtkmpbkhlcapbgaaGreatDoor
namespace Go.Proofs.YtkmpbkhlcapbgaaGreatDoor
variable (P : Par)
theorem some2_quoted (w : List UInt8) : ((putR ([], []) w 113).1, some2 (putR ([], []) w 113).2) = putR ([], []) w 113 := by
  unfold putR
  split
  · rfl
  · simp [joinR, ofR, some2, List.map_replicate]
/-- The five operations with a quoted word, at a name that has a value or none. -/
theorem default_one (e : EnvT) (op t w : List UInt8) (hn : isName t = true) (ho : op ∈ aloneL) (h1 : ((e.get t).getD []).length ≤ 1000) (h2 : w.length ≤ 1000) (k : Int) (hk : doesP op ((e.get t).getD []) (e.get t).isSome = k) (hk4 : k ≠ 4) (hv : e.vars.length ≤ 999999) :
    ∃ r, partsE P 6 e ([], []) [.mk 3 t op false [.mk 2 w [] false []]] = some (.ok (if k = 3 then e.set t w else e) r) ∧ r.1.length = r.2.length ∧ flatR r = if k = 1 then (e.get t).getD [] else if k = 2 ∨ k = 3 then w else [] := by
  have hw : partsE P 4 e ([], []) [.mk 2 w [] false []] = some (.ok e (putR ([], []) w 113)) := parts_one P 2 e _ _ _ _ (part_quo P 2 e ([], []) w [] false [] (by show 0 + w.length + 1 ≤ _; omega) (by omega))
  have hl := putR_length ([], []) w 113
  have hl0 : (putR ([], []) w 113).1.length ≤ 1001 := by have : (([], []) : RowT).1.length = 0 := rfl; omega
  have hf : flatR (putR ([], []) w 113) = w := flatR_put w 113 (by decide)
  have key : ∃ r, condE P 4 e ([], []) t op false [.mk 2 w [] false []] = some (.ok (if k = 3 then e.set t w else e) r) ∧ r.1.length = r.2.length ∧ flatR r = if k = 1 then (e.get t).getD [] else if k = 2 ∨ k = 3 then w else [] := by
    unfold condE
    rw [hk]
    by_cases k1 : k = 1
    · subst k1
      refine ⟨putR ([], []) ((e.get t).getD []) 115, ?_, put_len _ rfl _ _, flatR_put _ _ (by decide)⟩
      rw [if_pos rfl, if_neg (by decide)]
      exact keepR_some (by have := putR_length ([], []) ((e.get t).getD []) (sortC false); have : (([], []) : RowT).1.length = 0 := rfl; omega) (by omega)
    · rw [if_neg k1]
      by_cases k2 : k = 2
      · subst k2
        refine ⟨joinR ([], []) (putR ([], []) w 113), ?_, ?_, ?_⟩
        · rw [if_pos rfl, hw, if_neg (show ¬ (2 : Int) = 3 by decide)]
          simp only [some2_quoted, Bool.false_eq_true, if_false]
          exact keepR_some (by rw [joinR_length]; show 0 + _ ≤ _; omega) (by omega)
        · have := put_len ([], []) rfl w 113
          simpa [joinR] using this
        · rw [flatR_join _ _ rfl, hf]; rfl
      · rw [if_neg k2]
        by_cases k3 : k = 3
        · subst k3
          refine ⟨putR ([], []) w 115, ?_, put_len _ rfl _ _, flatR_put _ _ (by decide)⟩
          rw [if_pos rfl, hw, if_pos rfl]
          simp only [hf]
          exact keepR_some (by have := putR_length ([], []) w (sortC false); have : (([], []) : RowT).1.length = 0 := rfl; omega) (by have := set_length e t w; omega)
        · refine ⟨putR ([], []) [] 115, ?_, rfl, ?_⟩
          · rw [if_neg k3, if_neg hk4, if_neg k3]
            exact keepR_some (by decide) (by omega)
          · rw [if_neg k1, if_neg (fun h => h.elim k2 k3), flatR_put _ _ (by decide)]
  obtain ⟨r, h, h3, h4⟩ := key
  exact ⟨r, parts_one P 4 e _ _ _ _ (by rw [part_cond P 4 e ([], []) t op false _ hn ho]; exact h), h3, h4⟩
/-- What should be set: its value, or a fault. -/
theorem fail_one (e : EnvT) (t : List UInt8) (hn : isName t = true) (h1 : ((e.get t).getD []).length ≤ 1000) (hv : e.vars.length ≤ 999999) :
    partsE P 6 e ([], []) [.mk 3 t [58, 63] false []] = if ((e.get t).isSome && !((e.get t).getD []).isEmpty) = true then some (.ok e (putR ([], []) ((e.get t).getD []) 115)) else some (.fault 23 t) := by
  have hc : condE P 4 e ([], []) t [58, 63] false [] = if ((e.get t).isSome && !((e.get t).getD []).isEmpty) = true then some (.ok e (putR ([], []) ((e.get t).getD []) 115)) else some (.fault 23 t) := by
    unfold condE
    have hd : doesP [58, 63] ((e.get t).getD []) (e.get t).isSome = if ((e.get t).isSome && !((e.get t).getD []).isEmpty) = true then 1 else 4 := by
      simp [doesP, doesT, Lib.trimPrefix, Lib.hasPrefix, List.isPrefixOf]
    rw [hd]
    split
    · rw [if_pos rfl]
      exact keepR_some (by have := putR_length ([], []) ((e.get t).getD []) (sortC false); have : (([], []) : RowT).1.length = 0 := rfl; omega) (by omega)
    · rw [if_neg (by decide), if_neg (by decide), if_neg (by decide), if_pos rfl]
  have hp : partE P 5 e ([], []) (.mk 3 t [58, 63] false []) = condE P 4 e ([], []) t [58, 63] false [] := part_cond P 4 e ([], []) t [58, 63] false [] hn (by decide)
  rw [hc] at hp
  split
  · rename_i h
    rw [if_pos h] at hp
    exact parts_one P 4 e _ _ _ _ hp
  · rename_i h
    rw [if_neg h] at hp
    exact parts_fault P 4 e _ _ _ _ _ hp
end Go.Proofs.YtkmpbkhlcapbgaaGreatDoor
namespace Go.Proofs.YtkmpbkhlcapbgaaGreatDoor
/-- The Env of ExpandDefault: x, or nothing. -/
def envD (x : Option (List UInt8)) : EnvT := match x with | some v => E0.set [120] v | none => E0
theorem envD_is (x : Option (List UInt8)) : envD x = ⟨match x with | some v => [([120], v)] | none => [], [], 0, []⟩ := by
  cases x
  · rfl
  · rfl
theorem envD_get (x : Option (List UInt8)) : (envD x).get [120] = x := by
  cases x with
  | none => rfl
  | some v => rfl
theorem envD_few (x : Option (List UInt8)) : (envD x).vars.length ≤ 1 := by
  rw [envD_is]
  cases x <;> simp
theorem set_name (e : EnvT) (s v : List UInt8) (h : isName s = true) : e.set s v = { e with vars := setV e.vars s v } := by unfold EnvT.set; rw [if_pos h]
theorem envD_set (x : Option (List UInt8)) (w : List UInt8) : ((envD x).set [120] w).get [120] = some w := by
  cases x with
  | none => rfl
  | some v => rfl
theorem name_x : isName [120] = true := by decide
theorem dead_is (op : List UInt8) (k : Int) (x : Option (List UInt8)) (hk : doesP op (x.getD []) x.isSome = k) : doesP op (((envD x).get [120]).getD []) ((envD x).get [120]).isSome = k := by rw [envD_get]; exact hk
/-- What one of the five comes to: the text, and the Env. -/
theorem default_five (x : Option (List UInt8)) (op w : List UInt8) (ho : op ∈ aloneL) (h1 : (x.getD []).length ≤ 1000) (h2 : w.length ≤ 1000) (k : Int) (hk : doesP op (x.getD []) x.isSome = k) (hk4 : k ≠ 4) :
    ∃ r, partsE P0 6 (envD x) ([], []) [.mk 3 [120] op false [.mk 2 w [] false []]] = some (.ok (if k = 3 then (envD x).set [120] w else envD x) r) ∧ flatR r = if k = 1 then x.getD [] else if k = 2 ∨ k = 3 then w else [] := by
  have h := default_one P0 (envD x) op [120] w name_x ho (by rw [envD_get]; exact h1) h2 k (dead_is op k x hk) hk4 (by have := envD_few x; omega)
  rw [envD_get] at h
  obtain ⟨r, a, _, b⟩ := h
  exact ⟨r, a, b⟩
/-- What is asked whether it is there. -/
theorem default_fail (x : Option (List UInt8)) (h1 : (x.getD []).length ≤ 1000) :
    partsE P0 6 (envD x) ([], []) [.mk 3 [120] [58, 63] false []] = if (x.isSome && !(x.getD []).isEmpty) = true then some (.ok (envD x) (putR ([], []) (x.getD []) 115)) else some (.fault 23 [120]) := by
  have h := fail_one P0 (envD x) [120] name_x (by rw [envD_get]; exact h1) (by have := envD_few x; omega)
  rw [envD_get] at h
  exact h
/-- How each operation does. -/
theorem does_tab (x : Option (List UInt8)) : doesP [58, 45] (x.getD []) x.isSome = (if (x.isSome && !(x.getD []).isEmpty) = true then 1 else 2) ∧ doesP [45] (x.getD []) x.isSome = (if x.isSome = true then 1 else 2) ∧
    doesP [58, 61] (x.getD []) x.isSome = (if (x.isSome && !(x.getD []).isEmpty) = true then 1 else 3) ∧ doesP [58, 43] (x.getD []) x.isSome = (if (x.isSome && !(x.getD []).isEmpty) = true then 2 else 5) ∧
    doesP [43] (x.getD []) x.isSome = (if x.isSome = true then 2 else 5) := by
  cases x with
  | none => exact ⟨rfl, rfl, rfl, rfl, rfl⟩
  | some v =>
    cases v with
    | nil => exact ⟨rfl, rfl, rfl, rfl, rfl⟩
    | cons a t => exact ⟨rfl, rfl, rfl, rfl, rfl⟩
theorem small_def (op w : List UInt8) (ho : op ∈ aloneL) (hw : w.length ≤ 1000000) : smallL [.mk 3 [120] op false [.mk 2 w [] false []]] := by
  have h1 : ∀ o ∈ aloneL, o.length ≤ 1000000 ∧ (trimsF o).1 = false := by decide
  rw [smallL_cons, smallL_nil, smallP_mk, smallL_cons, smallL_nil, smallP_mk, smallL_nil]
  exact ⟨⟨by decide, (h1 op ho).1, trivial, ⟨hw, by simp, by decide, trivial⟩, trivial⟩, trivial⟩
theorem small_fail : smallL [.mk 3 [120] [58, 63] false []] := by
  rw [smallL_cons, smallL_nil, smallP_mk, smallL_nil]
  exact ⟨⟨by decide, by decide, by decide, trivial⟩, trivial⟩
/-- The text of a word of ExpandDefault, as the law writes it. -/
def wordD (op : List UInt8) (w : ByteArray) : ByteArray := ⟨([36, 123, 120] ++ op).toArray⟩ ++ (⟨#[39]⟩ ++ w ++ ⟨#[39]⟩) ++ ⟨#[125]⟩
theorem wordD_list (op : List UInt8) (w : ByteArray) : (wordD op w).data.toList = [36, 123, 120] ++ op ++ 39 :: (w.data.toList ++ [39, 125]) := by
  simp [wordD]
theorem wordD_size (op : List UInt8) (w : ByteArray) : (wordD op w).size = op.length + w.size + 6 := by
  have : (wordD op w).size = (wordD op w).data.toList.length := by simp
  rw [this, wordD_list]
  simp
  omega
end Go.Proofs.YtkmpbkhlcapbgaaGreatDoor
namespace Go.Proofs.YtkmpbkhlcapbgaaGreatDoor
open Go Go.RowKit
def TextRes (t : ByteArray) (n : Int) (ft : ByteArray) (e2 : EnvT) (w : World) (x : Ending) (w' : World) : Prop :=
  ∃ va nv cv aa na ca, x = .returned (.tuple #[.string t, env0 va nv cv aa na ca ⟨#[]⟩, .agg #[.int .i64 n, .string ft]]) ∧ EnvA w' (.slice va nv cv) (.slice aa na ca) e2 ∧ Below w.heap.size w w'
theorem envD_st (x : Option (List UInt8)) : (envD x).status = 0 ∧ (envD x).flags = [] := by rw [envD_is]; exact ⟨rfl, rfl⟩
theorem bytes_of (T : ByteArray) (l : List UInt8) (h : T.data.toList = l) : (⟨l.toArray⟩ : ByteArray) = T := by rw [← h]
theorem def_call (x : Option (List UInt8)) (op : List UInt8) (w0 T : ByteArray) (ho : op ∈ aloneL) (ho2 : op = [58, 45] ∨ op = [45] ∨ op = [58, 61] ∨ op = [58, 43] ∨ op = [43] ∨ op = [37]) (hx : (x.getD []).length ≤ 30) (hw : w0.size ≤ 30) (hq : (39 : UInt8) ∉ w0.data.toList) (k : Int) (hk : doesP op (x.getD []) x.isSome = k) (hk4 : k ≠ 4)
    (hT : T.data.toList = if k = 1 then x.getD [] else if k = 2 ∨ k = 3 then w0.data.toList else [])
    (va : Option Addr) (nv cv : Nat) (aa : Option Addr) (na ca : Nat) (W : World) (hE : EnvA W (.slice va nv cv) (.slice aa na ca) (envD x)) (hTab : Full W) :
    Calls Tryz.prog 14 #[env0 va nv cv aa na ca ⟨#[]⟩, .string (wordD op w0)] W (TextRes T 0 ⟨#[]⟩ (if k = 3 then (envD x).set [120] w0.data.toList else envD x) W) := by
  have hwl : w0.data.toList.length = w0.size := by simp
  have hop : op.length ≤ 2 := by
    have : ∀ o ∈ aloneL, o.length ≤ 2 := by decide
    exact this op ho
  obtain ⟨r, hp, hr⟩ := default_five x op w0.data.toList ho (by omega) (by omega) k hk hk4
  have h := one_ok 8 (wordD op w0) (by rw [wordD_size]; omega) _ (by rw [wordD_list]; exact word_default op ho2 _ hq) (small_def op _ ho (by omega)) 6 (by decide) (envD x) _ hp va nv cv aa na ca W hE hTab
  obtain ⟨s1, s2⟩ := envD_st x
  simp only [envVal, s1, s2] at h
  refine h.mono ?_
  rintro y w' ⟨va2, nv2, cv2, aa2, na2, ca2, rfl, hE2, hb⟩
  refine ⟨va2, nv2, cv2, aa2, na2, ca2, ?_, hE2, hb⟩
  have s3 : (resOf (envD x) (.ok (if k = 3 then (envD x).set [120] w0.data.toList else envD x) r)).2.1.status = 0 := by
    show (if k = 3 then (envD x).set [120] w0.data.toList else envD x).status = 0
    split
    · rw [(set_status _ _ _).1, s1]
    · exact s1
  have s4 : (resOf (envD x) (.ok (if k = 3 then (envD x).set [120] w0.data.toList else envD x) r)).2.1.flags = [] := by
    show (if k = 3 then (envD x).set [120] w0.data.toList else envD x).flags = []
    split
    · rw [(set_status _ _ _).2.1, s2]
    · exact s2
  simp only [envVal, s3, s4]
  rw [show (flatR (resOf (envD x) (.ok (if k = 3 then (envD x).set [120] w0.data.toList else envD x) r)).1).toArray = T.data from by rw [show flatR (resOf (envD x) (.ok (if k = 3 then (envD x).set [120] w0.data.toList else envD x) r)).1 = _ from hr, ← hT]]
  rfl
theorem fail_call (x : Option (List UInt8)) (T : ByteArray) (n : Int) (ft : ByteArray) (hx : (x.getD []).length ≤ 30)
    (hT : if (x.isSome && !(x.getD []).isEmpty) = true then T.data.toList = x.getD [] ∧ n = 0 ∧ ft = ⟨#[]⟩ else T = ⟨#[]⟩ ∧ n = 23 ∧ ft = ⟨#[120]⟩)
    (va : Option Addr) (nv cv : Nat) (aa : Option Addr) (na ca : Nat) (W : World) (hE : EnvA W (.slice va nv cv) (.slice aa na ca) (envD x)) (hTab : Full W) :
    Calls Tryz.prog 14 #[env0 va nv cv aa na ca ⟨#[]⟩, .string ⟨#[36, 123, 120, 58, 63, 125]⟩] W (TextRes T n ft (envD x) W) := by
  have hp := default_fail x (by omega)
  have h := one_ok 9 ⟨#[36, 123, 120, 58, 63, 125]⟩ (by decide) _ word_fail small_fail 6 (by decide) (envD x) (if (x.isSome && !(x.getD []).isEmpty) = true then (.ok (envD x) (putR ([], []) (x.getD []) 115)) else (.fault 23 [120])) (by rw [hp]; split <;> rfl) va nv cv aa na ca W hE hTab
  obtain ⟨s1, s2⟩ := envD_st x
  simp only [envVal, s1, s2] at h
  refine h.mono ?_
  rintro y w' ⟨va2, nv2, cv2, aa2, na2, ca2, rfl, hE2, hb⟩
  split at hT
  · rename_i hc
    rw [if_pos hc] at hE2 ⊢
    obtain ⟨h1, rfl, rfl⟩ := hT
    refine ⟨va2, nv2, cv2, aa2, na2, ca2, ?_, hE2, hb⟩
    have hf : flatR (putR ([], []) (x.getD []) 115) = x.getD [] := flatR_put _ _ (by decide)
    simp only [envVal, resOf, s1, s2, hf]
    rw [← h1]
  · rename_i hc
    rw [if_neg hc] at hE2 ⊢
    obtain ⟨rfl, rfl, rfl⟩ := hT
    refine ⟨va2, nv2, cv2, aa2, na2, ca2, ?_, hE2, hb⟩
    simp only [envVal, resOf, s1, s2]
    rfl
theorem env_none (w : World) : EnvC w (fun _ => False) (.slice none 0 0) (.slice none 0 0) E0 where
  vars := ⟨⟨none, 0, rfl, Nat.le_refl _, by decide, .inl ⟨rfl, rfl⟩⟩, fun a n c e => by cases e⟩
  args := ⟨none, 0, rfl, Nat.le_refl _, by decide, .inl rfl⟩
  up := List.Pairwise.nil
  few := by decide
/-- Set at nothing: what it makes is new. -/
theorem def_set (v : ByteArray) (w : World) : Calls Tryz.prog 13 #[env0 none 0 0 none 0 0 ⟨#[]⟩, .string ⟨#[120]⟩, .string v] w fun r w' => ∃ va nv cv, r = .returned (env0 va nv cv none 0 0 ⟨#[]⟩) ∧ EnvC w' (fun b => w.heap.size ≤ b) (.slice va nv cv) (.slice none 0 0) (envD (some v.data.toList)) ∧ Below w.heap.size w w' := by
  have hfew : (E0.set (⟨#[120]⟩ : ByteArray).data.toList v.data.toList).vars.length ≤ 1000000 := by
    have := set_length E0 (⟨#[120]⟩ : ByteArray).data.toList v.data.toList
    have : E0.vars.length = 0 := rfl
    omega
  refine (set_at ⟨#[120]⟩ v (by decide) (by decide) E0 (fun _ => False) (.slice none 0 0) none 0 0 0 ⟨#[]⟩ w (env_none w) hfew).mono ?_
  rintro r w' ⟨v', rfl, hE2, -, hb⟩
  obtain ⟨va2, nv2, cv2, rfl⟩ := rowv_is hE2.vars.1
  exact ⟨va2, nv2, cv2, rfl, hE2.keep (Nat.le_refl _) fun b q _ => ⟨rfl, q.elim False.elim id⟩, hb⟩
set_option maxRecDepth 100000 in
set_option maxHeartbeats 8000000 in
theorem default_out (v w0 : ByteArray) (set : Bool) (h : 30 < v.size ∨ 30 < w0.size) (w : World) (hT : Full w) :
    Calls Tryz.prog 4 #[.string v, .string w0, .bool set] w fun e w' => e = .returned (.bool true) ∧ Below w.heap.size w w' := by
  have HA := Lib.hid (awake_any w hT)
  clear hT
  by_cases h1 : 30 < v.size
  · have h1' : (30 : Int) < (v.size : Int) := by omega
    clear h h1
    go_enter Tryz.func4, Tryz.ntmps4
    go_wp2_with fail
    refine HA.out.mono ?_; rintro e w1 ⟨rfl, hb⟩
    have HB := Lib.hid hb
    clear hb
    go_wp2_with fail
    go_ret
    exact ⟨rfl, HB.out⟩
  · have h1' : ¬ (30 : Int) < (v.size : Int) := by omega
    have h2' : (30 : Int) < (w0.size : Int) := by omega
    clear h h1
    go_enter Tryz.func4, Tryz.ntmps4
    go_wp2_with fail
    refine HA.out.mono ?_; rintro e w1 ⟨rfl, hb⟩
    have HB := Lib.hid hb
    clear hb
    go_wp2_with fail
    go_ret
    exact ⟨rfl, HB.out⟩
set_option maxRecDepth 100000 in
set_option maxHeartbeats 8000000 in
theorem default_quote (v w0 : ByteArray) (set : Bool) (h1 : v.size ≤ 30) (h2 : w0.size ≤ 30) (hq : (39 : UInt8) ∈ w0.data.toList) (w : World) (hT : Full w) :
    Calls Tryz.prog 4 #[.string v, .string w0, .bool set] w fun e w' => e = .returned (.bool true) ∧ Below w.heap.size w w' := by
  have HA := Lib.hid (awake_any w hT)
  have h1' : ¬ (30 : Int) < (v.size : Int) := by omega
  have h2' : ¬ (30 : Int) < (w0.size : Int) := by omega
  have HQ := Lib.hid hq
  clear hT hq
  go_enter Tryz.func4, Tryz.ntmps4
  go_wp2_with fail
  refine HA.out.mono ?_; rintro e w1 ⟨rfl, hb⟩
  have HB := Lib.hid hb
  clear hb
  go_wp2_with fail
  go_loopg [8] w0.size (fun g s8 wx => wx = w1 ∧ ∃ i : Nat, i + g = w0.size ∧ s8 = .int .i64 i ∧ Hid (∀ j (h : j < w0.size), j < i → w0[j] ≠ 39))
  case atStart => exact ⟨rfl, 0, by omega, rfl, fun j _ h => by omega⟩
  case round =>
    obtain ⟨rfl, i, hig, rfl, hrel⟩ := hrel
    cases gk with
    | zero =>
      exfalso
      obtain ⟨j, hj, he⟩ := List.getElem_of_mem HQ.out
      exact hrel.out j (by simpa using hj) (by have : j < w0.size := by simpa using hj
                                               omega) he
    | succ g =>
      have hi : i < w0.size := by omega
      by_cases hc : w0[i] = 39
      · have hc2 : ((w0[i].toNat : Int) == 39) = true := by rw [hc]; rfl
        clear hrel
        go_wp2_with fail
        go_ret
        exact ⟨rfl, HB.out⟩
      · have hc1 : w0[i].toNat ≠ 39 := fun e => hc (UInt8.toNat_inj.1 (e.trans rfl))
        have hc2 : ((w0[i].toNat : Int) == 39) = false := by simp; omega
        have HR := Lib.hid hrel.out
        have HC := Lib.hid hc
        clear hrel hc hc1
        go_wp2_with fail
        go_roundg g
        case measure => omega
        case rel => exact ⟨rfl, i + 1, by omega, rfl, fun j hj hji => by
          rcases Nat.lt_or_ge j i with q | q
          · exact HR.out j hj q
          · obtain rfl : j = i := by omega
            exact HC.out⟩
end Go.Proofs.YtkmpbkhlcapbgaaGreatDoor
namespace Go.Proofs.YtkmpbkhlcapbgaaGreatDoor.Gb
open Go
/-- A text's byte at a place as a number; 0 behind its end. -/
def bt (s : ByteArray) (k : Nat) : Int := if h : k < s.size then ((s[k]'h).toNat : Int) else 0
theorem get_bt (s : ByteArray) : ∀ (n : Nat) (h : n < s.size), ((s[n]'h).toNat : Int) = bt s n := fun n h => by unfold bt; rw [dif_pos h]
theorem bt_nonneg (s : ByteArray) (k : Nat) : 0 ≤ bt s k := by unfold bt; split <;> omega
theorem bt_le (s : ByteArray) (k : Nat) : bt s k ≤ 255 := by
  unfold bt; split
  · have := (s[k]).toNat_lt; omega
  · omega
/-- Is a byte of a pattern quoted? -/
def quotedB (m : ByteArray) (i : Nat) : Bool := decide (i < m.size) && (bt m i == 113)
/-- Does a sign stand at a place? -/
def isB (t m : ByteArray) (i : Nat) (c : Int) : Bool := decide (i < t.size) && (bt t i == c) && !quotedB m i
/-- A sign: 0 itself, 1 any one byte, 2 any bytes, 3 a set. -/
structure Sg where
  kind : Nat
  c : Int
  neg : Bool
  span : List (Int × Int)
def Sg.has (g : Sg) (x : Int) : Bool :=
  if g.kind = 0 then g.c == x else if g.kind = 3 then (g.span.any fun p => decide (p.1 ≤ x) && decide (x ≤ p.2)) != g.neg else true
def dash (t m : ByteArray) (k : Nat) : Bool := isB t m (k + 1) 45 && decide (k + 2 < t.size) && !isB t m (k + 2) 93
/-- The members of a set from a place on, and where it ends. -/
def setLoop (t m : ByteArray) (first k : Nat) (sp : List (Int × Int)) : Option (List (Int × Int) × Nat) :=
  if _h : k < t.size then
    if decide (first < k) && isB t m k 93 then some (sp, k + 1)
    else if dash t m k then setLoop t m first (k + 3) (sp ++ [(bt t k, bt t (k + 2))]) else setLoop t m first (k + 1) (sp ++ [(bt t k, bt t k)])
  else none
termination_by t.size - k
/-- Where the members of a set begin. -/
def setFirst (t m : ByteArray) (i : Nat) : Nat := if isB t m (i + 1) 33 then i + 2 else i + 1
/-- The set that begins at a place, and where it ends. -/
def setAt (t m : ByteArray) (i : Nat) : Option (Sg × Nat) :=
  (setLoop t m (setFirst t m i) (setFirst t m i) []).map fun r => (⟨3, 0, isB t m (i + 1) 33, r.1⟩, r.2)
theorem setLoop_gt (t m : ByteArray) (first : Nat) : ∀ (d k : Nat) (sp : List (Int × Int)) (r : List (Int × Int) × Nat), t.size - k ≤ d → setLoop t m first k sp = some r → k < r.2 ∧ r.2 ≤ t.size ∧ r.1.length + k ≤ sp.length + r.2 := by
  intro d
  induction d with
  | zero =>
    intro k sp r hd h
    rw [setLoop, dif_neg (by omega)] at h
    cases h
  | succ d ih =>
    intro k sp r hd h
    rw [setLoop] at h
    split at h
    · split at h
      · cases h; simp; omega
      · split at h
        · have := ih (k + 3) _ r (by omega) h; simp at this; omega
        · have := ih (k + 1) _ r (by omega) h; simp at this; omega
    · cases h
theorem setFirst_gt (t m : ByteArray) (i : Nat) : i < setFirst t m i := by unfold setFirst; split <;> omega
theorem setAt_gt {t m : ByteArray} {i : Nat} {r : Sg × Nat} (h : setAt t m i = some r) : i < r.2 ∧ r.2 ≤ t.size := by
  unfold setAt at h
  rw [Option.map_eq_some_iff] at h
  obtain ⟨q, hq, rfl⟩ := h
  have := setLoop_gt t m _ _ _ _ _ (Nat.le_refl _) hq
  have := setFirst_gt t m i
  exact ⟨by simp; omega, by simp; omega⟩
/-- The signs of a pattern from a place on. -/
def signsFrom (t m : ByteArray) (i : Nat) : List Sg :=
  if h : i < t.size then
    if isB t m i 42 then ⟨2, 0, false, []⟩ :: signsFrom t m (i + 1)
    else if isB t m i 63 then ⟨1, 0, false, []⟩ :: signsFrom t m (i + 1)
    else if isB t m i 91 then
      match hs : setAt t m i with
      | some r => r.1 :: signsFrom t m r.2
      | none => ⟨0, 91, false, []⟩ :: signsFrom t m (i + 1)
    else ⟨0, bt t i, false, []⟩ :: signsFrom t m (i + 1)
  else []
termination_by t.size - i
decreasing_by
  all_goals first
    | omega
    | (have := setAt_gt hs; omega)
theorem signs_end {t m : ByteArray} {i : Nat} (h : ¬ i < t.size) : signsFrom t m i = [] := by rw [signsFrom, dif_neg h]
theorem signs_star {t m : ByteArray} {i : Nat} (h : i < t.size) (h1 : isB t m i 42 = true) : signsFrom t m i = ⟨2, 0, false, []⟩ :: signsFrom t m (i + 1) := by rw [signsFrom, dif_pos h, if_pos h1]
theorem signs_one {t m : ByteArray} {i : Nat} (h : i < t.size) (h1 : isB t m i 42 = false) (h2 : isB t m i 63 = true) : signsFrom t m i = ⟨1, 0, false, []⟩ :: signsFrom t m (i + 1) := by
  rw [signsFrom, dif_pos h, if_neg (by simp [h1]), if_pos h2]
theorem signs_set {t m : ByteArray} {i : Nat} {r : Sg × Nat} (h : i < t.size) (h1 : isB t m i 42 = false) (h2 : isB t m i 63 = false) (h3 : isB t m i 91 = true) (hs : setAt t m i = some r) : signsFrom t m i = r.1 :: signsFrom t m r.2 := by
  rw [signsFrom, dif_pos h, if_neg (by simp [h1]), if_neg (by simp [h2]), if_pos h3]
  split
  · rename_i r' hr
    obtain rfl := Option.some.inj (hs.symm.trans hr)
    rfl
  · rename_i hr
    rw [hs] at hr; cases hr
theorem signs_noset {t m : ByteArray} {i : Nat} (h : i < t.size) (h1 : isB t m i 42 = false) (h2 : isB t m i 63 = false) (h3 : isB t m i 91 = true) (hs : setAt t m i = none) : signsFrom t m i = ⟨0, 91, false, []⟩ :: signsFrom t m (i + 1) := by
  rw [signsFrom, dif_pos h, if_neg (by simp [h1]), if_neg (by simp [h2]), if_pos h3]
  split
  · rename_i r' hr
    rw [hs] at hr; cases hr
  · rfl
theorem signs_self {t m : ByteArray} {i : Nat} (h : i < t.size) (h1 : isB t m i 42 = false) (h2 : isB t m i 63 = false) (h3 : isB t m i 91 = false) : signsFrom t m i = ⟨0, bt t i, false, []⟩ :: signsFrom t m (i + 1) := by
  rw [signsFrom, dif_pos h, if_neg (by simp [h1]), if_neg (by simp [h2]), if_neg (by simp [h3])]
theorem signs_length (t m : ByteArray) : ∀ (d i : Nat), t.size - i ≤ d → (signsFrom t m i).length ≤ t.size - i := by
  intro d
  induction d with
  | zero => intro i hd; rw [signs_end (by omega)]; simp
  | succ d ih =>
    intro i hd
    by_cases h : i < t.size
    · have h1 := ih (i + 1) (by omega)
      cases e1 : isB t m i 42
      · cases e2 : isB t m i 63
        · cases e3 : isB t m i 91
          · rw [signs_self h e1 e2 e3]; simp; omega
          · cases hs : setAt t m i with
            | none => rw [signs_noset h e1 e2 e3 hs]; simp; omega
            | some r =>
              have := setAt_gt hs
              have := ih r.2 (by omega)
              rw [signs_set h e1 e2 e3 hs]; simp; omega
        · rw [signs_one h e1 e2]; simp; omega
      · rw [signs_star h e1]; simp; omega
    · rw [signs_end h]; simp
/-- Does a text match signs, one behind the other? -/
def M : List Sg → List Int → Bool
  | [], s => s.isEmpty
  | g :: r, s => if g.kind = 2 then (List.range (s.length + 1)).any (fun n => M r (s.drop n)) else match s with | [] => false | c :: s' => g.has c && M r s'
/-- A text's bytes as numbers. -/
def bl (s : ByteArray) : List Int := s.data.toList.map fun b => (b.toNat : Int)
theorem bl_length (s : ByteArray) : (bl s).length = s.size := by simp [bl]
theorem bl_get (s : ByteArray) (k : Nat) (h : k < s.size) : (bl s)[k]'(by rw [bl_length]; exact h) = bt s k := by
  unfold bt; rw [dif_pos h]; simp [bl]; rfl
/-- Whether a text is one of a pattern's. -/
def matchF (t m : ByteArray) (s : List Int) : Bool := M (signsFrom t m 0) s
/-- Whether a pattern means itself alone. -/
def plainF (t m : ByteArray) : Bool := (signsFrom t m 0).all fun g => g.kind == 0
/-! ### A sign more at the end -/
theorem M_cons_any {g : Sg} (h : g.kind = 2) (r : List Sg) (s : List Int) : M (g :: r) s = true ↔ ∃ n, n ≤ s.length ∧ M r (s.drop n) = true := by
  simp only [M, if_pos h, List.any_eq_true, List.mem_range]
  exact ⟨fun ⟨n, hn, h⟩ => ⟨n, by omega, h⟩, fun ⟨n, hn, h⟩ => ⟨n, by omega, h⟩⟩
theorem M_cons_one {g : Sg} (h : g.kind ≠ 2) (r : List Sg) (s : List Int) : M (g :: r) s = true ↔ ∃ c s', s = c :: s' ∧ g.has c = true ∧ M r s' = true := by
  simp only [M, if_neg h]
  cases s with
  | nil => simp
  | cons c s' => simp only [Bool.and_eq_true]; exact ⟨fun ⟨a, b⟩ => ⟨c, s', rfl, a, b⟩, fun ⟨_, _, e, a, b⟩ => by cases e; exact ⟨a, b⟩⟩
theorem M_append (gs hs : List Sg) : ∀ s : List Int, M (gs ++ hs) s = true ↔ ∃ a b, s = a ++ b ∧ M gs a = true ∧ M hs b = true := by
  induction gs with
  | nil =>
    intro s
    simp only [List.nil_append, M]
    constructor
    · intro h; exact ⟨[], s, rfl, rfl, h⟩
    · rintro ⟨a, b, rfl, ha, hb⟩
      rw [List.isEmpty_iff] at ha; subst ha; exact hb
  | cons g r ih =>
    intro s
    rw [List.cons_append]
    by_cases h : g.kind = 2
    · rw [M_cons_any h]
      constructor
      · rintro ⟨n, hn, h1⟩
        obtain ⟨a, b, e, ha, hb⟩ := (ih _).1 h1
        refine ⟨s.take n ++ a, b, ?_, ?_, hb⟩
        · rw [List.append_assoc, ← e, List.take_append_drop]
        · rw [M_cons_any h]
          refine ⟨n, by simp; omega, ?_⟩
          rw [List.drop_append_of_le_length (by simp; omega), List.drop_of_length_le (by simp; omega)]
          exact ha
      · rintro ⟨a, b, rfl, ha, hb⟩
        obtain ⟨n, hn, h1⟩ := (M_cons_any h _ _).1 ha
        refine ⟨n, by simp; omega, (ih _).2 ⟨a.drop n, b, ?_, h1, hb⟩⟩
        rw [List.drop_append_of_le_length hn]
    · rw [M_cons_one h]
      constructor
      · rintro ⟨c, s', rfl, hc, h1⟩
        obtain ⟨a, b, rfl, ha, hb⟩ := (ih _).1 h1
        exact ⟨c :: a, b, rfl, (M_cons_one h _ _).2 ⟨c, a, rfl, hc, ha⟩, hb⟩
      · rintro ⟨a, b, rfl, ha, hb⟩
        obtain ⟨c, s', rfl, hc, h1⟩ := (M_cons_one h _ _).1 ha
        exact ⟨c, s' ++ b, rfl, hc, (ih _).2 ⟨s', b, rfl, h1, hb⟩⟩
theorem M_single_any {g : Sg} (h : g.kind = 2) (b : List Int) : M [g] b = true := by
  rw [M_cons_any h]; exact ⟨b.length, Nat.le_refl _, by simp [M]⟩
theorem M_single_one {g : Sg} (h : g.kind ≠ 2) (b : List Int) : M [g] b = true ↔ ∃ c, b = [c] ∧ g.has c = true := by
  rw [M_cons_one h]
  constructor
  · rintro ⟨c, s', rfl, hc, h1⟩
    simp [M] at h1; subst h1; exact ⟨c, rfl, hc⟩
  · rintro ⟨c, rfl, hc⟩; exact ⟨c, [], rfl, hc, rfl⟩
theorem snoc_any_zero {g : Sg} (h : g.kind = 2) (gs : List Sg) : M (gs ++ [g]) [] = M gs [] := by
  rw [Bool.eq_iff_iff, M_append]
  constructor
  · rintro ⟨a, b, e, ha, _⟩
    obtain ⟨rfl, rfl⟩ := List.append_eq_nil_iff.1 e.symm
    exact ha
  · intro ha; exact ⟨[], [], rfl, ha, M_single_any h []⟩
theorem snoc_any {g : Sg} (h : g.kind = 2) (gs : List Sg) (s : List Int) (i : Nat) (hi : i < s.length) :
    M (gs ++ [g]) (s.take (i + 1)) = (M gs (s.take (i + 1)) || M (gs ++ [g]) (s.take i)) := by
  have hs : s.take (i + 1) = s.take i ++ [s[i]] := List.take_succ_eq_append_getElem hi
  rw [Bool.eq_iff_iff, Bool.or_eq_true, M_append, M_append]
  constructor
  · rintro ⟨a, b, e, ha, _⟩
    rcases List.eq_nil_or_concat b with rfl | ⟨b', x, rfl⟩
    · left; rw [e, List.append_nil]; exact ha
    · right
      rw [hs] at e
      have e' : s.take i ++ [s[i]] = (a ++ b') ++ [x] := by rw [e]; simp
      have := List.append_inj_left' e' rfl
      exact ⟨a, b', this, ha, M_single_any h _⟩
  · rintro (h1 | ⟨a, b, e, ha, _⟩)
    · exact ⟨s.take (i + 1), [], by simp, h1, M_single_any h _⟩
    · exact ⟨a, b ++ [s[i]], by rw [hs, e]; simp, ha, M_single_any h _⟩
theorem snoc_one_zero {g : Sg} (h : g.kind ≠ 2) (gs : List Sg) : M (gs ++ [g]) [] = false := by
  rw [← Bool.not_eq_true, M_append]
  rintro ⟨a, b, e, _, hb⟩
  obtain ⟨rfl, rfl⟩ := List.append_eq_nil_iff.1 e.symm
  obtain ⟨c, e, _⟩ := (M_single_one h _).1 hb
  cases e
theorem snoc_one {g : Sg} (h : g.kind ≠ 2) (gs : List Sg) (s : List Int) (i : Nat) (hi : i < s.length) :
    M (gs ++ [g]) (s.take (i + 1)) = (M gs (s.take i) && g.has s[i]) := by
  have hs : s.take (i + 1) = s.take i ++ [s[i]] := List.take_succ_eq_append_getElem hi
  rw [Bool.eq_iff_iff, Bool.and_eq_true, M_append, hs]
  constructor
  · rintro ⟨a, b, e, ha, hb⟩
    obtain ⟨c, rfl, hc⟩ := (M_single_one h _).1 hb
    have h1 := List.append_inj_left' e rfl
    have h2 := List.append_inj_right' e rfl
    cases h2
    rw [h1]; exact ⟨ha, hc⟩
  · rintro ⟨ha, hc⟩
    exact ⟨s.take i, [s[i]], rfl, ha, (M_single_one h _).2 ⟨_, rfl, hc⟩⟩
end Go.Proofs.YtkmpbkhlcapbgaaGreatDoor.Gb
namespace Go.Proofs.YtkmpbkhlcapbgaaGreatDoor.Gb
open Go.RowKit
set_option maxHeartbeats 400000 in
theorem quoted_any (t m : ByteArray) (i : Nat) (w : World) :
    Calls Tryz.prog 219 #[.agg #[.string t, .string m], .int .i64 i] w fun e w' => e = .returned (.bool (quotedB m i)) ∧ Below w.heap.size w w' := by
  have hb := get_bt m
  by_cases h : i < m.size
  · go_enter Tryz.func219, Tryz.ntmps219
    go_wp2
    go_ret
    refine ⟨by simp [quotedB, h], ?_⟩
    go_grown
  · go_enter Tryz.func219, Tryz.ntmps219
    go_wp2
    go_ret
    refine ⟨by simp [quotedB, h], ?_⟩
    go_grown
set_option maxHeartbeats 1000000 in
theorem is_any (t m : ByteArray) (i : Nat) (c : Int) (w : World) :
    Calls Tryz.prog 211 #[.agg #[.string t, .string m], .int .i64 i, .int .u8 c] w fun e w' => e = .returned (.bool (isB t m i c)) ∧ Below w.heap.size w w' := by
  have hb := get_bt t
  by_cases h : i < t.size
  · by_cases hc : bt t i = c
    · have hc' : (bt t i == c) = true := by simpa using hc
      have HC := Lib.hid hc; clear hc
      go_enter Tryz.func211, Tryz.ntmps211
      go_wp2_with fail
      refine (quoted_any t m i _).mono ?_; rintro e w1 ⟨rfl, hb1⟩
      go_wp2_with fail
      go_ret
      refine ⟨by simp [isB, h, hc'], below_call hb1 ?_⟩
      go_grown
    · have hc' : (bt t i == c) = false := by simpa using hc
      have HC := Lib.hid hc; clear hc
      go_enter Tryz.func211, Tryz.ntmps211
      go_wp2_with fail
      go_ret
      refine ⟨by simp [isB, h, hc'], ?_⟩
      go_grown
  · go_enter Tryz.func211, Tryz.ntmps211
    go_wp2_with fail
    go_ret
    refine ⟨by simp [isB, h], ?_⟩
    go_grown
/-! ### The document's -/
end Go.Proofs.YtkmpbkhlcapbgaaGreatDoor.Gb
