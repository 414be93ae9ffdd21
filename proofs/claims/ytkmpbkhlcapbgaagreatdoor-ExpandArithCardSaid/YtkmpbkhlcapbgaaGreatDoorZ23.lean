/-
  DERIVED. The walk of expand's param.
-/
import Derived.Test.YtkmpbkhlcapbgaaGreatDoorZ20
import Derived.RegionDies
import Derived.Test.YtkmpbkhlcapbgaaGreatDoorZ22
import Derived.Deep.RegionWith
namespace Go.Proofs.YtkmpbkhlcapbgaaGreatDoor
open Go Go.RowKit
/-- What a value comes to, without what a pattern cuts off. -/
def TrimOut (P : Par) (op v : List UInt8) (q : Bool) (r : RowT) (out : ExT) : ExT → Prop
  | .ok e2 r2 => ∃ s, P.cut op (bareR r2) v = some s ∧ keepR e2 (putR r s (sortC q)) = some out
  | .fault n x => out = .fault n x
/-- What a parameter that has a name comes to, once it is known that nothing is wrong with it. -/
def NamedOut (P : Par) (f : Nat) (e : EnvT) (r : RowT) (t op : List UInt8) (q : Bool) (wd : List PartT) (out : ExT) : Prop :=
  (doesP op ((e.get t).getD []) (e.get t).isSome = 1 ∧ (trimsF op).1 = false ∧ keepR e (putR r ((e.get t).getD []) (sortC q)) = some out) ∨
  (doesP op ((e.get t).getD []) (e.get t).isSome = 2 ∧ ∃ o, partsE P f e ([], []) wd = some o ∧ WordOut q r out o) ∨
  (doesP op ((e.get t).getD []) (e.get t).isSome = 3 ∧ ∃ o, partsE P f e ([], []) wd = some o ∧ SetOut t q r out o) ∨
  (doesP op ((e.get t).getD []) (e.get t).isSome = 4 ∧ out = .fault 23 t) ∨
  (doesP op ((e.get t).getD []) (e.get t).isSome ≠ 1 ∧ doesP op ((e.get t).getD []) (e.get t).isSome ≠ 2 ∧ doesP op ((e.get t).getD []) (e.get t).isSome ≠ 3 ∧ doesP op ((e.get t).getD []) (e.get t).isSome ≠ 4 ∧ keepR e (putR r [] (sortC q)) = some out) ∨
  (doesP op ((e.get t).getD []) (e.get t).isSome = 1 ∧ (trimsF op).1 = true ∧ ∃ o, partsE P f e ([], []) wd = some o ∧ TrimOut P op ((e.get t).getD []) q r out o)
/-- What a parameter's length comes to, or else the parameter itself. -/
def NameOut (P : Par) (f : Nat) (e : EnvT) (r : RowT) (t op : List UInt8) (q : Bool) (wd : List PartT) (out : ExT) : Prop :=
  (op = [108, 101, 110] ∧ ∃ s, P.len ((e.get t).getD []) = some s ∧ keepR e (putR r s (sortC q)) = some out) ∨ (op ≠ [108, 101, 110] ∧ NamedOut P f e r t op q wd out)
/-- A name that is not set is refused. -/
def noName (e : EnvT) (t op : List UInt8) : Bool := !(e.get t).isSome && e.has 117 && !(decide (op ∈ aloneL))
theorem param_cases (P : Par) (f : Nat) (e : EnvT) (r : RowT) (t op : List UInt8) (q : Bool) (wd : List PartT) (out : ExT) (h : partE P (f + 1) e r (.mk 3 t op q wd) = some out) :
    (op = [] ∧ (t = [64] ∨ (t = [42] ∧ q = false)) ∧ keepR e (argsR r q e.args true) = some out) ∨
    (isName t = true ∧ ((noName e t op = true ∧ out = .fault 23 t) ∨ (noName e t op = false ∧ NameOut P f e r t op q wd out))) := by
  rw [partE, if_neg (by decide), if_neg (by decide), if_neg (by decide), if_neg (by decide), if_pos rfl] at h
  by_cases h1 : op = [] ∧ (t = [64] ∨ (t = [42] ∧ q = false))
  · rw [if_pos h1] at h
    exact .inl ⟨h1.1, h1.2, h⟩
  · rw [if_neg h1] at h
    right
    cases hn : isName t with
    | false => rw [if_pos hn] at h; cases h
    | true =>
      rw [if_neg (by rw [hn]; decide)] at h
      refine ⟨rfl, ?_⟩
      by_cases h2 : (e.get t).isSome = false ∧ e.has 117 = true ∧ op ∉ aloneL
      · rw [if_pos h2] at h
        left
        refine ⟨?_, (Option.some.inj h).symm⟩
        unfold noName
        rw [h2.1, h2.2.1, decide_eq_false h2.2.2]; rfl
      · rw [if_neg h2] at h
        right
        have hno : noName e t op = false := by
          unfold noName
          cases h3 : (e.get t).isSome
          · cases h4 : e.has 117
            · rfl
            · cases h5 : decide (op ∈ aloneL)
              · exact absurd ⟨h3, h4, of_decide_eq_false h5⟩ h2
              · rfl
          · rfl
        refine ⟨hno, ?_⟩
        by_cases h3 : op = [108, 101, 110]
        · rw [if_pos h3] at h
          refine .inl ⟨h3, ?_⟩
          cases hl : P.len ((e.get t).getD []) with
          | none => rw [hl] at h; cases h
          | some s => rw [hl] at h; exact ⟨s, rfl, h⟩
        · rw [if_neg h3] at h
          refine .inr ⟨h3, ?_⟩
          by_cases d1 : doesP op ((e.get t).getD []) (e.get t).isSome = 1
          · rw [if_pos d1] at h
            cases ht : (trimsF op).1 with
            | false =>
              rw [if_neg (by rw [ht]; decide)] at h
              exact .inl ⟨d1, ht, h⟩
            | true =>
              rw [if_pos ht] at h
              refine .inr (.inr (.inr (.inr (.inr ⟨d1, ht, ?_⟩))))
              cases ho : partsE P f e ([], []) wd with
              | none => rw [ho] at h; cases h
              | some o =>
                rw [ho] at h
                refine ⟨o, rfl, ?_⟩
                cases o with
                | ok e2 r2 =>
                  cases hc : P.cut op (bareR r2) ((e.get t).getD []) with
                  | none => simp only [hc] at h; cases h
                  | some s => simp only [hc] at h; exact ⟨s, hc, h⟩
                | fault n x => exact (Option.some.inj h).symm
          · rw [if_neg d1] at h
            right
            by_cases d2 : doesP op ((e.get t).getD []) (e.get t).isSome = 2
            · rw [if_pos d2] at h
              refine .inl ⟨d2, ?_⟩
              cases ho : partsE P f e ([], []) wd with
              | none => rw [ho] at h; cases h
              | some o =>
                rw [ho] at h
                refine ⟨o, rfl, ?_⟩
                cases o with
                | ok e2 r2 => exact h
                | fault n x => exact (Option.some.inj h).symm
            · rw [if_neg d2] at h
              right
              by_cases d3 : doesP op ((e.get t).getD []) (e.get t).isSome = 3
              · rw [if_pos d3] at h
                refine .inl ⟨d3, ?_⟩
                cases ho : partsE P f e ([], []) wd with
                | none => rw [ho] at h; cases h
                | some o =>
                  rw [ho] at h
                  refine ⟨o, rfl, ?_⟩
                  cases o with
                  | ok e2 r2 => exact h
                  | fault n x => exact (Option.some.inj h).symm
              · rw [if_neg d3] at h
                right
                by_cases d4 : doesP op ((e.get t).getD []) (e.get t).isSome = 4
                · rw [if_pos d4] at h
                  exact .inl ⟨d4, (Option.some.inj h).symm⟩
                · rw [if_neg d4] at h
                  exact .inr (.inl ⟨d1, d2, d3, d4, h⟩)
set_option maxRecDepth 100000 in
set_option maxHeartbeats 8000000 in
theorem xparam_args (g : Nat) (A : Nat → Prop) (e : EnvT) (r : RowT) (t : ByteArray) (q : Bool) (a : Option Addr) (m c : Nat) (w : World) (out : ExT) (ht : t = ⟨#[64]⟩ ∨ (t = ⟨#[42]⟩ ∧ q = false))
    (ho : keepR e (argsR r q e.args true) = some out) (hW : WorkAt g A w e r) :
    Calls Tryz.prog 66 #[.pointer (some ⟨g, 0, none⟩), .agg #[.int .i64 3, .string t, .string ⟨#[]⟩, .bool q, .slice a m c]] w (OutPost g A w out) := by
  have hAl := (Below.refl w.heap.size w).alloc (Nat.le_refl _) (partO 3 t ⟨#[]⟩ q a m c)
  have HA : Hid (Calls Tryz.prog 85 #[.pointer (some ⟨g, 0, none⟩), .agg #[.int .i64 3, .string t, .string ⟨#[]⟩, .bool q, .slice a m c]] (w.alloc (partO 3 t ⟨#[]⟩ q a m c)) (OutPost g A w out)) :=
    (args_at g A e r 3 t ⟨#[]⟩ q a m c (w.alloc (partO 3 t ⟨#[]⟩ q a m c)) out (hW.below hAl) ho).mono fun x w' h => h.from (Kept.of hAl)
  obtain ⟨rfl, -, -⟩ := keepR_is ho
  clear hW ho hAl
  rcases ht with rfl | ⟨rfl, rfl⟩
  · go_enter Tryz.func66, Tryz.ntmps66
    go_wp2_with fail
    refine HA.out.mono ?_; rintro y w1 ⟨rfl, h1, h2⟩
    have H1 := Lib.hid h1
    have H2 := Lib.hid h2
    clear h1 h2
    go_wp2_with fail
    go_end0
    exact ⟨rfl, H1.out, H2.out⟩
  · go_enter Tryz.func66, Tryz.ntmps66
    go_wp2_with fail
    refine HA.out.mono ?_; rintro y w1 ⟨rfl, h1, h2⟩
    have H1 := Lib.hid h1
    have H2 := Lib.hid h2
    clear h1 h2
    go_wp2_with fail
    go_end0
    exact ⟨rfl, H1.out, H2.out⟩
set_option maxRecDepth 100000 in
set_option maxHeartbeats 8000000 in
theorem xparam_named (P : Par) (hPK : ParOK P) (f : Nat) (hPs : ExPs P f) (g : Nat) (A : Nat → Prop) (e : EnvT) (r : RowT) (t op : ByteArray) (q : Bool) (a : Option Addr) (m c : Nat) (wd : List PartT) (w : World) (out : ExT) (hn : isName t.data.toList = true) (hts : t.size ≤ 1000000) (hSm : smallL wd)
    (ho : (noName e t.data.toList op.data.toList = true ∧ out = .fault 23 t.data.toList) ∨ (noName e t.data.toList op.data.toList = false ∧ NameOut P f e r t.data.toList op.data.toList q wd out)) (hW : WorkAt g A w e r) (hwd : WordIn w (· ≠ g) (.slice a m c) wd) :
    Calls Tryz.prog 66 #[.pointer (some ⟨g, 0, none⟩), .agg #[.int .i64 3, .string t, .string op, .bool q, .slice a m c]] w (OutPost g A w out) := by
  have hlg := hW.lt
  have hAl := (Below.refl w.heap.size w).alloc (Nat.le_refl _) (partO 3 t op q a m c)
  have hW2 := hW.below hAl
  have hne : w.heap.size ≠ g := by omega
  have HWD := Lib.hid (hwd.keep (w' := w.alloc (partO 3 t op q a m c)) (S' := (· ≠ g)) hAl.size fun b q1 q2 => ⟨hAl.block b q2, q1⟩)
  have HBX := Lib.hid (RowIs.new w 92 [.int .i64 3, .string t, .string op, .bool q, .slice a m c])
  have HK := Lib.hid (Kept.of (g := g) hAl)
  have hk : ∀ x : UInt8, isName [x] = false → (t.toList == [x]) = false := fun x hx => by
    rw [Lib.toList_data]
    simp only [beq_eq_false_iff_ne]
    intro h; rw [h, hx] at hn; cases hn
  have h64 := hk 64 (by kernel_rfl)
  have h42 := hk 42 (by kernel_rfl)
  have HW := Lib.hid hW2
  obtain ⟨vv, aa, na, ca, hC⟩ := hW2
  obtain ⟨va, nv, cv, rfl⟩ := hC.shape
  have HC := Lib.hid hC
  have HO := Lib.hid ho
  have HN := Lib.hid hn
  have HSM := Lib.hid hSm
  clear hW hwd hAl hC ho hn hSm hk
  go_enter Tryz.func66, Tryz.ntmps66
  go_upto_region 2 with fail
  obtain ⟨W1, hW1⟩ : ∃ W1, (w.alloc (.cells #[.int .i64 3, .string t, .string op, .bool q, .slice a m c] 92)) = W1 := ⟨_, rfl⟩
  have HWD1 : Hid (WordIn W1 (· ≠ g) (.slice a m c) wd) := by rw [← hW1]; exact HWD
  have HBX1 : Hid (RowIs W1 w.heap.size 92 [.int .i64 3, .string t, .string op, .bool q, .slice a m c]) := by rw [← hW1]; exact HBX
  have HK1 : Hid (Kept g w W1) := by rw [← hW1]; exact HK
  have HC1 : Hid (WorkC g A W1 e r (.slice va nv cv) aa na ca) := by rw [← hW1]; exact HC
  rw [hW1]
  clear hW1 HWD HBX HK HC HW
  obtain ⟨b0, b1, b2, b3, b4, f0, f1, f2, f3, f4, ltb⟩ := five_facts HBX1.out
  go_cut [32] (fun s32 wx => s32 = .bool false ∧ wx = W1)
  case first =>
    cases hop : op.toList.isEmpty
    · go_wp2_with fail
      go_meet
      exact ⟨rfl, rfl⟩
    · go_wp2_with fail
      go_meet
      exact ⟨rfl, rfl⟩
  case rest =>
    obtain ⟨rfl, hwc⟩ := hcut
    rw [hwc]
    clear hwc
    obtain ⟨V, hV⟩ : ∃ V, (e.get t.data.toList).getD [] = V := ⟨_, rfl⟩
    obtain ⟨B, hB⟩ : ∃ B, (e.get t.data.toList).isSome = B := ⟨_, rfl⟩
    have HG : Hid (Calls Tryz.prog 15 #[.agg #[.slice va nv cv, .slice aa na ca, .int .i64 e.status, .string ⟨e.flags.toArray⟩], .string t] W1.drew fun x w' => x = .returned (.tuple #[.string ⟨V.toArray⟩, .bool B]) ∧ Below W1.drew.heap.size W1.drew w') := by
      have := get_at t (by omega) HN.out e (fun b => b ≠ g ∧ ¬ A b) (.slice va nv cv) (.slice aa na ca) (.int .i64 e.status) (.string ⟨e.flags.toArray⟩) W1.drew (HC1.out.env.keep (w' := W1.drew) (show W1.heap.size ≤ W1.drew.heap.size from Nat.le_refl _) fun b q1 q2 => ⟨rfl, q1⟩)
      rw [hV, hB] at this
      exact this
    have HNo : Hid (noName e t.data.toList op.data.toList = (!B && e.has 117 && !(decide (op.data.toList ∈ aloneL)))) := by rw [← hB]; exact rfl
    have HHas : Hid (∀ W, Calls Tryz.prog 38 #[.agg #[.slice va nv cv, .slice aa na ca, .int .i64 e.status, .string ⟨e.flags.toArray⟩], .int .u8 117] W fun x w' => x = .returned (.bool (e.has 117)) ∧ Below W.heap.size W w') := fun W => hasE_at (.slice va nv cv) (.slice aa na ca) (.int .i64 e.status) e 117 W
    unfold NameOut NamedOut at HO
    rw [hV, hB] at HO
    obtain ⟨d0, d1, d2, d3, d4, d5, g0, g1, g2, g3, g4, g5, lth⟩ := six_facts HC1.out.row
    clear hV hB
    go_upto_region 4 with fail
    go_cut [5, 6] (fun s5 s6 wx => s5 = .string ⟨V.toArray⟩ ∧ s6 = .bool B ∧ Below W1.heap.size W1 wx)
    case first =>
      go_region_with (go_at_call 15; refine HG.out.mono ?_; rintro y wn ⟨rfl, hbn⟩)
      all_goals
        go_wp2_with fail
        go_meet
        exact ⟨rfl, rfl, ((Below.refl W1.heap.size W1).drew).trans hbn⟩
    case rest =>
      obtain ⟨rfl, rfl, hbc⟩ := hcut
      have HBC := Lib.hid hbc
      have hcr := HC1.out.row.below hbc
      have hxr := HBX1.out.below hbc
      clear d0 d1 d2 d3 d4 d5 g0 g1 g2 g3 g4 g5 lth b0 b1 b2 b3 b4 f0 f1 f2 f3 f4 ltb HG hbc
      obtain ⟨d0, d1, d2, d3, d4, d5, g0, g1, g2, g3, g4, g5, lth⟩ := six_facts hcr
      obtain ⟨b0, b1, b2, b3, b4, f0, f1, f2, f3, f4, ltb⟩ := five_facts hxr
      clear hcr hxr
      rename_i wc2
      go_upto_region 5 with fail
      go_cut [64] (fun s64 wx => s64 = .bool (noName e t.data.toList op.data.toList) ∧ Below W1.heap.size W1 wx)
      case first =>
        obtain ⟨al, hal⟩ : ∃ al, decide (op.data.toList ∈ aloneL) = al := ⟨_, rfl⟩
        have HAL : Hid (∀ W, Calls Tryz.prog 86 #[.string op] W fun x w' => x = .returned (.bool al) ∧ W = w') := fun W => by rw [← hal]; exact alone_at op W
        rw [hal] at HNo
        clear hal
        cases B
        · cases hu : e.has 117
          · rw [hu] at HHas HNo
            go_wp2_with fail
            refine (HHas.out _).mono ?_; rintro y wq ⟨rfl, hbq⟩
            have hb2 := HBC.out.trans (hbq.mono HBC.out.size)
            go_wp2_with fail
            go_meet
            exact ⟨by simp [HNo.out], hb2⟩
          · rw [hu] at HHas HNo
            go_wp2_with fail
            refine (HHas.out _).mono ?_; rintro y wq ⟨rfl, hbq⟩
            have hb2 := Lib.hid (HBC.out.trans (hbq.mono HBC.out.size))
            obtain ⟨x0, x1, x2, x3, x4, y0, y1, y2, y3, y4, lty⟩ := five_facts (HBX1.out.below hb2.out)
            clear hbq
            go_wp2_with fail
            refine (HAL.out _).mono ?_; rintro y wz ⟨rfl, rfl⟩
            go_wp2_with fail
            go_meet
            exact ⟨by simp [HNo.out], hb2.out⟩
        · go_wp2_with fail
          go_meet
          exact ⟨by simp [HNo.out], HBC.out⟩
      case rest =>
        obtain ⟨rfl, hbd⟩ := hcut
        clear d0 d1 d2 d3 d4 d5 g0 g1 g2 g3 g4 g5 lth b0 b1 b2 b3 b4 f0 f1 f2 f3 f4 ltb HHas HNo
        have hWk : WorkAt g A wc e r := ⟨_, aa, na, ca, HC1.out.below hbd⟩
        obtain ⟨mx, hmx⟩ := (HC1.out.below hbd).tab.max
        have hbx := HBX1.out.below hbd
        have hwd2 : WordIn wc (· ≠ g) (.slice a m c) wd := HWD1.out.keep hbd.size fun b q1 q2 => ⟨hbd.block b q2, q1⟩
        have hkw : Kept g w wc := HK1.out.trans (Kept.of hbd)
        obtain ⟨b0, b1, b2, b3, b4, f0, f1, f2, f3, f4, ltb⟩ := five_facts hbx
        have HD : Hid (Calls Tryz.prog 90 #[.string op, .string ⟨V.toArray⟩, .bool B] wc fun x w' => x = .returned (.int .i64 (doesP op.data.toList V B)) ∧ Below wc.heap.size wc w') := pdoes_any op ⟨V.toArray⟩ B wc mx hmx
        obtain ⟨D, hD⟩ : ∃ D, doesP op.data.toList V B = D := ⟨_, rfl⟩
        rw [hD] at HD HO
        have HBXX := Lib.hid hbx
        have HWK := Lib.hid hWk
        have HKW := Lib.hid hkw
        have HWD2 := Lib.hid hwd2
        clear hD hmx hbx hWk hkw hwd2 hbd HBC HC1 HBX1 HWD1 HK1
        have HOO := HO.out
        clear HO
        rcases HOO with ⟨hno, rfl⟩ | ⟨hno, ⟨hlen, sl, hsl, ho⟩ | ⟨hlen, hrest⟩⟩
        · rw [hno]
          go_wp2_with fail
          refine (xfail_at 23 t _).mono ?_; rintro y wz ⟨rfl, rfl⟩
          go_wp2_with fail
          exact ⟨rfl, rfl, HKW.out⟩
        · rw [hno]
          have hlen2 : (op.toList == [108, 101, 110]) = true := by rw [Lib.toList_data]; simpa using hlen
          obtain ⟨rfl, hb, -⟩ := keepR_is ho
          have HP : Hid (∀ W, WorkAt g A W e r → Calls Tryz.prog 84 #[.pointer (some ⟨g, 0, none⟩), .string ⟨sl.toArray⟩, .int .u8 ((sortC q).toNat : Int)] W (WkPost g A e (putR r sl (sortC q)) W)) := fun W h => wput_at g A e r ⟨sl.toArray⟩ (sortC q) W h hb
          have hbd := (Below.refl wc.heap.size wc).drew
          have HBe := Lib.hid hbd
          have HL : Hid (Calls Tryz.prog 88 #[.string ⟨V.toArray⟩] wc.drew fun x w' => x = .returned (.string ⟨sl.toArray⟩) ∧ Below wc.drew.heap.size wc.drew w') := hPK.len V sl hsl wc.drew ((HWK.out.below hbd).full)
          have HV : Hid (∀ W, Below wc.heap.size wc W → RowIs W w.heap.size 92 [.int .i64 3, .string t, .string op, .bool q, .slice a m c] ∧ WorkAt g A W e r ∧ Kept g w W) := fun W hb => ⟨HBXX.out.below hb, HWK.out.below hb, HKW.out.trans (Kept.of hb)⟩
          obtain ⟨u0, u1, u2, u3, u4, v0, v1, v2, v3, v4, ltu⟩ := five_facts (row_drew HBXX.out)
          clear hno hlen hsl ho HBXX HWK HKW HWD2 HD hbd
          go_wp2_with fail
          go_region_with (first
            | (go_at_call 88; refine HL.out.mono ?_; rintro y wv ⟨rfl, hbv⟩; have HVV := Lib.hid (HV.out wv (HBe.out.trans (hbv.mono HBe.out.size))); obtain ⟨x0, x1, x2, x3, x4, y0, y1, y2, y3, y4, lty⟩ := five_facts HVV.out.1; clear hbv)
            | (go_at_call 89; refine (sort_at q _).mono ?_; rintro y wx ⟨rfl, rfl⟩)
            | (go_at_call 84; refine (HP.out _ HVV.out.2.1).mono ?_; rintro y wy ⟨rfl, hx, hk⟩; have HF := Lib.hid (And.intro hx (HVV.out.2.2.trans hk)); clear hx hk))
          all_goals
            go_wp2_with fail
            go_end0
            exact ⟨rfl, HF.out.1, HF.out.2⟩
        · rw [hno]
          have hlen2 : (op.toList == [108, 101, 110]) = false := by rw [Lib.toList_data]; simpa using hlen
          clear hno hlen
          have HV : Hid (∀ W, Below wc.heap.size wc W → RowIs W w.heap.size 92 [.int .i64 3, .string t, .string op, .bool q, .slice a m c] ∧ WorkAt g A W e r ∧ Kept g w W ∧ WordIn W (· ≠ g) (.slice a m c) wd) := fun W hb => ⟨HBXX.out.below hb, HWK.out.below hb, HKW.out.trans (Kept.of hb), HWD2.out.keep hb.size fun b q1 q2 => ⟨hb.block b q2, q1⟩⟩
          clear HBXX HWK HKW HWD2
          rcases hrest with ⟨rfl, htr, ho⟩ | ⟨rfl, o1, ho, hso⟩ | ⟨rfl, o1, ho, hso⟩ | ⟨rfl, rfl⟩ | ⟨n1, n2, n3, n4, ho⟩ | ⟨rfl, htr, o1, ho, hso⟩
          · obtain ⟨rfl, hb, -⟩ := keepR_is ho
            have HTR : Hid (∀ W, Calls Tryz.prog 91 #[.string op] W fun x w' => x = .returned (.bool false) ∧ Below W.heap.size W w') := fun W => by rw [← htr]; exact ptrimsB_any op W
            have HP : Hid (∀ W, WorkAt g A W e r → Calls Tryz.prog 84 #[.pointer (some ⟨g, 0, none⟩), .string ⟨V.toArray⟩, .int .u8 ((sortC q).toNat : Int)] W (WkPost g A e (putR r V (sortC q)) W)) := fun W h => wput_at g A e r ⟨V.toArray⟩ (sortC q) W h hb
            clear htr ho
            go_wp2_with fail
            refine HD.out.mono ?_; rintro y wv ⟨rfl, hbv⟩
            obtain ⟨x0, x1, x2, x3, x4, y0, y1, y2, y3, y4, lty⟩ := five_facts (HV.out wv hbv).1
            go_wp2_with fail
            refine (HTR.out _).mono ?_; rintro y wz ⟨rfl, hbz⟩
            have hbz2 := Lib.hid (hbv.trans (hbz.mono hbv.size))
            clear x0 x1 x2 x3 x4 y0 y1 y2 y3 y4 lty hbz hbv
            obtain ⟨x0, x1, x2, x3, x4, y0, y1, y2, y3, y4, lty⟩ := five_facts (HV.out wz hbz2.out).1
            go_wp2_with fail
            refine (sort_at q _).mono ?_; rintro y wx ⟨rfl, rfl⟩
            go_wp2_with fail
            refine (HP.out _ (HV.out _ hbz2.out).2.1).mono ?_; rintro y wy ⟨rfl, hx, hk⟩
            have HF := Lib.hid (And.intro hx ((HV.out _ hbz2.out).2.2.1.trans hk))
            clear hx hk
            go_wp2_with fail
            go_end0
            exact ⟨rfl, HF.out.1, HF.out.2⟩
          · go_wp2_with fail
            refine HD.out.mono ?_; rintro y wv ⟨rfl, hbv⟩
            obtain ⟨x0, x1, x2, x3, x4, y0, y1, y2, y3, y4, lty⟩ := five_facts (HV.out wv hbv).1
            have HX : Hid (Calls Tryz.prog 95 #[.pointer (some ⟨g, 0, none⟩), .agg #[.int .i64 3, .string t, .string op, .bool q, .slice a m c]] wv (OutPost g A w out)) :=
              (xword_ok P f hPs g A e r 3 t op q a m c wd wv o1 out ho HSM.out hso (HV.out wv hbv).2.1 (HV.out wv hbv).2.2.2).mono fun x w' h => h.from (HV.out wv hbv).2.2.1
            clear hbv
            go_wp2_with fail
            refine HX.out.mono ?_
            cases out with
            | ok e3 r3 =>
              rintro y wy ⟨rfl, hx, hk⟩
              have HF := Lib.hid (And.intro hx hk)
              clear hx hk
              go_wp2_with fail
              go_end0
              exact ⟨rfl, HF.out.1, HF.out.2⟩
            | fault n x =>
              rintro y wy ⟨rfl, hk⟩
              go_wp2_with fail
              exact ⟨rfl, rfl, hk⟩
          · go_wp2_with fail
            refine HD.out.mono ?_; rintro y wv ⟨rfl, hbv⟩
            obtain ⟨x0, x1, x2, x3, x4, y0, y1, y2, y3, y4, lty⟩ := five_facts (HV.out wv hbv).1
            have HX : Hid (Calls Tryz.prog 96 #[.pointer (some ⟨g, 0, none⟩), .agg #[.int .i64 3, .string t, .string op, .bool q, .slice a m c]] wv (OutPost g A w out)) :=
              (xassign_ok P f hPs g A e r 3 t op q a m c wd wv o1 out ho HSM.out hso hts HN.out (HV.out wv hbv).2.1 (HV.out wv hbv).2.2.2).mono fun x w' h => h.from (HV.out wv hbv).2.2.1
            clear hbv
            go_wp2_with fail
            refine HX.out.mono ?_
            cases out with
            | ok e3 r3 =>
              rintro y wy ⟨rfl, hx, hk⟩
              have HF := Lib.hid (And.intro hx hk)
              clear hx hk
              go_wp2_with fail
              go_end0
              exact ⟨rfl, HF.out.1, HF.out.2⟩
            | fault n x =>
              rintro y wy ⟨rfl, hk⟩
              go_wp2_with fail
              exact ⟨rfl, rfl, hk⟩
          · go_wp2_with fail
            refine HD.out.mono ?_; rintro y wv ⟨rfl, hbv⟩
            obtain ⟨x0, x1, x2, x3, x4, y0, y1, y2, y3, y4, lty⟩ := five_facts (HV.out wv hbv).1
            have HKv := Lib.hid (HV.out wv hbv).2.2.1
            clear hbv
            go_wp2_with fail
            refine (xfail_at 23 t _).mono ?_; rintro y wz ⟨rfl, rfl⟩
            go_wp2_with fail
            exact ⟨rfl, rfl, HKv.out⟩
          · obtain ⟨rfl, hb, -⟩ := keepR_is ho
            have e1 : (D == 1) = false := by simpa using n1
            have e2 : (D == 2) = false := by simpa using n2
            have e3 : (D == 3) = false := by simpa using n3
            have e4 : (D == 4) = false := by simpa using n4
            have HP : Hid (∀ W, WorkAt g A W e r → Calls Tryz.prog 84 #[.pointer (some ⟨g, 0, none⟩), .string ⟨#[]⟩, .int .u8 ((sortC q).toNat : Int)] W (WkPost g A e (putR r [] (sortC q)) W)) := fun W h => wput_at g A e r ⟨#[]⟩ (sortC q) W h hb
            clear n1 n2 n3 n4 ho
            go_wp2_with fail
            refine HD.out.mono ?_; rintro y wv ⟨rfl, hbv⟩
            have HVV := Lib.hid (HV.out wv hbv)
            obtain ⟨x0, x1, x2, x3, x4, y0, y1, y2, y3, y4, lty⟩ := five_facts HVV.out.1
            clear hbv
            go_wp2_with fail
            refine (sort_at q _).mono ?_; rintro y wx ⟨rfl, rfl⟩
            go_wp2_with fail
            refine (HP.out _ HVV.out.2.1).mono ?_; rintro y wy ⟨rfl, hx, hk⟩
            have HF := Lib.hid (And.intro hx (HVV.out.2.2.1.trans hk))
            clear hx hk
            go_wp2_with fail
            go_end0
            exact ⟨rfl, HF.out.1, HF.out.2⟩
          · have HTR : Hid (∀ W, Calls Tryz.prog 91 #[.string op] W fun x w' => x = .returned (.bool true) ∧ Below W.heap.size W w') := fun W => by rw [← htr]; exact ptrimsB_any op W
            go_wp2_with fail
            refine HD.out.mono ?_; rintro y wv ⟨rfl, hbv⟩
            obtain ⟨x0, x1, x2, x3, x4, y0, y1, y2, y3, y4, lty⟩ := five_facts (HV.out wv hbv).1
            go_wp2_with fail
            refine (HTR.out _).mono ?_; rintro y wz ⟨rfl, hbz⟩
            have hbz2 := Lib.hid (hbv.trans (hbz.mono hbv.size))
            clear x0 x1 x2 x3 x4 y0 y1 y2 y3 y4 lty hbz hbv htr
            have HVV := Lib.hid (HV.out wz hbz2.out)
            obtain ⟨x0, x1, x2, x3, x4, y0, y1, y2, y3, y4, lty⟩ := five_facts HVV.out.1
            have HOF : Hid (∀ W, Below wz.heap.size wz W → Calls Tryz.prog 94 #[.pointer (some ⟨g, 0, none⟩), .slice a m c] W (OfPost g A r W o1)) := fun W hb => xof_ok P f hPs g A e r wd a m c W o1 ho HSM.out (HV.out W (hbz2.out.trans (hb.mono hbz2.out.size))).2.1 (HV.out W (hbz2.out.trans (hb.mono hbz2.out.size))).2.2.2
            have hbd := (Below.refl wz.heap.size wz).drew
            have hxd := row_drew HVV.out.1
            have hkd : Kept g w wz.drew := HVV.out.2.2.1.trans (Kept.of hbd)
            have hne2 : w.heap.size ≠ g := by omega
            have HXD := Lib.hid hxd
            have HKD := Lib.hid hkd
            have HNE := Lib.hid hne2
            obtain ⟨u0, u1, u2, u3, u4, v0, v1, v2, v3, v4, ltu⟩ := five_facts hxd
            clear ho hxd hkd hne2
            cases o1 with
            | fault n x =>
              obtain rfl : out = .fault n x := hso
              go_wp2_with fail
              go_region_dies
              all_goals
                refine (HOF.out _ hbd).mono ?_
                rintro y wn ⟨rfl, hk⟩
                exact ⟨rfl, rfl, HKD.out.trans hk⟩
            | ok e2 r2 =>
              obtain ⟨s, hcut, ho2⟩ := hso
              obtain ⟨rfl, hb, -⟩ := keepR_is ho2
              have HPT : Hid (∀ W, r2.1.length = r2.2.length → r2.1.length ≤ 1000000 → Calls Tryz.prog 93 #[.agg #[.string ⟨r2.1.toArray⟩, .string ⟨r2.2.toArray⟩]] W fun e w' => e = .returned (.agg #[.string ⟨(bareR r2).1.toArray⟩, .string ⟨(bareR r2).2.toArray⟩]) ∧ Below W.heap.size W w') := fun W h1 h2 =>
                pattern_at ⟨r2.1.toArray⟩ ⟨r2.2.toArray⟩ (by show r2.1.toArray.size = r2.2.toArray.size; simpa using h1) (by show r2.1.toArray.size ≤ _; simp; omega) W
              have HTM : Hid (∀ W, More W → Calls Tryz.prog 92 #[.string op, .string ⟨V.toArray⟩, .agg #[.string ⟨(bareR r2).1.toArray⟩, .string ⟨(bareR r2).2.toArray⟩]] W fun x w' => x = .returned (.string ⟨s.toArray⟩) ∧ Below W.heap.size W w') := fun W _ => hPK.cut op (bareR r2) V s hcut W
              have HP : Hid (∀ W, WorkAt g A W e2 r → Calls Tryz.prog 84 #[.pointer (some ⟨g, 0, none⟩), .string ⟨s.toArray⟩, .int .u8 ((sortC q).toNat : Int)] W (WkPost g A e2 (putR r s (sortC q)) W)) := fun W h => wput_at g A e2 r ⟨s.toArray⟩ (sortC q) W h hb
              clear hcut ho2 hb
              go_wp2_with fail
              go_region_with (first
                | (go_at_call 94; refine (HOF.out _ hbd).mono ?_; rintro y wn ⟨rfl, hwn, hkn, hln1, hln2⟩; have HNa := Lib.hid (And.intro (hkn.row HXD.out HNE.out) (And.intro hwn (And.intro (HKD.out.trans hkn) (And.intro hln1 hln2)))); obtain ⟨j0, j1, j2, j3, j4, k0, k1, k2, k3, k4, ltj⟩ := five_facts HNa.out.1; clear hwn hkn hln1 hln2)
                | (go_at_call 93; refine (HPT.out _ HNa.out.2.2.2.1 HNa.out.2.2.2.2).mono ?_; rintro y wp ⟨rfl, hbp⟩; have HNb := Lib.hid (And.intro (HNa.out.1.below hbp) (And.intro (HNa.out.2.1.below hbp) (HNa.out.2.2.1.trans (Kept.of hbp)))); obtain ⟨l0, l1, l2, l3, l4, m0, m1, m2, m3, m4, ltl⟩ := five_facts HNb.out.1; clear hbp)
                | (go_at_call 92; refine (HTM.out _ HNb.out.2.1.full).mono ?_; rintro y wq ⟨rfl, hbq⟩; have HNc := Lib.hid (And.intro (HNb.out.1.below hbq) (And.intro (HNb.out.2.1.below hbq) (HNb.out.2.2.trans (Kept.of hbq)))); obtain ⟨n0, n1, n2, n3, n4, q0, q1, q2, q3, q4, ltn⟩ := five_facts HNc.out.1; clear hbq))
              all_goals
                go_wp2_with fail
                refine (sort_at q _).mono ?_; rintro y wx ⟨rfl, rfl⟩
                go_wp2_with fail
                refine (HP.out _ HNc.out.2.1).mono ?_; rintro y wy ⟨rfl, hx, hk⟩
                have HF := Lib.hid (And.intro hx (HNc.out.2.2.trans hk))
                clear hx hk
                go_wp2_with fail
                go_end0
                exact ⟨rfl, HF.out.1, HF.out.2⟩
end Go.Proofs.YtkmpbkhlcapbgaaGreatDoor
