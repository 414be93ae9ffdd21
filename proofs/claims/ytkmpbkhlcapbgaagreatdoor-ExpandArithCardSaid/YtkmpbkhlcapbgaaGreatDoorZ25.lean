/-
  DERIVED. What parts come to: all kinds. The deferred closure of expand's all: a fault is taken back.
-/
import Derived.Test.YtkmpbkhlcapbgaaGreatDoorZ23
import Derived.Test.YtkmpbkhlcapbgaaGreatDoorZ24
import Derived.Defers
import Derived.Recover
import Derived.Laws.Pointers
import Derived.RegionTactic
namespace Go.Proofs.YtkmpbkhlcapbgaaGreatDoor
open Go Go.RowKit
theorem ex_step (P : Par) (hPK : ParOK P) (f : Nat) (hPs : ExPs P f) : ExP P (f + 1) := by
  intro g A e r p k t op q a m c w out ho hs hW h1
  obtain ⟨wd, ys, rfl, hv, hp⟩ := h1
  have hwd : WordIn w (· ≠ g) (.slice a m c) wd := by
    obtain ⟨a0, c0, ev, h⟩ := hv
    obtain ⟨rfl, rfl, rfl⟩ : a = a0 ∧ m = wd.length ∧ c = c0 := by simpa using ev
    exact ⟨ys, ⟨a, c, rfl, h⟩, hp⟩
  rw [smallP_mk] at hs
  obtain ⟨s1, s2, s3, s4⟩ := hs
  rcases partE_kind P (f + 1) e r k _ _ q wd out ho with rfl | rfl | rfl | rfl | rfl
  · rw [partE, if_pos rfl] at ho
    obtain ⟨rfl, hb, -⟩ := keepR_is ho
    exact lit_at g A e r 1 t op q a m c w hW hb
  · rw [partE, if_neg (by decide), if_pos rfl] at ho
    obtain ⟨rfl, hb, -⟩ := keepR_is ho
    exact quo_at g A e r 2 t op q a m c w hW hb
  · rcases param_cases P f e r _ _ q wd out ho with ⟨h1, h2, h3⟩ | ⟨h1, h2⟩
    · obtain rfl := emptyB h1
      have ht : t = ⟨#[64]⟩ ∨ (t = ⟨#[42]⟩ ∧ q = false) := by
        rcases h2 with h2 | ⟨h2, h4⟩
        · exact .inl (by rw [← Lib.mk_data t, h2])
        · exact .inr ⟨by rw [← Lib.mk_data t, h2], h4⟩
      exact xparam_args g A e r t q a m c w out ht h3 hW
    · have hts : t.size ≤ 1000000 := by
        have : t.data.toList.length = t.size := by simp
        omega
      exact xparam_named P hPK f hPs g A e r t op q a m c wd w out h1 hts s4 h2 hW hwd
  · rw [partE, if_neg (by decide), if_neg (by decide), if_neg (by decide), if_pos rfl] at ho
    exact xarith_ok P hPK g A e r 4 t op q a m c w out hW ho
  · rw [partE, if_neg (by decide), if_neg (by decide), if_pos rfl] at ho
    exact tilde_at g A e r 5 t op q a m c w out hW ho
theorem ex_all (P : Par) (hPK : ParOK P) : ∀ f, f ≤ 1000000 → ExP P f ∧ ExPs P f := by
  intro f
  induction f using Nat.strongRecOn with
  | _ f ih =>
    intro hf
    have hPs : ExPs P f := xparts_ok P f hf fun f' h => (ih f' h (by omega)).1
    cases f with
    | zero =>
      refine ⟨?_, hPs⟩
      intro g A e r p k t op q a m c w out ho
      obtain ⟨k2, t2, op2, q2, wd2⟩ := p
      rw [partE] at ho; cases ho
    | succ f => exact ⟨ex_step P hPK f (ih f (by omega) (by omega)).2, hPs⟩
end Go.Proofs.YtkmpbkhlcapbgaaGreatDoor
namespace Go.Proofs.YtkmpbkhlcapbgaaGreatDoor
open Go Go.RowKit
/-- The results' rows, as they are filled. -/
structure Al (rb ob fb : Nat) (R O F : List Value) (w w' : World) : Prop where
  r : RowIs w' rb 38 R
  o : RowIs w' ob 28 O
  f : RowIs w' fb 33 F
  b : Below rb w w'
theorem Al.setR {rb ob fb : Nat} (h2 : rb < ob) (h3 : ob < fb) {x0 x1 : Value} {O F : List Value} {w w' : World} (h : Al rb ob fb [x0, x1] O F w w') (u0 u1 : Value) : Al rb ob fb [u0, u1] O F w ((w'.setCell ⟨rb, 0, none⟩ u0).setCell ⟨rb, 1, none⟩ u1) :=
  ⟨(h.r.set 0 u0).set 1 u1, (h.o.other (a := ⟨rb, 0, none⟩) (by simp; omega) u0).other (a := ⟨rb, 1, none⟩) (by simp; omega) u1, (h.f.other (a := ⟨rb, 0, none⟩) (by simp; omega) u0).other (a := ⟨rb, 1, none⟩) (by simp; omega) u1, (h.b.setCell (p := ⟨rb, 0, none⟩) (Nat.le_refl _) u0).setCell (p := ⟨rb, 1, none⟩) (Nat.le_refl _) u1⟩
theorem Al.setF {rb ob fb : Nat} (h2 : rb < ob) (h3 : ob < fb) {x0 x1 : Value} {R O : List Value} {w w' : World} (h : Al rb ob fb R O [x0, x1] w w') (u0 u1 : Value) : Al rb ob fb R O [u0, u1] w ((w'.setCell ⟨fb, 0, none⟩ u0).setCell ⟨fb, 1, none⟩ u1) :=
  ⟨(h.r.other (a := ⟨fb, 0, none⟩) (by simp; omega) u0).other (a := ⟨fb, 1, none⟩) (by simp; omega) u1, (h.o.other (a := ⟨fb, 0, none⟩) (by simp; omega) u0).other (a := ⟨fb, 1, none⟩) (by simp; omega) u1, (h.f.set 0 u0).set 1 u1, (h.b.setCell (p := ⟨fb, 0, none⟩) (by simp; omega) u0).setCell (p := ⟨fb, 1, none⟩) (by simp; omega) u1⟩
theorem Al.setO {rb ob fb : Nat} (h2 : rb < ob) (h3 : ob < fb) {x0 x1 x2 x3 : Value} {R F : List Value} {w w' : World} (h : Al rb ob fb R [x0, x1, x2, x3] F w w') (u0 u1 u2 u3 : Value) : Al rb ob fb R [u0, u1, u2, u3] F w ((((w'.setCell ⟨ob, 0, none⟩ u0).setCell ⟨ob, 1, none⟩ u1).setCell ⟨ob, 2, none⟩ u2).setCell ⟨ob, 3, none⟩ u3) :=
  ⟨(((h.r.other (a := ⟨ob, 0, none⟩) (by simp; omega) u0).other (a := ⟨ob, 1, none⟩) (by simp; omega) u1).other (a := ⟨ob, 2, none⟩) (by simp; omega) u2).other (a := ⟨ob, 3, none⟩) (by simp; omega) u3,
   (((h.o.set 0 u0).set 1 u1).set 2 u2).set 3 u3,
   (((h.f.other (a := ⟨ob, 0, none⟩) (by simp; omega) u0).other (a := ⟨ob, 1, none⟩) (by simp; omega) u1).other (a := ⟨ob, 2, none⟩) (by simp; omega) u2).other (a := ⟨ob, 3, none⟩) (by simp; omega) u3,
   (((h.b.setCell (p := ⟨ob, 0, none⟩) (by simp; omega) u0).setCell (p := ⟨ob, 1, none⟩) (by simp; omega) u1).setCell (p := ⟨ob, 2, none⟩) (by simp; omega) u2).setCell (p := ⟨ob, 3, none⟩) (by simp; omega) u3⟩
theorem Al.drew {rb ob fb : Nat} {R O F : List Value} {w w' : World} (h : Al rb ob fb R O F w w') : Al rb ob fb R O F w w'.drew := ⟨h.r, h.o, h.f, h.b.drew⟩
set_option maxRecDepth 100000 in
set_option maxHeartbeats 8000000 in
theorem all_catch (eb rb ob fb : Nat) (h1 : eb < rb) (h2 : rb < ob) (h3 : ob < fb) (a0 a1 : Option Addr) (m0 m1 c0 c1 : Nat) (st : Int) (fl : ByteArray) (x0 x1 y3 f1 : ByteArray) (b0 b1 : Option Addr) (k0 k1 d0 d1 : Nat) (y2 f0 : Int) (n : Int) (t : List UInt8) (w : World)
    (hE : RowIs w eb 28 [.slice a0 m0 c0, .slice a1 m1 c1, .int .i64 st, .string fl]) (hR : RowIs w rb 38 [.string x0, .string x1]) (hO : RowIs w ob 28 [.slice b0 k0 d0, .slice b1 k1 d1, .int .i64 y2, .string y3]) (hF : RowIs w fb 33 [.int .i64 f0, .string f1]) :
    CallsD Tryz.prog 39 #[.pointer (some ⟨eb, 0, none⟩), .pointer (some ⟨rb, 0, none⟩), .pointer (some ⟨ob, 0, none⟩), .pointer (some ⟨fb, 0, none⟩)] (.panicking (faultP n t)) w fun e u' w' =>
      e = .returned (.tuple #[]) ∧ u' = .panicking [{ v := .iface 33 (.agg #[.int .i64 n, .string ⟨t.toArray⟩]), recovered := true }] ∧ Al rb ob fb [.string ⟨#[]⟩, .string ⟨#[]⟩] [.slice a0 m0 c0, .slice a1 m1 c1, .int .i64 st, .string fl] [.int .i64 n, .string ⟨t.toArray⟩] w w' := by
  have hta : ∀ w : World, Sem.run Tryz.prog (Instr.typeAssert (.iface 33 (.agg #[.int .i64 n, .string ⟨t.toArray⟩])) 20 33 false) w = .ok (.agg #[.int .i64 n, .string ⟨t.toArray⟩]) w := fun _ => by kernel_rfl
  obtain ⟨ec0, ec1, ec2, ec3, ef0, ef1, ef2, ef3, elt⟩ := four_facts hE
  obtain ⟨rc0, rc1, rf0, rf1, rlt⟩ := two_facts hR
  obtain ⟨oc0, oc1, oc2, oc3, of0, of1, of2, of3, olt⟩ := four_facts hO
  obtain ⟨fc0, fc1, ff0, ff1, flt⟩ := two_facts hF
  have HA : Hid (Al rb ob fb _ _ _ w w) := ⟨hR, hO, hF, Below.refl _ _⟩
  clear hE hR hO hF
  have n1 : ¬ eb = rb := by omega
  have n2 : ¬ eb = ob := by omega
  have n3 : ¬ eb = fb := by omega
  have n4 : ¬ rb = ob := by omega
  have n5 : ¬ rb = fb := by omega
  have n6 : ¬ ob = fb := by omega
  refine callsD_of_wpS Tryz.func39 rfl fun c₀ cs hu => ?_
  apply wpS_seq
  apply wpS_region
  simp [wpOpsS, go_sem, recoverD, hu, Tryz.ntmps39, Exit.thenS, faultP]
  apply wpS_seq
  apply wpS_region
  simp [wpOpsS, go_sem, Exit.thenS]
  refine wpS_cond (t := true) (by simp [Act.eval, Array.replicate]) ?_
  simp only [if_true]
  refine wpS_of_wp ?_
  go_region
  all_goals
    simp [bodyPostS, results, Tryz.results39]
    first
      | exact (((HA.out.setR h2 h3 _ _).setO h2 h3 _ _ _ _).setF h2 h3 _ _).drew
      | exact (((HA.out.setR h2 h3 _ _).setF h2 h3 _ _).setO h2 h3 _ _ _ _).drew
      | exact (((HA.out.setO h2 h3 _ _ _ _).setR h2 h3 _ _).setF h2 h3 _ _).drew
      | exact (((HA.out.setO h2 h3 _ _ _ _).setF h2 h3 _ _).setR h2 h3 _ _).drew
      | exact (((HA.out.setF h2 h3 _ _).setO h2 h3 _ _ _ _).setR h2 h3 _ _).drew
      | exact (((HA.out.setF h2 h3 _ _).setR h2 h3 _ _).setO h2 h3 _ _ _ _).drew
end Go.Proofs.YtkmpbkhlcapbgaaGreatDoor
