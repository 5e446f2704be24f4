/- Parts of a proof, one behind the other: WCp, PCp, WCo1, WCo2, PCo2, WCo3, PCo3, Ga, WOs, POs, WOa, POa, WMy, PMy, PMz, Nm, WTi, PTi. No conditions. -/
import Derived.Test.YtkfcphigoncgjaaObM
/- Points of the first curve: twice, negative, sums, walked. No conditions. -/
namespace Go.Proofs.Ytkfcphigoncgjaa

theorem twice_fnd (x y z : Fp) : FnD Try.prog 107 [.v (.a [.ob (.p x), .ob (.p y), .ob (.p z)])] (.v (.a (ptIts (jtw (x, y, z))))) [] := by
  by_cases h : z = 0
  · have e : jtw (x, y, z) = (x, y, z) := if_pos h
    rw [e]
    exact fn_sound qeJ_ok Try.func107 (twA x y z) ⟨decide_eq_true h, trivial⟩
  · unfold jtw
    rw [if_neg h]
    exact fn_sound qeJ_ok Try.func107 (twB x y z) ⟨decide_eq_false h, trivial⟩
def mulPSpec : FnSpec
  | [.v (.a [.ob (.fp a)]), .v (.a [.ob (.fp b)])] => some ([a.val < pN, b.val < pN], .v (.a [.ob (.fp (mulP a b))]), [])
  | _ => none
noncomputable def qrI : Env := qrH.set (addT qrH.fn 59 mulPSpec)
theorem qrI_ok : EnvOk Try.prog qrI := env_add qrH_ok 59 mulPSpec (enters_of Try.func59 rfl rfl) fun args o r es h ho => by
  unfold mulPSpec at h
  split at h
  · cases h; exact mulP_fnd _ _ ho.1 ho.2.1
  · cases h
def sub6Spec : FnSpec
  | [.v (.a [.ob (.fp a)]), .v (.a [.ob (.fp b)])] => some ([b.val < pN], .v (.a [.ob (.fp (subP a b))]), [])
  | _ => none
noncomputable def qrJ : Env := qrI.set (addT qrI.fn 66 sub6Spec)
theorem qrJ_ok : EnvOk Try.prog qrJ := env_add qrI_ok 66 sub6Spec (enters_of Try.func66 rfl rfl) fun args o r es h ho => by
  unfold sub6Spec at h
  split at h
  · cases h; exact sub6_fnd _ _ ho.1
  · cases h
def twPSpec : FnSpec
  | [.v (.a [.ob (.p x), .ob (.p y), .ob (.p z)])] => some ([], .v (.a (ptIts (jtw (x, y, z)))), [])
  | _ => none
noncomputable def qsA : Env := qrJ.set (addT qrJ.fn 107 twPSpec)
theorem qsA_ok : EnvOk Try.prog qsA := env_add qrJ_ok 107 twPSpec (enters_of Try.func107 rfl rfl) fun args o r es h _ => by
  unfold twPSpec at h
  split at h
  · cases h; exact twice_fnd _ _ _
  · cases h
def ngPSpec : FnSpec
  | [.v (.a [.ob (.p x), .ob (.p y), .ob (.p z)])] => some ([], .v (.a (ptIts (jng (x, y, z)))), [])
  | _ => none
noncomputable def qsB : Env := qsA.set (addT qsA.fn 57 ngPSpec)
theorem qsB_ok : EnvOk Try.prog qsB := env_add qsA_ok 57 ngPSpec (enters_of Try.func57 rfl rfl) fun args o r es h _ => by
  unfold ngPSpec at h
  split at h
  · cases h; exact fn_sound qeJ_ok Try.func57 (ngP _ _ _) trivial
  · cases h
--@env qsB qsB_ok
theorem plA (x y z u v w : Fp) : fnRes qsB Try.f54 3000 [.v (.a [.ob (.p x), .ob (.p y), .ob (.p z)]), .v (.a [.ob (.p u), .ob (.p v), .ob (.p w)])] [true] [] [] = (Option.some ([((decide (z = (0 : Fp))) = true)], ((SV.v (V1.a [(It.ob (Ob.p u)), (It.ob (Ob.p v)), (It.ob (Ob.p w))])), []))) := by kernel_rfl
theorem plB (x y z u v w : Fp) : fnRes qsB Try.f54 3000 [.v (.a [.ob (.p x), .ob (.p y), .ob (.p z)]), .v (.a [.ob (.p u), .ob (.p v), .ob (.p w)])] [false, true] [] [] = (Option.some ([((decide (z = (0 : Fp))) = false), ((decide (w = (0 : Fp))) = true)], ((SV.v (V1.a [(It.ob (Ob.p x)), (It.ob (Ob.p y)), (It.ob (Ob.p z))])), []))) := by kernel_rfl
theorem plC (x y z u v w : Fp) : fnRes qsB Try.f54 3000 [.v (.a [.ob (.p x), .ob (.p y), .ob (.p z)]), .v (.a [.ob (.p u), .ob (.p v), .ob (.p w)])] [false, false, true, true] [] [] = (Option.some ([((decide (z = (0 : Fp))) = false), ((decide (w = (0 : Fp))) = false), ((decide (((u * (z * z)) - (x * (w * w))) = (0 : Fp))) = true), ((decide ((((v * (z * z)) * z) - ((y * (w * w)) * w)) = (0 : Fp))) = true)], ((SV.v (V1.a [(It.ob (Ob.p (Prod.fst (jtw (x, (y, z)))))), (It.ob (Ob.p (Prod.fst (Prod.snd (jtw (x, (y, z))))))), (It.ob (Ob.p (Prod.snd (Prod.snd (jtw (x, (y, z)))))))])), []))) := by kernel_rfl
theorem plD (x y z u v w : Fp) : fnRes qsB Try.f54 3000 [.v (.a [.ob (.p x), .ob (.p y), .ob (.p z)]), .v (.a [.ob (.p u), .ob (.p v), .ob (.p w)])] [false, false, true, false] [] [] = (Option.some ([((decide (z = (0 : Fp))) = false), ((decide (w = (0 : Fp))) = false), ((decide (((u * (z * z)) - (x * (w * w))) = (0 : Fp))) = true), ((decide ((((v * (z * z)) * z) - ((y * (w * w)) * w)) = (0 : Fp))) = false)], ((SV.v (V1.a [(It.ob (Ob.p x)), (It.ob (Ob.p y)), (It.ob (Ob.p (0 : Fp)))])), []))) := by kernel_rfl
theorem plE (x y z u v w : Fp) : fnRes qsB Try.f54 3000 [.v (.a [.ob (.p x), .ob (.p y), .ob (.p z)]), .v (.a [.ob (.p u), .ob (.p v), .ob (.p w)])] [false, false, false] [] [] = (Option.some ([((decide (z = (0 : Fp))) = false), ((decide (w = (0 : Fp))) = false), ((decide (((u * (z * z)) - (x * (w * w))) = (0 : Fp))) = false)], ((SV.v (V1.a [(It.ob (Ob.p (((((((v * (z * z)) * z) - ((y * (w * w)) * w)) * (((v * (z * z)) * z) - ((y * (w * w)) * w))) - ((((u * (z * z)) - (x * (w * w))) * ((u * (z * z)) - (x * (w * w)))) * ((u * (z * z)) - (x * (w * w))))) - ((x * (w * w)) * (((u * (z * z)) - (x * (w * w))) * ((u * (z * z)) - (x * (w * w)))))) - ((x * (w * w)) * (((u * (z * z)) - (x * (w * w))) * ((u * (z * z)) - (x * (w * w)))))))), (It.ob (Ob.p (((((v * (z * z)) * z) - ((y * (w * w)) * w)) * (((x * (w * w)) * (((u * (z * z)) - (x * (w * w))) * ((u * (z * z)) - (x * (w * w))))) - (((((((v * (z * z)) * z) - ((y * (w * w)) * w)) * (((v * (z * z)) * z) - ((y * (w * w)) * w))) - ((((u * (z * z)) - (x * (w * w))) * ((u * (z * z)) - (x * (w * w)))) * ((u * (z * z)) - (x * (w * w))))) - ((x * (w * w)) * (((u * (z * z)) - (x * (w * w))) * ((u * (z * z)) - (x * (w * w)))))) - ((x * (w * w)) * (((u * (z * z)) - (x * (w * w))) * ((u * (z * z)) - (x * (w * w)))))))) - (((y * (w * w)) * w) * ((((u * (z * z)) - (x * (w * w))) * ((u * (z * z)) - (x * (w * w)))) * ((u * (z * z)) - (x * (w * w)))))))), (It.ob (Ob.p ((((u * (z * z)) - (x * (w * w))) * z) * w)))])), []))) := by kernel_rfl
end Go.Proofs.Ytkfcphigoncgjaa

/- Points of the first curve: sums, contract. No conditions. -/
namespace Go.Proofs.Ytkfcphigoncgjaa

theorem plusPt_fnd (x y z u v w : Fp) : FnD Try.prog 54 [.v (.a [.ob (.p x), .ob (.p y), .ob (.p z)]), .v (.a [.ob (.p u), .ob (.p v), .ob (.p w)])] (.v (.a (ptIts (jpl (x, y, z) (u, v, w))))) [] := by
  by_cases h : z = 0
  · have e : jpl (x, y, z) (u, v, w) = (u, v, w) := if_pos h
    rw [e]
    exact fn_sound qsB_ok Try.func54 (plA x y z u v w) ⟨decide_eq_true h, trivial⟩
  · by_cases h2 : w = 0
    · have e : jpl (x, y, z) (u, v, w) = (x, y, z) := (if_neg h).trans (if_pos h2)
      rw [e]
      exact fn_sound qsB_ok Try.func54 (plB x y z u v w) ⟨decide_eq_false h, decide_eq_true h2, trivial⟩
    · unfold jpl
      rw [if_neg h, if_neg h2]
      dsimp only
      by_cases h3 : u * (z * z) - x * (w * w) = 0
      · rw [if_pos h3]
        by_cases h4 : v * (z * z) * z - y * (w * w) * w = 0
        · rw [if_pos h4]
          exact fn_sound qsB_ok Try.func54 (plC x y z u v w) ⟨decide_eq_false h, decide_eq_false h2, decide_eq_true h3, decide_eq_true h4, trivial⟩
        · rw [if_neg h4]
          exact fn_sound qsB_ok Try.func54 (plD x y z u v w) ⟨decide_eq_false h, decide_eq_false h2, decide_eq_true h3, decide_eq_false h4, trivial⟩
      · rw [if_neg h3]
        exact fn_sound qsB_ok Try.func54 (plE x y z u v w) ⟨decide_eq_false h, decide_eq_false h2, decide_eq_false h3, trivial⟩

end Go.Proofs.Ytkfcphigoncgjaa

/- Points of the first curve, in and out, walked. No conditions. -/
namespace Go.Proofs.Ytkfcphigoncgjaa

def plPSpec : FnSpec
  | [.v (.a [.ob (.p x), .ob (.p y), .ob (.p z)]), .v (.a [.ob (.p u), .ob (.p v), .ob (.p w)])] => some ([], .v (.a (ptIts (jpl (x, y, z) (u, v, w)))), [])
  | _ => none
noncomputable def qsC : Env := qsB.set (addT qsB.fn 54 plPSpec)
theorem qsC_ok : EnvOk Try.prog qsC := env_add qsB_ok 54 plPSpec (enters_of Try.func54 rfl rfl) fun args o r es h _ => by
  unfold plPSpec at h
  split at h
  · cases h; exact plusPt_fnd _ _ _ _ _ _
  · cases h
noncomputable def inlAf (T : Nat → Option Func) (f : Nat) : Option Func := if f = 108 then some Try.f108 else T f
noncomputable def qsD : Env := { qsC with inl := inlAf qsC.inl }
theorem qsD_ok : EnvOk Try.prog qsD := by
  refine ⟨qsC_ok.ty, qsC_ok.mixed, qsC_ok.fn, qsC_ok.mu, fun f fn h => ?_, qsC_ok.ex, qsC_ok.inv⟩
  have h : inlAf qsC.inl f = some fn := h
  unfold inlAf at h
  split at h
  · rename_i hf; cases h; subst hf; exact ⟨Try.func108, enters_of Try.func108 rfl rfl⟩
  exact qsC_ok.inl f fn h
--@env qsD qsD_ok
theorem igA (x y : U6) (i : Bool) : fnRes qsD Try.f56 3000 [.v (.a [.ob (.fp x), .ob (.fp y), .bool i])] [true] [] [] = (Option.some ([(i = true), ((0 : Int) ≤ (1 : Int)), ((1 : Int) < (18446744073709551616 : Int)), ((0 : Int) ≤ (1 : Int)), ((1 : Int) < (18446744073709551616 : Int))], ((SV.v (V1.a [(It.ob (Ob.p (Fin.ofNat pN 1))), (It.ob (Ob.p (Fin.ofNat pN 1))), (It.ob (Ob.p (0 : Fp)))])), []))) := by kernel_rfl
theorem igB (x y : U6) (i : Bool) : fnRes qsD Try.f56 3000 [.v (.a [.ob (.fp x), .ob (.fp y), .bool i])] [false] [] [] = (Option.some ([(i = false), ((0 : Int) ≤ (1 : Int)), ((1 : Int) < (18446744073709551616 : Int))], ((SV.v (V1.a [(It.ob (Ob.p (inP x))), (It.ob (Ob.p (inP y))), (It.ob (Ob.p (Fin.ofNat pN 1)))])), []))) := by kernel_rfl
theorem ogA (x y z : Fp) : fnRes qsD Try.f55 3000 [.v (.a [.ob (.p x), .ob (.p y), .ob (.p z)])] [true, true] [] [] = (Option.some ([((decide (z = (0 : Fp))) = true)], ((SV.v (V1.a [(It.ob (Ob.fp (0 : U6))), (It.ob (Ob.fp (0 : U6))), (It.lit true)])), []))) := by kernel_rfl
theorem ogB (x y z : Fp) : fnRes qsD Try.f55 3000 [.v (.a [.ob (.p x), .ob (.p y), .ob (.p z)])] [false, false] [] [] = (Option.some ([((decide (z = (0 : Fp))) = false)], ((SV.v (V1.a [(It.ob (Ob.fp (outP (x * ((ivP z) * (ivP z)))))), (It.ob (Ob.fp (outP ((y * ((ivP z) * (ivP z))) * (ivP z))))), (It.lit false)])), []))) := by kernel_rfl
theorem onA (x y : U6) (i : Bool) : fnRes qsD Try.f96 3000 [.v (.a [.ob (.fp x), .ob (.fp y), .bool i])] [true] [] [] = (Option.some ([(i = true)], ((SV.v (V1.c (It.bool (ite (true = true) (Bool.and (decide (x = (0 : U6))) (Bool.and (decide (y = (0 : U6))) (i == true))) (Bool.not (Bool.and (decide (x = (0 : U6))) (Bool.and (decide (y = (0 : U6))) (i == true)))))))), []))) := by kernel_rfl
theorem onB (x y : U6) (i : Bool) : fnRes qsD Try.f96 3000 [.v (.a [.ob (.fp x), .ob (.fp y), .bool i])] [false, true, true] [] [] = (Option.some ([(i = false), ((ite (true = true) (decide ((outP (inP x)) = x)) (Bool.not (decide ((outP (inP x)) = x)))) = true), ((ite (true = true) (decide ((outP (inP y)) = y)) (Bool.not (decide ((outP (inP y)) = y)))) = true), ((0 : Int) ≤ (4 : Int)), ((4 : Int) < (18446744073709551616 : Int))], ((SV.v (V1.c (It.bool (ite (true = true) (decide (((inP y) * (inP y)) = ((((inP x) * (inP x)) * (inP x)) + (Fin.ofNat pN 4)))) (Bool.not (decide (((inP y) * (inP y)) = ((((inP x) * (inP x)) * (inP x)) + (Fin.ofNat pN 4))))))))), []))) := by kernel_rfl
theorem onC (x y : U6) (i : Bool) : fnRes qsD Try.f96 3000 [.v (.a [.ob (.fp x), .ob (.fp y), .bool i])] [false, true, false] [] [] = (Option.some ([(i = false), ((ite (true = true) (decide ((outP (inP x)) = x)) (Bool.not (decide ((outP (inP x)) = x)))) = true), ((ite (true = true) (decide ((outP (inP y)) = y)) (Bool.not (decide ((outP (inP y)) = y)))) = false)], ((SV.v (V1.c (It.lit false))), []))) := by kernel_rfl
theorem onD (x y : U6) (i : Bool) : fnRes qsD Try.f96 3000 [.v (.a [.ob (.fp x), .ob (.fp y), .bool i])] [false, false, false] [] [] = (Option.some ([(i = false), ((ite (true = true) (decide ((outP (inP x)) = x)) (Bool.not (decide ((outP (inP x)) = x)))) = false)], ((SV.v (V1.c (It.lit false))), []))) := by kernel_rfl
end Go.Proofs.Ytkfcphigoncgjaa

/- Points of the first curve, in and out: contracts; the functions outside, walked. No conditions. -/
namespace Go.Proofs.Ytkfcphigoncgjaa

def fp1 : Fp := Fin.ofNat pN 1
def fp4 : Fp := Fin.ofNat pN 4
/-- Which points may be. -/
def onG (a : G1D) : Bool :=
  if a.inf then decide (a.x = 0) && decide (a.y = 0)
  else decide (outP (inP a.x) = a.x) && (decide (outP (inP a.y) = a.y) && decide (inP a.y * inP a.y = inP a.x * inP a.x * inP a.x + fp4))
def inG (a : G1D) : Fp × Fp × Fp := if a.inf then (fp1, fp1, 0) else (inP a.x, inP a.y, fp1)
def outG (t : Fp × Fp × Fp) : G1D :=
  if t.2.2 = 0 then ⟨0, 0, true⟩ else ⟨outP (t.1 * (ivP t.2.2 * ivP t.2.2)), outP (t.2.1 * (ivP t.2.2 * ivP t.2.2) * ivP t.2.2), false⟩

theorem lit_third {x : Ctx} {i j : It} {b : Bool} {v : Value} (h : denS x (.v (.a [i, j, .lit b])) v) : denS x (.v (.a [i, j, .bool b])) v := by
  obtain ⟨cs, e, c1, r1, e1, h1, c2, r2, e2, h2, c3, r3, e3, ⟨d, h3⟩, h4⟩ := h
  refine ⟨cs, e, c1, r1, e1, h1, c2, r2, e2, h2, c3, r3, e3, ⟨d, ?_⟩, h4⟩
  cases d <;> exact h3
theorem third_lit {x : Ctx} {i j : It} {b : Bool} {v : Value} (h : denS x (.v (.a [i, j, .bool b])) v) : denS x (.v (.a [i, j, .lit b])) v := by
  obtain ⟨cs, e, c1, r1, e1, h1, c2, r2, e2, h2, c3, r3, e3, ⟨d, h3⟩, h4⟩ := h
  refine ⟨cs, e, c1, r1, e1, h1, c2, r2, e2, h2, c3, r3, e3, ⟨d, ?_⟩, h4⟩
  cases d <;> exact h3

theorem inG_fnd (x y : U6) (i : Bool) : FnD Try.prog 56 [.v (.a [.ob (.fp x), .ob (.fp y), .bool i])] (.v (.a (ptIts (inG ⟨x, y, i⟩)))) [] := by
  cases i with
  | true => exact fn_sound qsD_ok Try.func56 (igA x y true) ⟨rfl, by decide, by decide, by decide, by decide, trivial⟩
  | false => exact fn_sound qsD_ok Try.func56 (igB x y false) ⟨rfl, by decide, by decide, trivial⟩

theorem outG_fnd (x y z : Fp) : FnD Try.prog 55 [.v (.a [.ob (.p x), .ob (.p y), .ob (.p z)])] (.v (.a (outG (x, y, z)).its)) [] := by
  by_cases h : z = 0
  · have e : outG (x, y, z) = ⟨0, 0, true⟩ := if_pos h
    rw [e]
    exact (fn_sound qsD_ok Try.func55 (ogA x y z) ⟨decide_eq_true h, trivial⟩).conv (fun _ _ h => h) fun y v hd => lit_third hd
  · unfold outG
    rw [if_neg h]
    exact (fn_sound qsD_ok Try.func55 (ogB x y z) ⟨decide_eq_false h, trivial⟩).conv (fun _ _ h => h) fun y v hd => lit_third hd

theorem onG_fnd (x y : U6) (i : Bool) : FnD Try.prog 96 [.v (.a [.ob (.fp x), .ob (.fp y), .bool i])] (.v (.c (.bool (onG ⟨x, y, i⟩)))) [] := by
  cases i with
  | true =>
    have r := onA x y true
    rw [if_pos rfl] at r
    have e : onG ⟨x, y, true⟩ = ((decide (x = 0)) && ((decide (y = 0)) && (true == true))) := by
      show (decide (x = 0) && decide (y = 0)) = _
      simp
    rw [e]
    exact fn_sound qsD_ok Try.func96 r ⟨rfl, trivial⟩
  | false =>
    by_cases h1 : outP (inP x) = x
    · by_cases h2 : outP (inP y) = y
      · have r := onB x y false
        rw [if_pos rfl, if_pos rfl, if_pos rfl] at r
        have e : onG ⟨x, y, false⟩ = decide (inP y * inP y = inP x * inP x * inP x + Fin.ofNat pN 4) := by
          show (decide (outP (inP x) = x) && (decide (outP (inP y) = y) && decide (inP y * inP y = inP x * inP x * inP x + fp4))) = _
          rw [decide_eq_true h1, decide_eq_true h2]; rfl
        rw [e]
        exact fn_sound qsD_ok Try.func96 r ⟨rfl, decide_eq_true h1, decide_eq_true h2, by decide, by decide, trivial⟩
      · have r := onC x y false
        rw [if_pos rfl, if_pos rfl] at r
        have e : onG ⟨x, y, false⟩ = false := by
          show (decide (outP (inP x) = x) && (decide (outP (inP y) = y) && decide (inP y * inP y = inP x * inP x * inP x + fp4))) = _
          rw [decide_eq_false h2, Bool.false_and, Bool.and_false]
        rw [e]
        exact (fn_sound qsD_ok Try.func96 r ⟨rfl, decide_eq_true h1, decide_eq_false h2, trivial⟩).conv (fun _ _ h => h) fun y v hd => lit_bool rfl hd
    · have r := onD x y false
      rw [if_pos rfl] at r
      have e : onG ⟨x, y, false⟩ = false := by
        show (decide (outP (inP x) = x) && (decide (outP (inP y) = y) && decide (inP y * inP y = inP x * inP x * inP x + fp4))) = _
        rw [decide_eq_false h1, Bool.false_and]
      rw [e]
      exact (fn_sound qsD_ok Try.func96 r ⟨rfl, decide_eq_false h1, trivial⟩).conv (fun _ _ h => h) fun y v hd => lit_bool rfl hd
def inGSpec : FnSpec
  | [.v (.a [.ob (.fp x), .ob (.fp y), .bool i])] => some ([], .v (.a (ptIts (inG ⟨x, y, i⟩))), [])
  | _ => none
noncomputable def qsE : Env := qsD.set (addT qsD.fn 56 inGSpec)
theorem qsE_ok : EnvOk Try.prog qsE := env_add qsD_ok 56 inGSpec (enters_of Try.func56 rfl rfl) fun args o r es h _ => by
  unfold inGSpec at h
  split at h
  · cases h; exact inG_fnd _ _ _
  · cases h
def outGSpec : FnSpec
  | [.v (.a [.ob (.p x), .ob (.p y), .ob (.p z)])] => some ([], .v (.a (outG (x, y, z)).its), [])
  | _ => none
noncomputable def qsF : Env := qsE.set (addT qsE.fn 55 outGSpec)
theorem qsF_ok : EnvOk Try.prog qsF := env_add qsE_ok 55 outGSpec (enters_of Try.func55 rfl rfl) fun args o r es h _ => by
  unfold outGSpec at h
  split at h
  · cases h; exact outG_fnd _ _ _
  · cases h
def onGSpec : FnSpec
  | [.v (.a [.ob (.fp x), .ob (.fp y), .bool i])] => some ([], .v (.c (.bool (onG ⟨x, y, i⟩))), [])
  | _ => none
noncomputable def qsG : Env := qsF.set (addT qsF.fn 96 onGSpec)
theorem qsG_ok : EnvOk Try.prog qsG := env_add qsF_ok 96 onGSpec (enters_of Try.func96 rfl rfl) fun args o r es h _ => by
  unfold onGSpec at h
  split at h
  · cases h; exact onG_fnd _ _ _
  · cases h
--@env qsG qsG_ok
theorem riR (x y : U6) (i : Bool) : fnRes qsG Try.f46 3000 [.v (.a [.ob (.fp x), .ob (.fp y), .bool i])] [] [] [] = (Option.some ([], ((SV.v (V1.c (It.bool (onG (G1D.mk x y i))))), []))) := by kernel_rfl
theorem geR  : fnRes qsG Try.f62 3000 [] [] [] [] = (Option.some ([((0 : Int) ≤ (18103045581585958587 : Int)), ((18103045581585958587 : Int) < (18446744073709551616 : Int)), ((0 : Int) ≤ (7806400890582735599 : Int)), ((7806400890582735599 : Int) < (18446744073709551616 : Int)), ((0 : Int) ≤ (11623291730934869080 : Int)), ((11623291730934869080 : Int) < (18446744073709551616 : Int)), ((0 : Int) ≤ (14080658508445169925 : Int)), ((14080658508445169925 : Int) < (18446744073709551616 : Int)), ((0 : Int) ≤ (2780237799254240271 : Int)), ((2780237799254240271 : Int) < (18446744073709551616 : Int)), ((0 : Int) ≤ (1725392847304644500 : Int)), ((1725392847304644500 : Int) < (18446744073709551616 : Int)), ((0 : Int) ≤ (912580534683953121 : Int)), ((912580534683953121 : Int) < (18446744073709551616 : Int)), ((0 : Int) ≤ (15005087156090211044 : Int)), ((15005087156090211044 : Int) < (18446744073709551616 : Int)), ((0 : Int) ≤ (61670280795567085 : Int)), ((61670280795567085 : Int) < (18446744073709551616 : Int)), ((0 : Int) ≤ (18227722000993880822 : Int)), ((18227722000993880822 : Int) < (18446744073709551616 : Int)), ((0 : Int) ≤ (11573741888802228964 : Int)), ((11573741888802228964 : Int) < (18446744073709551616 : Int)), ((0 : Int) ≤ (627113611842199793 : Int)), ((627113611842199793 : Int) < (18446744073709551616 : Int))], ((SV.v (V1.a [(It.ob (Ob.fp (Fin.ofNat B6 3685416753713387016781088315183077757961620795782546409894578378688607592378376318836054947676345821548104185464507))), (It.ob (Ob.fp (Fin.ofNat B6 1339506544944476473020471379941921221584933875938349620426543736416511423956333506472724655353366534992391756441569))), (It.lit false)])), []))) := by kernel_rfl
theorem zeR  : fnRes qsG Try.f25 3000 [] [] [] [] = (Option.some ([], ((SV.v (V1.a [(It.ob (Ob.fp (0 : U6))), (It.ob (Ob.fp (0 : U6))), (It.lit true)])), []))) := by kernel_rfl
theorem rsR  : fnRes qsG Try.f63 3000 [.v (.c (.int .i64 0))] [true] [] [] = (Option.some ([(((0 : Int) == (0 : Int)) = true), ((0 : Int) ≤ (18103045581585958587 : Int)), ((18103045581585958587 : Int) < (18446744073709551616 : Int)), ((0 : Int) ≤ (7806400890582735599 : Int)), ((7806400890582735599 : Int) < (18446744073709551616 : Int)), ((0 : Int) ≤ (11623291730934869080 : Int)), ((11623291730934869080 : Int) < (18446744073709551616 : Int)), ((0 : Int) ≤ (14080658508445169925 : Int)), ((14080658508445169925 : Int) < (18446744073709551616 : Int)), ((0 : Int) ≤ (2780237799254240271 : Int)), ((2780237799254240271 : Int) < (18446744073709551616 : Int)), ((0 : Int) ≤ (1725392847304644500 : Int)), ((1725392847304644500 : Int) < (18446744073709551616 : Int)), ((0 : Int) ≤ (912580534683953121 : Int)), ((912580534683953121 : Int) < (18446744073709551616 : Int)), ((0 : Int) ≤ (15005087156090211044 : Int)), ((15005087156090211044 : Int) < (18446744073709551616 : Int)), ((0 : Int) ≤ (61670280795567085 : Int)), ((61670280795567085 : Int) < (18446744073709551616 : Int)), ((0 : Int) ≤ (18227722000993880822 : Int)), ((18227722000993880822 : Int) < (18446744073709551616 : Int)), ((0 : Int) ≤ (11573741888802228964 : Int)), ((11573741888802228964 : Int) < (18446744073709551616 : Int)), ((0 : Int) ≤ (627113611842199793 : Int)), ((627113611842199793 : Int) < (18446744073709551616 : Int))], ((SV.v (V1.a [(It.ob (Ob.fp (Fin.ofNat B6 3685416753713387016781088315183077757961620795782546409894578378688607592378376318836054947676345821548104185464507))), (It.ob (Ob.fp (Fin.ofNat B6 1339506544944476473020471379941921221584933875938349620426543736416511423956333506472724655353366534992391756441569))), (It.lit false)])), []))) := by kernel_rfl
theorem rrA (x y : U6) (i : Bool) : fnRes qsG Try.f20 3000 [.v (.a [.ob (.fp x), .ob (.fp y), .bool i])] [true] [] [] = (Option.some ([(i = true)], ((SV.v (V1.c (It.bool (ite (true = true) (Bool.and (decide (x = (0 : U6))) (Bool.and (decide (y = (0 : U6))) (i == true))) (Bool.not (Bool.and (decide (x = (0 : U6))) (Bool.and (decide (y = (0 : U6))) (i == true)))))))), []))) := by kernel_rfl
theorem rrB (x y : U6) (i : Bool) : fnRes qsG Try.f20 3000 [.v (.a [.ob (.fp x), .ob (.fp y), .bool i])] [false, true, true] [] [] = (Option.some ([(i = false), ((ite (false = true) (decide ((cleanP x) = x)) (Bool.not (decide ((cleanP x) = x)))) = true)], ((SV.v (V1.c (It.lit false))), []))) := by kernel_rfl
theorem rrC (x y : U6) (i : Bool) : fnRes qsG Try.f20 3000 [.v (.a [.ob (.fp x), .ob (.fp y), .bool i])] [false, false, true] [] [] = (Option.some ([(i = false), ((ite (false = true) (decide ((cleanP x) = x)) (Bool.not (decide ((cleanP x) = x)))) = false), ((ite (false = true) (decide ((cleanP y) = y)) (Bool.not (decide ((cleanP y) = y)))) = true)], ((SV.v (V1.c (It.lit false))), []))) := by kernel_rfl
theorem rrD (x y : U6) (i : Bool) : fnRes qsG Try.f20 3000 [.v (.a [.ob (.fp x), .ob (.fp y), .bool i])] [false, false, false] [] [] = (Option.some ([(i = false), ((ite (false = true) (decide ((cleanP x) = x)) (Bool.not (decide ((cleanP x) = x)))) = false), ((ite (false = true) (decide ((cleanP y) = y)) (Bool.not (decide ((cleanP y) = y)))) = false), ((Fin.val x) < pN), ((Fin.val x) < pN), ((Fin.val x) < pN), ((Fin.val (mulP x x)) < pN), ((Fin.val y) < pN), ((Fin.val y) < pN), ((0 : Int) ≤ (4 : Int)), ((4 : Int) < (18446744073709551616 : Int)), ((0 : Int) ≤ (0 : Int)), ((0 : Int) < (18446744073709551616 : Int)), ((0 : Int) ≤ (0 : Int)), ((0 : Int) < (18446744073709551616 : Int)), ((0 : Int) ≤ (0 : Int)), ((0 : Int) < (18446744073709551616 : Int)), ((0 : Int) ≤ (0 : Int)), ((0 : Int) < (18446744073709551616 : Int)), ((0 : Int) ≤ (0 : Int)), ((0 : Int) < (18446744073709551616 : Int))], ((SV.v (V1.c (It.bool (ite (true = true) (decide ((mulP y y) = (cleanP ((mulP x (mulP x x)) + (Fin.ofNat B6 4))))) (Bool.not (decide ((mulP y y) = (cleanP ((mulP x (mulP x x)) + (Fin.ofNat B6 4)))))))))), []))) := by kernel_rfl
theorem rnR (x y : U6) (i : Bool) : fnRes qsG Try.f21 3000 [.v (.a [.ob (.fp x), .ob (.fp y), .bool i])] [] [] [] = (Option.some ([((Fin.val y) < pN)], ((SV.v (V1.a [(It.ob (Ob.fp x)), (It.ob (Ob.fp (negU y))), (It.bool i)])), []))) := by kernel_rfl
theorem r3R (x : U6) : fnRes qsG Try.f65 3000 [.v (.a [.ob (.fp x)])] [] [] [] = (Option.some ([], ((SV.v (V1.a [(It.ob (Ob.fp (cleanP (x + (cleanP (x + x))))))])), []))) := by kernel_rfl
end Go.Proofs.Ytkfcphigoncgjaa

/- The reference's functions on points of the first curve: contracts. No conditions. -/
namespace Go.Proofs.Ytkfcphigoncgjaa

def genX : U6 := Fin.ofNat B6 3685416753713387016781088315183077757961620795782546409894578378688607592378376318836054947676345821548104185464507
def genY : U6 := Fin.ofNat B6 1339506544944476473020471379941921221584933875938349620426543736416511423956333506472724655353366534992391756441569
def genG : G1D := ⟨genX, genY, false⟩

theorem fin_mul_val {r : Nat} (x y : Fin r) : x.val * y.val % r = (x * y).val := rfl
theorem fin_add_val {r : Nat} (x y : Fin r) : (x.val + y.val) % r = (x + y).val := rfl
section
variable {r : Nat} [NeZero r]
theorem add_neg_g (x y : Fin r) : x + (0 - y) = x - y := by grind
theorem fin_neg_val (x : Fin r) : (r - x.val) % r = (0 - x).val := by
  show _ = (r - x.val + (0 : Fin r).val) % r
  have e : (0 : Fin r).val = 0 := Nat.zero_mod r
  rw [e, Nat.add_zero]
theorem fin_of_val (n : Nat) : (Fin.ofNat r n).val = n % r := rfl
end

theorem out_in (x : U6) : outP (inP x) = cleanP x := by
  apply Fin.ext
  rw [outP_val, cleanP_val]
  exact fin_of_val _
theorem inP_val (x : U6) : (inP x).val = x.val % pN := fin_of_val _
theorem clean_lt {x : U6} (h : cleanP x = x) : x.val < pN := by
  rw [← h, cleanP_val]
  exact Nat.mod_lt _ (by decide)
theorem inP_lt {x : U6} (h : x.val < pN) : (inP x).val = x.val := Nat.mod_eq_of_lt h
theorem outP_lt (x : Fp) : (outP x).val < pN := by rw [outP_val]; exact x.isLt
theorem in_out (x : Fp) : inP (outP x) = x := by
  apply Fin.ext
  rw [inP_val, outP_val]
  exact Nat.mod_eq_of_lt x.isLt
theorem mulP_out (x y : Fp) : mulP (outP x) (outP y) = outP (x * y) := by
  apply Fin.ext
  rw [mulP_val, outP_val, outP_val, outP_val]
  exact fin_mul_val x y
theorem addP_out (x y : Fp) : cleanP (outP x + outP y) = outP (x + y) := by
  apply Fin.ext
  rw [clean_add6 (outP_lt x) (outP_lt y), outP_val, outP_val, outP_val]
  exact fin_add_val x y
theorem negU_out (x : Fp) : negU (outP x) = outP (0 - x) := by
  apply Fin.ext
  rw [negU_val, outP_val, outP_val]
  exact fin_neg_val x
theorem subP_out (x y : Fp) : subP (outP x) (outP y) = outP (x - y) := by
  unfold subP
  rw [negU_out, addP_out]
  congr 1
  exact add_neg_g x y
theorem outP_inj {x y : Fp} (h : outP x = outP y) : x = y := by rw [← in_out x, h, in_out]
theorem four_out : (Fin.ofNat B6 4 : U6) = outP fp4 := by
  apply Fin.ext
  rw [outP_val]
  show 4 % B6 = 4 % pN
  rw [Nat.mod_eq_of_lt (by decide), Nat.mod_eq_of_lt (by decide)]

theorem ref_eq (X Y : Fp) : decide (Y * Y = X * X * X + fp4) = decide (mulP (outP Y) (outP Y) = cleanP (mulP (outP X) (mulP (outP X) (outP X)) + Fin.ofNat B6 4)) := by
  rw [mulP_out, mulP_out, mulP_out, four_out, addP_out, mul_assoc_g]
  by_cases h : Y * Y = X * (X * X) + fp4
  · rw [decide_eq_true h, h, decide_eq_true rfl]
  · rw [decide_eq_false h, decide_eq_false (fun k => h (outP_inj k))]
theorem refRight_fnd (x y : U6) (i : Bool) : FnD Try.prog 20 [.v (.a [.ob (.fp x), .ob (.fp y), .bool i])] (.v (.c (.bool (onG ⟨x, y, i⟩)))) [] := by
  cases i with
  | true =>
    have r := rrA x y true
    rw [if_pos rfl] at r
    have e : onG ⟨x, y, true⟩ = ((decide (x = 0)) && ((decide (y = 0)) && (true == true))) := by
      show (decide (x = 0) && decide (y = 0)) = _
      simp
    rw [e]
    exact fn_sound qsG_ok Try.func20 r ⟨rfl, trivial⟩
  | false =>
    have ef : onG ⟨x, y, false⟩ = (decide (cleanP x = x) && (decide (cleanP y = y) && decide (inP y * inP y = inP x * inP x * inP x + fp4))) := by
      show (decide (outP (inP x) = x) && (decide (outP (inP y) = y) && decide (inP y * inP y = inP x * inP x * inP x + fp4))) = _
      rw [out_in, out_in]
    rw [ef]
    clear ef
    by_cases h1 : cleanP x = x
    · by_cases h2 : cleanP y = y
      · have r := rrD x y false
        rw [if_neg (by decide), if_neg (by decide), if_pos rfl] at r
        have e : (decide (cleanP x = x) && (decide (cleanP y = y) && decide (inP y * inP y = inP x * inP x * inP x + fp4))) = decide (mulP y y = cleanP (mulP x (mulP x x) + Fin.ofNat B6 4)) := by
          rw [decide_eq_true h1, decide_eq_true h2, Bool.true_and, Bool.true_and]
          have hx : outP (inP x) = x := by rw [out_in, h1]
          have hy : outP (inP y) = y := by rw [out_in, h2]
          have k := ref_eq (inP x) (inP y)
          rw [hx, hy] at k
          exact k
        rw [e]
        have hx := clean_lt h1
        have hy := clean_lt h2
        have hm : (mulP x x).val < pN := by rw [mulP_val]; exact Nat.mod_lt _ (by decide)
        exact fn_sound qsG_ok Try.func20 r ⟨rfl, by rw [decide_eq_true h1]; rfl, by rw [decide_eq_true h2]; rfl, hx, hx, hx, hm, hy, hy, by decide, by decide, by decide, by decide, by decide, by decide, by decide, by decide, by decide, by decide, by decide, by decide, trivial⟩
      · have r := rrC x y false
        rw [if_neg (by decide), if_neg (by decide)] at r
        rw [decide_eq_false h2, Bool.false_and, Bool.and_false]
        exact (fn_sound qsG_ok Try.func20 r ⟨rfl, by rw [decide_eq_true h1]; rfl, by rw [decide_eq_false h2]; rfl, trivial⟩).conv (fun _ _ h => h) fun y v hd => lit_bool rfl hd
    · have r := rrB x y false
      rw [if_neg (by decide)] at r
      rw [decide_eq_false h1, Bool.false_and]
      exact (fn_sound qsG_ok Try.func20 r ⟨rfl, by rw [decide_eq_false h1]; rfl, trivial⟩).conv (fun _ _ h => h) fun y v hd => lit_bool rfl hd
theorem gen_fnd : FnD Try.prog 62 [] (.v (.a genG.its)) [] :=
  (fn_sound qsG_ok Try.func62 geR (by simp [AllP])).conv (fun _ _ h => h) fun y v hd => lit_third hd
theorem some_fnd (n : Int) (h : n = 0) : FnD Try.prog 63 [.v (.c (.int .i64 n))] (.v (.a genG.its)) [] := by
  subst h
  exact (fn_sound qsG_ok Try.func63 rsR (by simp [AllP])).conv (fun _ _ h => h) fun y v hd => lit_third hd
theorem zero_fnd : FnD Try.prog 25 [] (.v (.a (G1D.mk 0 0 true).its)) [] :=
  (fn_sound qsG_ok Try.func25 zeR (by simp [AllP])).conv (fun _ _ h => h) fun y v hd => lit_third hd
end Go.Proofs.Ytkfcphigoncgjaa

/- Points of the first curve outside, and the reference's: sums, walked. No conditions. -/
namespace Go.Proofs.Ytkfcphigoncgjaa

def rightSpec1 : FnSpec
  | [.v (.a [.ob (.fp x), .ob (.fp y), .bool i])] => some ([], .v (.c (.bool (onG ⟨x, y, i⟩))), [])
  | _ => none
noncomputable def qtA : Env := qsG.set (addT qsG.fn 46 rightSpec1)
theorem qtA_ok : EnvOk Try.prog qtA := env_add qsG_ok 46 rightSpec1 (enters_of Try.func46 rfl rfl) fun args o r es h _ => by
  unfold rightSpec1 at h
  split at h
  · cases h; exact fn_sound qsG_ok Try.func46 (riR _ _ _) trivial
  · cases h
def refRightSpec1 : FnSpec
  | [.v (.a [.ob (.fp x), .ob (.fp y), .bool i])] => some ([], .v (.c (.bool (onG ⟨x, y, i⟩))), [])
  | _ => none
noncomputable def qtB : Env := qtA.set (addT qtA.fn 20 refRightSpec1)
theorem qtB_ok : EnvOk Try.prog qtB := env_add qtA_ok 20 refRightSpec1 (enters_of Try.func20 rfl rfl) fun args o r es h _ => by
  unfold refRightSpec1 at h
  split at h
  · cases h; exact refRight_fnd _ _ _
  · cases h
def genSpec1 : FnSpec
  | [] => some ([], .v (.a genG.its), [])
  | _ => none
noncomputable def qtC : Env := qtB.set (addT qtB.fn 62 genSpec1)
theorem qtC_ok : EnvOk Try.prog qtC := env_add qtB_ok 62 genSpec1 (enters_of Try.func62 rfl rfl) fun args o r es h _ => by
  unfold genSpec1 at h
  split at h
  · cases h; exact gen_fnd
  · cases h
def someSpec1 : FnSpec
  | [.v (.c (.int .i64 n))] => some ([n = 0], .v (.a genG.its), [])
  | _ => none
noncomputable def qtD : Env := qtC.set (addT qtC.fn 63 someSpec1)
theorem qtD_ok : EnvOk Try.prog qtD := env_add qtC_ok 63 someSpec1 (enters_of Try.func63 rfl rfl) fun args o r es h ho => by
  unfold someSpec1 at h
  split at h
  · cases h; exact some_fnd _ ho.1
  · cases h
def zeroSpec1 : FnSpec
  | [] => some ([], .v (.a (G1D.mk 0 0 true).its), [])
  | _ => none
noncomputable def qtE : Env := qtD.set (addT qtD.fn 25 zeroSpec1)
theorem qtE_ok : EnvOk Try.prog qtE := env_add qtD_ok 25 zeroSpec1 (enters_of Try.func25 rfl rfl) fun args o r es h _ => by
  unfold zeroSpec1 at h
  split at h
  · cases h; exact zero_fnd
  · cases h
def refNegSpec1 : FnSpec
  | [.v (.a [.ob (.fp x), .ob (.fp y), .bool i])] => some ([y.val < pN], .v (.a [.ob (.fp x), .ob (.fp (negU y)), .bool i]), [])
  | _ => none
noncomputable def qtF : Env := qtE.set (addT qtE.fn 21 refNegSpec1)
theorem qtF_ok : EnvOk Try.prog qtF := env_add qtE_ok 21 refNegSpec1 (enters_of Try.func21 rfl rfl) fun args o r es h ho => by
  unfold refNegSpec1 at h
  split at h
  · cases h; exact fn_sound qsG_ok Try.func21 (rnR _ _ _) ⟨ho.1, trivial⟩
  · cases h
def threeSpec1 : FnSpec
  | [.v (.a [.ob (.fp x)])] => some ([], .v (.a [.ob (.fp (cleanP (x + cleanP (x + x))))]), [])
  | _ => none
noncomputable def qtG : Env := qtF.set (addT qtF.fn 65 threeSpec1)
theorem qtG_ok : EnvOk Try.prog qtG := env_add qtF_ok 65 threeSpec1 (enters_of Try.func65 rfl rfl) fun args o r es h _ => by
  unfold threeSpec1 at h
  split at h
  · cases h; exact fn_sound qsG_ok Try.func65 (r3R _) trivial
  · cases h
--@env qtG qtG_ok
theorem adA (a b c d : U6) (i j : Bool) : fnRes qtG Try.f18 3000 [.v (.a [.ob (.fp a), .ob (.fp b), .bool i]), .v (.a [.ob (.fp c), .ob (.fp d), .bool j])] [true, true] [] [] = (Option.some ([((Bool.not (onG (G1D.mk a b i))) = true)], ((SV.t [(V1.a [(It.ob (Ob.fp (0 : U6))), (It.ob (Ob.fp (0 : U6))), (It.lit false)]), (V1.c (It.int IntKind.i64 (30 : Int)))]), []))) := by kernel_rfl
theorem adB (a b c d : U6) (i j : Bool) : fnRes qtG Try.f18 3000 [.v (.a [.ob (.fp a), .ob (.fp b), .bool i]), .v (.a [.ob (.fp c), .ob (.fp d), .bool j])] [false, true] [] [] = (Option.some ([((Bool.not (onG (G1D.mk a b i))) = false), ((Bool.not (onG (G1D.mk c d j))) = true)], ((SV.t [(V1.a [(It.ob (Ob.fp (0 : U6))), (It.ob (Ob.fp (0 : U6))), (It.lit false)]), (V1.c (It.int IntKind.i64 (30 : Int)))]), []))) := by kernel_rfl
theorem adC (a b c d : U6) (i j : Bool) : fnRes qtG Try.f18 3000 [.v (.a [.ob (.fp a), .ob (.fp b), .bool i]), .v (.a [.ob (.fp c), .ob (.fp d), .bool j])] [false, false] [] [] = (Option.some ([((Bool.not (onG (G1D.mk a b i))) = false), ((Bool.not (onG (G1D.mk c d j))) = false)], ((SV.t [(V1.a [(It.ob (Ob.fp (G1D.x (outG (jpl (inG (G1D.mk a b i)) (inG (G1D.mk c d j))))))), (It.ob (Ob.fp (G1D.y (outG (jpl (inG (G1D.mk a b i)) (inG (G1D.mk c d j))))))), (It.bool (G1D.inf (outG (jpl (inG (G1D.mk a b i)) (inG (G1D.mk c d j))))))]), (V1.c (It.int IntKind.i64 (0 : Int)))]), []))) := by kernel_rfl
theorem neA (a b : U6) (i : Bool) : fnRes qtG Try.f19 3000 [.v (.a [.ob (.fp a), .ob (.fp b), .bool i])] [true] [] [] = (Option.some ([((Bool.not (onG (G1D.mk a b i))) = true)], ((SV.t [(V1.a [(It.ob (Ob.fp (0 : U6))), (It.ob (Ob.fp (0 : U6))), (It.lit false)]), (V1.c (It.int IntKind.i64 (30 : Int)))]), []))) := by kernel_rfl
theorem neB (a b : U6) (i : Bool) : fnRes qtG Try.f19 3000 [.v (.a [.ob (.fp a), .ob (.fp b), .bool i])] [false] [] [] = (Option.some ([((Bool.not (onG (G1D.mk a b i))) = false)], ((SV.t [(V1.a [(It.ob (Ob.fp (G1D.x (outG (jng (inG (G1D.mk a b i))))))), (It.ob (Ob.fp (G1D.y (outG (jng (inG (G1D.mk a b i))))))), (It.bool (G1D.inf (outG (jng (inG (G1D.mk a b i))))))]), (V1.c (It.int IntKind.i64 (0 : Int)))]), []))) := by kernel_rfl
theorem alR  : fnRes qtG Try.f22 3000 [] [true] [] [] = (Option.some ([((0 : Int) = (0 : Int)), ((ite (true = true) (Bool.and (decide ((G1D.x genG) = (G1D.x genG))) (Bool.and (decide ((G1D.y genG) = (G1D.y genG))) ((G1D.inf genG) == (G1D.inf genG)))) (Bool.not (Bool.and (decide ((G1D.x genG) = (G1D.x genG))) (Bool.and (decide ((G1D.y genG) = (G1D.y genG))) ((G1D.inf genG) == (G1D.inf genG)))))) = true)], ((SV.v (V1.c (It.bool (ite (true = true) (Bool.and (decide ((G1D.x (G1D.mk (0 : U6) (0 : U6) true)) = (0 : U6))) (Bool.and (decide ((G1D.y (G1D.mk (0 : U6) (0 : U6) true)) = (0 : U6))) ((G1D.inf (G1D.mk (0 : U6) (0 : U6) true)) == true))) (Bool.not (Bool.and (decide ((G1D.x (G1D.mk (0 : U6) (0 : U6) true)) = (0 : U6))) (Bool.and (decide ((G1D.y (G1D.mk (0 : U6) (0 : U6) true)) = (0 : U6))) ((G1D.inf (G1D.mk (0 : U6) (0 : U6) true)) == true)))))))), []))) := by kernel_rfl
theorem chR (a b c d e f g h : U6) (i j k : Bool) : fnRes qtG Try.f64 3000 [.v (.a [.ob (.fp a), .ob (.fp b), .bool i]), .v (.a [.ob (.fp c), .ob (.fp d), .bool j]), .v (.a [.ob (.fp e), .ob (.fp f), .bool k]), .v (.a [.ob (.fp g)]), .v (.a [.ob (.fp h)])] [false] [] [] = (Option.some ([((Fin.val g) < pN), ((Fin.val g) < pN), ((Fin.val (cleanP (e + (cleanP (a + c))))) < pN), ((Fin.val (mulP g g)) < pN), ((Fin.val h) < pN), ((Fin.val h) < pN), ((ite (false = true) (decide ((mulP (cleanP (e + (cleanP (a + c)))) (mulP g g)) = (mulP h h))) (Bool.not (decide ((mulP (cleanP (e + (cleanP (a + c)))) (mulP g g)) = (mulP h h))))) = false), ((Fin.val (cleanP (f + b))) < pN), ((Fin.val g) < pN), ((Fin.val e) < pN), ((Fin.val h) < pN), ((Fin.val (subP a e)) < pN)], ((SV.v (V1.c (It.bool (ite (true = true) (decide ((mulP (cleanP (f + b)) g) = (mulP h (subP a e)))) (Bool.not (decide ((mulP (cleanP (f + b)) g) = (mulP h (subP a e))))))))), []))) := by kernel_rfl
end Go.Proofs.Ytkfcphigoncgjaa

/- Sums and negatives of points of the first curve outside: contracts. No conditions. -/
namespace Go.Proofs.Ytkfcphigoncgjaa

def addG (a b : G1D) : G1D := outG (jpl (inG a) (inG b))
def negG (a : G1D) : G1D := outG (jng (inG a))
/-- What Add and Neg tell. -/
def adR (a b : G1D) : G1D × Int := if onG a && onG b then (addG a b, 0) else (g10, 30)
def neR (a : G1D) : G1D × Int := if onG a then (negG a, 0) else (g10, 30)

theorem lit_third_t {x : Ctx} {i j k : It} {b : Bool} {v : Value} (h : denS x (.t [.a [i, j, .lit b], .c k]) v) : denS x (.t [.a [i, j, .bool b], .c k]) v := by
  obtain ⟨vs, e, h1⟩ := h
  cases h1 with | cons d1 ds =>
  exact ⟨_, e, .cons (lit_third d1) ds⟩

theorem add_fnd1 (a b c d : U6) (i j : Bool) : FnD Try.prog 18 [.v (.a [.ob (.fp a), .ob (.fp b), .bool i]), .v (.a [.ob (.fp c), .ob (.fp d), .bool j])] (.t [.a (adR ⟨a, b, i⟩ ⟨c, d, j⟩).1.its, .c (.int .i64 (adR ⟨a, b, i⟩ ⟨c, d, j⟩).2)]) [] := by
  by_cases h1 : onG ⟨a, b, i⟩ = true
  · by_cases h2 : onG ⟨c, d, j⟩ = true
    · have e : adR ⟨a, b, i⟩ ⟨c, d, j⟩ = (addG ⟨a, b, i⟩ ⟨c, d, j⟩, 0) := by unfold adR; rw [h1, h2]; rfl
      rw [e]
      exact fn_sound qtG_ok Try.func18 (adC a b c d i j) ⟨by rw [h1]; rfl, by rw [h2]; rfl, trivial⟩
    · have h2 : onG ⟨c, d, j⟩ = false := Bool.eq_false_iff.2 h2
      have e : adR ⟨a, b, i⟩ ⟨c, d, j⟩ = (g10, 30) := by unfold adR; rw [h1, h2]; rfl
      rw [e]
      exact (fn_sound qtG_ok Try.func18 (adB a b c d i j) ⟨by rw [h1]; rfl, by rw [h2]; rfl, trivial⟩).conv (fun _ _ h => h) fun y v hd => lit_third_t hd
  · have h1 : onG ⟨a, b, i⟩ = false := Bool.eq_false_iff.2 h1
    have e : adR ⟨a, b, i⟩ ⟨c, d, j⟩ = (g10, 30) := by unfold adR; rw [h1]; rfl
    rw [e]
    exact (fn_sound qtG_ok Try.func18 (adA a b c d i j) ⟨by rw [h1]; rfl, trivial⟩).conv (fun _ _ h => h) fun y v hd => lit_third_t hd

theorem neg_fnd1 (a b : U6) (i : Bool) : FnD Try.prog 19 [.v (.a [.ob (.fp a), .ob (.fp b), .bool i])] (.t [.a (neR ⟨a, b, i⟩).1.its, .c (.int .i64 (neR ⟨a, b, i⟩).2)]) [] := by
  by_cases h1 : onG ⟨a, b, i⟩ = true
  · have e : neR ⟨a, b, i⟩ = (negG ⟨a, b, i⟩, 0) := by unfold neR; rw [h1]; rfl
    rw [e]
    exact fn_sound qtG_ok Try.func19 (neB a b i) ⟨by rw [h1]; rfl, trivial⟩
  · have h1 : onG ⟨a, b, i⟩ = false := Bool.eq_false_iff.2 h1
    have e : neR ⟨a, b, i⟩ = (g10, 30) := by unfold neR; rw [h1]; rfl
    rw [e]
    exact (fn_sound qtG_ok Try.func19 (neA a b i) ⟨by rw [h1]; rfl, trivial⟩).conv (fun _ _ h => h) fun y v hd => lit_third_t hd

theorem alive_fnd1 : FnD Try.prog 22 [] (.v (.c (.bool true))) [] := by
  have r := alR
  rw [if_pos rfl, if_pos rfl] at r
  refine (fn_sound qtG_ok Try.func22 r ⟨rfl, by simp, trivial⟩).conv (fun _ _ h => h) fun y v hd => ?_
  have e : (decide ((G1D.x (G1D.mk (0 : U6) (0 : U6) true)) = (0 : U6)) && (decide ((G1D.y (G1D.mk (0 : U6) (0 : U6) true)) = (0 : U6)) && ((G1D.inf (G1D.mk (0 : U6) (0 : U6) true)) == true))) = true := by simp
  rw [e] at hd
  exact hd

/-- The third point of a line that goes up by h at g, as the document says. -/
def chP (a b c e f g h : U6) : Bool := decide (mulP (cleanP (e + cleanP (a + c))) (mulP g g) = mulP h h) && decide (mulP (cleanP (f + b)) g = mulP h (subP a e))
theorem chord_fnd1 (a b c d e f g h : U6) (i j k : Bool) (hg : g.val < pN) (hh : h.val < pN) (he : e.val < pN) (hc : chP a b c e f g h = true) :
    FnD Try.prog 64 [.v (.a [.ob (.fp a), .ob (.fp b), .bool i]), .v (.a [.ob (.fp c), .ob (.fp d), .bool j]), .v (.a [.ob (.fp e), .ob (.fp f), .bool k]), .v (.a [.ob (.fp g)]), .v (.a [.ob (.fp h)])] (.v (.c (.bool true))) [] := by
  unfold chP at hc
  rw [Bool.and_eq_true] at hc
  have r := chR a b c d e f g h i j k
  rw [if_neg (by decide), if_pos rfl, hc.1, hc.2] at r
  have hcl : ∀ x : U6, (cleanP x).val < pN := fun x => by rw [cleanP_val]; exact Nat.mod_lt _ (by decide)
  have hml : ∀ x y : U6, (mulP x y).val < pN := fun x y => by rw [mulP_val]; exact Nat.mod_lt _ (by decide)
  exact fn_sound qtG_ok Try.func64 r ⟨hg, hg, hcl _, hml _ _, hh, hh, rfl, hcl _, hg, he, hh, hcl _, trivial⟩

end Go.Proofs.Ytkfcphigoncgjaa

/- The first curve is a group: points inside and outside; the plain law. No conditions. -/
namespace Go.Proofs.Ytkfcphigoncgjaa

section
variable {r : Nat} [NeZero r]
theorem mul6_g (a b c d e f : Fin r) : a * b * c * (d * e * f) = a * d * (b * e) * (c * f) := by grind
theorem pw_cube (x : Fin r) : ∀ n, pw (x * x * x) n = pw x n * pw x n * pw x n
  | 0 => by show (1 : Fin r) = 1 * 1 * 1; grind
  | n + 1 => by
    show pw (x * x * x) n * (x * x * x) = pw x n * x * (pw x n * x) * (pw x n * x)
    rw [pw_cube x n]
    grind
theorem pw_three (x : Fin r) (n : Nat) : pw (x * x * x) n = pw x (n + n + n) := by
  rw [pw_add_g, pw_add_g, pw_cube]
theorem neg_of_sum {a b : Fin r} (h : a + b = 0) : a = 0 - b := by grind
theorem zero_cube (b : Fin r) : (0 : Fin r) * 0 * 0 + b = b := by grind
end

theorem one_ne_p : (1 : Fp) ≠ 0 := by decide +kernel
theorem two_ne_p : (1 : Fp) + 1 ≠ 0 := by decide +kernel
theorem fp1_one : fp1 = 1 := by decide +kernel
theorem fp4_ne : fp4 ≠ 0 := by decide +kernel
theorem neg4 : (0 : Fp) - fp4 = Fin.ofNat pN (pN - 4) := by decide +kernel
theorem thirds : pN - 1 = (pN - 1) / 3 + (pN - 1) / 3 + (pN - 1) / 3 := by decide +kernel
theorem neg4_val : (Fin.ofNat pN (pN - 4)).val = pN - 4 := by decide +kernel
theorem neg4_pow : mpow pN (pN - 4) 384 ((pN - 1) / 3) ≠ 1 := by decide +kernel
theorem third_lt : (pN - 1) / 3 < 2 ^ 384 := by decide +kernel
theorem one_val_p : ((1 : Fp) : Nat) = 1 := by decide +kernel

theorem cube_ne (c : Fp) (hc : pw c ((pN - 1) / 3) ≠ 1) (h0 : c ≠ 0) (x : Fp) : x * x * x ≠ c := by
  intro h
  by_cases hx : x = 0
  · apply h0
    rw [← h, hx]
    exact mul_zero6
  · apply hc
    rw [← h, pw_three, ← thirds]
    exact fermat_p x hx
where mul_zero6 : (0 : Fp) * 0 * 0 = 0 := by decide +kernel

theorem no2_p (x : Fp) : x * x * x + fp4 ≠ 0 := by
  intro h
  have h := neg_of_sum h
  rw [neg4] at h
  refine cube_ne _ (fun e => ?_) (fun e => ?_) x h
  · have := congrArg Fin.val e
    rw [pw_mpow _ 384 _ third_lt, neg4_val, one_val_p] at this
    exact neg4_pow this
  · have := congrArg Fin.val e
    rw [neg4_val] at this
    revert this
    decide +kernel

instance fldP : Fld Fp :=
  { (inferInstance : Lean.Grind.CommRing (Fin pN)) with
    inv := ivP
    mul_inv := ivP_mul
    one_ne := one_ne_p }

theorem cv1 : Cv fp4 := ⟨two_ne_p, no2_p⟩

/-- A point outside, as a point; and back. -/
def pG (a : G1D) : Pt Fp := if a.inf then none else some (inP a.x, inP a.y)
def gP : Pt Fp → G1D
  | none => ⟨0, 0, true⟩
  | some p => ⟨outP p.1, outP p.2, false⟩

theorem pG_gP : ∀ P : Pt Fp, pG (gP P) = P
  | none => rfl
  | some p => by
    show some (inP (outP p.1), inP (outP p.2)) = some p
    rw [in_out, in_out]

theorem onG_is {a : G1D} (h : onG a = true) : gP (pG a) = a ∧ OnC fp4 (pG a) := by
  obtain ⟨x, y, i⟩ := a
  cases i with
  | true =>
    have h : (decide (x = 0) && decide (y = 0)) = true := h
    rw [Bool.and_eq_true, decide_eq_true_eq, decide_eq_true_eq] at h
    obtain ⟨rfl, rfl⟩ := h
    exact ⟨rfl, True.intro⟩
  | false =>
    have h : (decide (outP (inP x) = x) && (decide (outP (inP y) = y) && decide (inP y * inP y = inP x * inP x * inP x + fp4))) = true := h
    rw [Bool.and_eq_true, Bool.and_eq_true, decide_eq_true_eq, decide_eq_true_eq, decide_eq_true_eq] at h
    obtain ⟨h1, h2, h3⟩ := h
    refine ⟨?_, h3⟩
    show (⟨outP (inP x), outP (inP y), false⟩ : G1D) = ⟨x, y, false⟩
    rw [h1, h2]

theorem onG_gP : ∀ {P : Pt Fp}, OnC fp4 P → onG (gP P) = true
  | none, _ => by
    show (decide ((0 : U6) = 0) && decide ((0 : U6) = 0)) = true
    rw [decide_eq_true rfl]; rfl
  | some p, h => by
    have h : p.2 * p.2 = p.1 * p.1 * p.1 + fp4 := h
    show (decide (outP (inP (outP p.1)) = outP p.1) && (decide (outP (inP (outP p.2)) = outP p.2) && decide (inP (outP p.2) * inP (outP p.2) = inP (outP p.1) * inP (outP p.1) * inP (outP p.1) + fp4))) = true
    rw [in_out, in_out, decide_eq_true rfl, decide_eq_true rfl, decide_eq_true h]
    rfl

theorem one_sq : (1 : Fp) * 1 = 1 := by decide +kernel
theorem inG_jc (a : G1D) : Jc (pG a) (inG a) := by
  obtain ⟨x, y, i⟩ := a
  cases i with
  | true => exact (rfl : (0 : Fp) = 0)
  | false =>
    show Jc (some (inP x, inP y)) (inP x, inP y, fp1)
    rw [fp1_one]
    refine ⟨one_ne_p, ?_, ?_⟩
    · show inP x = inP x * (1 * 1)
      rw [one_sq]
      exact (mul_one_g _).symm
    · show inP y = inP y * (1 * 1 * 1)
      rw [one_sq, one_sq]
      exact (mul_one_g _).symm

theorem outG_jc {P : Pt Fp} {t : Fp × Fp × Fp} (h : Jc P t) : outG t = gP P := by
  rw [← jpt_of P t h]
  unfold outG jpt
  by_cases hz : t.2.2 = 0
  · rw [if_pos hz, if_pos hz]; rfl
  · rw [if_neg hz, if_neg hz]; rfl

theorem addG_is (a b : G1D) : addG a b = gP (gadd (pG a) (pG b)) := outG_jc (jpl_ok two_ne_p _ _ _ _ (inG_jc a) (inG_jc b))
theorem negG_is (a : G1D) : negG a = gP (gneg (pG a)) := outG_jc (jng_ok _ _ (inG_jc a))

theorem pG_add (a b : G1D) : pG (addG a b) = gadd (pG a) (pG b) := by rw [addG_is, pG_gP]
theorem pG_neg (a : G1D) : pG (negG a) = gneg (pG a) := by rw [negG_is, pG_gP]
theorem on_add {a b : G1D} (ha : onG a = true) (hb : onG b = true) : onG (addG a b) = true := by
  rw [addG_is]
  exact onG_gP (gadd_on cv1 _ _ (onG_is ha).2 (onG_is hb).2)
theorem on_neg {a : G1D} (ha : onG a = true) : onG (negG a) = true := by
  rw [negG_is]
  exact onG_gP (gneg_on _ (onG_is ha).2)
theorem addG_comm {a b : G1D} (ha : onG a = true) (hb : onG b = true) : addG a b = addG b a := by
  rw [addG_is, addG_is, gadd_comm cv1 _ _ (onG_is ha).2 (onG_is hb).2]
theorem addG_assoc {a b c : G1D} (ha : onG a = true) (hb : onG b = true) (hc : onG c = true) : addG (addG a b) c = addG a (addG b c) := by
  rw [addG_is (addG a b), pG_add, addG_is a (addG b c), pG_add, gadd_assoc cv1 _ _ _ (onG_is ha).2 (onG_is hb).2 (onG_is hc).2]
theorem addG_zero {a : G1D} (ha : onG a = true) : addG a ⟨0, 0, true⟩ = a := by
  rw [addG_is]
  show gP (gadd (pG a) none) = a
  rw [gadd_none, (onG_is ha).1]
theorem addG_neg {a : G1D} (ha : onG a = true) : addG a (negG a) = ⟨0, 0, true⟩ := by
  rw [addG_is, pG_neg, gadd_gneg cv1 _ (onG_is ha).2]
  rfl
theorem on_zero : onG ⟨0, 0, true⟩ = true := onG_gP (P := none) True.intro

section
variable {F : Type} [Fld F]
theorem line1 (e d x1 x2 y1 : F) (hd : d ≠ 0) : ((thr e d x1 x2 y1).1 + (x1 + x2)) * (d * d) = e * e := by
  have h := thr1 e d x1 x2 y1 hd
  unfold nX at h
  grind
theorem line2 (e d x1 x2 y1 : F) (hd : d ≠ 0) : ((thr e d x1 x2 y1).2 + y1) * d = e * (x1 - (thr e d x1 x2 y1).1) := by
  have h := Fld.mul_inv d hd
  unfold thr
  dsimp only
  grind
theorem opp_y {y1 y2 : F} (h : y1 * y1 = y2 * y2) (hn : ¬ y1 = 0 - y2) : y1 = y2 ∧ y1 ≠ 0 := by
  have h0 : y1 = y2 := by
    by_cases e : y1 = y2
    · exact e
    · have hd : y1 - y2 ≠ 0 := fun h => e (by grind)
      exfalso
      apply hn
      have : y1 + y2 = 0 := fcan hd (by grind)
      grind
  refine ⟨h0, fun e => hn ?_⟩
  rw [← h0, e]
  grind
theorem opp_none {y : F} (two : (1 : F) + 1 ≠ 0) (h : y = 0 - y) : y = 0 := fcan two (by grind)
end

theorem chP_out (x1 y1 x2 x3 y3 d e : Fp) (h1 : (x3 + (x1 + x2)) * (d * d) = e * e) (h2 : (y3 + y1) * d = e * (x1 - x3)) :
    chP (outP x1) (outP y1) (outP x2) (outP x3) (outP y3) (outP d) (outP e) = true := by
  unfold chP
  rw [addP_out, addP_out, mulP_out, mulP_out, mulP_out, h1, addP_out, mulP_out, h2, subP_out, mulP_out]
  simp
end Go.Proofs.Ytkfcphigoncgjaa

/- The reference's Sum, walked. No conditions. -/
namespace Go.Proofs.Ytkfcphigoncgjaa

def addSpec1 : FnSpec
  | [.v (.a [.ob (.fp a), .ob (.fp b), .bool i]), .v (.a [.ob (.fp c), .ob (.fp d), .bool j])] => some ([], .t [.a (adR ⟨a, b, i⟩ ⟨c, d, j⟩).1.its, .c (.int .i64 (adR ⟨a, b, i⟩ ⟨c, d, j⟩).2)], [])
  | _ => none
noncomputable def qvA : Env := qtG.set (addT qtG.fn 18 addSpec1)
theorem qvA_ok : EnvOk Try.prog qvA := env_add qtG_ok 18 addSpec1 (enters_of Try.func18 rfl rfl) fun args o r es h _ => by
  unfold addSpec1 at h
  split at h
  · cases h; exact add_fnd1 _ _ _ _ _ _
  · cases h
def negSpec1 : FnSpec
  | [.v (.a [.ob (.fp a), .ob (.fp b), .bool i])] => some ([], .t [.a (neR ⟨a, b, i⟩).1.its, .c (.int .i64 (neR ⟨a, b, i⟩).2)], [])
  | _ => none
noncomputable def qvB : Env := qvA.set (addT qvA.fn 19 negSpec1)
theorem qvB_ok : EnvOk Try.prog qvB := env_add qvA_ok 19 negSpec1 (enters_of Try.func19 rfl rfl) fun args o r es h _ => by
  unfold negSpec1 at h
  split at h
  · cases h; exact neg_fnd1 _ _ _
  · cases h
def aliveSpec1 : FnSpec
  | [] => some ([], .v (.c (.bool true)), [])
  | _ => none
noncomputable def qvC : Env := qvB.set (addT qvB.fn 22 aliveSpec1)
theorem qvC_ok : EnvOk Try.prog qvC := env_add qvB_ok 22 aliveSpec1 (enters_of Try.func22 rfl rfl) fun args o r es h _ => by
  unfold aliveSpec1 at h
  split at h
  · cases h; exact alive_fnd1
  · cases h
def chordSpec1 : FnSpec
  | [.v (.a [.ob (.fp a), .ob (.fp b), .bool _]), .v (.a [.ob (.fp c), .ob (.fp _), .bool _]), .v (.a [.ob (.fp e), .ob (.fp f), .bool _]), .v (.a [.ob (.fp g)]), .v (.a [.ob (.fp h)])] => some ([g.val < pN, h.val < pN, e.val < pN, chP a b c e f g h = true], .v (.c (.bool true)), [])
  | _ => none
noncomputable def qvD : Env := qvC.set (addT qvC.fn 64 chordSpec1)
theorem qvD_ok : EnvOk Try.prog qvD := env_add qvC_ok 64 chordSpec1 (enters_of Try.func64 rfl rfl) fun args o r es h ho => by
  unfold chordSpec1 at h
  split at h
  · cases h; exact chord_fnd1 _ _ _ _ _ _ _ _ _ _ _ ho.1 ho.2.1 ho.2.2.1 ho.2.2.2.1
  · cases h
--@env qvD qvD_ok
theorem suA (a b c : G1D) : fnRes qvD Try.f23 3000 [.v (.a a.its), .v (.a b.its), .v (.a c.its)] [true] [] [] = (Option.some ([((G1D.inf a) = true)], ((SV.v (V1.c (It.bool (ite (true = true) (Bool.and (decide ((G1D.x c) = (G1D.x b))) (Bool.and (decide ((G1D.y c) = (G1D.y b))) ((G1D.inf c) == (G1D.inf b)))) (Bool.not (Bool.and (decide ((G1D.x c) = (G1D.x b))) (Bool.and (decide ((G1D.y c) = (G1D.y b))) ((G1D.inf c) == (G1D.inf b))))))))), []))) := by kernel_rfl
theorem suB (a b c : G1D) : fnRes qvD Try.f23 3000 [.v (.a a.its), .v (.a b.its), .v (.a c.its)] [false, true] [] [] = (Option.some ([((G1D.inf a) = false), ((G1D.inf b) = true)], ((SV.v (V1.c (It.bool (ite (true = true) (Bool.and (decide ((G1D.x c) = (G1D.x a))) (Bool.and (decide ((G1D.y c) = (G1D.y a))) ((G1D.inf c) == (G1D.inf a)))) (Bool.not (Bool.and (decide ((G1D.x c) = (G1D.x a))) (Bool.and (decide ((G1D.y c) = (G1D.y a))) ((G1D.inf c) == (G1D.inf a))))))))), []))) := by kernel_rfl
theorem suC (a b c : G1D) : fnRes qvD Try.f23 3000 [.v (.a a.its), .v (.a b.its), .v (.a c.its)] [false, false, true, true] [] [] = (Option.some ([((G1D.inf a) = false), ((G1D.inf b) = false), ((ite (true = true) (decide ((G1D.x a) = (G1D.x b))) (Bool.not (decide ((G1D.x a) = (G1D.x b))))) = true), ((Fin.val (G1D.y b)) < pN), ((ite (true = true) (decide ((G1D.y a) = (negU (G1D.y b)))) (Bool.not (decide ((G1D.y a) = (negU (G1D.y b)))))) = true)], ((SV.v (V1.c (It.bool (ite (true = true) (Bool.and (decide ((G1D.x c) = (0 : U6))) (Bool.and (decide ((G1D.y c) = (0 : U6))) ((G1D.inf c) == true))) (Bool.not (Bool.and (decide ((G1D.x c) = (0 : U6))) (Bool.and (decide ((G1D.y c) = (0 : U6))) ((G1D.inf c) == true)))))))), []))) := by kernel_rfl
theorem suD (a b c : G1D) : fnRes qvD Try.f23 3000 [.v (.a a.its), .v (.a b.its), .v (.a c.its)] [false, false, true, false, false, false, true] [] [] = (Option.some ([((G1D.inf a) = false), ((G1D.inf b) = false), ((ite (true = true) (decide ((G1D.x a) = (G1D.x b))) (Bool.not (decide ((G1D.x a) = (G1D.x b))))) = true), ((Fin.val (G1D.y b)) < pN), ((ite (true = true) (decide ((G1D.y a) = (negU (G1D.y b)))) (Bool.not (decide ((G1D.y a) = (negU (G1D.y b)))))) = false), ((Bool.not (onG c)) = false), ((G1D.inf c) = false), ((ite (true = true) (decide ((G1D.x a) = (G1D.x b))) (Bool.not (decide ((G1D.x a) = (G1D.x b))))) = true), ((Fin.val (G1D.x a)) < pN), ((Fin.val (G1D.x a)) < pN), ((Fin.val (cleanP ((G1D.y a) + (G1D.y a)))) < pN), ((Fin.val (cleanP ((mulP (G1D.x a) (G1D.x a)) + (cleanP ((mulP (G1D.x a) (G1D.x a)) + (mulP (G1D.x a) (G1D.x a))))))) < pN), ((Fin.val (G1D.x c)) < pN), ((chP (G1D.x a) (G1D.y a) (G1D.x a) (G1D.x c) (G1D.y c) (cleanP ((G1D.y a) + (G1D.y a))) (cleanP ((mulP (G1D.x a) (G1D.x a)) + (cleanP ((mulP (G1D.x a) (G1D.x a)) + (mulP (G1D.x a) (G1D.x a))))))) = true)], ((SV.v (V1.c (It.bool true))), []))) := by kernel_rfl
theorem suE (a b c : G1D) : fnRes qvD Try.f23 3000 [.v (.a a.its), .v (.a b.its), .v (.a c.its)] [false, false, false, false, false, false, false] [] [] = (Option.some ([((G1D.inf a) = false), ((G1D.inf b) = false), ((ite (true = true) (decide ((G1D.x a) = (G1D.x b))) (Bool.not (decide ((G1D.x a) = (G1D.x b))))) = false), ((Bool.not (onG c)) = false), ((G1D.inf c) = false), ((ite (true = true) (decide ((G1D.x a) = (G1D.x b))) (Bool.not (decide ((G1D.x a) = (G1D.x b))))) = false), ((Fin.val (G1D.x a)) < pN), ((Fin.val (G1D.y a)) < pN), ((Fin.val (subP (G1D.x b) (G1D.x a))) < pN), ((Fin.val (subP (G1D.y b) (G1D.y a))) < pN), ((Fin.val (G1D.x c)) < pN), ((chP (G1D.x a) (G1D.y a) (G1D.x b) (G1D.x c) (G1D.y c) (subP (G1D.x b) (G1D.x a)) (subP (G1D.y b) (G1D.y a))) = true)], ((SV.v (V1.c (It.bool true))), []))) := by kernel_rfl
end Go.Proofs.Ytkfcphigoncgjaa

/- The reference's Sum tells of the sum that it is one. No conditions. -/
namespace Go.Proofs.Ytkfcphigoncgjaa

theorem eq_bits {a b : G1D} (h : a = b) : (decide (a.x = b.x) && (decide (a.y = b.y) && (a.inf == b.inf))) = true := by
  subst h
  simp

theorem out_lts (x y : Fp) : (subP (outP x) (outP y)).val < pN := by rw [subP_out]; exact outP_lt _
theorem clean_lts (x : U6) : (cleanP x).val < pN := by rw [cleanP_val]; exact Nat.mod_lt _ (by decide)
theorem outP_eq {x y : Fp} : (outP x = outP y) = (x = y) := propext ⟨outP_inj, fun h => by rw [h]⟩

theorem three_out (x : Fp) : cleanP (outP x + cleanP (outP x + outP x)) = outP (thrice x) := by
  rw [addP_out, addP_out]
  congr 1
  exact three_g x
where three_g {r : Nat} [NeZero r] (x : Fin r) : x + (x + x) = x + x + x := by grind

theorem sub_zero_g {r : Nat} [NeZero r] {x y : Fin r} (h : y - x = 0) : x = y := by grind

theorem sum_fnd1 (a b c : G1D) (ha : onG a = true) (hb : onG b = true) (hc : c = addG a b) : FnD Try.prog 23 [.v (.a a.its), .v (.a b.its), .v (.a c.its)] (.v (.c (.bool true))) [] := by
  obtain ⟨ea, oa⟩ := onG_is ha
  obtain ⟨eb, ob⟩ := onG_is hb
  have hon := on_add ha hb
  rw [← hc] at hon
  rw [addG_is] at hc
  generalize pG a = P at *
  generalize pG b = Q at *
  subst ea eb
  cases P with
  | none =>
    have e : c = gP Q := hc
    have r := suA (gP none) (gP Q) c
    rw [if_pos rfl, eq_bits e] at r
    exact fn_sound qvD_ok Try.func23 r ⟨rfl, trivial⟩
  | some p =>
    cases Q with
    | none =>
      have e : c = gP (some p) := hc
      have r := suB (gP (some p)) (gP none) c
      rw [if_pos rfl, eq_bits e] at r
      exact fn_sound qvD_ok Try.func23 r ⟨rfl, rfl, trivial⟩
    | some q =>
      obtain ⟨x1, y1⟩ := p
      obtain ⟨x2, y2⟩ := q
      have oa : y1 * y1 = x1 * x1 * x1 + fp4 := oa
      have ob : y2 * y2 = x2 * x2 * x2 + fp4 := ob
      by_cases hx : x1 = x2
      · subst hx
        by_cases hy : y1 = 0 - y2
        · have e0 : gadd (some (x1, y1)) (some (x1, y2)) = none := by
            show (if x1 = x1 then if y1 = y2 ∧ y1 ≠ 0 then _ else none else _) = _
            rw [if_pos rfl, if_neg]
            intro h
            rw [← h.1] at hy
            exact h.2 (opp_none two_ne_p hy)
          rw [e0] at hc
          have r := suC (gP (some (x1, y1))) (gP (some (x1, y2))) c
          have e1 : (decide (c.x = 0) && (decide (c.y = 0) && (c.inf == true))) = true := eq_bits (b := ⟨0, 0, true⟩) hc
          rw [if_pos rfl, if_pos rfl, if_pos rfl, e1] at r
          refine fn_sound qvD_ok Try.func23 r ⟨rfl, rfl, decide_eq_true rfl, outP_lt _, ?_, trivial⟩
          show decide (outP y1 = negU (outP y2)) = true
          rw [negU_out, ← hy, decide_eq_true rfl]
        · obtain ⟨he, h0⟩ := opp_y (oa.trans ob.symm) hy
          have e0 : gadd (some (x1, y1)) (some (x1, y2)) = some (thr (thrice (x1 * x1)) (y1 + y1) x1 x1 y1) := by
            show (if x1 = x1 then if y1 = y2 ∧ y1 ≠ 0 then _ else none else _) = _
            rw [if_pos rfl, if_pos ⟨he, h0⟩]
          rw [e0] at hc
          have hd : y1 + y1 ≠ 0 := (twiceOn cv1 oa _ rfl).1
          have l1 := line1 (thrice (x1 * x1)) (y1 + y1) x1 x1 y1 hd
          have l2 := line2 (thrice (x1 * x1)) (y1 + y1) x1 x1 y1 hd
          generalize thr (thrice (x1 * x1)) (y1 + y1) x1 x1 y1 = R at hc l1 l2
          subst hc
          have r := suD (gP (some (x1, y1))) (gP (some (x1, y2))) (gP (some R))
          rw [if_pos rfl, if_pos rfl] at r
          have hch := chP_out x1 y1 x1 R.1 R.2 (y1 + y1) (thrice (x1 * x1)) l1 l2
          rw [← addP_out, ← three_out, ← mulP_out] at hch
          refine fn_sound qvD_ok Try.func23 r ⟨rfl, rfl, decide_eq_true rfl, outP_lt _, ?_, by rw [hon]; rfl, rfl, decide_eq_true rfl, outP_lt _, outP_lt _, clean_lts _, clean_lts _, outP_lt _, hch, trivial⟩
          show decide (outP y1 = negU (outP y2)) = false
          rw [negU_out]
          exact decide_eq_false fun h => hy (outP_inj h)
      · have e0 : gadd (some (x1, y1)) (some (x2, y2)) = some (thr (y2 - y1) (x2 - x1) x1 x2 y1) := by
          show (if x1 = x2 then if y1 = y2 ∧ y1 ≠ 0 then _ else none else _) = _
          rw [if_neg hx]
        rw [e0] at hc
        have hd : x2 - x1 ≠ 0 := fun e => hx (sub_zero_g e)
        have l1 := line1 (y2 - y1) (x2 - x1) x1 x2 y1 hd
        have l2 := line2 (y2 - y1) (x2 - x1) x1 x2 y1 hd
        generalize thr (y2 - y1) (x2 - x1) x1 x2 y1 = R at hc l1 l2
        subst hc
        have r := suE (gP (some (x1, y1))) (gP (some (x2, y2))) (gP (some R))
        rw [if_pos rfl] at r
        have hch := chP_out x1 y1 x2 R.1 R.2 (x2 - x1) (y2 - y1) l1 l2
        rw [← subP_out, ← subP_out] at hch
        have hne : decide (outP x1 = outP x2) = false := decide_eq_false fun h => hx (outP_inj h)
        exact fn_sound qvD_ok Try.func23 r ⟨rfl, rfl, hne, by rw [hon]; rfl, rfl, hne, outP_lt _, outP_lt _, out_lts _ _, out_lts _ _, outP_lt _, hch, trivial⟩

end Go.Proofs.Ytkfcphigoncgjaa

/- OneSums' and OneGroup's laws, walked. No conditions. -/
namespace Go.Proofs.Ytkfcphigoncgjaa

def sumSpec1 : FnSpec
  | [.v (.a [.ob (.fp a), .ob (.fp b), .bool i]), .v (.a [.ob (.fp c), .ob (.fp d), .bool j]), .v (.a [.ob (.fp e), .ob (.fp f), .bool k])] => some ([onG ⟨a, b, i⟩ = true, onG ⟨c, d, j⟩ = true, (⟨e, f, k⟩ : G1D) = addG ⟨a, b, i⟩ ⟨c, d, j⟩], .v (.c (.bool true)), [])
  | _ => none
noncomputable def qvE : Env := qvD.set (addT qvD.fn 23 sumSpec1)
theorem qvE_ok : EnvOk Try.prog qvE := env_add qvD_ok 23 sumSpec1 (enters_of Try.func23 rfl rfl) fun args o r es h ho => by
  unfold sumSpec1 at h
  split at h
  · cases h; exact sum_fnd1 ⟨_, _, _⟩ ⟨_, _, _⟩ ⟨_, _, _⟩ ho.1 ho.2.1 ho.2.2.1
  · cases h
--@env qvE qvE_ok
theorem osA (a b : G1D) : fnRes qvE Try.f3 3000 [.v (.a a.its), .v (.a b.its)] [true, false, false, false, false, false, false, true, true] [] [] = (Option.some ([((ite (false = true) ((onG a) == ((Prod.snd (neR a)) == (0 : Int))) (Bool.not ((onG a) == ((Prod.snd (neR a)) == (0 : Int))))) = false), ((onG a) = true), ((Fin.val (G1D.y a)) < pN), ((ite (false = true) (Bool.and (decide ((G1D.x (Prod.fst (neR a))) = (G1D.x a))) (Bool.and (decide ((G1D.y (Prod.fst (neR a))) = (negU (G1D.y a)))) ((G1D.inf (Prod.fst (neR a))) == (G1D.inf a)))) (Bool.not (Bool.and (decide ((G1D.x (Prod.fst (neR a))) = (G1D.x a))) (Bool.and (decide ((G1D.y (Prod.fst (neR a))) = (negU (G1D.y a)))) ((G1D.inf (Prod.fst (neR a))) == (G1D.inf a)))))) = false), ((Bool.not (onG a)) = false), ((Bool.not (onG a)) = false), ((Bool.not (onG b)) = false), (true = true), (((Prod.snd (adR a b)) == (0 : Int)) = true), ((onG a) = true), ((onG b) = true), ((Prod.fst (adR a b)) = (addG a b))], ((SV.v (V1.c (It.bool true))), []))) := by kernel_rfl
theorem osB (a b : G1D) : fnRes qvE Try.f3 3000 [.v (.a a.its), .v (.a b.its)] [true, false, false, false, false, false, true, true, true] [] [] = (Option.some ([((ite (false = true) ((onG a) == ((Prod.snd (neR a)) == (0 : Int))) (Bool.not ((onG a) == ((Prod.snd (neR a)) == (0 : Int))))) = false), ((onG a) = true), ((Fin.val (G1D.y a)) < pN), ((ite (false = true) (Bool.and (decide ((G1D.x (Prod.fst (neR a))) = (G1D.x a))) (Bool.and (decide ((G1D.y (Prod.fst (neR a))) = (negU (G1D.y a)))) ((G1D.inf (Prod.fst (neR a))) == (G1D.inf a)))) (Bool.not (Bool.and (decide ((G1D.x (Prod.fst (neR a))) = (G1D.x a))) (Bool.and (decide ((G1D.y (Prod.fst (neR a))) = (negU (G1D.y a)))) ((G1D.inf (Prod.fst (neR a))) == (G1D.inf a)))))) = false), ((Bool.not (onG a)) = false), ((Bool.not (onG a)) = false), ((Bool.not (onG b)) = true), (true = true), (((Prod.snd (adR a b)) == (30 : Int)) = true)], ((SV.v (V1.c (It.bool (ite (true = true) (Bool.and (decide ((G1D.x (Prod.fst (adR a b))) = (0 : U6))) (Bool.and (decide ((G1D.y (Prod.fst (adR a b))) = (0 : U6))) ((G1D.inf (Prod.fst (adR a b))) == false))) (Bool.not (Bool.and (decide ((G1D.x (Prod.fst (adR a b))) = (0 : U6))) (Bool.and (decide ((G1D.y (Prod.fst (adR a b))) = (0 : U6))) ((G1D.inf (Prod.fst (adR a b))) == false)))))))), []))) := by kernel_rfl
theorem osC (a b : G1D) : fnRes qvE Try.f3 3000 [.v (.a a.its), .v (.a b.its)] [false, false, false, true, false, false, true, true, true] [] [] = (Option.some ([((ite (false = true) ((onG a) == ((Prod.snd (neR a)) == (0 : Int))) (Bool.not ((onG a) == ((Prod.snd (neR a)) == (0 : Int))))) = false), ((onG a) = false), ((Bool.not (onG a)) = true), (((Prod.snd (neR a)) != (30 : Int)) = false), ((ite (false = true) (Bool.and (decide ((G1D.x (Prod.fst (neR a))) = (0 : U6))) (Bool.and (decide ((G1D.y (Prod.fst (neR a))) = (0 : U6))) ((G1D.inf (Prod.fst (neR a))) == false))) (Bool.not (Bool.and (decide ((G1D.x (Prod.fst (neR a))) = (0 : U6))) (Bool.and (decide ((G1D.y (Prod.fst (neR a))) = (0 : U6))) ((G1D.inf (Prod.fst (neR a))) == false))))) = false), ((Bool.not (onG a)) = true), (true = true), (((Prod.snd (adR a b)) == (30 : Int)) = true)], ((SV.v (V1.c (It.bool (ite (true = true) (Bool.and (decide ((G1D.x (Prod.fst (adR a b))) = (0 : U6))) (Bool.and (decide ((G1D.y (Prod.fst (adR a b))) = (0 : U6))) ((G1D.inf (Prod.fst (adR a b))) == false))) (Bool.not (Bool.and (decide ((G1D.x (Prod.fst (adR a b))) = (0 : U6))) (Bool.and (decide ((G1D.y (Prod.fst (adR a b))) = (0 : U6))) ((G1D.inf (Prod.fst (adR a b))) == false)))))))), []))) := by kernel_rfl
theorem aoR (a b c d : U6) (i j : Bool) : fnRes qvE Try.f24 3000 [.v (.a [.ob (.fp a), .ob (.fp b), .bool i]), .v (.a [.ob (.fp c), .ob (.fp d), .bool j])] [] [] [] = (Option.some ([], ((SV.v (V1.a [(It.ob (Ob.fp (G1D.x (Prod.fst (adR (G1D.mk a b i) (G1D.mk c d j)))))), (It.ob (Ob.fp (G1D.y (Prod.fst (adR (G1D.mk a b i) (G1D.mk c d j)))))), (It.bool (G1D.inf (Prod.fst (adR (G1D.mk a b i) (G1D.mk c d j)))))])), []))) := by kernel_rfl
def addoSpec1 : FnSpec
  | [.v (.a [.ob (.fp a), .ob (.fp b), .bool i]), .v (.a [.ob (.fp c), .ob (.fp d), .bool j])] => some ([], .v (.a (adR ⟨a, b, i⟩ ⟨c, d, j⟩).1.its), [])
  | _ => none
noncomputable def qvF : Env := qvE.set (addT qvE.fn 24 addoSpec1)
theorem qvF_ok : EnvOk Try.prog qvF := env_add qvE_ok 24 addoSpec1 (enters_of Try.func24 rfl rfl) fun args o r es h _ => by
  unfold addoSpec1 at h
  split at h
  · cases h; exact fn_sound qvE_ok Try.func24 (aoR _ _ _ _ _ _) trivial
  · cases h
--@env qvF qvF_ok
theorem oqA (a b c : G1D) : fnRes qvF Try.f4 3000 [.v (.a a.its), .v (.a b.its), .v (.a c.its)] [false, false, false, true, true, true, true, true, true, true] [] [] = (Option.some ([((Bool.not (onG a)) = false), ((Bool.not (onG b)) = false), ((Bool.not (onG c)) = false), (true = true), (((Prod.snd (neR a)) == (0 : Int)) = true), ((ite (true = true) (Bool.and (decide ((G1D.x (Prod.fst (adR a b))) = (G1D.x (Prod.fst (adR b a))))) (Bool.and (decide ((G1D.y (Prod.fst (adR a b))) = (G1D.y (Prod.fst (adR b a))))) ((G1D.inf (Prod.fst (adR a b))) == (G1D.inf (Prod.fst (adR b a)))))) (Bool.not (Bool.and (decide ((G1D.x (Prod.fst (adR a b))) = (G1D.x (Prod.fst (adR b a))))) (Bool.and (decide ((G1D.y (Prod.fst (adR a b))) = (G1D.y (Prod.fst (adR b a))))) ((G1D.inf (Prod.fst (adR a b))) == (G1D.inf (Prod.fst (adR b a)))))))) = true), ((ite (true = true) (Bool.and (decide ((G1D.x (Prod.fst (adR (Prod.fst (adR a b)) c))) = (G1D.x (Prod.fst (adR a (Prod.fst (adR b c))))))) (Bool.and (decide ((G1D.y (Prod.fst (adR (Prod.fst (adR a b)) c))) = (G1D.y (Prod.fst (adR a (Prod.fst (adR b c))))))) ((G1D.inf (Prod.fst (adR (Prod.fst (adR a b)) c))) == (G1D.inf (Prod.fst (adR a (Prod.fst (adR b c)))))))) (Bool.not (Bool.and (decide ((G1D.x (Prod.fst (adR (Prod.fst (adR a b)) c))) = (G1D.x (Prod.fst (adR a (Prod.fst (adR b c))))))) (Bool.and (decide ((G1D.y (Prod.fst (adR (Prod.fst (adR a b)) c))) = (G1D.y (Prod.fst (adR a (Prod.fst (adR b c))))))) ((G1D.inf (Prod.fst (adR (Prod.fst (adR a b)) c))) == (G1D.inf (Prod.fst (adR a (Prod.fst (adR b c)))))))))) = true), ((ite (true = true) (Bool.and (decide ((G1D.x (Prod.fst (adR a (G1D.mk (0 : U6) (0 : U6) true)))) = (G1D.x a))) (Bool.and (decide ((G1D.y (Prod.fst (adR a (G1D.mk (0 : U6) (0 : U6) true)))) = (G1D.y a))) ((G1D.inf (Prod.fst (adR a (G1D.mk (0 : U6) (0 : U6) true)))) == (G1D.inf a)))) (Bool.not (Bool.and (decide ((G1D.x (Prod.fst (adR a (G1D.mk (0 : U6) (0 : U6) true)))) = (G1D.x a))) (Bool.and (decide ((G1D.y (Prod.fst (adR a (G1D.mk (0 : U6) (0 : U6) true)))) = (G1D.y a))) ((G1D.inf (Prod.fst (adR a (G1D.mk (0 : U6) (0 : U6) true)))) == (G1D.inf a)))))) = true), ((ite (true = true) (Bool.and (decide ((G1D.x (Prod.fst (adR a (Prod.fst (neR a))))) = (G1D.x (G1D.mk (0 : U6) (0 : U6) true)))) (Bool.and (decide ((G1D.y (Prod.fst (adR a (Prod.fst (neR a))))) = (G1D.y (G1D.mk (0 : U6) (0 : U6) true)))) ((G1D.inf (Prod.fst (adR a (Prod.fst (neR a))))) == (G1D.inf (G1D.mk (0 : U6) (0 : U6) true))))) (Bool.not (Bool.and (decide ((G1D.x (Prod.fst (adR a (Prod.fst (neR a))))) = (G1D.x (G1D.mk (0 : U6) (0 : U6) true)))) (Bool.and (decide ((G1D.y (Prod.fst (adR a (Prod.fst (neR a))))) = (G1D.y (G1D.mk (0 : U6) (0 : U6) true)))) ((G1D.inf (Prod.fst (adR a (Prod.fst (neR a))))) == (G1D.inf (G1D.mk (0 : U6) (0 : U6) true))))))) = true), ((ite (true = true) (Bool.and (decide ((G1D.x (Prod.fst (adR (Prod.fst (adR a b)) (Prod.fst (neR a))))) = (G1D.x b))) (Bool.and (decide ((G1D.y (Prod.fst (adR (Prod.fst (adR a b)) (Prod.fst (neR a))))) = (G1D.y b))) ((G1D.inf (Prod.fst (adR (Prod.fst (adR a b)) (Prod.fst (neR a))))) == (G1D.inf b)))) (Bool.not (Bool.and (decide ((G1D.x (Prod.fst (adR (Prod.fst (adR a b)) (Prod.fst (neR a))))) = (G1D.x b))) (Bool.and (decide ((G1D.y (Prod.fst (adR (Prod.fst (adR a b)) (Prod.fst (neR a))))) = (G1D.y b))) ((G1D.inf (Prod.fst (adR (Prod.fst (adR a b)) (Prod.fst (neR a))))) == (G1D.inf b)))))) = true)], ((SV.v (V1.c (It.bool (onG (Prod.fst (adR a b)))))), []))) := by kernel_rfl
theorem oqB (a b c : G1D) : fnRes qvF Try.f4 3000 [.v (.a a.its), .v (.a b.its), .v (.a c.its)] [true, true] [] [] = (Option.some ([((Bool.not (onG a)) = true)], ((SV.v (V1.c (It.bool true))), []))) := by kernel_rfl
theorem oqC (a b c : G1D) : fnRes qvF Try.f4 3000 [.v (.a a.its), .v (.a b.its), .v (.a c.its)] [false, true] [] [] = (Option.some ([((Bool.not (onG a)) = false), ((Bool.not (onG b)) = true)], ((SV.v (V1.c (It.bool true))), []))) := by kernel_rfl
theorem oqD (a b c : G1D) : fnRes qvF Try.f4 3000 [.v (.a a.its), .v (.a b.its), .v (.a c.its)] [false, false, true] [] [] = (Option.some ([((Bool.not (onG a)) = false), ((Bool.not (onG b)) = false), ((Bool.not (onG c)) = true)], ((SV.v (V1.c (It.bool true))), []))) := by kernel_rfl
end Go.Proofs.Ytkfcphigoncgjaa

/- OneSums' and OneGroup's laws return true. No conditions. -/
namespace Go.Proofs.Ytkfcphigoncgjaa

theorem adR_on {a b : G1D} (ha : onG a = true) (hb : onG b = true) : adR a b = (addG a b, 0) := by unfold adR; rw [ha, hb]; rfl
theorem adR_off1 {a b : G1D} (ha : onG a = false) : adR a b = (g10, 30) := by unfold adR; rw [ha]; rfl
theorem adR_off2 {a b : G1D} (hb : onG b = false) : adR a b = (g10, 30) := by unfold adR; rw [hb, Bool.and_false]; rfl
theorem neR_on {a : G1D} (ha : onG a = true) : neR a = (negG a, 0) := by unfold neR; rw [ha]; rfl
theorem neR_off {a : G1D} (ha : onG a = false) : neR a = (g10, 30) := by unfold neR; rw [ha]; rfl

theorem negU_zero : negU 0 = 0 := by
  apply Fin.ext
  rw [negU_val]
  show (pN - 0) % pN = 0
  rw [Nat.sub_zero, Nat.mod_self]
theorem on_y {a : G1D} (ha : onG a = true) : a.y.val < pN := by
  rw [← (onG_is ha).1]
  cases pG a with
  | none => decide
  | some p => exact outP_lt _
theorem neg_ref {a : G1D} (ha : onG a = true) : negG a = ⟨a.x, negU a.y, a.inf⟩ := by
  obtain ⟨e, -⟩ := onG_is ha
  rw [negG_is]
  generalize pG a = P at *
  subst e
  cases P with
  | none =>
    show (⟨0, 0, true⟩ : G1D) = ⟨0, negU 0, true⟩
    rw [negU_zero]
  | some p =>
    show (⟨outP p.1, outP (0 - p.2), false⟩ : G1D) = ⟨outP p.1, negU (outP p.2), false⟩
    rw [negU_out]

theorem oneSums_fnd (a b : G1D) : FnD Try.prog 3 [.v (.a a.its), .v (.a b.its)] (.v (.c (.bool true))) [] := by
  by_cases ha : onG a = true
  · have hn := neR_on ha
    have hb0 : (decide ((neR a).1.x = a.x) && (decide ((neR a).1.y = negU a.y) && ((neR a).1.inf == a.inf))) = true := eq_bits (b := ⟨a.x, negU a.y, a.inf⟩) (by rw [hn]; exact neg_ref ha)
    by_cases hb : onG b = true
    · have hd := adR_on ha hb
      refine fn_sound qvE_ok Try.func3 (osA a b) ⟨by rw [ha, hn]; rfl, ha, on_y ha, by rw [hb0]; rfl, by rw [ha]; rfl, by rw [ha]; rfl, by rw [hb]; rfl, rfl, by rw [hd]; rfl, ha, hb, by rw [hd], trivial⟩
    · have hb : onG b = false := Bool.eq_false_iff.2 hb
      have hd := adR_off2 (a := a) hb
      have r := osB a b
      have hz : (decide ((adR a b).1.x = 0) && (decide ((adR a b).1.y = 0) && ((adR a b).1.inf == false))) = true := eq_bits (b := g10) (by rw [hd])
      rw [if_pos rfl, hz] at r
      exact fn_sound qvE_ok Try.func3 r ⟨by rw [ha, hn]; rfl, ha, on_y ha, by rw [hb0]; rfl, by rw [ha]; rfl, by rw [ha]; rfl, by rw [hb]; rfl, rfl, by rw [hd]; rfl, trivial⟩
  · have ha : onG a = false := Bool.eq_false_iff.2 ha
    have hn := neR_off ha
    have hd := adR_off1 (b := b) ha
    have r := osC a b
    have hz : (decide ((adR a b).1.x = 0) && (decide ((adR a b).1.y = 0) && ((adR a b).1.inf == false))) = true := eq_bits (b := g10) (by rw [hd])
    have hb0 : (decide ((neR a).1.x = 0) && (decide ((neR a).1.y = 0) && ((neR a).1.inf == false))) = true := eq_bits (b := g10) (by rw [hn])
    rw [if_pos rfl, hz] at r
    exact fn_sound qvE_ok Try.func3 r ⟨by rw [ha, hn]; rfl, ha, by rw [ha]; rfl, by rw [hn]; rfl, by rw [hb0]; rfl, by rw [ha]; rfl, rfl, by rw [hd]; rfl, trivial⟩

theorem addG_back {a b : G1D} (ha : onG a = true) (hb : onG b = true) : addG (addG a b) (negG a) = b := by
  rw [addG_comm ha hb, addG_assoc hb ha (on_neg ha), addG_neg ha, addG_zero hb]

theorem oneGroup_fnd (a b c : G1D) : FnD Try.prog 4 [.v (.a a.its), .v (.a b.its), .v (.a c.its)] (.v (.c (.bool true))) [] := by
  by_cases ha : onG a = true
  · by_cases hb : onG b = true
    · by_cases hc : onG c = true
      · have hab := on_add ha hb
        have hbc := on_add hb hc
        have hna := on_neg ha
        have r := oqA a b c
        rw [adR_on ha hb, adR_on hb ha, adR_on hb hc, neR_on ha, adR_on hab hc, adR_on ha hbc, adR_on ha on_zero, adR_on ha hna, adR_on hab hna, hab] at r
        exact fn_sound qvF_ok Try.func4 r ⟨by rw [ha]; rfl, by rw [hb]; rfl, by rw [hc]; rfl, rfl, rfl, by rw [if_pos rfl]; exact eq_bits (addG_comm ha hb), by rw [if_pos rfl]; exact eq_bits (addG_assoc ha hb hc),
          by rw [if_pos rfl]; exact eq_bits (addG_zero ha), by rw [if_pos rfl]; exact eq_bits (addG_neg ha), by rw [if_pos rfl]; exact eq_bits (addG_back ha hb), trivial⟩
      · have hc : onG c = false := Bool.eq_false_iff.2 hc
        exact fn_sound qvF_ok Try.func4 (oqD a b c) ⟨by rw [ha]; rfl, by rw [hb]; rfl, by rw [hc]; rfl, trivial⟩
    · have hb : onG b = false := Bool.eq_false_iff.2 hb
      exact fn_sound qvF_ok Try.func4 (oqC a b c) ⟨by rw [ha]; rfl, by rw [hb]; rfl, trivial⟩
  · have ha : onG a = false := Bool.eq_false_iff.2 ha
    exact fn_sound qvF_ok Try.func4 (oqB a b c) ⟨by rw [ha]; rfl, trivial⟩

end Go.Proofs.Ytkfcphigoncgjaa

/- Digits of a number, handed on; a point as often as a number says: the functions, walked. No conditions. -/
namespace Go.Proofs.Ytkfcphigoncgjaa

--@env qvF qvF_ok
noncomputable def dg_k : List KI := (run qvF false 3000 ((fun (l : Nat) (k : U4) => (⟨[.code (bodyOf Try.f138)], .normal, ⟨argT [.v (.c (.val (.func (.yield l) #[] #[]))), .v (.c (.ptr 0 0))], one (.fl [.ob (.fr k)]), Try.f138.ntmps, 16, []⟩⟩ : Cfg)) default default) []).cfg.k
theorem dg_hk (l : Nat) (k : U4) : (run qvF false 3000 ((⟨[.code (bodyOf Try.f138)], .normal, ⟨argT [.v (.c (.val (.func (.yield l) #[] #[]))), .v (.c (.ptr 0 0))], one (.fl [.ob (.fr k)]), Try.f138.ntmps, 16, []⟩⟩ : Cfg)) []).cfg.k = dg_k := by kernel_rfl
theorem dg (l : Nat) (k : U4) {w0 : World} {F0 : Nat → Prop} {K : Kp} {ac : List Act} {Q : Exit → Act → World → Prop} {cX : Ctx} {aX : Act} (ho : AllP []) (hs : Sim w0 F0 K ac (⟨argT [.v (.c (.val (.func (.yield l) #[] #[]))), .v (.c (.ptr 0 0))], one (.fl [.ob (.fr k)]), Try.f138.ntmps, 16, []⟩) cX aX) (hK : ∀ ac cY aY, Sim w0 F0 K ac (mkSt 32 [0, 1, 3, 4] [(.v (.c (.val (Value.func (Fn.yield l) (Array.mk ([] : List Value)) (Array.mk ([] : List Value)))))), (.v (.c (.ptr 0 0))), (.v (.c (.lit false))), (.v (.c (.int .i64 (63 : Int))))] [0] [(some (.fl [(.ob (.fr k))]))] 48 [] []) cY aY → Wq Try.prog Q (dg_k) ac Exit.normal aY cY.w) : Wq Try.prog Q ([.code (bodyOf Try.f138)]) ac .normal aX cX.w :=
  run_at2 (o := ⟨_, _, _, _, _, _, _⟩) qvF_ok (by kernel_rfl) (dg_hk l k) ho hs hK
noncomputable def dgS (l : Nat) (k : U4) (g : Bool) (i : Int) : St := mkSt 32 [0, 1, 3, 4] [(SV.v (V1.c (It.val (Value.func (Fn.yield l) (Array.mk ([] : List Value)) (Array.mk ([] : List Value)))))), (SV.v (V1.c (It.ptr 0 0))), .v (.c (.bool g)), .v (.c (.int .i64 i))] [0] [(Option.some (En.fl [(It.ob (Ob.fr k))]))] 48 [] []
noncomputable def dgY_k : List KI := (run qvF false 3000 ((fun (l : Nat) (k : U4) (g : Bool) (i : Int) => (⟨lpIn dg_k, .normal, dgS l k g i⟩ : Cfg)) default default default default) [true, true, true]).cfg.k
theorem dgY_hk (l : Nat) (k : U4) (g : Bool) (i : Int) : (run qvF false 3000 ((⟨lpIn dg_k, .normal, dgS l k g i⟩ : Cfg)) [true, true, true]).cfg.k = dgY_k := by kernel_rfl
theorem dgY (l : Nat) (k : U4) (g : Bool) (i : Int) {w0 : World} {F0 : Nat → Prop} {K : Kp} {ac : List Act} {Q : Exit → Act → World → Prop} {cX : Ctx} {aX : Act} (ho : AllP [((decide (i ≥ (0 : Int))) = true), ((16 : Int) ≠ (0 : Int)), ((0 : Int) ≤ (IntKind.wrap .i64 (Int.tdiv i (16 : Int)))), ((IntKind.wrap .i64 (Int.tdiv i (16 : Int))) < (4 : Int)), ((0 + (((IntKind.wrap .i64 (Int.tdiv i (16 : Int)))).toNat * 1)) < (Ob.k (.fr k))), ((16 : Int) ≠ (0 : Int)), ((0 : Int) ≤ (IntKind.wrap .i64 ((4 : Int) * (Int.tmod i (16 : Int))))), (g = true)]) (hs : Sim w0 F0 K ac (dgS l k g i) cX aX) (hK : ∀ ac cY aY, Sim w0 F0 K ac (mkSt 32 [0, 1, 3, 4, 26, 27, 28] [(.v (.c (.val (Value.func (Fn.yield l) (Array.mk ([] : List Value)) (Array.mk ([] : List Value)))))), (.v (.c (.ptr 0 0))), (.v (.c (.lit true))), (.v (.c (.int .i64 i))), (.v (.c (.lit true))), (.v (.c (.val (Value.func (Fn.yield l) (Array.mk ([] : List Value)) (Array.mk ([] : List Value)))))), (.v (.c (.int .i64 (IntKind.wrap .i64 (bitsOp BinOp.and IntKind.u64 (Int.fdiv (limb (Ob.n (.fr k)) (0 + (((IntKind.wrap .i64 (Int.tdiv i (16 : Int)))).toNat * 1))) ((2 : Int) ^ (Min.min ((IntKind.wrap .i64 ((4 : Int) * (Int.tmod i (16 : Int))))).toNat 64))) (15 : Int))))))] [0] [(some (.fl [(.ob (.fr k))]))] 416 [] []) cY aY → Wq Try.prog Q (dgY_k) ac Exit.normal aY cY.w) : Wq Try.prog Q (lpIn dg_k) ac .normal aX cX.w :=
  run_at2 (o := ⟨_, _, _, _, _, _, _⟩) qvF_ok (by kernel_rfl) (dgY_hk l k g i) ho hs hK
theorem dgZ_hk (l : Nat) (k : U4) (g : Bool) (i : Int) : (run qvF false 3000 ((⟨lpIn dg_k, .normal, dgS l k g i⟩ : Cfg)) [true, false, true]).cfg.k = dgY_k := by kernel_rfl
theorem dgZ (l : Nat) (k : U4) (g : Bool) (i : Int) {w0 : World} {F0 : Nat → Prop} {K : Kp} {ac : List Act} {Q : Exit → Act → World → Prop} {cX : Ctx} {aX : Act} (ho : AllP [((decide (i ≥ (0 : Int))) = true), ((16 : Int) ≠ (0 : Int)), ((0 : Int) ≤ (IntKind.wrap .i64 (Int.tdiv i (16 : Int)))), ((IntKind.wrap .i64 (Int.tdiv i (16 : Int))) < (4 : Int)), ((0 + (((IntKind.wrap .i64 (Int.tdiv i (16 : Int)))).toNat * 1)) < (Ob.k (.fr k))), ((16 : Int) ≠ (0 : Int)), ((0 : Int) ≤ (IntKind.wrap .i64 ((4 : Int) * (Int.tmod i (16 : Int))))), (g = false), ((decide ((IntKind.wrap .i64 (bitsOp BinOp.and IntKind.u64 (Int.fdiv (limb (Ob.n (.fr k)) (0 + (((IntKind.wrap .i64 (Int.tdiv i (16 : Int)))).toNat * 1))) ((2 : Int) ^ (Min.min ((IntKind.wrap .i64 ((4 : Int) * (Int.tmod i (16 : Int))))).toNat 64))) (15 : Int))) > (0 : Int))) = true)]) (hs : Sim w0 F0 K ac (dgS l k g i) cX aX) (hK : ∀ ac cY aY, Sim w0 F0 K ac (mkSt 32 [0, 1, 3, 4, 26, 27, 28] [(.v (.c (.val (Value.func (Fn.yield l) (Array.mk ([] : List Value)) (Array.mk ([] : List Value)))))), (.v (.c (.ptr 0 0))), (.v (.c (.bool (decide ((IntKind.wrap .i64 (bitsOp BinOp.and IntKind.u64 (Int.fdiv (limb (Ob.n (.fr k)) (0 + (((IntKind.wrap .i64 (Int.tdiv i (16 : Int)))).toNat * 1))) ((2 : Int) ^ (Min.min ((IntKind.wrap .i64 ((4 : Int) * (Int.tmod i (16 : Int))))).toNat 64))) (15 : Int))) > (0 : Int)))))), (.v (.c (.int .i64 i))), (.v (.c (.lit true))), (.v (.c (.val (Value.func (Fn.yield l) (Array.mk ([] : List Value)) (Array.mk ([] : List Value)))))), (.v (.c (.int .i64 (IntKind.wrap .i64 (bitsOp BinOp.and IntKind.u64 (Int.fdiv (limb (Ob.n (.fr k)) (0 + (((IntKind.wrap .i64 (Int.tdiv i (16 : Int)))).toNat * 1))) ((2 : Int) ^ (Min.min ((IntKind.wrap .i64 ((4 : Int) * (Int.tmod i (16 : Int))))).toNat 64))) (15 : Int))))))] [0] [(some (.fl [(.ob (.fr k))]))] 416 [] []) cY aY → Wq Try.prog Q (dgY_k) ac Exit.normal aY cY.w) : Wq Try.prog Q (lpIn dg_k) ac .normal aX cX.w :=
  run_at2 (o := ⟨_, _, _, _, _, _, _⟩) qvF_ok (by kernel_rfl) (dgZ_hk l k g i) ho hs hK
theorem dgN_hk (l : Nat) (k : U4) (g : Bool) (i : Int) : (run qvF false 3000 ((⟨lpIn dg_k, .normal, dgS l k g i⟩ : Cfg)) [true, false, false]).cfg.k = lpBk dg_k := by kernel_rfl
theorem dgN (l : Nat) (k : U4) (g : Bool) (i : Int) {w0 : World} {F0 : Nat → Prop} {K : Kp} {ac : List Act} {Q : Exit → Act → World → Prop} {cX : Ctx} {aX : Act} (ho : AllP [((decide (i ≥ (0 : Int))) = true), ((16 : Int) ≠ (0 : Int)), ((0 : Int) ≤ (IntKind.wrap .i64 (Int.tdiv i (16 : Int)))), ((IntKind.wrap .i64 (Int.tdiv i (16 : Int))) < (4 : Int)), ((0 + (((IntKind.wrap .i64 (Int.tdiv i (16 : Int)))).toNat * 1)) < (Ob.k (.fr k))), ((16 : Int) ≠ (0 : Int)), ((0 : Int) ≤ (IntKind.wrap .i64 ((4 : Int) * (Int.tmod i (16 : Int))))), (g = false), ((decide ((IntKind.wrap .i64 (bitsOp BinOp.and IntKind.u64 (Int.fdiv (limb (Ob.n (.fr k)) (0 + (((IntKind.wrap .i64 (Int.tdiv i (16 : Int)))).toNat * 1))) ((2 : Int) ^ (Min.min ((IntKind.wrap .i64 ((4 : Int) * (Int.tmod i (16 : Int))))).toNat 64))) (15 : Int))) > (0 : Int))) = false)]) (hs : Sim w0 F0 K ac (dgS l k g i) cX aX) (hK : ∀ ac cY aY, Sim w0 F0 K ac (mkSt 32 [0, 1, 3, 4] [(.v (.c (.val (Value.func (Fn.yield l) (Array.mk ([] : List Value)) (Array.mk ([] : List Value)))))), (.v (.c (.ptr 0 0))), (.v (.c (.bool (decide ((IntKind.wrap .i64 (bitsOp BinOp.and IntKind.u64 (Int.fdiv (limb (Ob.n (.fr k)) (0 + (((IntKind.wrap .i64 (Int.tdiv i (16 : Int)))).toNat * 1))) ((2 : Int) ^ (Min.min ((IntKind.wrap .i64 ((4 : Int) * (Int.tmod i (16 : Int))))).toNat 64))) (15 : Int))) > (0 : Int)))))), (.v (.c (.int .i64 (IntKind.wrap .i64 (i - (1 : Int))))))] [0] [(some (.fl [(.ob (.fr k))]))] 512 [] []) cY aY → Wq Try.prog Q (lpBk dg_k) ac Exit.normal aY cY.w) : Wq Try.prog Q (lpIn dg_k) ac .normal aX cX.w :=
  run_at2 (o := ⟨_, _, _, _, _, _, _⟩) qvF_ok (by kernel_rfl) (dgN_hk l k g i) ho hs hK
theorem dgX_hk (l : Nat) (k : U4) (g : Bool) (i : Int) : (run qvF false 3000 ((⟨lpIn dg_k, .normal, dgS l k g i⟩ : Cfg)) [false]).cfg.k = [] := by kernel_rfl
theorem dgX (l : Nat) (k : U4) (g : Bool) (i : Int) {w0 : World} {F0 : Nat → Prop} {K : Kp} {ac : List Act} {Q : Exit → Act → World → Prop} {cX : Ctx} {aX : Act} (ho : AllP [((decide (i ≥ (0 : Int))) = false)]) (hs : Sim w0 F0 K ac (dgS l k g i) cX aX) (hK : ∀ ac cY aY, Sim w0 F0 K ac (mkSt 32 [] [] [0] [(some (.fl [(.ob (.fr k))]))] 80 [] []) cY aY → Wq Try.prog Q ([]) ac Exit.normal aY cY.w) : Wq Try.prog Q (lpIn dg_k) ac .normal aX cX.w :=
  run_at2 (o := ⟨_, _, _, _, _, _, _⟩) qvF_ok (by kernel_rfl) (dgX_hk l k g i) ho hs hK
theorem dgB_hk (l : Nat) (k : U4) (i d : Int) : (run qvF false 3000 ((⟨opsNext dgY_k, .normal, ⟨setT (look .top [0, 1, 3, 4, 26, 27, 28] [(.v (.c (.val (.func (.yield l) #[] #[])))), (.v (.c (.ptr 0 0))), (.v (.c (.bool true))), (.v (.c (.int .i64 i))), (.v (.c (.lit true))), (.v (.c (.val (.func (.yield l) #[] #[])))), (.v (.c (.int .i64 d)))]) 29 (.v (.c (.lit true))), one (.fl [.ob (.fr k)]), 32, 400, []⟩⟩ : Cfg)) []).cfg.k = lpBk dg_k := by kernel_rfl
theorem dgB (l : Nat) (k : U4) (i d : Int) {w0 : World} {F0 : Nat → Prop} {K : Kp} {ac : List Act} {Q : Exit → Act → World → Prop} {cX : Ctx} {aX : Act} (ho : AllP []) (hs : Sim w0 F0 K ac (⟨setT (look .top [0, 1, 3, 4, 26, 27, 28] [(.v (.c (.val (.func (.yield l) #[] #[])))), (.v (.c (.ptr 0 0))), (.v (.c (.bool true))), (.v (.c (.int .i64 i))), (.v (.c (.lit true))), (.v (.c (.val (.func (.yield l) #[] #[])))), (.v (.c (.int .i64 d)))]) 29 (.v (.c (.lit true))), one (.fl [.ob (.fr k)]), 32, 400, []⟩) cX aX) (hK : ∀ ac cY aY, Sim w0 F0 K ac (mkSt 32 [0, 1, 3, 4] [(.v (.c (.val (Value.func (Fn.yield l) (Array.mk ([] : List Value)) (Array.mk ([] : List Value)))))), (.v (.c (.ptr 0 0))), (.v (.c (.bool true))), (.v (.c (.int .i64 (IntKind.wrap .i64 (i - (1 : Int))))))] [0] [(some (.fl [(.ob (.fr k))]))] 480 [] []) cY aY → Wq Try.prog Q (lpBk dg_k) ac Exit.normal aY cY.w) : Wq Try.prog Q (opsNext dgY_k) ac .normal aX cX.w :=
  run_at2 (o := ⟨_, _, _, _, _, _, _⟩) qvF_ok (by kernel_rfl) (dgB_hk l k i d) ho hs hK
noncomputable def my_k : List KI := (run qvF false 3000 ((fun (x y z : Fp) (k : U4) => (⟨[.code (bodyOf Try.f81)], .normal, initSt Try.f81.ntmps [.v (.a [.ob (.p x), .ob (.p y), .ob (.p z)]), .v (.a [.ob (.fr k)])]⟩ : Cfg)) default default default default) []).cfg.k
theorem my_hk (x y z : Fp) (k : U4) : (run qvF false 3000 ((⟨[.code (bodyOf Try.f81)], .normal, initSt Try.f81.ntmps [.v (.a [.ob (.p x), .ob (.p y), .ob (.p z)]), .v (.a [.ob (.fr k)])]⟩ : Cfg)) []).cfg.k = my_k := by kernel_rfl
theorem my (x y z : Fp) (k : U4) {w0 : World} {F0 : Nat → Prop} {K : Kp} {ac : List Act} {Q : Exit → Act → World → Prop} {cX : Ctx} {aX : Act} (ho : AllP [((0 : Int) ≤ (0 : Int)), ((0 : Int) < (16 : Int))]) (hs : Sim w0 F0 K ac (initSt Try.f81.ntmps [.v (.a [.ob (.p x), .ob (.p y), .ob (.p z)]), .v (.a [.ob (.fr k)])]) cX aX) (hK : ∀ ac cY aY, Sim w0 F0 K ac (mkSt 43 [2, 3, 4, 5, 6] [(.v (.c (.ptr 16 0))), (.v (.c (.ptr 32 0))), (.v (.c (.ptr 48 0))), (.v (.c (.ptr 64 0))), (.v (.c (.int .i64 (1 : Int))))] [16, 32, 48, 64] [(some (.fl [(.ob (.p x)), (.ob (.p y)), (.ob (.p z))])), (some (.fl [(.ob (.fr k))])), (some (.fl [(.ob (.p (0 : Fp))), (.ob (.p (0 : Fp))), (.ob (.p (0 : Fp)))])), (some (.fl [(.ob (.p x)), (.ob (.p y)), (.ob (.p (0 : Fp))), (.ob (.p (0 : Fp))), (.ob (.p (0 : Fp))), (.ob (.p (0 : Fp))), (.ob (.p (0 : Fp))), (.ob (.p (0 : Fp))), (.ob (.p (0 : Fp))), (.ob (.p (0 : Fp))), (.ob (.p (0 : Fp))), (.ob (.p (0 : Fp))), (.ob (.p (0 : Fp))), (.ob (.p (0 : Fp))), (.ob (.p (0 : Fp))), (.ob (.p (0 : Fp))), (.ob (.p (0 : Fp))), (.ob (.p (0 : Fp))), (.ob (.p (0 : Fp))), (.ob (.p (0 : Fp))), (.ob (.p (0 : Fp))), (.ob (.p (0 : Fp))), (.ob (.p (0 : Fp))), (.ob (.p (0 : Fp))), (.ob (.p (0 : Fp))), (.ob (.p (0 : Fp))), (.ob (.p (0 : Fp))), (.ob (.p (0 : Fp))), (.ob (.p (0 : Fp))), (.ob (.p (0 : Fp))), (.ob (.p (0 : Fp))), (.ob (.p (0 : Fp))), (.ob (.p (0 : Fp))), (.ob (.p (0 : Fp))), (.ob (.p (0 : Fp))), (.ob (.p (0 : Fp))), (.ob (.p (0 : Fp))), (.ob (.p (0 : Fp))), (.ob (.p (0 : Fp))), (.ob (.p (0 : Fp))), (.ob (.p (0 : Fp))), (.ob (.p (0 : Fp))), (.ob (.p (0 : Fp))), (.ob (.p (0 : Fp))), (.ob (.p (0 : Fp))), (.ob (.p (0 : Fp))), (.ob (.p (0 : Fp))), (.ob (.p (0 : Fp)))]))] 208 [] []) cY aY → Wq Try.prog Q (my_k) ac Exit.normal aY cY.w) : Wq Try.prog Q ([.code (bodyOf Try.f81)]) ac .normal aX cX.w :=
  run_at2 (o := ⟨_, _, _, _, _, _, _⟩) qvF_ok (by kernel_rfl) (my_hk x y z k) ho hs hK
noncomputable def myS (x y z : Fp) (k : U4) (L : List (Fp × Fp × Fp)) (i : Int) : St := mkSt 43 [2, 3, 4, 5, 6] [(SV.v (V1.c (It.ptr 16 0))), (SV.v (V1.c (It.ptr 32 0))), (SV.v (V1.c (It.ptr 48 0))), (SV.v (V1.c (It.ptr 64 0))), .v (.c (.int .i64 i))] [16, 32, 48, 64] [(Option.some (En.fl [(It.ob (Ob.p x)), (It.ob (Ob.p y)), (It.ob (Ob.p z))])), (Option.some (En.fl [(It.ob (Ob.fr k))])), (Option.some (En.fl [(It.ob (Ob.p (0 : Fp))), (It.ob (Ob.p (0 : Fp))), (It.ob (Ob.p (0 : Fp)))])), some (.sq (.pt L))] 208 [] []
theorem myA_hk (x y z : Fp) (k : U4) (L : List (Fp × Fp × Fp)) (i : Int) : (run qvF false 3000 ((⟨lpIn my_k, .normal, myS x y z k L i⟩ : Cfg)) [true]).cfg.k = lpBk my_k := by kernel_rfl
theorem myA (x y z : Fp) (k : U4) (L : List (Fp × Fp × Fp)) (i : Int) {w0 : World} {F0 : Nat → Prop} {K : Kp} {ac : List Act} {Q : Exit → Act → World → Prop} {cX : Ctx} {aX : Act} (ho : AllP [((decide (i < (16 : Int))) = true), ((0 : Int) ≤ (IntKind.wrap .i64 (i - (1 : Int)))), ((IntKind.wrap .i64 (i - (1 : Int))) < (16 : Int)), (0 = 0), (((IntKind.wrap .i64 (i - (1 : Int)))).toNat < (List.length L)), ((0 : Int) ≤ i), (i < (16 : Int)), (0 = 0), ((i).toNat < (List.length L))]) (hs : Sim w0 F0 K ac (myS x y z k L i) cX aX) (hK : ∀ ac cY aY, Sim w0 F0 K ac (mkSt 43 [2, 3, 4, 5, 6] [(.v (.c (.ptr 16 0))), (.v (.c (.ptr 32 0))), (.v (.c (.ptr 48 0))), (.v (.c (.ptr 64 0))), (.v (.c (.int .i64 (IntKind.wrap .i64 (i + (1 : Int))))))] [16, 32, 48, 64] [(some (.fl [(.ob (.p x)), (.ob (.p y)), (.ob (.p z))])), (some (.fl [(.ob (.fr k))])), (some (.fl [(.ob (.p (0 : Fp))), (.ob (.p (0 : Fp))), (.ob (.p (0 : Fp)))])), (some (.sq (Sq.pt (List.set L (i).toNat (jpl (List.getD L ((IntKind.wrap .i64 (i - (1 : Int)))).toNat pt0) (x, (y, z)))))))] 432 [] []) cY aY → Wq Try.prog Q (lpBk my_k) ac Exit.normal aY cY.w) : Wq Try.prog Q (lpIn my_k) ac .normal aX cX.w :=
  run_at2 (o := ⟨_, _, _, _, _, _, _⟩) qvF_ok (by kernel_rfl) (myA_hk x y z k L i) ho hs hK
noncomputable def myB_k : List KI := (run qvF false 3000 ((fun (x y z : Fp) (k : U4) (L : List (Fp × Fp × Fp)) (i : Int) => (⟨lpIn my_k, .normal, myS x y z k L i⟩ : Cfg)) default default default default default default) [false]).cfg.k
theorem myB_hk (x y z : Fp) (k : U4) (L : List (Fp × Fp × Fp)) (i : Int) : (run qvF false 3000 ((⟨lpIn my_k, .normal, myS x y z k L i⟩ : Cfg)) [false]).cfg.k = myB_k := by kernel_rfl
theorem myB (x y z : Fp) (k : U4) (L : List (Fp × Fp × Fp)) (i : Int) {w0 : World} {F0 : Nat → Prop} {K : Kp} {ac : List Act} {Q : Exit → Act → World → Prop} {cX : Ctx} {aX : Act} (ho : AllP [((decide (i < (16 : Int))) = false), ((0 : Int) ≤ (0 : Int)), ((0 : Int) < (16 : Int)), (0 = 0), (0 < (List.length L))]) (hs : Sim w0 F0 K ac (myS x y z k L i) cX aX) (hK : ∀ ac cY aY, Sim w0 F0 K ac (mkSt 43 [4, 5, 7, 30] [(.v (.c (.ptr 48 0))), (.v (.c (.ptr 64 0))), (.v (.c (.ptr 272 0))), (.v (.c (.clo 138 [(320, 0)])))] [48, 64, 272, 320] [(some (.fl [(.ob (.p (0 : Fp))), (.ob (.p (0 : Fp))), (.ob (.p (0 : Fp)))])), (some (.sq (Sq.pt L))), (some (.fl [(.ob (.p (Prod.fst (List.getD L 0 pt0)))), (.ob (.p (Prod.fst (Prod.snd (List.getD L 0 pt0))))), (.ob (.p (Prod.snd (Prod.snd (List.getD L 0 pt0)))))])), (some (.fl [(.ob (.fr k))]))] 384 [] []) cY aY → Wq Try.prog Q (myB_k) ac Exit.normal aY cY.w) : Wq Try.prog Q (lpIn my_k) ac .normal aX cX.w :=
  run_at2 (o := ⟨_, _, _, _, _, _, _⟩) qvF_ok (by kernel_rfl) (myB_hk x y z k L i) ho hs hK
noncomputable def myR (k : U4) (L : List (Fp × Fp × Fp)) (o : Fp × Fp × Fp) : St := mkSt 43 [4, 5, 7, 30] [(SV.v (V1.c (It.ptr 48 0))), (SV.v (V1.c (It.ptr 64 0))), (SV.v (V1.c (It.ptr 272 0))), (SV.v (V1.c (It.clo 138 [(320, 0)])))] [48, 64, 272, 320] [(Option.some (En.fl [(It.ob (Ob.p (0 : Fp))), (It.ob (Ob.p (0 : Fp))), (It.ob (Ob.p (0 : Fp)))])), (Option.some (En.sq (Sq.pt L))), some (.fl [.ob (.p o.1), .ob (.p o.2.1), .ob (.p o.2.2)]), (Option.some (En.fl [(It.ob (Ob.fr k))]))] 384 [] []
theorem mrA_hk (k : U4) (L : List (Fp × Fp × Fp)) (o : Fp × Fp × Fp) (d : Int) : (run qvF false 3000 ((⟨[.code (rfA myB_k)], .normal, roundSt (myR k L o) [(31, .v (.c (.int .i64 d)))]⟩ : Cfg)) []).cfg.k = [] := by kernel_rfl
theorem mrA (k : U4) (L : List (Fp × Fp × Fp)) (o : Fp × Fp × Fp) (d : Int) {w0 : World} {F0 : Nat → Prop} {K : Kp} {ac : List Act} {Q : Exit → Act → World → Prop} {cX : Ctx} {aX : Act} {ρ : Option Nat} (ho : AllP []) (hs : Sim w0 F0 K ac (roundSt (myR k L o) [(31, .v (.c (.int .i64 d)))]) cX aX) (hK : ∀ cY aY, Sim w0 F0 K ac (mkSt 43 [4, 5, 7, 8] [(.v (.c (.ptr 48 0))), (.v (.c (.ptr 64 0))), (.v (.c (.ptr 272 0))), (.v (.c (.int .i64 d)))] [48, 64, 272, 320] [(some (.fl [(.ob (.p (0 : Fp))), (.ob (.p (0 : Fp))), (.ob (.p (0 : Fp)))])), (some (.sq (Sq.pt L))), (some (.fl [(.ob (.p (Prod.fst o))), (.ob (.p (Prod.fst (Prod.snd o)))), (.ob (.p (Prod.snd (Prod.snd o))))])), (some (.fl [(.ob (.fr k))]))] 400 [[4, 5, 7, 30]] [([(.v (.c (.ptr 48 0))), (.v (.c (.ptr 64 0))), (.v (.c (.ptr 272 0))), (.v (.c (.clo 138 [(320, 0)])))], 43)]) cY aY → Wq Try.prog Q ([]) ac Exit.normal aY cY.w ρ) : Wq Try.prog Q ([.code (rfA myB_k)]) ac .normal aX cX.w ρ :=
  run_atT (o := ⟨_, _, _, _, _, _, _⟩) qvF_ok (by kernel_rfl) (mrA_hk k L o d) ho (by kernel_rfl) (by kernel_rfl) hs hK
noncomputable def mrB (k : U4) (L : List (Fp × Fp × Fp)) (o : Fp × Fp × Fp) (d : Int) : St := mkSt 43 [4, 5, 7, 8] [(SV.v (V1.c (It.ptr 48 0))), (SV.v (V1.c (It.ptr 64 0))), (SV.v (V1.c (It.ptr 272 0))), (SV.v (V1.c (It.int IntKind.i64 d)))] [48, 64, 272, 320] [(Option.some (En.fl [(It.ob (Ob.p (0 : Fp))), (It.ob (Ob.p (0 : Fp))), (It.ob (Ob.p (0 : Fp)))])), (Option.some (En.sq (Sq.pt L))), some (.fl [.ob (.p o.1), .ob (.p o.2.1), .ob (.p o.2.2)]), (Option.some (En.fl [(It.ob (Ob.fr k))]))] 400 [[4, 5, 7, 30]] [([(SV.v (V1.c (It.ptr 48 0))), (SV.v (V1.c (It.ptr 64 0))), (SV.v (V1.c (It.ptr 272 0))), (SV.v (V1.c (It.clo 138 [(320, 0)])))], 43)]
noncomputable def mrC_k : List KI := (run qvF false 3000 ((fun (k : U4) (L : List (Fp × Fp × Fp)) (o : Fp × Fp × Fp) (d : Int) => (⟨[.code (rfB myB_k)], .normal, mrB k L o d⟩ : Cfg)) default default default default) []).cfg.k
theorem mrC_hk (k : U4) (L : List (Fp × Fp × Fp)) (o : Fp × Fp × Fp) (d : Int) : (run qvF false 3000 ((⟨[.code (rfB myB_k)], .normal, mrB k L o d⟩ : Cfg)) []).cfg.k = mrC_k := by kernel_rfl
theorem mrC (k : U4) (L : List (Fp × Fp × Fp)) (o : Fp × Fp × Fp) (d : Int) {w0 : World} {F0 : Nat → Prop} {K : Kp} {ac : List Act} {Q : Exit → Act → World → Prop} {cX : Ctx} {aX : Act} {ρ : Option Nat} (ho : AllP []) (hs : Sim w0 F0 K ac (mrB k L o d) cX aX) (hK : ∀ cY aY, Sim w0 F0 K ac (mkSt 43 [4, 5, 7, 8, 32] [(.v (.c (.ptr 48 0))), (.v (.c (.ptr 64 0))), (.v (.c (.ptr 272 0))), (.v (.c (.int .i64 d))), (.v (.c (.int .i64 (0 : Int))))] [48, 64, 272, 320] [(some (.fl [(.ob (.p (0 : Fp))), (.ob (.p (0 : Fp))), (.ob (.p (0 : Fp)))])), (some (.sq (Sq.pt L))), (some (.fl [(.ob (.p (Prod.fst o))), (.ob (.p (Prod.fst (Prod.snd o)))), (.ob (.p (Prod.snd (Prod.snd o))))])), (some (.fl [(.ob (.fr k))]))] 416 [[4, 5, 7, 30]] [([(.v (.c (.ptr 48 0))), (.v (.c (.ptr 64 0))), (.v (.c (.ptr 272 0))), (.v (.c (.clo 138 [(320, 0)])))], 43)]) cY aY → Wq Try.prog Q (mrC_k) ac Exit.normal aY cY.w ρ) : Wq Try.prog Q ([.code (rfB myB_k)]) ac .normal aX cX.w ρ :=
  run_atT (o := ⟨_, _, _, _, _, _, _⟩) qvF_ok (by kernel_rfl) (mrC_hk k L o d) ho (by kernel_rfl) (by kernel_rfl) hs hK
noncomputable def mrS (k : U4) (L : List (Fp × Fp × Fp)) (o : Fp × Fp × Fp) (d j : Int) : St := mkSt 43 [4, 5, 7, 8, 32] [(SV.v (V1.c (It.ptr 48 0))), (SV.v (V1.c (It.ptr 64 0))), (SV.v (V1.c (It.ptr 272 0))), (SV.v (V1.c (It.int IntKind.i64 d))), .v (.c (.int .i64 j))] [48, 64, 272, 320] [(Option.some (En.fl [(It.ob (Ob.p (0 : Fp))), (It.ob (Ob.p (0 : Fp))), (It.ob (Ob.p (0 : Fp)))])), (Option.some (En.sq (Sq.pt L))), some (.fl [.ob (.p o.1), .ob (.p o.2.1), .ob (.p o.2.2)]), (Option.some (En.fl [(It.ob (Ob.fr k))]))] 416 [[4, 5, 7, 30]] [([(SV.v (V1.c (It.ptr 48 0))), (SV.v (V1.c (It.ptr 64 0))), (SV.v (V1.c (It.ptr 272 0))), (SV.v (V1.c (It.clo 138 [(320, 0)])))], 43)]
theorem mrD_hk (k : U4) (L : List (Fp × Fp × Fp)) (o : Fp × Fp × Fp) (d j : Int) : (run qvF false 3000 ((⟨lpIn mrC_k, .normal, mrS k L o d j⟩ : Cfg)) [true]).cfg.k = lpBk mrC_k := by kernel_rfl
theorem mrD (k : U4) (L : List (Fp × Fp × Fp)) (o : Fp × Fp × Fp) (d j : Int) {w0 : World} {F0 : Nat → Prop} {K : Kp} {ac : List Act} {Q : Exit → Act → World → Prop} {cX : Ctx} {aX : Act} {ρ : Option Nat} (ho : AllP [((decide (j < (4 : Int))) = true)]) (hs : Sim w0 F0 K ac (mrS k L o d j) cX aX) (hK : ∀ cY aY, Sim w0 F0 K ac (mkSt 43 [4, 5, 7, 8, 32] [(.v (.c (.ptr 48 0))), (.v (.c (.ptr 64 0))), (.v (.c (.ptr 272 0))), (.v (.c (.int .i64 d))), (.v (.c (.int .i64 (IntKind.wrap .i64 (j + (1 : Int))))))] [48, 64, 272, 320] [(some (.fl [(.ob (.p (0 : Fp))), (.ob (.p (0 : Fp))), (.ob (.p (0 : Fp)))])), (some (.sq (Sq.pt L))), (some (.fl [(.ob (.p (Prod.fst (jtw o)))), (.ob (.p (Prod.fst (Prod.snd (jtw o))))), (.ob (.p (Prod.snd (Prod.snd (jtw o)))))])), (some (.fl [(.ob (.fr k))]))] 512 [[4, 5, 7, 30]] [([(.v (.c (.ptr 48 0))), (.v (.c (.ptr 64 0))), (.v (.c (.ptr 272 0))), (.v (.c (.clo 138 [(320, 0)])))], 43)]) cY aY → Wq Try.prog Q (lpBk mrC_k) ac Exit.normal aY cY.w ρ) : Wq Try.prog Q (lpIn mrC_k) ac .normal aX cX.w ρ :=
  run_atT (o := ⟨_, _, _, _, _, _, _⟩) qvF_ok (by kernel_rfl) (mrD_hk k L o d j) ho (by kernel_rfl) (by kernel_rfl) hs hK
theorem mrE_hk (k : U4) (L : List (Fp × Fp × Fp)) (o : Fp × Fp × Fp) (d j : Int) : (run qvF false 3000 ((⟨lpIn mrC_k, .normal, mrS k L o d j⟩ : Cfg)) [false]).cfg.k = [] := by kernel_rfl
theorem mrE (k : U4) (L : List (Fp × Fp × Fp)) (o : Fp × Fp × Fp) (d j : Int) {w0 : World} {F0 : Nat → Prop} {K : Kp} {ac : List Act} {Q : Exit → Act → World → Prop} {cX : Ctx} {aX : Act} {ρ : Option Nat} (ho : AllP [((decide (j < (4 : Int))) = false), ((0 : Int) ≤ d), (d < (16 : Int)), (0 = 0), ((d).toNat < (List.length L))]) (hs : Sim w0 F0 K ac (mrS k L o d j) cX aX) (hK : ∀ cY aY, Sim w0 F0 K ac (mkSt 43 [4] [(.v (.c (.ptr 48 0)))] [48, 64, 272, 320] [(some (.fl [(.ob (.p (0 : Fp))), (.ob (.p (0 : Fp))), (.ob (.p (0 : Fp)))])), (some (.sq (Sq.pt L))), (some (.fl [(.ob (.p (Prod.fst (jpl o (List.getD L (d).toNat pt0))))), (.ob (.p (Prod.fst (Prod.snd (jpl o (List.getD L (d).toNat pt0)))))), (.ob (.p (Prod.snd (Prod.snd (jpl o (List.getD L (d).toNat pt0))))))])), (some (.fl [(.ob (.fr k))]))] 528 [[4, 5, 7, 30]] [([(.v (.c (.ptr 48 0))), (.v (.c (.ptr 64 0))), (.v (.c (.ptr 272 0))), (.v (.c (.clo 138 [(320, 0)])))], 43)]) cY aY → Wq Try.prog Q ([]) ac Exit.normal aY cY.w ρ) : Wq Try.prog Q (lpIn mrC_k) ac .normal aX cX.w ρ :=
  run_atT (o := ⟨_, _, _, _, _, _, _⟩) qvF_ok (by kernel_rfl) (mrE_hk k L o d j) ho (by kernel_rfl) (by kernel_rfl) hs hK
noncomputable def mrF (k : U4) (L : List (Fp × Fp × Fp)) (o : Fp × Fp × Fp) : St := mkSt 43 [4] [(SV.v (V1.c (It.ptr 48 0)))] [48, 64, 272, 320] [(Option.some (En.fl [(It.ob (Ob.p (0 : Fp))), (It.ob (Ob.p (0 : Fp))), (It.ob (Ob.p (0 : Fp)))])), (Option.some (En.sq (Sq.pt L))), some (.fl [.ob (.p o.1), .ob (.p o.2.1), .ob (.p o.2.2)]), (Option.some (En.fl [(It.ob (Ob.fr k))]))] 528 [[4, 5, 7, 30]] [([(SV.v (V1.c (It.ptr 48 0))), (SV.v (V1.c (It.ptr 64 0))), (SV.v (V1.c (It.ptr 272 0))), (SV.v (V1.c (It.clo 138 [(320, 0)])))], 43)]
theorem mrX_hk (k : U4) (L : List (Fp × Fp × Fp)) (o : Fp × Fp × Fp) : (run qvF false 3000 ((⟨rfR myB_k, .normal, myR k L o⟩ : Cfg)) []).cfg.k = [] := by kernel_rfl
theorem mrX (k : U4) (L : List (Fp × Fp × Fp)) (o : Fp × Fp × Fp) {w0 : World} {F0 : Nat → Prop} {K : Kp} {ac : List Act} {Q : Exit → Act → World → Prop} {cX : Ctx} {aX : Act} (ho : AllP []) (hs : Sim w0 F0 K ac (myR k L o) cX aX) (hK : ∀ ac cY aY, Sim w0 F0 K ac (mkSt 43 [4] [(.v (.c (.ptr 48 0)))] [48] [(some (.fl [(.ob (.p (Prod.fst o))), (.ob (.p (Prod.fst (Prod.snd o)))), (.ob (.p (Prod.snd (Prod.snd o))))]))] 416 [] []) cY aY → Wq Try.prog Q ([]) ac Exit.ret aY cY.w) : Wq Try.prog Q (rfR myB_k) ac .normal aX cX.w :=
  run_at2 (o := ⟨_, _, _, _, _, _, _⟩) qvF_ok (by kernel_rfl) (mrX_hk k L o) ho hs hK
noncomputable def mrZ (o : Fp × Fp × Fp) : St := mkSt 43 [4] [(SV.v (V1.c (It.ptr 48 0)))] [48] [some (.fl [.ob (.p o.1), .ob (.p o.2.1), .ob (.p o.2.2)])] 416 [] []
theorem mrR_end (o : Fp × Fp × Fp) : runEnd qvF Try.f81 false 3000 (⟨[], .ret, mrZ o⟩) [] [] [] = (Option.some ([], ((SV.v (V1.a [(It.ob (Ob.p (Prod.fst o))), (It.ob (Ob.p (Prod.fst (Prod.snd o)))), (It.ob (Ob.p (Prod.snd (Prod.snd o))))])), []))) := by kernel_rfl
end Go.Proofs.Ytkfcphigoncgjaa

/- Digits handed on; a point as often as a number says: contract. No conditions. -/
namespace Go.Proofs.Ytkfcphigoncgjaa

def dgEnc (d : Nat) : List Value := [.int .i64 (d : Int)]
def dgVals (d : Nat) : List SV := [.v (.c (.int .i64 (d : Int)))]

theorem digits_iter {x : Ctx} {p : Nat} {k : U4} {M : List Nat → Nat → Option En} (hM : ∀ s, M s p = some (.fl [.ob (.fr k)])) :
    IterC Try.prog x 138 [(p, 0)] dgEnc (dgT k.val 64) M := by
  intro l J W hgrow hread hyield hJ
  have key : Wq Try.prog (bodyPost Try.prog Try.f138 fun e' W' => (∃ v, e' = Ending.returned v) ∧ J (dgT k.val 64) W') [.code (bodyOf Try.f138)] [] .normal { tmps := [Value.func (.yield l) #[] #[], .pointer (some ⟨x.β p, 0, none⟩)].toArray ++ Array.replicate 30 undef, defers := [] } W := ?_
  · exact calls_of_wp (c := bodyOf Try.f138) Try.func138 rfl ((wpIn_wide (n := 0)).1 key.wp)
  obtain ⟨y, rfl, hm, hcp⟩ := hread [] W hJ
  obtain ⟨hr, hβ⟩ := hcp (p, 0) List.mem_cons_self
  have hr : y.k p = .real := hr
  have hβ : y.β p = x.β p := hβ
  have hargs : denSs (itCtx y p) [.v (.c (.val (.func (.yield l) #[] #[]))), .v (.c (.ptr 0 0))] [.func (.yield l) #[] #[], .pointer (some ⟨x.β p, 0, none⟩)] :=
    .cons ⟨rfl, 0, rfl, rfl⟩ (.cons ⟨rfl, 0, rfl, by show _ = [Value.pointer (some ⟨y.β p, 0, none⟩)]; rw [hβ]⟩ .nil)
  have hpure : ∀ y : Ctx, ∀ (cs : Array Value) ty, y.w.heap[y.β p]? = some (.cells cs ty (0, 0)) → denEn y (.fl [.ob (.fr k)]) cs.toList → denEn (itCtx y p) (.fl [.ob (.fr k)]) cs.toList := fun y cs ty _ h => pure_En rfl h
  have hs := it_sim (nx := 16) (nt := 32) (a := { tmps := [Value.func (.yield l) #[] #[], .pointer (some ⟨x.β p, 0, none⟩)].toArray ++ Array.replicate 30 undef, defers := [] }) hm (hM []) hr (hpure y) rfl (by simp) (argT_den hargs 30)
  change Wq Try.prog _ _ _ _ _ (itCtx y p).w
  refine dg l k trivial hs fun ac cY aY hs1 => ?_
  have hmb : Mem (itCtx y p) (one (.fl [.ob (.fr k)])) := it_mem hm (hM _) hr (hpure y)
  have hs2 := hs1.slots (svs' := [.v (.c (.val (.func (.yield l) #[] #[]))), .v (.c (.ptr 0 0)), .v (.c (.bool false)), .v (.c (.int .i64 63))]) ⟨fun _ h => h, fun _ h => h, fun _ h => lit_bool rfl h, fun _ h => h, trivial⟩
  let I : { t : Nat // t ≤ 64 } → List Act → Act → World → Prop := fun t ac a w => ∃ y z, z.w = w ∧ y.k p = .real ∧ y.β p = x.β p ∧ Mem y (M (dgT k.val t.1)) ∧ J (dgT k.val t.1) y.w ∧ Mem (itCtx y p) (one (.fl [.ob (.fr k)])) ∧ Sim y.w y.F (kPin (itCtx y p)) ac (dgS l k (!(dgT k.val t.1).isEmpty) ((63 : Int) - (t.1 : Int))) z a
  refine loop_inv I (fun t => 64 - t) (c := lpC dg_k) (k := lpR dg_k) (by kernel_rfl) (fun t ih ac b w hI => ?_) ⟨0, Nat.zero_le _⟩ ⟨y, cY, rfl, hr, hβ, hm, hJ, hmb, hs2.nx _⟩
  obtain ⟨t, ht⟩ := t
  obtain ⟨y, z, rfl, hr, hβ, hm, hJ, hmb, hs⟩ := hI
  simp only at hm hJ hs ih
  by_cases h : t < 64
  · obtain ⟨i, hi⟩ : ∃ i : Nat, i = 63 - t := ⟨_, rfl⟩
    have ei : (63 : Int) - (t : Int) = (i : Int) := by omega
    have hi64 : i < 64 := by omega
    rw [ei] at hs
    have hdig := dig_expr k hi64
    have hpl := dig_place hi64
    have ho1 : decide ((i : Int) ≥ 0) = true := decide_eq_true (by omega)
    have ho2 : (0 : Int) ≤ IntKind.wrap IntKind.i64 (Int.tdiv (i : Int) 16) := by rw [hpl]; omega
    have ho3 : IntKind.wrap IntKind.i64 (Int.tdiv (i : Int) 16) < 4 := by rw [hpl]; omega
    have ho4 : 0 + (IntKind.wrap IntKind.i64 (Int.tdiv (i : Int) 16)).toNat * 1 < Ob.k (Ob.fr k) := by rw [hpl]; show _ < 4; omega
    have ho5 := dig_shift i
    have e4 : IntKind.wrap IntKind.i64 ((i : Int) - 1) = (63 : Int) - ((t + 1 : Nat) : Int) := by rw [wrap_id (by omega) (by omega)]; omega
    obtain ⟨d, hd⟩ : ∃ d, k.val / 16 ^ i % 16 = d := ⟨_, rfl⟩
    rw [hd] at hdig
    have hd' : k.val / 16 ^ (63 - t) % 16 = d := by rw [← hi]; exact hd
    -- what is handed on
    have give : ∀ (ac : List Act) (cU : Ctx) (aU : Act), dgT k.val (t + 1) = dgT k.val t ++ [d] → Sim y.w y.F (kPin (itCtx y p)) ac (mkSt 32 [0, 1, 3, 4, 26, 27, 28] [.v (.c (.val (.func (.yield l) #[] #[]))), .v (.c (.ptr 0 0)), .v (.c (.bool true)), .v (.c (.int .i64 (i : Int))), .v (.c (.lit true)), .v (.c (.val (.func (.yield l) #[] #[]))), .v (.c (.int .i64 (d : Int)))] [0] [some (.fl [.ob (.fr k)])] 416 [] []) cU aU →
        Wq Try.prog (bodyPost Try.prog Try.f138 fun e' W' => (∃ v, e' = Ending.returned v) ∧ J (dgT k.val 64) W') dgY_k ac .normal aU cU.w := by
      intro ac cU aU e3 hs6
      obtain ⟨hg, hk2, hβ2⟩ := it_back hmb rfl hs6 rfl
      have hJ2 := hgrow _ _ _ hJ hg
      obtain ⟨r, hr1⟩ := dgT_pre k.val (m := 64) (t := t + 1) h
      refine yield_at (R := fun W' => J (dgT k.val (t + 1)) W') (dst := some 29) (f := .tmp 27) (args := [.tmp 28]) (by kernel_rfl) hs6 (l := l) rfl (vs := dgEnc d) ?_ ?_ fun W' hJ3 => ?_
      · have h21 := D_int (hs6.t 28)
        show [aU.tmps.getD 28 undef] = _
        rw [h21]
        rfl
      · have := hyield (dgT k.val t) d _ hJ2 ⟨r, by rw [hr1, e3, List.append_assoc]; rfl⟩
        rw [← e3] at this
        exact this
      · obtain ⟨y3, rfl, hm3, hc3⟩ := hread _ _ hJ3
        obtain ⟨hr3, hβ3⟩ := hc3 (p, 0) List.mem_cons_self
        have hr3 : y3.k p = .real := hr3
        have hβ3 : y3.β p = x.β p := hβ3
        have hmb3 : Mem (itCtx y3 p) (one (.fl [.ob (.fr k)])) := it_mem hm3 (hM _) hr3 (hpure y3)
        have hs7 := it_again (nx' := 400) (dst := 29) (b := true) hs6 (by kernel_rfl) rfl hm3 (hM _) hr3 (hpure y3) (by rw [hβ2, hβ]; exact hβ3.symm) (by decide)
        change Wq Try.prog _ _ _ _ _ (itCtx y3 p).w
        refine dgB l k _ _ trivial hs7 fun ac cT aT hs8 => ?_
        rw [e4] at hs8
        have hne : (!(dgT k.val (t + 1)).isEmpty) = true := by rw [e3]; simp
        refine ih ⟨t + 1, by omega⟩ (by show 64 - (t + 1) < 64 - t; omega) ac aT _ ⟨y3, cT, rfl, hr3, hβ3, hm3, hJ3, hmb3, ?_⟩
        show Sim _ _ _ _ (dgS l k (!(dgT k.val (t + 1)).isEmpty) _) _ _
        rw [hne]
        exact hs8.nx _
    by_cases hg : (dgT k.val t).isEmpty = true
    · rw [hg] at hs
      by_cases hz : d = 0
      · have e3 : dgT k.val (t + 1) = [] := dgT_stay hg (by rw [hd', hz])
        refine dgN l k _ _ ⟨ho1, by decide, ho2, ho3, ho4, by decide, ho5, rfl, by rw [hdig, hz]; rfl, trivial⟩ hs fun ac cT aT hs8 => ?_
        rw [e4, hdig, hz] at hs8
        have e5 : dgT k.val (t + 1) = dgT k.val t := by rw [e3, List.isEmpty_iff.1 hg]
        refine ih ⟨t + 1, by omega⟩ (by show 64 - (t + 1) < 64 - t; omega) ac aT _ ⟨y, cT, rfl, hr, hβ, ?_, ?_, hmb, ?_⟩
        · show Mem y (M (dgT k.val (t + 1)))
          rw [e5]; exact hm
        · show J (dgT k.val (t + 1)) y.w
          rw [e5]; exact hJ
        · show Sim _ _ _ _ (dgS l k (!(dgT k.val (t + 1)).isEmpty) _) _ _
          rw [e3]
          exact hs8.nx _
      · have e3 : dgT k.val (t + 1) = dgT k.val t ++ [d] := by
          rw [← hd']
          exact dgT_go fun hc => hz (by rw [← hd']; exact hc.2)
        have hp0 : decide ((d : Int) > 0) = true := decide_eq_true (by omega)
        refine dgZ l k _ _ ⟨ho1, by decide, ho2, ho3, ho4, by decide, ho5, rfl, by rw [hdig]; exact hp0, trivial⟩ hs fun ac cU aU hs6 => ?_
        rw [hdig, hp0] at hs6
        exact give ac cU aU e3 (hs6.nx _)
    · have hg : (dgT k.val t).isEmpty = false := Bool.eq_false_iff.2 hg
      rw [hg] at hs
      have e3 : dgT k.val (t + 1) = dgT k.val t ++ [d] := by
        rw [← hd']
        exact dgT_go fun hc => by rw [hg] at hc; exact absurd hc.1 (by decide)
      refine dgY l k _ _ ⟨ho1, by decide, ho2, ho3, ho4, by decide, ho5, rfl, trivial⟩ hs fun ac cU aU hs6 => ?_
      rw [hdig] at hs6
      have hs6' := hs6.slots (svs' := [.v (.c (.val (.func (.yield l) #[] #[]))), .v (.c (.ptr 0 0)), .v (.c (.bool true)), .v (.c (.int .i64 (i : Int))), .v (.c (.lit true)), .v (.c (.val (.func (.yield l) #[] #[]))), .v (.c (.int .i64 (d : Int)))])
        ⟨fun _ h => h, fun _ h => h, fun _ h => lit_bool rfl h, fun _ h => h, fun _ h => h, fun _ h => h, fun _ h => h, trivial⟩
      exact give ac cU aU e3 (hs6'.nx _)
  · have e5 : t = 64 := by omega
    subst e5
    refine dgX l k _ _ ⟨by decide, trivial⟩ hs fun ac cV aV hs4 => ?_
    obtain ⟨hg, _, _⟩ := it_back hmb rfl hs4 rfl
    exact ⟨it_end qvF_ok hs4 rfl rfl rfl (fun v => ⟨⟨v, rfl⟩, hgrow _ _ _ hJ hg⟩) (.inr rfl)⟩

end Go.Proofs.Ytkfcphigoncgjaa

/- A point as often as a number says: contract. No conditions. -/
namespace Go.Proofs.Ytkfcphigoncgjaa

section
variable {F : Type} [Add F] [Sub F] [Mul F] [OfNat F 0] [DecidableEq F]
/-- The table: the point 0, 1, 2 .. times. -/
def jtab (a : F × F × F) : Nat → F × F × F
  | 0 => (a.1, a.2.1, 0)
  | n + 1 => jpl (jtab a n) a
def jst (a o : F × F × F) (d : Nat) : F × F × F := jpl (jtw (jtw (jtw (jtw o)))) (jtab a d)
def jmn (a : F × F × F) (l : List Nat) : F × F × F := l.foldl (jst a) (jtab a 0)
def jtws : Nat → F × F × F → F × F × F
  | 0, o => o
  | n + 1, o => jtw (jtws n o)
end

theorem cat_flat {x : Ctx} (L : List (Fp × Fp × Fp)) : ∀ (n i : Nat) (cs : List Value), catL x.D (flatPt L i n) cs → cs.length = n * 18 ∧ ∀ j, j < n → ∃ c, catL x.D (ptIts (L.getD (i + j) pt0)) c ∧ ∀ (q : Nat) (v : Value), c[q]? = some v → cs[j * 18 + q]? = some v
  | 0, i, cs, h => by
    have h : cs = [] := h
    subst h
    exact ⟨rfl, fun j hj => absurd hj (Nat.not_lt_zero _)⟩
  | n + 1, i, cs, h => by
    obtain ⟨c1, r1, e1, h1, c2, r2, e2, h2, c3, r3, e3, h3, h4⟩ := h
    obtain ⟨hl, hj⟩ := cat_flat L n (i + 1) r3 h4
    have l1 : c1.length = 6 := D_len h1
    have l2 : c2.length = 6 := D_len h2
    have l3 : c3.length = 6 := D_len h3
    subst e1 e2 e3
    refine ⟨by simp only [List.length_append]; omega, fun j hjn => ?_⟩
    cases j with
    | zero =>
      refine ⟨c1 ++ (c2 ++ (c3 ++ [])), ⟨c1, _, rfl, h1, c2, _, rfl, h2, c3, _, rfl, h3, rfl⟩, fun q v hq => ?_⟩
      rw [List.append_nil] at hq
      have hlt : q < (c1 ++ (c2 ++ c3)).length := by
        rcases Nat.lt_or_ge q (c1 ++ (c2 ++ c3)).length with h | h
        · exact h
        · rw [List.getElem?_eq_none h] at hq; cases hq
      rw [Nat.zero_mul, Nat.zero_add, ← hq]
      have e : c1 ++ (c2 ++ (c3 ++ r3)) = (c1 ++ (c2 ++ c3)) ++ r3 := by simp
      rw [e, List.getElem?_append_left hlt]
    | succ j =>
      obtain ⟨c, hc, hv⟩ := hj j (by omega)
      rw [show i + 1 + j = i + (j + 1) from by omega] at hc
      refine ⟨c, hc, fun q v hq => ?_⟩
      have e : c1 ++ (c2 ++ (c3 ++ r3)) = (c1 ++ (c2 ++ c3)) ++ r3 := by simp
      have hl18 : (c1 ++ (c2 ++ c3)).length = 18 := by simp only [List.length_append]; omega
      rw [e, List.getElem?_append_right (by rw [hl18]; omega), hl18, show (j + 1) * 18 + q - 18 = j * 18 + q from by omega]
      exact hv q v hq

theorem tab_conv {x : Ctx} (L : List (Fp × Fp × Fp)) (h : L.length = 16) (cs : List Value) (hc : denEn x (.fl (flatPt L 0 16)) cs) : denEn x (.sq (.pt L)) cs := by
  obtain ⟨hl, hj⟩ := cat_flat L 16 0 cs hc
  refine ⟨?_, fun i hi => ?_⟩
  · show L.length * 18 ≤ cs.length
    rw [h, hl]
    exact Nat.le_refl _
  · have hi : i < L.length := hi
    rw [h] at hi
    obtain ⟨c, h1, h2⟩ := hj i hi
    rw [Nat.zero_add] at h1
    exact ⟨c, h1, h2⟩

def tab0 (x y : Fp) : List (Fp × Fp × Fp) := (x, y, 0) :: List.replicate 15 pt0

theorem many_fnd (x y z : Fp) (k : U4) : FnD Try.prog 81 [.v (.a [.ob (.p x), .ob (.p y), .ob (.p z)]), .v (.a [.ob (.fr k)])] (.v (.a (ptIts (jmn (x, y, z) (dgT k.val 64))))) [] := by
  refine fn_start_m (fn := Try.f81) (c := bodyOf Try.f81) Try.func81 rfl rfl fun x0 a0 hk hF hs => ?_
  refine my x y z k ⟨by decide, by decide, trivial⟩ hs fun ac cY aY hs1 => ?_
  have hs2 := hs1.blocks (ens' := [some (.fl [.ob (.p x), .ob (.p y), .ob (.p z)]), some (.fl [.ob (.fr k)]), some (.fl [.ob (.p 0), .ob (.p 0), .ob (.p 0)]), some (.sq (.pt (tab0 x y)))])
    ⟨.inl rfl, .inl rfl, .inl rfl, .inr ⟨_, _, _, rfl, rfl, rfl, fun cs h => tab_conv _ rfl cs h⟩, trivial⟩
  refine loop_rule (ι := { p : Nat × List (Fp × Fp × Fp) // 1 ≤ p.1 ∧ p.1 ≤ 16 ∧ p.2.length = 16 ∧ ∀ j, j < p.1 → p.2.getD j pt0 = jtab (x, y, z) j }) (fun p => myS x y z k p.1.2 (p.1.1 : Int)) (fun p => 16 - p.1.1) (c := lpC my_k) (k := lpR my_k) (by kernel_rfl) (fun p ih ac cY aY hs => ?_)
    ⟨(1, tab0 x y), Nat.le_refl 1, by show (1 : Nat) ≤ 16; omega, rfl, fun j hj => by
      have : j = 0 := by have hj : j < 1 := hj; omega
      subst this; rfl⟩ (hs2.nx _)
  obtain ⟨⟨i, L⟩, h1, h16, hL, htab⟩ := p
  simp only at ih hs h1 h16 hL htab
  by_cases hi : i < 16
  · have e1 : IntKind.wrap IntKind.i64 ((i : Int) - 1) = ((i - 1 : Nat) : Int) := by rw [wrap_id (by omega) (by omega)]; omega
    have e2 : IntKind.wrap IntKind.i64 ((i : Int) + 1) = ((i + 1 : Nat) : Int) := by rw [wrap_id (by omega) (by omega)]; omega
    refine myA x y z k L i ⟨decide_eq_true (by omega), by rw [e1]; omega, by rw [e1]; omega, rfl, by rw [e1, Int.toNat_natCast, hL]; omega, by omega, by omega, rfl, by rw [Int.toNat_natCast, hL]; exact hi, trivial⟩ hs fun ac cZ aZ hs3 => ?_
    rw [e1, e2, Int.toNat_natCast, Int.toNat_natCast, htab (i - 1) (by omega)] at hs3
    have e3 : jpl (jtab (x, y, z) (i - 1)) (x, y, z) = jtab (x, y, z) i := by
      obtain ⟨m, rfl⟩ : ∃ m, i = m + 1 := ⟨i - 1, by omega⟩
      rfl
    rw [e3] at hs3
    refine ih ⟨(i + 1, L.set i (jtab (x, y, z) i)), by show 1 ≤ i + 1; omega, hi, by show (L.set i _).length = 16; rw [List.length_set]; exact hL, fun j hj => ?_⟩ (by show 16 - (i + 1) < 16 - i; omega) ac cZ aZ (hs3.nx _)
    have hj : j < i + 1 := hj
    show (L.set i (jtab (x, y, z) i)).getD j pt0 = _
    by_cases e : j = i
    · subst e
      simp [List.getD, hL, hi]
    · have : (L.set i (jtab (x, y, z) i)).getD j pt0 = L.getD j pt0 := by
        simp [List.getD, List.getElem?_set_ne (Ne.symm e)]
      rw [this]
      exact htab j (by omega)
  · have : i = 16 := by omega
    subst this
    refine myB x y z k L _ ⟨by decide, by decide, by decide, rfl, by rw [hL]; decide, trivial⟩ hs fun ac cZ aZ hs3 => ?_
    rw [htab 0 (by decide)] at hs3
    obtain ⟨e1, e2⟩ := isRf_eq (k := myB_k) (by kernel_rfl)
    rw [e1]
    have eP : (rfP myB_k).toList = [31] := by kernel_rfl
    have eG : rfG myB_k = .tmp 30 := by kernel_rfl
    refine range_rule (ps := rfP myB_k) e2 hs3 (gf := 138) (caps := [(320, 0)]) (enters_of Try.func138 rfl rfl) (fun pre => myR k L (pre.foldl (jst (x, y, z)) (jtab (x, y, z) 0))) (fun s => by rw [eG]; rfl) ⟨_, rfl⟩ (dgT k.val 64) dgVals dgEnc
      (fun y z => .cons ⟨rfl, 0, rfl⟩ .nil) (fun z => by rw [← Array.length_toList, eP]; rfl) (fun pre p hp => ?_) (digits_iter fun s => rfl) (fun pre d => mrB k L (pre.foldl (jst (x, y, z)) (jtab (x, y, z) 0)) d)
      (fun pre d => mrF k L ((pre ++ [d]).foldl (jst (x, y, z)) (jtab (x, y, z) 0))) (fun pre d => ⟨_, rfl⟩) (fun pre d hd w1 F1 K1 as1 Q1 l y1 b hs4 hQ => ?_) (fun pre d hd w1 F1 K1 as1 Q1 l y1 b hs4 hQ => ?_) fun D y1 hs4 hD hFD hd => ?_
    · rw [eP] at hp
      have h43 : (myR k L (pre.foldl (jst (x, y, z)) (jtab (x, y, z) 0))).nt = 43 := rfl
      rw [h43]
      simp only [List.mem_cons, List.not_mem_nil, or_false] at hp
      subst hp
      decide
    · rw [eP] at hs4
      exact mrA k L _ d trivial hs4 fun cZ aZ hs5 => ⟨hQ _ _ (hs5.nx _)⟩
    · have hd16 : d < 16 := by
        obtain ⟨r, hr⟩ := hd
        exact dgT_lt (n := k.val) 64 d (by rw [hr]; simp)
      rw [List.foldl_append] at hQ
      generalize pre.foldl (jst (x, y, z)) (jtab (x, y, z) 0) = o at hs4 hQ
      have hst : List.foldl (jst (x, y, z)) o [d] = jpl (jtws 4 o) (L.getD d pt0) := by
        rw [htab d hd16]
        rfl
      rw [hst] at hQ
      refine mrC k L o d trivial hs4 fun cV aV hs5 => ?_
      let I : { j : Nat // j ≤ 4 } → List Act → Act → World → Prop := fun j ac a w => ac = as1 ∧ ∃ z, z.w = w ∧ Sim w1 F1 K1 as1 (mrS k L (jtws j.1 o) d (j.1 : Int)) z a
      refine loop_inv (ρ := some l) I (fun j => 4 - j.1) (c := lpC mrC_k) (k := lpR mrC_k) (by kernel_rfl) (fun j ih ac aV w hI => ?_) ⟨0, Nat.zero_le _⟩ ⟨rfl, cV, rfl, hs5.nx _⟩
      obtain ⟨j, hj⟩ := j
      obtain ⟨rfl, cV, rfl, hs6⟩ := hI
      simp only at ih hs6
      by_cases hj4 : j < 4
      · refine mrD k L _ d j ⟨decide_eq_true (by omega), trivial⟩ hs6 fun cU aU hs7 => ?_
        rw [wrap_id (n := (j : Int) + 1) (by omega) (by omega)] at hs7
        exact ih ⟨j + 1, hj4⟩ (by show 4 - (j + 1) < 4 - j; omega) _ aU _ ⟨rfl, cU, rfl, hs7.nx _⟩
      · have : j = 4 := by omega
        subst this
        refine mrE k L _ d _ ⟨by decide, by omega, by omega, rfl, by rw [Int.toNat_natCast, hL]; exact hd16, trivial⟩ hs6 fun cU aU hs7 => ?_
        rw [Int.toNat_natCast] at hs7
        exact ⟨hQ _ _ (hs7.nx _)⟩
    · have hs5 := hs4.marked rfl rfl D
      show Wq _ _ _ _ _ _ _ _
      have ej : (dgT k.val 64).foldl (jst (x, y, z)) (jtab (x, y, z) 0) = jmn (x, y, z) (dgT k.val 64) := rfl
      rw [ej] at hs4 hs5
      generalize jmn (x, y, z) (dgT k.val 64) = o at hs4 hs5 ⊢
      refine mrX k L o trivial hs5 fun ac cV aV hs6 => ⟨?_⟩
      have hs7 : Sim y1.w y1.F (kOwn y1 kAll (markOf D)) ac (mrZ o) cV aV := hs6
      exact fn_finish qvF_ok hk hF (mrR_end o) trivial (fun y v hd => hd) hs4 hD hFD hd rfl hs7

end Go.Proofs.Ytkfcphigoncgjaa

/- A point as often as a number says: the plain law. No conditions. -/
namespace Go.Proofs.Ytkfcphigoncgjaa

section
variable {F : Type} [Fld F] [DecidableEq F] {b : F}

/-- A point as often as a number says. -/
def nmul (P : Pt F) : Nat → Pt F
  | 0 => none
  | n + 1 => gadd (nmul P n) P

theorem nmul_on (hc : Cv b) {P : Pt F} (h : OnC b P) : ∀ n, OnC b (nmul P n)
  | 0 => True.intro
  | n + 1 => gadd_on hc _ _ (nmul_on hc h n) h

theorem nmul_one (P : Pt F) : nmul P 1 = P := rfl
theorem nmul_add (hc : Cv b) {P : Pt F} (h : OnC b P) (m : Nat) : ∀ n, nmul P (m + n) = gadd (nmul P m) (nmul P n)
  | 0 => (gadd_none _).symm
  | n + 1 => by
    show gadd (nmul P (m + n)) P = gadd (nmul P m) (gadd (nmul P n) P)
    rw [nmul_add hc h m n, gadd_assoc hc _ _ _ (nmul_on hc h m) (nmul_on hc h n) h]

theorem nmul_none : ∀ n, nmul (none : Pt F) n = none
  | 0 => rfl
  | n + 1 => by
    show gadd (nmul none n) none = none
    rw [nmul_none n]
    rfl

theorem nmul_mul (hc : Cv b) {P : Pt F} (h : OnC b P) (m : Nat) : ∀ n, nmul P (m * n) = nmul (nmul P m) n
  | 0 => rfl
  | n + 1 => by
    rw [Nat.mul_succ, nmul_add hc h, nmul_mul hc h m n]
    rfl

theorem gadd_four (hc : Cv b) {P Q R S : Pt F} (hP : OnC b P) (hQ : OnC b Q) (hR : OnC b R) (hS : OnC b S) : gadd (gadd P Q) (gadd R S) = gadd (gadd P R) (gadd Q S) := by
  rw [gadd_assoc hc _ _ _ hP hQ (gadd_on hc _ _ hR hS), ← gadd_assoc hc _ _ _ hQ hR hS, gadd_comm hc Q R hQ hR, gadd_assoc hc _ _ _ hR hQ hS, ← gadd_assoc hc _ _ _ hP hR (gadd_on hc _ _ hQ hS)]

theorem nmul_gadd (hc : Cv b) {P Q : Pt F} (hP : OnC b P) (hQ : OnC b Q) : ∀ n, nmul (gadd P Q) n = gadd (nmul P n) (nmul Q n)
  | 0 => rfl
  | n + 1 => by
    show gadd (nmul (gadd P Q) n) (gadd P Q) = gadd (gadd (nmul P n) P) (gadd (nmul Q n) Q)
    rw [nmul_gadd hc hP hQ n, gadd_four hc (nmul_on hc hP n) (nmul_on hc hQ n) hP hQ]

/-- What adds up to that at infinity is less the other. -/
theorem gneg_uniq (hc : Cv b) {P Q : Pt F} (hP : OnC b P) (hQ : OnC b Q) (h : gadd P Q = none) : Q = gneg P := by
  have e1 : gadd (gneg P) (gadd P Q) = gneg P := by rw [h, gadd_none]
  rw [← gadd_assoc hc _ _ _ (gneg_on P hP) hP hQ, gadd_comm hc _ _ (gneg_on P hP) hP, gadd_gneg hc P hP] at e1
  exact e1

theorem nmul_gneg (hc : Cv b) {P : Pt F} (hP : OnC b P) (n : Nat) : nmul (gneg P) n = gneg (nmul P n) := by
  apply gneg_uniq hc (nmul_on hc hP n) (nmul_on hc (gneg_on P hP) n)
  rw [← nmul_gadd hc hP (gneg_on P hP), gadd_gneg hc P hP, nmul_none]

theorem jtab_ok (two : (1 : F) + 1 ≠ 0) {P : Pt F} {a : F × F × F} (h : Jc P a) : ∀ n, Jc (nmul P n) (jtab a n)
  | 0 => rfl
  | n + 1 => jpl_ok two _ _ _ _ (jtab_ok two h n) h

theorem jst_ok (hc : Cv b) {P : Pt F} {a : F × F × F} (hP : OnC b P) (h : Jc P a) {m : Nat} {o : F × F × F} (ho : Jc (nmul P m) o) (d : Nat) : Jc (nmul P (16 * m + d)) (jst a o d) := by
  have h1 := jtw_ok hc.two _ _ ho
  rw [← nmul_add hc hP] at h1
  have h2 := jtw_ok hc.two _ _ h1
  rw [← nmul_add hc hP] at h2
  have h3 := jtw_ok hc.two _ _ h2
  rw [← nmul_add hc hP] at h3
  have h4 := jtw_ok hc.two _ _ h3
  rw [← nmul_add hc hP] at h4
  have h5 := jpl_ok hc.two _ _ _ _ h4 (jtab_ok hc.two h d)
  rw [← nmul_add hc hP] at h5
  rw [show 16 * m + d = m + m + (m + m) + (m + m + (m + m)) + (m + m + (m + m) + (m + m + (m + m))) + d from by omega]
  exact h5

theorem jmn_fold (hc : Cv b) {P : Pt F} {a : F × F × F} (hP : OnC b P) (h : Jc P a) : ∀ (l : List Nat) (m : Nat) (o : F × F × F), Jc (nmul P m) o → Jc (nmul P (l.foldl (fun v d => 16 * v + d) m)) (l.foldl (jst a) o)
  | [], _, _, ho => ho
  | d :: l, m, o, ho => jmn_fold hc hP h l (16 * m + d) (jst a o d) (jst_ok hc hP h ho d)

theorem jmn_ok (hc : Cv b) {P : Pt F} {a : F × F × F} (hP : OnC b P) (h : Jc P a) (l : List Nat) : Jc (nmul P (dgV l)) (jmn a l) := jmn_fold hc hP h l 0 (jtab a 0) (rfl : (0 : F) = 0)
end

theorem dgV_all {n t : Nat} (ht : t = 64) (h : n < 16 ^ 64) : dgV (dgT n t) = n := by
  have e := dgV_T h t (by omega)
  rw [show 64 - t = 0 from by omega, Nat.pow_zero, Nat.div_one] at e
  exact e
theorem b4_lt (k : U4) : k.val < 16 ^ 64 := by
  have h : B4 = 16 ^ 64 := by decide +kernel
  rw [← h]
  exact k.isLt

theorem dgV_is (k : U4) : dgV (dgT k.val 64) = k.val := dgV_all (Eq.refl 64) (b4_lt k)

/-- A point outside as often as a number says. -/
def mulG (a : G1D) (k : U4) : G1D := outG (jmn (inG a) (dgT k.val 64))
theorem mulG_is {a : G1D} (ha : onG a = true) (k : U4) : mulG a k = gP (nmul (pG a) k.val) := by
  unfold mulG
  generalize hl : dgT k.val 64 = l
  have h := jmn_ok cv1 (onG_is ha).2 (inG_jc a) l
  have e : dgV l = k.val := by rw [← hl]; exact dgV_is k
  rw [e] at h
  exact outG_jc h
theorem pG_mul {a : G1D} (ha : onG a = true) (k : U4) : pG (mulG a k) = nmul (pG a) k.val := by rw [mulG_is ha, pG_gP]
theorem on_mul {a : G1D} (ha : onG a = true) (k : U4) : onG (mulG a k) = true := by
  rw [mulG_is ha]
  exact onG_gP (nmul_on cv1 (onG_is ha).2 _)

end Go.Proofs.Ytkfcphigoncgjaa

/- one.Mul, and OneTimes' law, walked. No conditions. -/
namespace Go.Proofs.Ytkfcphigoncgjaa

instance : Inhabited G1D := ⟨g10⟩
def manySpec1 : FnSpec
  | [.v (.a [.ob (.p x), .ob (.p y), .ob (.p z)]), .v (.a [.ob (.fr k)])] => some ([], .v (.a (ptIts (jmn (x, y, z) (dgT k.val 64)))), [])
  | _ => none
noncomputable def qwA : Env := qvF.set (addT qvF.fn 81 manySpec1)
theorem qwA_ok : EnvOk Try.prog qwA := env_add qvF_ok 81 manySpec1 (enters_of Try.func81 rfl rfl) fun args o r es h _ => by
  unfold manySpec1 at h
  split at h
  · cases h; exact many_fnd _ _ _ _
  · cases h
--@env qwA qwA_ok
theorem muA (a b : U6) (i : Bool) (k : U4) : fnRes qwA Try.f34 3000 [.v (.a [.ob (.fp a), .ob (.fp b), .bool i]), .v (.a [.ob (.fr k)])] [true] [] [] = (Option.some ([((Bool.not (onG (G1D.mk a b i))) = true)], ((SV.t [(V1.a [(It.ob (Ob.fp (0 : U6))), (It.ob (Ob.fp (0 : U6))), (It.lit false)]), (V1.c (It.int IntKind.i64 (30 : Int)))]), []))) := by kernel_rfl
theorem muB (a b : U6) (i : Bool) (k : U4) : fnRes qwA Try.f34 3000 [.v (.a [.ob (.fp a), .ob (.fp b), .bool i]), .v (.a [.ob (.fr k)])] [false] [] [] = (Option.some ([((Bool.not (onG (G1D.mk a b i))) = false)], ((SV.t [(V1.a [(It.ob (Ob.fp (G1D.x (outG (jmn (inG (G1D.mk a b i)) (dgT (Fin.val k) 64)))))), (It.ob (Ob.fp (G1D.y (outG (jmn (inG (G1D.mk a b i)) (dgT (Fin.val k) 64)))))), (It.bool (G1D.inf (outG (jmn (inG (G1D.mk a b i)) (dgT (Fin.val k) 64)))))]), (V1.c (It.int IntKind.i64 (0 : Int)))]), []))) := by kernel_rfl
/-- What Mul tells. -/
def muR (a : G1D) (k : U4) : G1D × Int := if onG a then (mulG a k, 0) else (g10, 30)
theorem muR_on {a : G1D} (k : U4) (ha : onG a = true) : muR a k = (mulG a k, 0) := by unfold muR; rw [ha]; rfl
theorem muR_off {a : G1D} (k : U4) (ha : onG a = false) : muR a k = (g10, 30) := by unfold muR; rw [ha]; rfl
theorem mul_fnd1 (a b : U6) (i : Bool) (k : U4) : FnD Try.prog 34 [.v (.a [.ob (.fp a), .ob (.fp b), .bool i]), .v (.a [.ob (.fr k)])] (.t [.a (muR ⟨a, b, i⟩ k).1.its, .c (.int .i64 (muR ⟨a, b, i⟩ k).2)]) [] := by
  by_cases h1 : onG ⟨a, b, i⟩ = true
  · rw [muR_on k h1]
    exact fn_sound qwA_ok Try.func34 (muB a b i k) ⟨by rw [h1]; rfl, trivial⟩
  · have h1 : onG ⟨a, b, i⟩ = false := Bool.eq_false_iff.2 h1
    rw [muR_off k h1]
    exact (fn_sound qwA_ok Try.func34 (muA a b i k) ⟨by rw [h1]; rfl, trivial⟩).conv (fun _ _ h => h) fun y v hd => lit_third_t hd
def mulSpec1 : FnSpec
  | [.v (.a [.ob (.fp a), .ob (.fp b), .bool i]), .v (.a [.ob (.fr k)])] => some ([], .t [.a (muR ⟨a, b, i⟩ k).1.its, .c (.int .i64 (muR ⟨a, b, i⟩ k).2)], [])
  | _ => none
noncomputable def qwB : Env := qwA.set (addT qwA.fn 34 mulSpec1)
theorem qwB_ok : EnvOk Try.prog qwB := env_add qwA_ok 34 mulSpec1 (enters_of Try.func34 rfl rfl) fun args o r es h _ => by
  unfold mulSpec1 at h
  split at h
  · cases h; exact mul_fnd1 _ _ _ _
  · cases h
--@env qwB qwB_ok
theorem moR (a b : U6) (i : Bool) (k : U4) : fnRes qwB Try.f35 3000 [.v (.a [.ob (.fp a), .ob (.fp b), .bool i]), .v (.a [.ob (.fr k)])] [] [] [] = (Option.some ([], ((SV.v (V1.a [(It.ob (Ob.fp (G1D.x (Prod.fst (muR (G1D.mk a b i) k))))), (It.ob (Ob.fp (G1D.y (Prod.fst (muR (G1D.mk a b i) k))))), (It.bool (G1D.inf (Prod.fst (muR (G1D.mk a b i) k))))])), []))) := by kernel_rfl
theorem mulo_fnd1 (a b : U6) (i : Bool) (k : U4) : FnD Try.prog 35 [.v (.a [.ob (.fp a), .ob (.fp b), .bool i]), .v (.a [.ob (.fr k)])] (.v (.a (muR ⟨a, b, i⟩ k).1.its)) [] := fn_sound qwB_ok Try.func35 (moR a b i k) trivial
def mulSpec2 : FnSpec
  | [.v (.a [.ob (.fp a), .ob (.fp b), .bool i]), .v (.a [.ob (.fr k)])] => some ([], .v (.a (muR ⟨a, b, i⟩ k).1.its), [])
  | _ => none
noncomputable def qwC : Env := qwB.set (addT qwB.fn 35 mulSpec2)
theorem qwC_ok : EnvOk Try.prog qwC := env_add qwB_ok 35 mulSpec2 (enters_of Try.func35 rfl rfl) fun args o r es h _ => by
  unfold mulSpec2 at h
  split at h
  · cases h; exact mulo_fnd1 _ _ _ _
  · cases h
--@env qwC qwC_ok
theorem tiA (a : G1D) (n s t : Int) : fnRes qwC Try.f7 3000 [.v (.a a.its), .v (.c (.int .i64 n)), .v (.c (.int .u32 s)), .v (.c (.int .u32 t))] [true, true, true] [] [] = (Option.some ([((Bool.not (onG a)) = true), ((0 : Int) ≤ (1 : Int)), ((1 : Int) < (18446744073709551616 : Int)), ((0 : Int) ≤ (0 : Int)), ((0 : Int) < (18446744073709551616 : Int)), ((0 : Int) ≤ (0 : Int)), ((0 : Int) < (18446744073709551616 : Int)), ((0 : Int) ≤ (0 : Int)), ((0 : Int) < (18446744073709551616 : Int)), (true = true), (((Prod.snd (muR a (Fin.ofNat B4 1))) == (30 : Int)) = true)], ((SV.v (V1.c (It.bool (ite (true = true) (Bool.and (decide ((G1D.x (Prod.fst (muR a (Fin.ofNat B4 1)))) = (0 : U6))) (Bool.and (decide ((G1D.y (Prod.fst (muR a (Fin.ofNat B4 1)))) = (0 : U6))) ((G1D.inf (Prod.fst (muR a (Fin.ofNat B4 1)))) == false))) (Bool.not (Bool.and (decide ((G1D.x (Prod.fst (muR a (Fin.ofNat B4 1)))) = (0 : U6))) (Bool.and (decide ((G1D.y (Prod.fst (muR a (Fin.ofNat B4 1)))) = (0 : U6))) ((G1D.inf (Prod.fst (muR a (Fin.ofNat B4 1)))) == false)))))))), []))) := by kernel_rfl
noncomputable def ti_k : List KI := (run qwC false 3000 ((fun (a : G1D) (n s t : Int) => (⟨[.code (bodyOf Try.f7)], .normal, initSt Try.f7.ntmps [.v (.a a.its), .v (.c (.int .i64 n)), .v (.c (.int .u32 s)), .v (.c (.int .u32 t))]⟩ : Cfg)) default default default default) [false]).cfg.k
theorem ti_hk (a : G1D) (n s t : Int) : (run qwC false 3000 ((⟨[.code (bodyOf Try.f7)], .normal, initSt Try.f7.ntmps [.v (.a a.its), .v (.c (.int .i64 n)), .v (.c (.int .u32 s)), .v (.c (.int .u32 t))]⟩ : Cfg)) [false]).cfg.k = ti_k := by kernel_rfl
theorem ti (a : G1D) (n s t : Int) {w0 : World} {F0 : Nat → Prop} {K : Kp} {ac : List Act} {Q : Exit → Act → World → Prop} {cX : Ctx} {aX : Act} (ho : AllP [((Bool.not (onG a)) = false)]) (hs : Sim w0 F0 K ac (initSt Try.f7.ntmps [.v (.a a.its), .v (.c (.int .i64 n)), .v (.c (.int .u32 s)), .v (.c (.int .u32 t))]) cX aX) (hK : ∀ ac cY aY, Sim w0 F0 K ac (mkSt 94 [1, 2, 3, 4, 11, 37, 38] [(.v (.c (.int .i64 (ite ((40 : Int) < (ite ((0 : Int) > n) (0 : Int) n)) (40 : Int) (ite ((0 : Int) > n) (0 : Int) n))))), (.v (.c (.int .u32 s))), (.v (.c (.int .u32 t))), (.v (.c (.ptr 16 0))), (.v (.c (.ptr 176 0))), (.v (.c (.int .i64 (ite ((40 : Int) < (ite ((0 : Int) > n) (0 : Int) n)) (40 : Int) (ite ((0 : Int) > n) (0 : Int) n))))), (.v (.c (.int .i64 (0 : Int))))] [16, 176] [(some (.fl [(.ob (.fp (G1D.x a))), (.ob (.fp (G1D.y a))), (.bool (G1D.inf a))])), (some (.fl [(.ob (.fp (G1D.x (G1D.mk (0 : U6) (0 : U6) true)))), (.ob (.fp (G1D.y (G1D.mk (0 : U6) (0 : U6) true)))), (.bool (G1D.inf (G1D.mk (0 : U6) (0 : U6) true)))]))] 240 [] []) cY aY → Wq Try.prog Q (ti_k) ac Exit.normal aY cY.w) : Wq Try.prog Q ([.code (bodyOf Try.f7)]) ac .normal aX cX.w :=
  run_at2 (o := ⟨_, _, _, _, _, _, _⟩) qwC_ok (by kernel_rfl) (ti_hk a n s t) ho hs hK
noncomputable def tiS (a : G1D) (m s t : Int) (o : G1D) (j : Int) : St := mkSt 94 [1, 2, 3, 4, 11, 37, 38] [.v (.c (.int .i64 m)), (SV.v (V1.c (It.int IntKind.u32 s))), (SV.v (V1.c (It.int IntKind.u32 t))), (SV.v (V1.c (It.ptr 16 0))), (SV.v (V1.c (It.ptr 176 0))), .v (.c (.int .i64 m)), .v (.c (.int .i64 j))] [16, 176] [(Option.some (En.fl [(It.ob (Ob.fp (G1D.x a))), (It.ob (Ob.fp (G1D.y a))), (It.bool (G1D.inf a))])), some (.fl [.ob (.fp o.x), .ob (.fp o.y), .bool o.inf])] 240 [] []
theorem tiB_hk (a : G1D) (m s t : Int) (o : G1D) (j : Int) : (run qwC false 3000 ((⟨lpIn ti_k, .normal, tiS a m s t o j⟩ : Cfg)) [true]).cfg.k = lpBk ti_k := by kernel_rfl
theorem tiB (a : G1D) (m s t : Int) (o : G1D) (j : Int) {w0 : World} {F0 : Nat → Prop} {K : Kp} {ac : List Act} {Q : Exit → Act → World → Prop} {cX : Ctx} {aX : Act} (ho : AllP [((decide (j < m)) = true)]) (hs : Sim w0 F0 K ac (tiS a m s t o j) cX aX) (hK : ∀ ac cY aY, Sim w0 F0 K ac (mkSt 94 [1, 2, 3, 4, 11, 37, 38] [(.v (.c (.int .i64 m))), (.v (.c (.int .u32 s))), (.v (.c (.int .u32 t))), (.v (.c (.ptr 16 0))), (.v (.c (.ptr 176 0))), (.v (.c (.int .i64 m))), (.v (.c (.int .i64 (IntKind.wrap .i64 (j + (1 : Int))))))] [16, 176] [(some (.fl [(.ob (.fp (G1D.x a))), (.ob (.fp (G1D.y a))), (.bool (G1D.inf a))])), (some (.fl [(.ob (.fp (G1D.x (Prod.fst (adR o a))))), (.ob (.fp (G1D.y (Prod.fst (adR o a))))), (.bool (G1D.inf (Prod.fst (adR o a))))]))] 352 [] []) cY aY → Wq Try.prog Q (lpBk ti_k) ac Exit.normal aY cY.w) : Wq Try.prog Q (lpIn ti_k) ac .normal aX cX.w :=
  run_at2 (o := ⟨_, _, _, _, _, _, _⟩) qwC_ok (by kernel_rfl) (tiB_hk a m s t o j) ho hs hK
theorem tiX_end (a : G1D) (m s t : Int) (o : G1D) (j : Int) : runEnd qwC Try.f7 false 3000 (⟨lpIn ti_k, .normal, tiS a m s t o j⟩) [false, true, true, true] [] [] = (Option.some ([((decide (j < m)) = false), ((0 : Int) ≤ (IntKind.wrap IntKind.u64 s)), ((IntKind.wrap IntKind.u64 s) < (18446744073709551616 : Int)), ((0 : Int) ≤ (0 : Int)), ((0 : Int) < (18446744073709551616 : Int)), ((0 : Int) ≤ (0 : Int)), ((0 : Int) < (18446744073709551616 : Int)), ((0 : Int) ≤ (0 : Int)), ((0 : Int) < (18446744073709551616 : Int)), ((0 : Int) ≤ (IntKind.wrap IntKind.u64 t)), ((IntKind.wrap IntKind.u64 t) < (18446744073709551616 : Int)), ((0 : Int) ≤ (0 : Int)), ((0 : Int) < (18446744073709551616 : Int)), ((0 : Int) ≤ (0 : Int)), ((0 : Int) < (18446744073709551616 : Int)), ((0 : Int) ≤ (0 : Int)), ((0 : Int) < (18446744073709551616 : Int)), (true = true), ((0 : Int) ≤ (IntKind.wrap IntKind.u64 m)), ((IntKind.wrap IntKind.u64 m) < (18446744073709551616 : Int)), ((0 : Int) ≤ (0 : Int)), ((0 : Int) < (18446744073709551616 : Int)), ((0 : Int) ≤ (0 : Int)), ((0 : Int) < (18446744073709551616 : Int)), ((0 : Int) ≤ (0 : Int)), ((0 : Int) < (18446744073709551616 : Int)), ((ite (true = true) (Bool.and (decide ((G1D.x (Prod.fst (muR a (Fin.ofNat B4 (((IntKind.wrap IntKind.u64 m)).toNat + 0))))) = (G1D.x o))) (Bool.and (decide ((G1D.y (Prod.fst (muR a (Fin.ofNat B4 (((IntKind.wrap IntKind.u64 m)).toNat + 0))))) = (G1D.y o))) ((G1D.inf (Prod.fst (muR a (Fin.ofNat B4 (((IntKind.wrap IntKind.u64 m)).toNat + 0))))) == (G1D.inf o)))) (Bool.not (Bool.and (decide ((G1D.x (Prod.fst (muR a (Fin.ofNat B4 (((IntKind.wrap IntKind.u64 m)).toNat + 0))))) = (G1D.x o))) (Bool.and (decide ((G1D.y (Prod.fst (muR a (Fin.ofNat B4 (((IntKind.wrap IntKind.u64 m)).toNat + 0))))) = (G1D.y o))) ((G1D.inf (Prod.fst (muR a (Fin.ofNat B4 (((IntKind.wrap IntKind.u64 m)).toNat + 0))))) == (G1D.inf o)))))) = true), ((0 : Int) ≤ (IntKind.wrap IntKind.u64 ((IntKind.wrap IntKind.u64 s) + (IntKind.wrap IntKind.u64 t)))), ((IntKind.wrap IntKind.u64 ((IntKind.wrap IntKind.u64 s) + (IntKind.wrap IntKind.u64 t))) < (18446744073709551616 : Int)), ((0 : Int) ≤ (0 : Int)), ((0 : Int) < (18446744073709551616 : Int)), ((0 : Int) ≤ (0 : Int)), ((0 : Int) < (18446744073709551616 : Int)), ((0 : Int) ≤ (0 : Int)), ((0 : Int) < (18446744073709551616 : Int)), ((ite (true = true) (Bool.and (decide ((G1D.x (Prod.fst (adR (Prod.fst (muR a (Fin.ofNat B4 (((IntKind.wrap IntKind.u64 s)).toNat + 0)))) (Prod.fst (muR a (Fin.ofNat B4 (((IntKind.wrap IntKind.u64 t)).toNat + 0))))))) = (G1D.x (Prod.fst (muR a (Fin.ofNat B4 (((IntKind.wrap IntKind.u64 ((IntKind.wrap IntKind.u64 s) + (IntKind.wrap IntKind.u64 t)))).toNat + 0))))))) (Bool.and (decide ((G1D.y (Prod.fst (adR (Prod.fst (muR a (Fin.ofNat B4 (((IntKind.wrap IntKind.u64 s)).toNat + 0)))) (Prod.fst (muR a (Fin.ofNat B4 (((IntKind.wrap IntKind.u64 t)).toNat + 0))))))) = (G1D.y (Prod.fst (muR a (Fin.ofNat B4 (((IntKind.wrap IntKind.u64 ((IntKind.wrap IntKind.u64 s) + (IntKind.wrap IntKind.u64 t)))).toNat + 0))))))) ((G1D.inf (Prod.fst (adR (Prod.fst (muR a (Fin.ofNat B4 (((IntKind.wrap IntKind.u64 s)).toNat + 0)))) (Prod.fst (muR a (Fin.ofNat B4 (((IntKind.wrap IntKind.u64 t)).toNat + 0))))))) == (G1D.inf (Prod.fst (muR a (Fin.ofNat B4 (((IntKind.wrap IntKind.u64 ((IntKind.wrap IntKind.u64 s) + (IntKind.wrap IntKind.u64 t)))).toNat + 0)))))))) (Bool.not (Bool.and (decide ((G1D.x (Prod.fst (adR (Prod.fst (muR a (Fin.ofNat B4 (((IntKind.wrap IntKind.u64 s)).toNat + 0)))) (Prod.fst (muR a (Fin.ofNat B4 (((IntKind.wrap IntKind.u64 t)).toNat + 0))))))) = (G1D.x (Prod.fst (muR a (Fin.ofNat B4 (((IntKind.wrap IntKind.u64 ((IntKind.wrap IntKind.u64 s) + (IntKind.wrap IntKind.u64 t)))).toNat + 0))))))) (Bool.and (decide ((G1D.y (Prod.fst (adR (Prod.fst (muR a (Fin.ofNat B4 (((IntKind.wrap IntKind.u64 s)).toNat + 0)))) (Prod.fst (muR a (Fin.ofNat B4 (((IntKind.wrap IntKind.u64 t)).toNat + 0))))))) = (G1D.y (Prod.fst (muR a (Fin.ofNat B4 (((IntKind.wrap IntKind.u64 ((IntKind.wrap IntKind.u64 s) + (IntKind.wrap IntKind.u64 t)))).toNat + 0))))))) ((G1D.inf (Prod.fst (adR (Prod.fst (muR a (Fin.ofNat B4 (((IntKind.wrap IntKind.u64 s)).toNat + 0)))) (Prod.fst (muR a (Fin.ofNat B4 (((IntKind.wrap IntKind.u64 t)).toNat + 0))))))) == (G1D.inf (Prod.fst (muR a (Fin.ofNat B4 (((IntKind.wrap IntKind.u64 ((IntKind.wrap IntKind.u64 s) + (IntKind.wrap IntKind.u64 t)))).toNat + 0)))))))))) = true), ((0 : Int) ≤ (IntKind.wrap IntKind.u64 t)), ((IntKind.wrap IntKind.u64 t) < (18446744073709551616 : Int)), ((0 : Int) ≤ (0 : Int)), ((0 : Int) < (18446744073709551616 : Int)), ((0 : Int) ≤ (0 : Int)), ((0 : Int) < (18446744073709551616 : Int)), ((0 : Int) ≤ (0 : Int)), ((0 : Int) < (18446744073709551616 : Int)), ((0 : Int) ≤ (IntKind.wrap IntKind.u64 ((IntKind.wrap IntKind.u64 s) * (IntKind.wrap IntKind.u64 t)))), ((IntKind.wrap IntKind.u64 ((IntKind.wrap IntKind.u64 s) * (IntKind.wrap IntKind.u64 t))) < (18446744073709551616 : Int)), ((0 : Int) ≤ (0 : Int)), ((0 : Int) < (18446744073709551616 : Int)), ((0 : Int) ≤ (0 : Int)), ((0 : Int) < (18446744073709551616 : Int)), ((0 : Int) ≤ (0 : Int)), ((0 : Int) < (18446744073709551616 : Int))], ((SV.v (V1.c (It.bool (ite (true = true) (Bool.and (decide ((G1D.x (Prod.fst (muR (Prod.fst (muR a (Fin.ofNat B4 (((IntKind.wrap IntKind.u64 s)).toNat + 0)))) (Fin.ofNat B4 (((IntKind.wrap IntKind.u64 t)).toNat + 0))))) = (G1D.x (Prod.fst (muR a (Fin.ofNat B4 (((IntKind.wrap IntKind.u64 ((IntKind.wrap IntKind.u64 s) * (IntKind.wrap IntKind.u64 t)))).toNat + 0))))))) (Bool.and (decide ((G1D.y (Prod.fst (muR (Prod.fst (muR a (Fin.ofNat B4 (((IntKind.wrap IntKind.u64 s)).toNat + 0)))) (Fin.ofNat B4 (((IntKind.wrap IntKind.u64 t)).toNat + 0))))) = (G1D.y (Prod.fst (muR a (Fin.ofNat B4 (((IntKind.wrap IntKind.u64 ((IntKind.wrap IntKind.u64 s) * (IntKind.wrap IntKind.u64 t)))).toNat + 0))))))) ((G1D.inf (Prod.fst (muR (Prod.fst (muR a (Fin.ofNat B4 (((IntKind.wrap IntKind.u64 s)).toNat + 0)))) (Fin.ofNat B4 (((IntKind.wrap IntKind.u64 t)).toNat + 0))))) == (G1D.inf (Prod.fst (muR a (Fin.ofNat B4 (((IntKind.wrap IntKind.u64 ((IntKind.wrap IntKind.u64 s) * (IntKind.wrap IntKind.u64 t)))).toNat + 0)))))))) (Bool.not (Bool.and (decide ((G1D.x (Prod.fst (muR (Prod.fst (muR a (Fin.ofNat B4 (((IntKind.wrap IntKind.u64 s)).toNat + 0)))) (Fin.ofNat B4 (((IntKind.wrap IntKind.u64 t)).toNat + 0))))) = (G1D.x (Prod.fst (muR a (Fin.ofNat B4 (((IntKind.wrap IntKind.u64 ((IntKind.wrap IntKind.u64 s) * (IntKind.wrap IntKind.u64 t)))).toNat + 0))))))) (Bool.and (decide ((G1D.y (Prod.fst (muR (Prod.fst (muR a (Fin.ofNat B4 (((IntKind.wrap IntKind.u64 s)).toNat + 0)))) (Fin.ofNat B4 (((IntKind.wrap IntKind.u64 t)).toNat + 0))))) = (G1D.y (Prod.fst (muR a (Fin.ofNat B4 (((IntKind.wrap IntKind.u64 ((IntKind.wrap IntKind.u64 s) * (IntKind.wrap IntKind.u64 t)))).toNat + 0))))))) ((G1D.inf (Prod.fst (muR (Prod.fst (muR a (Fin.ofNat B4 (((IntKind.wrap IntKind.u64 s)).toNat + 0)))) (Fin.ofNat B4 (((IntKind.wrap IntKind.u64 t)).toNat + 0))))) == (G1D.inf (Prod.fst (muR a (Fin.ofNat B4 (((IntKind.wrap IntKind.u64 ((IntKind.wrap IntKind.u64 s) * (IntKind.wrap IntKind.u64 t)))).toNat + 0))))))))))))), []))) := by kernel_rfl
end Go.Proofs.Ytkfcphigoncgjaa

/- OneTimes' law returns true. No conditions. -/
namespace Go.Proofs.Ytkfcphigoncgjaa

theorem ofN_val {n : Nat} (h : n < 18446744073709551616) : (Fin.ofNat B4 n).val = n := Nat.mod_eq_of_lt (Nat.lt_trans h (by decide))
theorem mul_of {a : G1D} (ha : onG a = true) {n : Nat} (h : n < 18446744073709551616) : (muR a (Fin.ofNat B4 n)).1 = gP (nmul (pG a) n) := by
  rw [congrArg Prod.fst (muR_on (Fin.ofNat B4 n) ha), mulG_is ha, ofN_val h]
theorem add_of {P Q : Pt Fp} (hP : OnC fp4 P) (hQ : OnC fp4 Q) : (adR (gP P) (gP Q)).1 = gP (gadd P Q) := by
  rw [congrArg Prod.fst (adR_on (onG_gP hP) (onG_gP hQ)), addG_is, pG_gP, pG_gP]

theorem oneTimes_fnd (a : G1D) (n s t : Int) (hs0 : 0 ≤ s) (hs1 : s < 4294967296) (ht0 : 0 ≤ t) (ht1 : t < 4294967296) :
    FnD Try.prog 7 [.v (.a a.its), .v (.c (.int .i64 n)), .v (.c (.int .u32 s)), .v (.c (.int .u32 t))] (.v (.c (.bool true))) [] := by
  by_cases ha : onG a = true
  · obtain ⟨S, rfl⟩ := Int.eq_ofNat_of_zero_le hs0
    obtain ⟨T, rfl⟩ := Int.eq_ofNat_of_zero_le ht0
    have hS : S < 4294967296 := by omega
    have hT : T < 4294967296 := by omega
    have hST : S * T < 18446744073709551616 := by
      have : S * T ≤ 4294967295 * 4294967295 := Nat.mul_le_mul (by omega) (by omega)
      omega
    refine fn_start (fn := Try.f7) (c := bodyOf Try.f7) Try.func7 rfl rfl fun cx ca hk hF hs => ?_
    refine ti a n S T ⟨by rw [ha]; rfl, trivial⟩ hs fun ac cY aY hs1 => ?_
    obtain ⟨m, hm, hm40⟩ : ∃ m : Nat, (ite ((40 : Int) < (ite ((0 : Int) > n) (0 : Int) n)) (40 : Int) (ite ((0 : Int) > n) (0 : Int) n)) = (m : Int) ∧ m ≤ 40 := by
      refine ⟨((ite ((40 : Int) < (ite ((0 : Int) > n) (0 : Int) n)) (40 : Int) (ite ((0 : Int) > n) (0 : Int) n))).toNat, ?_, ?_⟩ <;> (split <;> split <;> omega)
    rw [hm] at hs1
    obtain ⟨ea, oa⟩ := onG_is ha
    have hon := fun k => nmul_on cv1 oa k
    have e0 : (⟨0, 0, true⟩ : G1D) = gP (nmul (pG a) 0) := rfl
    rw [e0] at hs1
    refine loop_rule (ι := { j : Nat // j ≤ m }) (fun j => tiS a m S T (gP (nmul (pG a) j.1)) (j.1 : Int)) (fun j => m - j.1) (c := lpC ti_k) (k := lpR ti_k) (by kernel_rfl) (fun j ih ac cY aY hs => ?_) ⟨0, Nat.zero_le _⟩ (hs1.nx _)
    obtain ⟨j, hj⟩ := j
    simp only at ih hs
    by_cases hjm : j < m
    · refine tiB a m S T _ j ⟨decide_eq_true (by omega), trivial⟩ hs fun ac cZ aZ hs2 => ?_
      have e1 : (adR (gP (nmul (pG a) j)) a).1 = gP (nmul (pG a) (j + 1)) := by
        have := add_of (hon j) oa
        rw [ea] at this
        exact this
      rw [wrap_id (n := (j : Int) + 1) (by omega) (by omega), e1] at hs2
      exact ih ⟨j + 1, hjm⟩ (by show m - (j + 1) < m - j; omega) ac cZ aZ (hs2.nx _)
    · have hjm : j = m := by omega
      subst hjm
      have r := tiX_end a j S T (gP (nmul (pG a) j)) j
      have eS : IntKind.wrap IntKind.u64 (S : Int) = (S : Int) := wrap_u (by omega) (by omega)
      have eT : IntKind.wrap IntKind.u64 (T : Int) = (T : Int) := wrap_u (by omega) (by omega)
      have eJ : IntKind.wrap IntKind.u64 (j : Int) = (j : Int) := wrap_u (by omega) (by omega)
      have eA : IntKind.wrap IntKind.u64 ((S : Int) + (T : Int)) = ((S + T : Nat) : Int) := wrap_u (by omega) (by omega)
      have eM : IntKind.wrap IntKind.u64 ((S : Int) * (T : Int)) = ((S * T : Nat) : Int) := by
        rw [← Int.natCast_mul]
        exact wrap_u (by omega) (by omega)
      rw [eS, eT, eJ, eA, eM] at r
      rw [Int.toNat_natCast S, Int.toNat_natCast T, Int.toNat_natCast j, Int.toNat_natCast (S + T), Int.toNat_natCast (S * T), Nat.add_zero S, Nat.add_zero T, Nat.add_zero j, Nat.add_zero (S + T), Nat.add_zero (S * T)] at r
      have fS := mul_of ha (n := S) (by omega)
      have fT := mul_of ha (n := T) (by omega)
      have fJ := mul_of ha (n := j) (by omega)
      have fA := mul_of ha (n := S + T) (by omega)
      have fM := mul_of ha (n := S * T) hST
      have fG := add_of (hon S) (hon T)
      rw [← nmul_add cv1 oa] at fG
      have fX : (muR (gP (nmul (pG a) S)) (Fin.ofNat B4 T)).1 = gP (nmul (pG a) (S * T)) := by
        rw [mul_of (onG_gP (hon S)) (by omega), pG_gP, nmul_mul cv1 oa]
      rw [fS, fT, fJ, fA, fM, fG, fX] at r
      have b := eq_bits (a := gP (nmul (pG a) (S * T))) rfl
      rw [if_pos rfl, if_pos rfl, if_pos rfl, b, eq_bits (a := gP (nmul (pG a) j)) rfl, eq_bits (a := gP (nmul (pG a) (S + T))) rfl] at r
      refine run_end qwC_ok hk hF r ?_ (fun z w hd => hd) hs
      refine ⟨by simp, ?_⟩
      simp only [AllP, and_true, true_and]
      and_intros <;> first | rfl | omega
  · have ha : onG a = false := Bool.eq_false_iff.2 ha
    have hd := muR_off (Fin.ofNat B4 1) ha
    have r := tiA a n s t
    have hz : (decide ((muR a (Fin.ofNat B4 1)).1.x = 0) && (decide ((muR a (Fin.ofNat B4 1)).1.y = 0) && ((muR a (Fin.ofNat B4 1)).1.inf == false))) = true := eq_bits (b := g10) (by rw [hd])
    rw [if_pos rfl, hz] at r
    exact fn_sound qwC_ok Try.func7 r ⟨by rw [ha]; rfl, by decide, by decide, by decide, by decide, by decide, by decide, by decide, by decide, rfl, by rw [hd]; rfl, trivial⟩

end Go.Proofs.Ytkfcphigoncgjaa
