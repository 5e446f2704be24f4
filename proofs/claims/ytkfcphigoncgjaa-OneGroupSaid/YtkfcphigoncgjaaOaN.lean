/- Parts of a proof, one behind the other: WCp, PCp, WCo1, WCo2, PCo2, WCo3, PCo3, Ga, WOs, POs, WOa, POa. No conditions. -/
import Derived.Test.YtkfcphigoncgjaaOaM
/- Points of the first curve: twice, negative, sums, walked. No conditions. -/
namespace Go.Proofs.Ytkfcphigoncgjaa

theorem twice_fnd (x y z : Fp) : FnD Try.prog 107 [.v (.a [.ob (.p x), .ob (.p y), .ob (.p z)])] (.v (.a (ptIts (jtw (x, y, z))))) [] := by
  by_cases h : z = 0
  · have e : jtw (x, y, z) = (x, y, z) := if_pos h
    rw [e]
    exact fn_sound qeJ_ok Try.func107 (twA x y z) ⟨decide_eq_true h, trivial⟩
  · unfold jtw
    rw [if_neg h]
    exact fn_sound qeJ_ok Try.func107 (twB x y z) ⟨decide_eq_false h, trivial⟩
def mulPSpec : FnSpec
  | [.v (.a [.ob (.fp a)]), .v (.a [.ob (.fp b)])] => some ([a.val < pN, b.val < pN], .v (.a [.ob (.fp (mulP a b))]), [])
  | _ => none
noncomputable def qrI : Env := qrH.set (addT qrH.fn 59 mulPSpec)
theorem qrI_ok : EnvOk Try.prog qrI := env_add qrH_ok 59 mulPSpec (enters_of Try.func59 rfl rfl) fun args o r es h ho => by
  unfold mulPSpec at h
  split at h
  · cases h; exact mulP_fnd _ _ ho.1 ho.2.1
  · cases h
def sub6Spec : FnSpec
  | [.v (.a [.ob (.fp a)]), .v (.a [.ob (.fp b)])] => some ([b.val < pN], .v (.a [.ob (.fp (subP a b))]), [])
  | _ => none
noncomputable def qrJ : Env := qrI.set (addT qrI.fn 66 sub6Spec)
theorem qrJ_ok : EnvOk Try.prog qrJ := env_add qrI_ok 66 sub6Spec (enters_of Try.func66 rfl rfl) fun args o r es h ho => by
  unfold sub6Spec at h
  split at h
  · cases h; exact sub6_fnd _ _ ho.1
  · cases h
def twPSpec : FnSpec
  | [.v (.a [.ob (.p x), .ob (.p y), .ob (.p z)])] => some ([], .v (.a (ptIts (jtw (x, y, z)))), [])
  | _ => none
noncomputable def qsA : Env := qrJ.set (addT qrJ.fn 107 twPSpec)
theorem qsA_ok : EnvOk Try.prog qsA := env_add qrJ_ok 107 twPSpec (enters_of Try.func107 rfl rfl) fun args o r es h _ => by
  unfold twPSpec at h
  split at h
  · cases h; exact twice_fnd _ _ _
  · cases h
def ngPSpec : FnSpec
  | [.v (.a [.ob (.p x), .ob (.p y), .ob (.p z)])] => some ([], .v (.a (ptIts (jng (x, y, z)))), [])
  | _ => none
noncomputable def qsB : Env := qsA.set (addT qsA.fn 57 ngPSpec)
theorem qsB_ok : EnvOk Try.prog qsB := env_add qsA_ok 57 ngPSpec (enters_of Try.func57 rfl rfl) fun args o r es h _ => by
  unfold ngPSpec at h
  split at h
  · cases h; exact fn_sound qeJ_ok Try.func57 (ngP _ _ _) trivial
  · cases h
--@env qsB qsB_ok
theorem plA (x y z u v w : Fp) : fnRes qsB Try.f54 3000 [.v (.a [.ob (.p x), .ob (.p y), .ob (.p z)]), .v (.a [.ob (.p u), .ob (.p v), .ob (.p w)])] [true] [] [] = (Option.some ([((decide (z = (0 : Fp))) = true)], ((SV.v (V1.a [(It.ob (Ob.p u)), (It.ob (Ob.p v)), (It.ob (Ob.p w))])), []))) := by kernel_rfl
theorem plB (x y z u v w : Fp) : fnRes qsB Try.f54 3000 [.v (.a [.ob (.p x), .ob (.p y), .ob (.p z)]), .v (.a [.ob (.p u), .ob (.p v), .ob (.p w)])] [false, true] [] [] = (Option.some ([((decide (z = (0 : Fp))) = false), ((decide (w = (0 : Fp))) = true)], ((SV.v (V1.a [(It.ob (Ob.p x)), (It.ob (Ob.p y)), (It.ob (Ob.p z))])), []))) := by kernel_rfl
theorem plC (x y z u v w : Fp) : fnRes qsB Try.f54 3000 [.v (.a [.ob (.p x), .ob (.p y), .ob (.p z)]), .v (.a [.ob (.p u), .ob (.p v), .ob (.p w)])] [false, false, true, true] [] [] = (Option.some ([((decide (z = (0 : Fp))) = false), ((decide (w = (0 : Fp))) = false), ((decide (((u * (z * z)) - (x * (w * w))) = (0 : Fp))) = true), ((decide ((((v * (z * z)) * z) - ((y * (w * w)) * w)) = (0 : Fp))) = true)], ((SV.v (V1.a [(It.ob (Ob.p (Prod.fst (jtw (x, (y, z)))))), (It.ob (Ob.p (Prod.fst (Prod.snd (jtw (x, (y, z))))))), (It.ob (Ob.p (Prod.snd (Prod.snd (jtw (x, (y, z)))))))])), []))) := by kernel_rfl
theorem plD (x y z u v w : Fp) : fnRes qsB Try.f54 3000 [.v (.a [.ob (.p x), .ob (.p y), .ob (.p z)]), .v (.a [.ob (.p u), .ob (.p v), .ob (.p w)])] [false, false, true, false] [] [] = (Option.some ([((decide (z = (0 : Fp))) = false), ((decide (w = (0 : Fp))) = false), ((decide (((u * (z * z)) - (x * (w * w))) = (0 : Fp))) = true), ((decide ((((v * (z * z)) * z) - ((y * (w * w)) * w)) = (0 : Fp))) = false)], ((SV.v (V1.a [(It.ob (Ob.p x)), (It.ob (Ob.p y)), (It.ob (Ob.p (0 : Fp)))])), []))) := by kernel_rfl
theorem plE (x y z u v w : Fp) : fnRes qsB Try.f54 3000 [.v (.a [.ob (.p x), .ob (.p y), .ob (.p z)]), .v (.a [.ob (.p u), .ob (.p v), .ob (.p w)])] [false, false, false] [] [] = (Option.some ([((decide (z = (0 : Fp))) = false), ((decide (w = (0 : Fp))) = false), ((decide (((u * (z * z)) - (x * (w * w))) = (0 : Fp))) = false)], ((SV.v (V1.a [(It.ob (Ob.p (((((((v * (z * z)) * z) - ((y * (w * w)) * w)) * (((v * (z * z)) * z) - ((y * (w * w)) * w))) - ((((u * (z * z)) - (x * (w * w))) * ((u * (z * z)) - (x * (w * w)))) * ((u * (z * z)) - (x * (w * w))))) - ((x * (w * w)) * (((u * (z * z)) - (x * (w * w))) * ((u * (z * z)) - (x * (w * w)))))) - ((x * (w * w)) * (((u * (z * z)) - (x * (w * w))) * ((u * (z * z)) - (x * (w * w)))))))), (It.ob (Ob.p (((((v * (z * z)) * z) - ((y * (w * w)) * w)) * (((x * (w * w)) * (((u * (z * z)) - (x * (w * w))) * ((u * (z * z)) - (x * (w * w))))) - (((((((v * (z * z)) * z) - ((y * (w * w)) * w)) * (((v * (z * z)) * z) - ((y * (w * w)) * w))) - ((((u * (z * z)) - (x * (w * w))) * ((u * (z * z)) - (x * (w * w)))) * ((u * (z * z)) - (x * (w * w))))) - ((x * (w * w)) * (((u * (z * z)) - (x * (w * w))) * ((u * (z * z)) - (x * (w * w)))))) - ((x * (w * w)) * (((u * (z * z)) - (x * (w * w))) * ((u * (z * z)) - (x * (w * w)))))))) - (((y * (w * w)) * w) * ((((u * (z * z)) - (x * (w * w))) * ((u * (z * z)) - (x * (w * w)))) * ((u * (z * z)) - (x * (w * w)))))))), (It.ob (Ob.p ((((u * (z * z)) - (x * (w * w))) * z) * w)))])), []))) := by kernel_rfl
end Go.Proofs.Ytkfcphigoncgjaa

/- Points of the first curve: sums, contract. No conditions. -/
namespace Go.Proofs.Ytkfcphigoncgjaa

theorem plusPt_fnd (x y z u v w : Fp) : FnD Try.prog 54 [.v (.a [.ob (.p x), .ob (.p y), .ob (.p z)]), .v (.a [.ob (.p u), .ob (.p v), .ob (.p w)])] (.v (.a (ptIts (jpl (x, y, z) (u, v, w))))) [] := by
  by_cases h : z = 0
  · have e : jpl (x, y, z) (u, v, w) = (u, v, w) := if_pos h
    rw [e]
    exact fn_sound qsB_ok Try.func54 (plA x y z u v w) ⟨decide_eq_true h, trivial⟩
  · by_cases h2 : w = 0
    · have e : jpl (x, y, z) (u, v, w) = (x, y, z) := (if_neg h).trans (if_pos h2)
      rw [e]
      exact fn_sound qsB_ok Try.func54 (plB x y z u v w) ⟨decide_eq_false h, decide_eq_true h2, trivial⟩
    · unfold jpl
      rw [if_neg h, if_neg h2]
      dsimp only
      by_cases h3 : u * (z * z) - x * (w * w) = 0
      · rw [if_pos h3]
        by_cases h4 : v * (z * z) * z - y * (w * w) * w = 0
        · rw [if_pos h4]
          exact fn_sound qsB_ok Try.func54 (plC x y z u v w) ⟨decide_eq_false h, decide_eq_false h2, decide_eq_true h3, decide_eq_true h4, trivial⟩
        · rw [if_neg h4]
          exact fn_sound qsB_ok Try.func54 (plD x y z u v w) ⟨decide_eq_false h, decide_eq_false h2, decide_eq_true h3, decide_eq_false h4, trivial⟩
      · rw [if_neg h3]
        exact fn_sound qsB_ok Try.func54 (plE x y z u v w) ⟨decide_eq_false h, decide_eq_false h2, decide_eq_false h3, trivial⟩

end Go.Proofs.Ytkfcphigoncgjaa

/- Points of the first curve, in and out, walked. No conditions. -/
namespace Go.Proofs.Ytkfcphigoncgjaa

def plPSpec : FnSpec
  | [.v (.a [.ob (.p x), .ob (.p y), .ob (.p z)]), .v (.a [.ob (.p u), .ob (.p v), .ob (.p w)])] => some ([], .v (.a (ptIts (jpl (x, y, z) (u, v, w)))), [])
  | _ => none
noncomputable def qsC : Env := qsB.set (addT qsB.fn 54 plPSpec)
theorem qsC_ok : EnvOk Try.prog qsC := env_add qsB_ok 54 plPSpec (enters_of Try.func54 rfl rfl) fun args o r es h _ => by
  unfold plPSpec at h
  split at h
  · cases h; exact plusPt_fnd _ _ _ _ _ _
  · cases h
noncomputable def inlAf (T : Nat → Option Func) (f : Nat) : Option Func := if f = 108 then some Try.f108 else T f
noncomputable def qsD : Env := { qsC with inl := inlAf qsC.inl }
theorem qsD_ok : EnvOk Try.prog qsD := by
  refine ⟨qsC_ok.ty, qsC_ok.mixed, qsC_ok.fn, qsC_ok.mu, fun f fn h => ?_, qsC_ok.ex, qsC_ok.inv⟩
  have h : inlAf qsC.inl f = some fn := h
  unfold inlAf at h
  split at h
  · rename_i hf; cases h; subst hf; exact ⟨Try.func108, enters_of Try.func108 rfl rfl⟩
  exact qsC_ok.inl f fn h
--@env qsD qsD_ok
theorem igA (x y : U6) (i : Bool) : fnRes qsD Try.f56 3000 [.v (.a [.ob (.fp x), .ob (.fp y), .bool i])] [true] [] [] = (Option.some ([(i = true), ((0 : Int) ≤ (1 : Int)), ((1 : Int) < (18446744073709551616 : Int)), ((0 : Int) ≤ (1 : Int)), ((1 : Int) < (18446744073709551616 : Int))], ((SV.v (V1.a [(It.ob (Ob.p (Fin.ofNat pN 1))), (It.ob (Ob.p (Fin.ofNat pN 1))), (It.ob (Ob.p (0 : Fp)))])), []))) := by kernel_rfl
theorem igB (x y : U6) (i : Bool) : fnRes qsD Try.f56 3000 [.v (.a [.ob (.fp x), .ob (.fp y), .bool i])] [false] [] [] = (Option.some ([(i = false), ((0 : Int) ≤ (1 : Int)), ((1 : Int) < (18446744073709551616 : Int))], ((SV.v (V1.a [(It.ob (Ob.p (inP x))), (It.ob (Ob.p (inP y))), (It.ob (Ob.p (Fin.ofNat pN 1)))])), []))) := by kernel_rfl
theorem ogA (x y z : Fp) : fnRes qsD Try.f55 3000 [.v (.a [.ob (.p x), .ob (.p y), .ob (.p z)])] [true, true] [] [] = (Option.some ([((decide (z = (0 : Fp))) = true)], ((SV.v (V1.a [(It.ob (Ob.fp (0 : U6))), (It.ob (Ob.fp (0 : U6))), (It.lit true)])), []))) := by kernel_rfl
theorem ogB (x y z : Fp) : fnRes qsD Try.f55 3000 [.v (.a [.ob (.p x), .ob (.p y), .ob (.p z)])] [false, false] [] [] = (Option.some ([((decide (z = (0 : Fp))) = false)], ((SV.v (V1.a [(It.ob (Ob.fp (outP (x * ((ivP z) * (ivP z)))))), (It.ob (Ob.fp (outP ((y * ((ivP z) * (ivP z))) * (ivP z))))), (It.lit false)])), []))) := by kernel_rfl
theorem onA (x y : U6) (i : Bool) : fnRes qsD Try.f96 3000 [.v (.a [.ob (.fp x), .ob (.fp y), .bool i])] [true] [] [] = (Option.some ([(i = true)], ((SV.v (V1.c (It.bool (ite (true = true) (Bool.and (decide (x = (0 : U6))) (Bool.and (decide (y = (0 : U6))) (i == true))) (Bool.not (Bool.and (decide (x = (0 : U6))) (Bool.and (decide (y = (0 : U6))) (i == true)))))))), []))) := by kernel_rfl
theorem onB (x y : U6) (i : Bool) : fnRes qsD Try.f96 3000 [.v (.a [.ob (.fp x), .ob (.fp y), .bool i])] [false, true, true] [] [] = (Option.some ([(i = false), ((ite (true = true) (decide ((outP (inP x)) = x)) (Bool.not (decide ((outP (inP x)) = x)))) = true), ((ite (true = true) (decide ((outP (inP y)) = y)) (Bool.not (decide ((outP (inP y)) = y)))) = true), ((0 : Int) ≤ (4 : Int)), ((4 : Int) < (18446744073709551616 : Int))], ((SV.v (V1.c (It.bool (ite (true = true) (decide (((inP y) * (inP y)) = ((((inP x) * (inP x)) * (inP x)) + (Fin.ofNat pN 4)))) (Bool.not (decide (((inP y) * (inP y)) = ((((inP x) * (inP x)) * (inP x)) + (Fin.ofNat pN 4))))))))), []))) := by kernel_rfl
theorem onC (x y : U6) (i : Bool) : fnRes qsD Try.f96 3000 [.v (.a [.ob (.fp x), .ob (.fp y), .bool i])] [false, true, false] [] [] = (Option.some ([(i = false), ((ite (true = true) (decide ((outP (inP x)) = x)) (Bool.not (decide ((outP (inP x)) = x)))) = true), ((ite (true = true) (decide ((outP (inP y)) = y)) (Bool.not (decide ((outP (inP y)) = y)))) = false)], ((SV.v (V1.c (It.lit false))), []))) := by kernel_rfl
theorem onD (x y : U6) (i : Bool) : fnRes qsD Try.f96 3000 [.v (.a [.ob (.fp x), .ob (.fp y), .bool i])] [false, false, false] [] [] = (Option.some ([(i = false), ((ite (true = true) (decide ((outP (inP x)) = x)) (Bool.not (decide ((outP (inP x)) = x)))) = false)], ((SV.v (V1.c (It.lit false))), []))) := by kernel_rfl
end Go.Proofs.Ytkfcphigoncgjaa

/- Points of the first curve, in and out: contracts; the functions outside, walked. No conditions. -/
namespace Go.Proofs.Ytkfcphigoncgjaa

def fp1 : Fp := Fin.ofNat pN 1
def fp4 : Fp := Fin.ofNat pN 4
/-- Which points may be. -/
def onG (a : G1D) : Bool :=
  if a.inf then decide (a.x = 0) && decide (a.y = 0)
  else decide (outP (inP a.x) = a.x) && (decide (outP (inP a.y) = a.y) && decide (inP a.y * inP a.y = inP a.x * inP a.x * inP a.x + fp4))
def inG (a : G1D) : Fp × Fp × Fp := if a.inf then (fp1, fp1, 0) else (inP a.x, inP a.y, fp1)
def outG (t : Fp × Fp × Fp) : G1D :=
  if t.2.2 = 0 then ⟨0, 0, true⟩ else ⟨outP (t.1 * (ivP t.2.2 * ivP t.2.2)), outP (t.2.1 * (ivP t.2.2 * ivP t.2.2) * ivP t.2.2), false⟩

theorem lit_third {x : Ctx} {i j : It} {b : Bool} {v : Value} (h : denS x (.v (.a [i, j, .lit b])) v) : denS x (.v (.a [i, j, .bool b])) v := by
  obtain ⟨cs, e, c1, r1, e1, h1, c2, r2, e2, h2, c3, r3, e3, ⟨d, h3⟩, h4⟩ := h
  refine ⟨cs, e, c1, r1, e1, h1, c2, r2, e2, h2, c3, r3, e3, ⟨d, ?_⟩, h4⟩
  cases d <;> exact h3
theorem third_lit {x : Ctx} {i j : It} {b : Bool} {v : Value} (h : denS x (.v (.a [i, j, .bool b])) v) : denS x (.v (.a [i, j, .lit b])) v := by
  obtain ⟨cs, e, c1, r1, e1, h1, c2, r2, e2, h2, c3, r3, e3, ⟨d, h3⟩, h4⟩ := h
  refine ⟨cs, e, c1, r1, e1, h1, c2, r2, e2, h2, c3, r3, e3, ⟨d, ?_⟩, h4⟩
  cases d <;> exact h3

theorem inG_fnd (x y : U6) (i : Bool) : FnD Try.prog 56 [.v (.a [.ob (.fp x), .ob (.fp y), .bool i])] (.v (.a (ptIts (inG ⟨x, y, i⟩)))) [] := by
  cases i with
  | true => exact fn_sound qsD_ok Try.func56 (igA x y true) ⟨rfl, by decide, by decide, by decide, by decide, trivial⟩
  | false => exact fn_sound qsD_ok Try.func56 (igB x y false) ⟨rfl, by decide, by decide, trivial⟩

theorem outG_fnd (x y z : Fp) : FnD Try.prog 55 [.v (.a [.ob (.p x), .ob (.p y), .ob (.p z)])] (.v (.a (outG (x, y, z)).its)) [] := by
  by_cases h : z = 0
  · have e : outG (x, y, z) = ⟨0, 0, true⟩ := if_pos h
    rw [e]
    exact (fn_sound qsD_ok Try.func55 (ogA x y z) ⟨decide_eq_true h, trivial⟩).conv (fun _ _ h => h) fun y v hd => lit_third hd
  · unfold outG
    rw [if_neg h]
    exact (fn_sound qsD_ok Try.func55 (ogB x y z) ⟨decide_eq_false h, trivial⟩).conv (fun _ _ h => h) fun y v hd => lit_third hd

theorem onG_fnd (x y : U6) (i : Bool) : FnD Try.prog 96 [.v (.a [.ob (.fp x), .ob (.fp y), .bool i])] (.v (.c (.bool (onG ⟨x, y, i⟩)))) [] := by
  cases i with
  | true =>
    have r := onA x y true
    rw [if_pos rfl] at r
    have e : onG ⟨x, y, true⟩ = ((decide (x = 0)) && ((decide (y = 0)) && (true == true))) := by
      show (decide (x = 0) && decide (y = 0)) = _
      simp
    rw [e]
    exact fn_sound qsD_ok Try.func96 r ⟨rfl, trivial⟩
  | false =>
    by_cases h1 : outP (inP x) = x
    · by_cases h2 : outP (inP y) = y
      · have r := onB x y false
        rw [if_pos rfl, if_pos rfl, if_pos rfl] at r
        have e : onG ⟨x, y, false⟩ = decide (inP y * inP y = inP x * inP x * inP x + Fin.ofNat pN 4) := by
          show (decide (outP (inP x) = x) && (decide (outP (inP y) = y) && decide (inP y * inP y = inP x * inP x * inP x + fp4))) = _
          rw [decide_eq_true h1, decide_eq_true h2]; rfl
        rw [e]
        exact fn_sound qsD_ok Try.func96 r ⟨rfl, decide_eq_true h1, decide_eq_true h2, by decide, by decide, trivial⟩
      · have r := onC x y false
        rw [if_pos rfl, if_pos rfl] at r
        have e : onG ⟨x, y, false⟩ = false := by
          show (decide (outP (inP x) = x) && (decide (outP (inP y) = y) && decide (inP y * inP y = inP x * inP x * inP x + fp4))) = _
          rw [decide_eq_false h2, Bool.false_and, Bool.and_false]
        rw [e]
        exact (fn_sound qsD_ok Try.func96 r ⟨rfl, decide_eq_true h1, decide_eq_false h2, trivial⟩).conv (fun _ _ h => h) fun y v hd => lit_bool rfl hd
    · have r := onD x y false
      rw [if_pos rfl] at r
      have e : onG ⟨x, y, false⟩ = false := by
        show (decide (outP (inP x) = x) && (decide (outP (inP y) = y) && decide (inP y * inP y = inP x * inP x * inP x + fp4))) = _
        rw [decide_eq_false h1, Bool.false_and]
      rw [e]
      exact (fn_sound qsD_ok Try.func96 r ⟨rfl, decide_eq_false h1, trivial⟩).conv (fun _ _ h => h) fun y v hd => lit_bool rfl hd
def inGSpec : FnSpec
  | [.v (.a [.ob (.fp x), .ob (.fp y), .bool i])] => some ([], .v (.a (ptIts (inG ⟨x, y, i⟩))), [])
  | _ => none
noncomputable def qsE : Env := qsD.set (addT qsD.fn 56 inGSpec)
theorem qsE_ok : EnvOk Try.prog qsE := env_add qsD_ok 56 inGSpec (enters_of Try.func56 rfl rfl) fun args o r es h _ => by
  unfold inGSpec at h
  split at h
  · cases h; exact inG_fnd _ _ _
  · cases h
def outGSpec : FnSpec
  | [.v (.a [.ob (.p x), .ob (.p y), .ob (.p z)])] => some ([], .v (.a (outG (x, y, z)).its), [])
  | _ => none
noncomputable def qsF : Env := qsE.set (addT qsE.fn 55 outGSpec)
theorem qsF_ok : EnvOk Try.prog qsF := env_add qsE_ok 55 outGSpec (enters_of Try.func55 rfl rfl) fun args o r es h _ => by
  unfold outGSpec at h
  split at h
  · cases h; exact outG_fnd _ _ _
  · cases h
def onGSpec : FnSpec
  | [.v (.a [.ob (.fp x), .ob (.fp y), .bool i])] => some ([], .v (.c (.bool (onG ⟨x, y, i⟩))), [])
  | _ => none
noncomputable def qsG : Env := qsF.set (addT qsF.fn 96 onGSpec)
theorem qsG_ok : EnvOk Try.prog qsG := env_add qsF_ok 96 onGSpec (enters_of Try.func96 rfl rfl) fun args o r es h _ => by
  unfold onGSpec at h
  split at h
  · cases h; exact onG_fnd _ _ _
  · cases h
--@env qsG qsG_ok
theorem riR (x y : U6) (i : Bool) : fnRes qsG Try.f46 3000 [.v (.a [.ob (.fp x), .ob (.fp y), .bool i])] [] [] [] = (Option.some ([], ((SV.v (V1.c (It.bool (onG (G1D.mk x y i))))), []))) := by kernel_rfl
theorem geR  : fnRes qsG Try.f62 3000 [] [] [] [] = (Option.some ([((0 : Int) ≤ (18103045581585958587 : Int)), ((18103045581585958587 : Int) < (18446744073709551616 : Int)), ((0 : Int) ≤ (7806400890582735599 : Int)), ((7806400890582735599 : Int) < (18446744073709551616 : Int)), ((0 : Int) ≤ (11623291730934869080 : Int)), ((11623291730934869080 : Int) < (18446744073709551616 : Int)), ((0 : Int) ≤ (14080658508445169925 : Int)), ((14080658508445169925 : Int) < (18446744073709551616 : Int)), ((0 : Int) ≤ (2780237799254240271 : Int)), ((2780237799254240271 : Int) < (18446744073709551616 : Int)), ((0 : Int) ≤ (1725392847304644500 : Int)), ((1725392847304644500 : Int) < (18446744073709551616 : Int)), ((0 : Int) ≤ (912580534683953121 : Int)), ((912580534683953121 : Int) < (18446744073709551616 : Int)), ((0 : Int) ≤ (15005087156090211044 : Int)), ((15005087156090211044 : Int) < (18446744073709551616 : Int)), ((0 : Int) ≤ (61670280795567085 : Int)), ((61670280795567085 : Int) < (18446744073709551616 : Int)), ((0 : Int) ≤ (18227722000993880822 : Int)), ((18227722000993880822 : Int) < (18446744073709551616 : Int)), ((0 : Int) ≤ (11573741888802228964 : Int)), ((11573741888802228964 : Int) < (18446744073709551616 : Int)), ((0 : Int) ≤ (627113611842199793 : Int)), ((627113611842199793 : Int) < (18446744073709551616 : Int))], ((SV.v (V1.a [(It.ob (Ob.fp (Fin.ofNat B6 3685416753713387016781088315183077757961620795782546409894578378688607592378376318836054947676345821548104185464507))), (It.ob (Ob.fp (Fin.ofNat B6 1339506544944476473020471379941921221584933875938349620426543736416511423956333506472724655353366534992391756441569))), (It.lit false)])), []))) := by kernel_rfl
theorem zeR  : fnRes qsG Try.f25 3000 [] [] [] [] = (Option.some ([], ((SV.v (V1.a [(It.ob (Ob.fp (0 : U6))), (It.ob (Ob.fp (0 : U6))), (It.lit true)])), []))) := by kernel_rfl
theorem rsR  : fnRes qsG Try.f63 3000 [.v (.c (.int .i64 0))] [true] [] [] = (Option.some ([(((0 : Int) == (0 : Int)) = true), ((0 : Int) ≤ (18103045581585958587 : Int)), ((18103045581585958587 : Int) < (18446744073709551616 : Int)), ((0 : Int) ≤ (7806400890582735599 : Int)), ((7806400890582735599 : Int) < (18446744073709551616 : Int)), ((0 : Int) ≤ (11623291730934869080 : Int)), ((11623291730934869080 : Int) < (18446744073709551616 : Int)), ((0 : Int) ≤ (14080658508445169925 : Int)), ((14080658508445169925 : Int) < (18446744073709551616 : Int)), ((0 : Int) ≤ (2780237799254240271 : Int)), ((2780237799254240271 : Int) < (18446744073709551616 : Int)), ((0 : Int) ≤ (1725392847304644500 : Int)), ((1725392847304644500 : Int) < (18446744073709551616 : Int)), ((0 : Int) ≤ (912580534683953121 : Int)), ((912580534683953121 : Int) < (18446744073709551616 : Int)), ((0 : Int) ≤ (15005087156090211044 : Int)), ((15005087156090211044 : Int) < (18446744073709551616 : Int)), ((0 : Int) ≤ (61670280795567085 : Int)), ((61670280795567085 : Int) < (18446744073709551616 : Int)), ((0 : Int) ≤ (18227722000993880822 : Int)), ((18227722000993880822 : Int) < (18446744073709551616 : Int)), ((0 : Int) ≤ (11573741888802228964 : Int)), ((11573741888802228964 : Int) < (18446744073709551616 : Int)), ((0 : Int) ≤ (627113611842199793 : Int)), ((627113611842199793 : Int) < (18446744073709551616 : Int))], ((SV.v (V1.a [(It.ob (Ob.fp (Fin.ofNat B6 3685416753713387016781088315183077757961620795782546409894578378688607592378376318836054947676345821548104185464507))), (It.ob (Ob.fp (Fin.ofNat B6 1339506544944476473020471379941921221584933875938349620426543736416511423956333506472724655353366534992391756441569))), (It.lit false)])), []))) := by kernel_rfl
theorem rrA (x y : U6) (i : Bool) : fnRes qsG Try.f20 3000 [.v (.a [.ob (.fp x), .ob (.fp y), .bool i])] [true] [] [] = (Option.some ([(i = true)], ((SV.v (V1.c (It.bool (ite (true = true) (Bool.and (decide (x = (0 : U6))) (Bool.and (decide (y = (0 : U6))) (i == true))) (Bool.not (Bool.and (decide (x = (0 : U6))) (Bool.and (decide (y = (0 : U6))) (i == true)))))))), []))) := by kernel_rfl
theorem rrB (x y : U6) (i : Bool) : fnRes qsG Try.f20 3000 [.v (.a [.ob (.fp x), .ob (.fp y), .bool i])] [false, true, true] [] [] = (Option.some ([(i = false), ((ite (false = true) (decide ((cleanP x) = x)) (Bool.not (decide ((cleanP x) = x)))) = true)], ((SV.v (V1.c (It.lit false))), []))) := by kernel_rfl
theorem rrC (x y : U6) (i : Bool) : fnRes qsG Try.f20 3000 [.v (.a [.ob (.fp x), .ob (.fp y), .bool i])] [false, false, true] [] [] = (Option.some ([(i = false), ((ite (false = true) (decide ((cleanP x) = x)) (Bool.not (decide ((cleanP x) = x)))) = false), ((ite (false = true) (decide ((cleanP y) = y)) (Bool.not (decide ((cleanP y) = y)))) = true)], ((SV.v (V1.c (It.lit false))), []))) := by kernel_rfl
theorem rrD (x y : U6) (i : Bool) : fnRes qsG Try.f20 3000 [.v (.a [.ob (.fp x), .ob (.fp y), .bool i])] [false, false, false] [] [] = (Option.some ([(i = false), ((ite (false = true) (decide ((cleanP x) = x)) (Bool.not (decide ((cleanP x) = x)))) = false), ((ite (false = true) (decide ((cleanP y) = y)) (Bool.not (decide ((cleanP y) = y)))) = false), ((Fin.val x) < pN), ((Fin.val x) < pN), ((Fin.val x) < pN), ((Fin.val (mulP x x)) < pN), ((Fin.val y) < pN), ((Fin.val y) < pN), ((0 : Int) ≤ (4 : Int)), ((4 : Int) < (18446744073709551616 : Int)), ((0 : Int) ≤ (0 : Int)), ((0 : Int) < (18446744073709551616 : Int)), ((0 : Int) ≤ (0 : Int)), ((0 : Int) < (18446744073709551616 : Int)), ((0 : Int) ≤ (0 : Int)), ((0 : Int) < (18446744073709551616 : Int)), ((0 : Int) ≤ (0 : Int)), ((0 : Int) < (18446744073709551616 : Int)), ((0 : Int) ≤ (0 : Int)), ((0 : Int) < (18446744073709551616 : Int))], ((SV.v (V1.c (It.bool (ite (true = true) (decide ((mulP y y) = (cleanP ((mulP x (mulP x x)) + (Fin.ofNat B6 4))))) (Bool.not (decide ((mulP y y) = (cleanP ((mulP x (mulP x x)) + (Fin.ofNat B6 4)))))))))), []))) := by kernel_rfl
theorem rnR (x y : U6) (i : Bool) : fnRes qsG Try.f21 3000 [.v (.a [.ob (.fp x), .ob (.fp y), .bool i])] [] [] [] = (Option.some ([((Fin.val y) < pN)], ((SV.v (V1.a [(It.ob (Ob.fp x)), (It.ob (Ob.fp (negU y))), (It.bool i)])), []))) := by kernel_rfl
theorem r3R (x : U6) : fnRes qsG Try.f65 3000 [.v (.a [.ob (.fp x)])] [] [] [] = (Option.some ([], ((SV.v (V1.a [(It.ob (Ob.fp (cleanP (x + (cleanP (x + x))))))])), []))) := by kernel_rfl
end Go.Proofs.Ytkfcphigoncgjaa

/- The reference's functions on points of the first curve: contracts. No conditions. -/
namespace Go.Proofs.Ytkfcphigoncgjaa

def genX : U6 := Fin.ofNat B6 3685416753713387016781088315183077757961620795782546409894578378688607592378376318836054947676345821548104185464507
def genY : U6 := Fin.ofNat B6 1339506544944476473020471379941921221584933875938349620426543736416511423956333506472724655353366534992391756441569
def genG : G1D := ⟨genX, genY, false⟩

theorem fin_mul_val {r : Nat} (x y : Fin r) : x.val * y.val % r = (x * y).val := rfl
theorem fin_add_val {r : Nat} (x y : Fin r) : (x.val + y.val) % r = (x + y).val := rfl
section
variable {r : Nat} [NeZero r]
theorem add_neg_g (x y : Fin r) : x + (0 - y) = x - y := by grind
theorem fin_neg_val (x : Fin r) : (r - x.val) % r = (0 - x).val := by
  show _ = (r - x.val + (0 : Fin r).val) % r
  have e : (0 : Fin r).val = 0 := Nat.zero_mod r
  rw [e, Nat.add_zero]
theorem fin_of_val (n : Nat) : (Fin.ofNat r n).val = n % r := rfl
end

theorem out_in (x : U6) : outP (inP x) = cleanP x := by
  apply Fin.ext
  rw [outP_val, cleanP_val]
  exact fin_of_val _
theorem inP_val (x : U6) : (inP x).val = x.val % pN := fin_of_val _
theorem clean_lt {x : U6} (h : cleanP x = x) : x.val < pN := by
  rw [← h, cleanP_val]
  exact Nat.mod_lt _ (by decide)
theorem inP_lt {x : U6} (h : x.val < pN) : (inP x).val = x.val := Nat.mod_eq_of_lt h
theorem outP_lt (x : Fp) : (outP x).val < pN := by rw [outP_val]; exact x.isLt
theorem in_out (x : Fp) : inP (outP x) = x := by
  apply Fin.ext
  rw [inP_val, outP_val]
  exact Nat.mod_eq_of_lt x.isLt
theorem mulP_out (x y : Fp) : mulP (outP x) (outP y) = outP (x * y) := by
  apply Fin.ext
  rw [mulP_val, outP_val, outP_val, outP_val]
  exact fin_mul_val x y
theorem addP_out (x y : Fp) : cleanP (outP x + outP y) = outP (x + y) := by
  apply Fin.ext
  rw [clean_add6 (outP_lt x) (outP_lt y), outP_val, outP_val, outP_val]
  exact fin_add_val x y
theorem negU_out (x : Fp) : negU (outP x) = outP (0 - x) := by
  apply Fin.ext
  rw [negU_val, outP_val, outP_val]
  exact fin_neg_val x
theorem subP_out (x y : Fp) : subP (outP x) (outP y) = outP (x - y) := by
  unfold subP
  rw [negU_out, addP_out]
  congr 1
  exact add_neg_g x y
theorem outP_inj {x y : Fp} (h : outP x = outP y) : x = y := by rw [← in_out x, h, in_out]
theorem four_out : (Fin.ofNat B6 4 : U6) = outP fp4 := by
  apply Fin.ext
  rw [outP_val]
  show 4 % B6 = 4 % pN
  rw [Nat.mod_eq_of_lt (by decide), Nat.mod_eq_of_lt (by decide)]

theorem ref_eq (X Y : Fp) : decide (Y * Y = X * X * X + fp4) = decide (mulP (outP Y) (outP Y) = cleanP (mulP (outP X) (mulP (outP X) (outP X)) + Fin.ofNat B6 4)) := by
  rw [mulP_out, mulP_out, mulP_out, four_out, addP_out, mul_assoc_g]
  by_cases h : Y * Y = X * (X * X) + fp4
  · rw [decide_eq_true h, h, decide_eq_true rfl]
  · rw [decide_eq_false h, decide_eq_false (fun k => h (outP_inj k))]
theorem refRight_fnd (x y : U6) (i : Bool) : FnD Try.prog 20 [.v (.a [.ob (.fp x), .ob (.fp y), .bool i])] (.v (.c (.bool (onG ⟨x, y, i⟩)))) [] := by
  cases i with
  | true =>
    have r := rrA x y true
    rw [if_pos rfl] at r
    have e : onG ⟨x, y, true⟩ = ((decide (x = 0)) && ((decide (y = 0)) && (true == true))) := by
      show (decide (x = 0) && decide (y = 0)) = _
      simp
    rw [e]
    exact fn_sound qsG_ok Try.func20 r ⟨rfl, trivial⟩
  | false =>
    have ef : onG ⟨x, y, false⟩ = (decide (cleanP x = x) && (decide (cleanP y = y) && decide (inP y * inP y = inP x * inP x * inP x + fp4))) := by
      show (decide (outP (inP x) = x) && (decide (outP (inP y) = y) && decide (inP y * inP y = inP x * inP x * inP x + fp4))) = _
      rw [out_in, out_in]
    rw [ef]
    clear ef
    by_cases h1 : cleanP x = x
    · by_cases h2 : cleanP y = y
      · have r := rrD x y false
        rw [if_neg (by decide), if_neg (by decide), if_pos rfl] at r
        have e : (decide (cleanP x = x) && (decide (cleanP y = y) && decide (inP y * inP y = inP x * inP x * inP x + fp4))) = decide (mulP y y = cleanP (mulP x (mulP x x) + Fin.ofNat B6 4)) := by
          rw [decide_eq_true h1, decide_eq_true h2, Bool.true_and, Bool.true_and]
          have hx : outP (inP x) = x := by rw [out_in, h1]
          have hy : outP (inP y) = y := by rw [out_in, h2]
          have k := ref_eq (inP x) (inP y)
          rw [hx, hy] at k
          exact k
        rw [e]
        have hx := clean_lt h1
        have hy := clean_lt h2
        have hm : (mulP x x).val < pN := by rw [mulP_val]; exact Nat.mod_lt _ (by decide)
        exact fn_sound qsG_ok Try.func20 r ⟨rfl, by rw [decide_eq_true h1]; rfl, by rw [decide_eq_true h2]; rfl, hx, hx, hx, hm, hy, hy, by decide, by decide, by decide, by decide, by decide, by decide, by decide, by decide, by decide, by decide, by decide, by decide, trivial⟩
      · have r := rrC x y false
        rw [if_neg (by decide), if_neg (by decide)] at r
        rw [decide_eq_false h2, Bool.false_and, Bool.and_false]
        exact (fn_sound qsG_ok Try.func20 r ⟨rfl, by rw [decide_eq_true h1]; rfl, by rw [decide_eq_false h2]; rfl, trivial⟩).conv (fun _ _ h => h) fun y v hd => lit_bool rfl hd
    · have r := rrB x y false
      rw [if_neg (by decide)] at r
      rw [decide_eq_false h1, Bool.false_and]
      exact (fn_sound qsG_ok Try.func20 r ⟨rfl, by rw [decide_eq_false h1]; rfl, trivial⟩).conv (fun _ _ h => h) fun y v hd => lit_bool rfl hd
theorem gen_fnd : FnD Try.prog 62 [] (.v (.a genG.its)) [] :=
  (fn_sound qsG_ok Try.func62 geR (by simp [AllP])).conv (fun _ _ h => h) fun y v hd => lit_third hd
theorem some_fnd (n : Int) (h : n = 0) : FnD Try.prog 63 [.v (.c (.int .i64 n))] (.v (.a genG.its)) [] := by
  subst h
  exact (fn_sound qsG_ok Try.func63 rsR (by simp [AllP])).conv (fun _ _ h => h) fun y v hd => lit_third hd
theorem zero_fnd : FnD Try.prog 25 [] (.v (.a (G1D.mk 0 0 true).its)) [] :=
  (fn_sound qsG_ok Try.func25 zeR (by simp [AllP])).conv (fun _ _ h => h) fun y v hd => lit_third hd
end Go.Proofs.Ytkfcphigoncgjaa

/- Points of the first curve outside, and the reference's: sums, walked. No conditions. -/
namespace Go.Proofs.Ytkfcphigoncgjaa

def rightSpec1 : FnSpec
  | [.v (.a [.ob (.fp x), .ob (.fp y), .bool i])] => some ([], .v (.c (.bool (onG ⟨x, y, i⟩))), [])
  | _ => none
noncomputable def qtA : Env := qsG.set (addT qsG.fn 46 rightSpec1)
theorem qtA_ok : EnvOk Try.prog qtA := env_add qsG_ok 46 rightSpec1 (enters_of Try.func46 rfl rfl) fun args o r es h _ => by
  unfold rightSpec1 at h
  split at h
  · cases h; exact fn_sound qsG_ok Try.func46 (riR _ _ _) trivial
  · cases h
def refRightSpec1 : FnSpec
  | [.v (.a [.ob (.fp x), .ob (.fp y), .bool i])] => some ([], .v (.c (.bool (onG ⟨x, y, i⟩))), [])
  | _ => none
noncomputable def qtB : Env := qtA.set (addT qtA.fn 20 refRightSpec1)
theorem qtB_ok : EnvOk Try.prog qtB := env_add qtA_ok 20 refRightSpec1 (enters_of Try.func20 rfl rfl) fun args o r es h _ => by
  unfold refRightSpec1 at h
  split at h
  · cases h; exact refRight_fnd _ _ _
  · cases h
def genSpec1 : FnSpec
  | [] => some ([], .v (.a genG.its), [])
  | _ => none
noncomputable def qtC : Env := qtB.set (addT qtB.fn 62 genSpec1)
theorem qtC_ok : EnvOk Try.prog qtC := env_add qtB_ok 62 genSpec1 (enters_of Try.func62 rfl rfl) fun args o r es h _ => by
  unfold genSpec1 at h
  split at h
  · cases h; exact gen_fnd
  · cases h
def someSpec1 : FnSpec
  | [.v (.c (.int .i64 n))] => some ([n = 0], .v (.a genG.its), [])
  | _ => none
noncomputable def qtD : Env := qtC.set (addT qtC.fn 63 someSpec1)
theorem qtD_ok : EnvOk Try.prog qtD := env_add qtC_ok 63 someSpec1 (enters_of Try.func63 rfl rfl) fun args o r es h ho => by
  unfold someSpec1 at h
  split at h
  · cases h; exact some_fnd _ ho.1
  · cases h
def zeroSpec1 : FnSpec
  | [] => some ([], .v (.a (G1D.mk 0 0 true).its), [])
  | _ => none
noncomputable def qtE : Env := qtD.set (addT qtD.fn 25 zeroSpec1)
theorem qtE_ok : EnvOk Try.prog qtE := env_add qtD_ok 25 zeroSpec1 (enters_of Try.func25 rfl rfl) fun args o r es h _ => by
  unfold zeroSpec1 at h
  split at h
  · cases h; exact zero_fnd
  · cases h
def refNegSpec1 : FnSpec
  | [.v (.a [.ob (.fp x), .ob (.fp y), .bool i])] => some ([y.val < pN], .v (.a [.ob (.fp x), .ob (.fp (negU y)), .bool i]), [])
  | _ => none
noncomputable def qtF : Env := qtE.set (addT qtE.fn 21 refNegSpec1)
theorem qtF_ok : EnvOk Try.prog qtF := env_add qtE_ok 21 refNegSpec1 (enters_of Try.func21 rfl rfl) fun args o r es h ho => by
  unfold refNegSpec1 at h
  split at h
  · cases h; exact fn_sound qsG_ok Try.func21 (rnR _ _ _) ⟨ho.1, trivial⟩
  · cases h
def threeSpec1 : FnSpec
  | [.v (.a [.ob (.fp x)])] => some ([], .v (.a [.ob (.fp (cleanP (x + cleanP (x + x))))]), [])
  | _ => none
noncomputable def qtG : Env := qtF.set (addT qtF.fn 65 threeSpec1)
theorem qtG_ok : EnvOk Try.prog qtG := env_add qtF_ok 65 threeSpec1 (enters_of Try.func65 rfl rfl) fun args o r es h _ => by
  unfold threeSpec1 at h
  split at h
  · cases h; exact fn_sound qsG_ok Try.func65 (r3R _) trivial
  · cases h
--@env qtG qtG_ok
theorem adA (a b c d : U6) (i j : Bool) : fnRes qtG Try.f18 3000 [.v (.a [.ob (.fp a), .ob (.fp b), .bool i]), .v (.a [.ob (.fp c), .ob (.fp d), .bool j])] [true, true] [] [] = (Option.some ([((Bool.not (onG (G1D.mk a b i))) = true)], ((SV.t [(V1.a [(It.ob (Ob.fp (0 : U6))), (It.ob (Ob.fp (0 : U6))), (It.lit false)]), (V1.c (It.int IntKind.i64 (30 : Int)))]), []))) := by kernel_rfl
theorem adB (a b c d : U6) (i j : Bool) : fnRes qtG Try.f18 3000 [.v (.a [.ob (.fp a), .ob (.fp b), .bool i]), .v (.a [.ob (.fp c), .ob (.fp d), .bool j])] [false, true] [] [] = (Option.some ([((Bool.not (onG (G1D.mk a b i))) = false), ((Bool.not (onG (G1D.mk c d j))) = true)], ((SV.t [(V1.a [(It.ob (Ob.fp (0 : U6))), (It.ob (Ob.fp (0 : U6))), (It.lit false)]), (V1.c (It.int IntKind.i64 (30 : Int)))]), []))) := by kernel_rfl
theorem adC (a b c d : U6) (i j : Bool) : fnRes qtG Try.f18 3000 [.v (.a [.ob (.fp a), .ob (.fp b), .bool i]), .v (.a [.ob (.fp c), .ob (.fp d), .bool j])] [false, false] [] [] = (Option.some ([((Bool.not (onG (G1D.mk a b i))) = false), ((Bool.not (onG (G1D.mk c d j))) = false)], ((SV.t [(V1.a [(It.ob (Ob.fp (G1D.x (outG (jpl (inG (G1D.mk a b i)) (inG (G1D.mk c d j))))))), (It.ob (Ob.fp (G1D.y (outG (jpl (inG (G1D.mk a b i)) (inG (G1D.mk c d j))))))), (It.bool (G1D.inf (outG (jpl (inG (G1D.mk a b i)) (inG (G1D.mk c d j))))))]), (V1.c (It.int IntKind.i64 (0 : Int)))]), []))) := by kernel_rfl
theorem neA (a b : U6) (i : Bool) : fnRes qtG Try.f19 3000 [.v (.a [.ob (.fp a), .ob (.fp b), .bool i])] [true] [] [] = (Option.some ([((Bool.not (onG (G1D.mk a b i))) = true)], ((SV.t [(V1.a [(It.ob (Ob.fp (0 : U6))), (It.ob (Ob.fp (0 : U6))), (It.lit false)]), (V1.c (It.int IntKind.i64 (30 : Int)))]), []))) := by kernel_rfl
theorem neB (a b : U6) (i : Bool) : fnRes qtG Try.f19 3000 [.v (.a [.ob (.fp a), .ob (.fp b), .bool i])] [false] [] [] = (Option.some ([((Bool.not (onG (G1D.mk a b i))) = false)], ((SV.t [(V1.a [(It.ob (Ob.fp (G1D.x (outG (jng (inG (G1D.mk a b i))))))), (It.ob (Ob.fp (G1D.y (outG (jng (inG (G1D.mk a b i))))))), (It.bool (G1D.inf (outG (jng (inG (G1D.mk a b i))))))]), (V1.c (It.int IntKind.i64 (0 : Int)))]), []))) := by kernel_rfl
theorem alR  : fnRes qtG Try.f22 3000 [] [true] [] [] = (Option.some ([((0 : Int) = (0 : Int)), ((ite (true = true) (Bool.and (decide ((G1D.x genG) = (G1D.x genG))) (Bool.and (decide ((G1D.y genG) = (G1D.y genG))) ((G1D.inf genG) == (G1D.inf genG)))) (Bool.not (Bool.and (decide ((G1D.x genG) = (G1D.x genG))) (Bool.and (decide ((G1D.y genG) = (G1D.y genG))) ((G1D.inf genG) == (G1D.inf genG)))))) = true)], ((SV.v (V1.c (It.bool (ite (true = true) (Bool.and (decide ((G1D.x (G1D.mk (0 : U6) (0 : U6) true)) = (0 : U6))) (Bool.and (decide ((G1D.y (G1D.mk (0 : U6) (0 : U6) true)) = (0 : U6))) ((G1D.inf (G1D.mk (0 : U6) (0 : U6) true)) == true))) (Bool.not (Bool.and (decide ((G1D.x (G1D.mk (0 : U6) (0 : U6) true)) = (0 : U6))) (Bool.and (decide ((G1D.y (G1D.mk (0 : U6) (0 : U6) true)) = (0 : U6))) ((G1D.inf (G1D.mk (0 : U6) (0 : U6) true)) == true)))))))), []))) := by kernel_rfl
theorem chR (a b c d e f g h : U6) (i j k : Bool) : fnRes qtG Try.f64 3000 [.v (.a [.ob (.fp a), .ob (.fp b), .bool i]), .v (.a [.ob (.fp c), .ob (.fp d), .bool j]), .v (.a [.ob (.fp e), .ob (.fp f), .bool k]), .v (.a [.ob (.fp g)]), .v (.a [.ob (.fp h)])] [false] [] [] = (Option.some ([((Fin.val g) < pN), ((Fin.val g) < pN), ((Fin.val (cleanP (e + (cleanP (a + c))))) < pN), ((Fin.val (mulP g g)) < pN), ((Fin.val h) < pN), ((Fin.val h) < pN), ((ite (false = true) (decide ((mulP (cleanP (e + (cleanP (a + c)))) (mulP g g)) = (mulP h h))) (Bool.not (decide ((mulP (cleanP (e + (cleanP (a + c)))) (mulP g g)) = (mulP h h))))) = false), ((Fin.val (cleanP (f + b))) < pN), ((Fin.val g) < pN), ((Fin.val e) < pN), ((Fin.val h) < pN), ((Fin.val (subP a e)) < pN)], ((SV.v (V1.c (It.bool (ite (true = true) (decide ((mulP (cleanP (f + b)) g) = (mulP h (subP a e)))) (Bool.not (decide ((mulP (cleanP (f + b)) g) = (mulP h (subP a e))))))))), []))) := by kernel_rfl
end Go.Proofs.Ytkfcphigoncgjaa

/- Sums and negatives of points of the first curve outside: contracts. No conditions. -/
namespace Go.Proofs.Ytkfcphigoncgjaa

def addG (a b : G1D) : G1D := outG (jpl (inG a) (inG b))
def negG (a : G1D) : G1D := outG (jng (inG a))
/-- What Add and Neg tell. -/
def adR (a b : G1D) : G1D × Int := if onG a && onG b then (addG a b, 0) else (g10, 30)
def neR (a : G1D) : G1D × Int := if onG a then (negG a, 0) else (g10, 30)

theorem lit_third_t {x : Ctx} {i j k : It} {b : Bool} {v : Value} (h : denS x (.t [.a [i, j, .lit b], .c k]) v) : denS x (.t [.a [i, j, .bool b], .c k]) v := by
  obtain ⟨vs, e, h1⟩ := h
  cases h1 with | cons d1 ds =>
  exact ⟨_, e, .cons (lit_third d1) ds⟩

theorem add_fnd1 (a b c d : U6) (i j : Bool) : FnD Try.prog 18 [.v (.a [.ob (.fp a), .ob (.fp b), .bool i]), .v (.a [.ob (.fp c), .ob (.fp d), .bool j])] (.t [.a (adR ⟨a, b, i⟩ ⟨c, d, j⟩).1.its, .c (.int .i64 (adR ⟨a, b, i⟩ ⟨c, d, j⟩).2)]) [] := by
  by_cases h1 : onG ⟨a, b, i⟩ = true
  · by_cases h2 : onG ⟨c, d, j⟩ = true
    · have e : adR ⟨a, b, i⟩ ⟨c, d, j⟩ = (addG ⟨a, b, i⟩ ⟨c, d, j⟩, 0) := by unfold adR; rw [h1, h2]; rfl
      rw [e]
      exact fn_sound qtG_ok Try.func18 (adC a b c d i j) ⟨by rw [h1]; rfl, by rw [h2]; rfl, trivial⟩
    · have h2 : onG ⟨c, d, j⟩ = false := Bool.eq_false_iff.2 h2
      have e : adR ⟨a, b, i⟩ ⟨c, d, j⟩ = (g10, 30) := by unfold adR; rw [h1, h2]; rfl
      rw [e]
      exact (fn_sound qtG_ok Try.func18 (adB a b c d i j) ⟨by rw [h1]; rfl, by rw [h2]; rfl, trivial⟩).conv (fun _ _ h => h) fun y v hd => lit_third_t hd
  · have h1 : onG ⟨a, b, i⟩ = false := Bool.eq_false_iff.2 h1
    have e : adR ⟨a, b, i⟩ ⟨c, d, j⟩ = (g10, 30) := by unfold adR; rw [h1]; rfl
    rw [e]
    exact (fn_sound qtG_ok Try.func18 (adA a b c d i j) ⟨by rw [h1]; rfl, trivial⟩).conv (fun _ _ h => h) fun y v hd => lit_third_t hd

theorem neg_fnd1 (a b : U6) (i : Bool) : FnD Try.prog 19 [.v (.a [.ob (.fp a), .ob (.fp b), .bool i])] (.t [.a (neR ⟨a, b, i⟩).1.its, .c (.int .i64 (neR ⟨a, b, i⟩).2)]) [] := by
  by_cases h1 : onG ⟨a, b, i⟩ = true
  · have e : neR ⟨a, b, i⟩ = (negG ⟨a, b, i⟩, 0) := by unfold neR; rw [h1]; rfl
    rw [e]
    exact fn_sound qtG_ok Try.func19 (neB a b i) ⟨by rw [h1]; rfl, trivial⟩
  · have h1 : onG ⟨a, b, i⟩ = false := Bool.eq_false_iff.2 h1
    have e : neR ⟨a, b, i⟩ = (g10, 30) := by unfold neR; rw [h1]; rfl
    rw [e]
    exact (fn_sound qtG_ok Try.func19 (neA a b i) ⟨by rw [h1]; rfl, trivial⟩).conv (fun _ _ h => h) fun y v hd => lit_third_t hd

theorem alive_fnd1 : FnD Try.prog 22 [] (.v (.c (.bool true))) [] := by
  have r := alR
  rw [if_pos rfl, if_pos rfl] at r
  refine (fn_sound qtG_ok Try.func22 r ⟨rfl, by simp, trivial⟩).conv (fun _ _ h => h) fun y v hd => ?_
  have e : (decide ((G1D.x (G1D.mk (0 : U6) (0 : U6) true)) = (0 : U6)) && (decide ((G1D.y (G1D.mk (0 : U6) (0 : U6) true)) = (0 : U6)) && ((G1D.inf (G1D.mk (0 : U6) (0 : U6) true)) == true))) = true := by simp
  rw [e] at hd
  exact hd

/-- The third point of a line that goes up by h at g, as the document says. -/
def chP (a b c e f g h : U6) : Bool := decide (mulP (cleanP (e + cleanP (a + c))) (mulP g g) = mulP h h) && decide (mulP (cleanP (f + b)) g = mulP h (subP a e))
theorem chord_fnd1 (a b c d e f g h : U6) (i j k : Bool) (hg : g.val < pN) (hh : h.val < pN) (he : e.val < pN) (hc : chP a b c e f g h = true) :
    FnD Try.prog 64 [.v (.a [.ob (.fp a), .ob (.fp b), .bool i]), .v (.a [.ob (.fp c), .ob (.fp d), .bool j]), .v (.a [.ob (.fp e), .ob (.fp f), .bool k]), .v (.a [.ob (.fp g)]), .v (.a [.ob (.fp h)])] (.v (.c (.bool true))) [] := by
  unfold chP at hc
  rw [Bool.and_eq_true] at hc
  have r := chR a b c d e f g h i j k
  rw [if_neg (by decide), if_pos rfl, hc.1, hc.2] at r
  have hcl : ∀ x : U6, (cleanP x).val < pN := fun x => by rw [cleanP_val]; exact Nat.mod_lt _ (by decide)
  have hml : ∀ x y : U6, (mulP x y).val < pN := fun x y => by rw [mulP_val]; exact Nat.mod_lt _ (by decide)
  exact fn_sound qtG_ok Try.func64 r ⟨hg, hg, hcl _, hml _ _, hh, hh, rfl, hcl _, hg, he, hh, hcl _, trivial⟩

end Go.Proofs.Ytkfcphigoncgjaa

/- The first curve is a group: points inside and outside; the plain law. No conditions. -/
namespace Go.Proofs.Ytkfcphigoncgjaa

section
variable {r : Nat} [NeZero r]
theorem mul6_g (a b c d e f : Fin r) : a * b * c * (d * e * f) = a * d * (b * e) * (c * f) := by grind
theorem pw_cube (x : Fin r) : ∀ n, pw (x * x * x) n = pw x n * pw x n * pw x n
  | 0 => by show (1 : Fin r) = 1 * 1 * 1; grind
  | n + 1 => by
    show pw (x * x * x) n * (x * x * x) = pw x n * x * (pw x n * x) * (pw x n * x)
    rw [pw_cube x n]
    grind
theorem pw_three (x : Fin r) (n : Nat) : pw (x * x * x) n = pw x (n + n + n) := by
  rw [pw_add_g, pw_add_g, pw_cube]
theorem neg_of_sum {a b : Fin r} (h : a + b = 0) : a = 0 - b := by grind
theorem zero_cube (b : Fin r) : (0 : Fin r) * 0 * 0 + b = b := by grind
end

theorem one_ne_p : (1 : Fp) ≠ 0 := by decide +kernel
theorem two_ne_p : (1 : Fp) + 1 ≠ 0 := by decide +kernel
theorem fp1_one : fp1 = 1 := by decide +kernel
theorem fp4_ne : fp4 ≠ 0 := by decide +kernel
theorem neg4 : (0 : Fp) - fp4 = Fin.ofNat pN (pN - 4) := by decide +kernel
theorem thirds : pN - 1 = (pN - 1) / 3 + (pN - 1) / 3 + (pN - 1) / 3 := by decide +kernel
theorem neg4_val : (Fin.ofNat pN (pN - 4)).val = pN - 4 := by decide +kernel
theorem neg4_pow : mpow pN (pN - 4) 384 ((pN - 1) / 3) ≠ 1 := by decide +kernel
theorem third_lt : (pN - 1) / 3 < 2 ^ 384 := by decide +kernel
theorem one_val_p : ((1 : Fp) : Nat) = 1 := by decide +kernel

theorem cube_ne (c : Fp) (hc : pw c ((pN - 1) / 3) ≠ 1) (h0 : c ≠ 0) (x : Fp) : x * x * x ≠ c := by
  intro h
  by_cases hx : x = 0
  · apply h0
    rw [← h, hx]
    exact mul_zero6
  · apply hc
    rw [← h, pw_three, ← thirds]
    exact fermat_p x hx
where mul_zero6 : (0 : Fp) * 0 * 0 = 0 := by decide +kernel

theorem no2_p (x : Fp) : x * x * x + fp4 ≠ 0 := by
  intro h
  have h := neg_of_sum h
  rw [neg4] at h
  refine cube_ne _ (fun e => ?_) (fun e => ?_) x h
  · have := congrArg Fin.val e
    rw [pw_mpow _ 384 _ third_lt, neg4_val, one_val_p] at this
    exact neg4_pow this
  · have := congrArg Fin.val e
    rw [neg4_val] at this
    revert this
    decide +kernel

instance fldP : Fld Fp :=
  { (inferInstance : Lean.Grind.CommRing (Fin pN)) with
    inv := ivP
    mul_inv := ivP_mul
    one_ne := one_ne_p }

theorem cv1 : Cv fp4 := ⟨two_ne_p, no2_p⟩

/-- A point outside, as a point; and back. -/
def pG (a : G1D) : Pt Fp := if a.inf then none else some (inP a.x, inP a.y)
def gP : Pt Fp → G1D
  | none => ⟨0, 0, true⟩
  | some p => ⟨outP p.1, outP p.2, false⟩

theorem pG_gP : ∀ P : Pt Fp, pG (gP P) = P
  | none => rfl
  | some p => by
    show some (inP (outP p.1), inP (outP p.2)) = some p
    rw [in_out, in_out]

theorem onG_is {a : G1D} (h : onG a = true) : gP (pG a) = a ∧ OnC fp4 (pG a) := by
  obtain ⟨x, y, i⟩ := a
  cases i with
  | true =>
    have h : (decide (x = 0) && decide (y = 0)) = true := h
    rw [Bool.and_eq_true, decide_eq_true_eq, decide_eq_true_eq] at h
    obtain ⟨rfl, rfl⟩ := h
    exact ⟨rfl, True.intro⟩
  | false =>
    have h : (decide (outP (inP x) = x) && (decide (outP (inP y) = y) && decide (inP y * inP y = inP x * inP x * inP x + fp4))) = true := h
    rw [Bool.and_eq_true, Bool.and_eq_true, decide_eq_true_eq, decide_eq_true_eq, decide_eq_true_eq] at h
    obtain ⟨h1, h2, h3⟩ := h
    refine ⟨?_, h3⟩
    show (⟨outP (inP x), outP (inP y), false⟩ : G1D) = ⟨x, y, false⟩
    rw [h1, h2]

theorem onG_gP : ∀ {P : Pt Fp}, OnC fp4 P → onG (gP P) = true
  | none, _ => by
    show (decide ((0 : U6) = 0) && decide ((0 : U6) = 0)) = true
    rw [decide_eq_true rfl]; rfl
  | some p, h => by
    have h : p.2 * p.2 = p.1 * p.1 * p.1 + fp4 := h
    show (decide (outP (inP (outP p.1)) = outP p.1) && (decide (outP (inP (outP p.2)) = outP p.2) && decide (inP (outP p.2) * inP (outP p.2) = inP (outP p.1) * inP (outP p.1) * inP (outP p.1) + fp4))) = true
    rw [in_out, in_out, decide_eq_true rfl, decide_eq_true rfl, decide_eq_true h]
    rfl

theorem one_sq : (1 : Fp) * 1 = 1 := by decide +kernel
theorem inG_jc (a : G1D) : Jc (pG a) (inG a) := by
  obtain ⟨x, y, i⟩ := a
  cases i with
  | true => exact (rfl : (0 : Fp) = 0)
  | false =>
    show Jc (some (inP x, inP y)) (inP x, inP y, fp1)
    rw [fp1_one]
    refine ⟨one_ne_p, ?_, ?_⟩
    · show inP x = inP x * (1 * 1)
      rw [one_sq]
      exact (mul_one_g _).symm
    · show inP y = inP y * (1 * 1 * 1)
      rw [one_sq, one_sq]
      exact (mul_one_g _).symm

theorem outG_jc {P : Pt Fp} {t : Fp × Fp × Fp} (h : Jc P t) : outG t = gP P := by
  rw [← jpt_of P t h]
  unfold outG jpt
  by_cases hz : t.2.2 = 0
  · rw [if_pos hz, if_pos hz]; rfl
  · rw [if_neg hz, if_neg hz]; rfl

theorem addG_is (a b : G1D) : addG a b = gP (gadd (pG a) (pG b)) := outG_jc (jpl_ok two_ne_p _ _ _ _ (inG_jc a) (inG_jc b))
theorem negG_is (a : G1D) : negG a = gP (gneg (pG a)) := outG_jc (jng_ok _ _ (inG_jc a))

theorem pG_add (a b : G1D) : pG (addG a b) = gadd (pG a) (pG b) := by rw [addG_is, pG_gP]
theorem pG_neg (a : G1D) : pG (negG a) = gneg (pG a) := by rw [negG_is, pG_gP]
theorem on_add {a b : G1D} (ha : onG a = true) (hb : onG b = true) : onG (addG a b) = true := by
  rw [addG_is]
  exact onG_gP (gadd_on cv1 _ _ (onG_is ha).2 (onG_is hb).2)
theorem on_neg {a : G1D} (ha : onG a = true) : onG (negG a) = true := by
  rw [negG_is]
  exact onG_gP (gneg_on _ (onG_is ha).2)
theorem addG_comm {a b : G1D} (ha : onG a = true) (hb : onG b = true) : addG a b = addG b a := by
  rw [addG_is, addG_is, gadd_comm cv1 _ _ (onG_is ha).2 (onG_is hb).2]
theorem addG_assoc {a b c : G1D} (ha : onG a = true) (hb : onG b = true) (hc : onG c = true) : addG (addG a b) c = addG a (addG b c) := by
  rw [addG_is (addG a b), pG_add, addG_is a (addG b c), pG_add, gadd_assoc cv1 _ _ _ (onG_is ha).2 (onG_is hb).2 (onG_is hc).2]
theorem addG_zero {a : G1D} (ha : onG a = true) : addG a ⟨0, 0, true⟩ = a := by
  rw [addG_is]
  show gP (gadd (pG a) none) = a
  rw [gadd_none, (onG_is ha).1]
theorem addG_neg {a : G1D} (ha : onG a = true) : addG a (negG a) = ⟨0, 0, true⟩ := by
  rw [addG_is, pG_neg, gadd_gneg cv1 _ (onG_is ha).2]
  rfl
theorem on_zero : onG ⟨0, 0, true⟩ = true := onG_gP (P := none) True.intro

section
variable {F : Type} [Fld F]
theorem line1 (e d x1 x2 y1 : F) (hd : d ≠ 0) : ((thr e d x1 x2 y1).1 + (x1 + x2)) * (d * d) = e * e := by
  have h := thr1 e d x1 x2 y1 hd
  unfold nX at h
  grind
theorem line2 (e d x1 x2 y1 : F) (hd : d ≠ 0) : ((thr e d x1 x2 y1).2 + y1) * d = e * (x1 - (thr e d x1 x2 y1).1) := by
  have h := Fld.mul_inv d hd
  unfold thr
  dsimp only
  grind
theorem opp_y {y1 y2 : F} (h : y1 * y1 = y2 * y2) (hn : ¬ y1 = 0 - y2) : y1 = y2 ∧ y1 ≠ 0 := by
  have h0 : y1 = y2 := by
    by_cases e : y1 = y2
    · exact e
    · have hd : y1 - y2 ≠ 0 := fun h => e (by grind)
      exfalso
      apply hn
      have : y1 + y2 = 0 := fcan hd (by grind)
      grind
  refine ⟨h0, fun e => hn ?_⟩
  rw [← h0, e]
  grind
theorem opp_none {y : F} (two : (1 : F) + 1 ≠ 0) (h : y = 0 - y) : y = 0 := fcan two (by grind)
end

theorem chP_out (x1 y1 x2 x3 y3 d e : Fp) (h1 : (x3 + (x1 + x2)) * (d * d) = e * e) (h2 : (y3 + y1) * d = e * (x1 - x3)) :
    chP (outP x1) (outP y1) (outP x2) (outP x3) (outP y3) (outP d) (outP e) = true := by
  unfold chP
  rw [addP_out, addP_out, mulP_out, mulP_out, mulP_out, h1, addP_out, mulP_out, h2, subP_out, mulP_out]
  simp
end Go.Proofs.Ytkfcphigoncgjaa

/- The reference's Sum, walked. No conditions. -/
namespace Go.Proofs.Ytkfcphigoncgjaa

def addSpec1 : FnSpec
  | [.v (.a [.ob (.fp a), .ob (.fp b), .bool i]), .v (.a [.ob (.fp c), .ob (.fp d), .bool j])] => some ([], .t [.a (adR ⟨a, b, i⟩ ⟨c, d, j⟩).1.its, .c (.int .i64 (adR ⟨a, b, i⟩ ⟨c, d, j⟩).2)], [])
  | _ => none
noncomputable def qvA : Env := qtG.set (addT qtG.fn 18 addSpec1)
theorem qvA_ok : EnvOk Try.prog qvA := env_add qtG_ok 18 addSpec1 (enters_of Try.func18 rfl rfl) fun args o r es h _ => by
  unfold addSpec1 at h
  split at h
  · cases h; exact add_fnd1 _ _ _ _ _ _
  · cases h
def negSpec1 : FnSpec
  | [.v (.a [.ob (.fp a), .ob (.fp b), .bool i])] => some ([], .t [.a (neR ⟨a, b, i⟩).1.its, .c (.int .i64 (neR ⟨a, b, i⟩).2)], [])
  | _ => none
noncomputable def qvB : Env := qvA.set (addT qvA.fn 19 negSpec1)
theorem qvB_ok : EnvOk Try.prog qvB := env_add qvA_ok 19 negSpec1 (enters_of Try.func19 rfl rfl) fun args o r es h _ => by
  unfold negSpec1 at h
  split at h
  · cases h; exact neg_fnd1 _ _ _
  · cases h
def aliveSpec1 : FnSpec
  | [] => some ([], .v (.c (.bool true)), [])
  | _ => none
noncomputable def qvC : Env := qvB.set (addT qvB.fn 22 aliveSpec1)
theorem qvC_ok : EnvOk Try.prog qvC := env_add qvB_ok 22 aliveSpec1 (enters_of Try.func22 rfl rfl) fun args o r es h _ => by
  unfold aliveSpec1 at h
  split at h
  · cases h; exact alive_fnd1
  · cases h
def chordSpec1 : FnSpec
  | [.v (.a [.ob (.fp a), .ob (.fp b), .bool _]), .v (.a [.ob (.fp c), .ob (.fp _), .bool _]), .v (.a [.ob (.fp e), .ob (.fp f), .bool _]), .v (.a [.ob (.fp g)]), .v (.a [.ob (.fp h)])] => some ([g.val < pN, h.val < pN, e.val < pN, chP a b c e f g h = true], .v (.c (.bool true)), [])
  | _ => none
noncomputable def qvD : Env := qvC.set (addT qvC.fn 64 chordSpec1)
theorem qvD_ok : EnvOk Try.prog qvD := env_add qvC_ok 64 chordSpec1 (enters_of Try.func64 rfl rfl) fun args o r es h ho => by
  unfold chordSpec1 at h
  split at h
  · cases h; exact chord_fnd1 _ _ _ _ _ _ _ _ _ _ _ ho.1 ho.2.1 ho.2.2.1 ho.2.2.2.1
  · cases h
--@env qvD qvD_ok
theorem suA (a b c : G1D) : fnRes qvD Try.f23 3000 [.v (.a a.its), .v (.a b.its), .v (.a c.its)] [true] [] [] = (Option.some ([((G1D.inf a) = true)], ((SV.v (V1.c (It.bool (ite (true = true) (Bool.and (decide ((G1D.x c) = (G1D.x b))) (Bool.and (decide ((G1D.y c) = (G1D.y b))) ((G1D.inf c) == (G1D.inf b)))) (Bool.not (Bool.and (decide ((G1D.x c) = (G1D.x b))) (Bool.and (decide ((G1D.y c) = (G1D.y b))) ((G1D.inf c) == (G1D.inf b))))))))), []))) := by kernel_rfl
theorem suB (a b c : G1D) : fnRes qvD Try.f23 3000 [.v (.a a.its), .v (.a b.its), .v (.a c.its)] [false, true] [] [] = (Option.some ([((G1D.inf a) = false), ((G1D.inf b) = true)], ((SV.v (V1.c (It.bool (ite (true = true) (Bool.and (decide ((G1D.x c) = (G1D.x a))) (Bool.and (decide ((G1D.y c) = (G1D.y a))) ((G1D.inf c) == (G1D.inf a)))) (Bool.not (Bool.and (decide ((G1D.x c) = (G1D.x a))) (Bool.and (decide ((G1D.y c) = (G1D.y a))) ((G1D.inf c) == (G1D.inf a))))))))), []))) := by kernel_rfl
theorem suC (a b c : G1D) : fnRes qvD Try.f23 3000 [.v (.a a.its), .v (.a b.its), .v (.a c.its)] [false, false, true, true] [] [] = (Option.some ([((G1D.inf a) = false), ((G1D.inf b) = false), ((ite (true = true) (decide ((G1D.x a) = (G1D.x b))) (Bool.not (decide ((G1D.x a) = (G1D.x b))))) = true), ((Fin.val (G1D.y b)) < pN), ((ite (true = true) (decide ((G1D.y a) = (negU (G1D.y b)))) (Bool.not (decide ((G1D.y a) = (negU (G1D.y b)))))) = true)], ((SV.v (V1.c (It.bool (ite (true = true) (Bool.and (decide ((G1D.x c) = (0 : U6))) (Bool.and (decide ((G1D.y c) = (0 : U6))) ((G1D.inf c) == true))) (Bool.not (Bool.and (decide ((G1D.x c) = (0 : U6))) (Bool.and (decide ((G1D.y c) = (0 : U6))) ((G1D.inf c) == true)))))))), []))) := by kernel_rfl
theorem suD (a b c : G1D) : fnRes qvD Try.f23 3000 [.v (.a a.its), .v (.a b.its), .v (.a c.its)] [false, false, true, false, false, false, true] [] [] = (Option.some ([((G1D.inf a) = false), ((G1D.inf b) = false), ((ite (true = true) (decide ((G1D.x a) = (G1D.x b))) (Bool.not (decide ((G1D.x a) = (G1D.x b))))) = true), ((Fin.val (G1D.y b)) < pN), ((ite (true = true) (decide ((G1D.y a) = (negU (G1D.y b)))) (Bool.not (decide ((G1D.y a) = (negU (G1D.y b)))))) = false), ((Bool.not (onG c)) = false), ((G1D.inf c) = false), ((ite (true = true) (decide ((G1D.x a) = (G1D.x b))) (Bool.not (decide ((G1D.x a) = (G1D.x b))))) = true), ((Fin.val (G1D.x a)) < pN), ((Fin.val (G1D.x a)) < pN), ((Fin.val (cleanP ((G1D.y a) + (G1D.y a)))) < pN), ((Fin.val (cleanP ((mulP (G1D.x a) (G1D.x a)) + (cleanP ((mulP (G1D.x a) (G1D.x a)) + (mulP (G1D.x a) (G1D.x a))))))) < pN), ((Fin.val (G1D.x c)) < pN), ((chP (G1D.x a) (G1D.y a) (G1D.x a) (G1D.x c) (G1D.y c) (cleanP ((G1D.y a) + (G1D.y a))) (cleanP ((mulP (G1D.x a) (G1D.x a)) + (cleanP ((mulP (G1D.x a) (G1D.x a)) + (mulP (G1D.x a) (G1D.x a))))))) = true)], ((SV.v (V1.c (It.bool true))), []))) := by kernel_rfl
theorem suE (a b c : G1D) : fnRes qvD Try.f23 3000 [.v (.a a.its), .v (.a b.its), .v (.a c.its)] [false, false, false, false, false, false, false] [] [] = (Option.some ([((G1D.inf a) = false), ((G1D.inf b) = false), ((ite (true = true) (decide ((G1D.x a) = (G1D.x b))) (Bool.not (decide ((G1D.x a) = (G1D.x b))))) = false), ((Bool.not (onG c)) = false), ((G1D.inf c) = false), ((ite (true = true) (decide ((G1D.x a) = (G1D.x b))) (Bool.not (decide ((G1D.x a) = (G1D.x b))))) = false), ((Fin.val (G1D.x a)) < pN), ((Fin.val (G1D.y a)) < pN), ((Fin.val (subP (G1D.x b) (G1D.x a))) < pN), ((Fin.val (subP (G1D.y b) (G1D.y a))) < pN), ((Fin.val (G1D.x c)) < pN), ((chP (G1D.x a) (G1D.y a) (G1D.x b) (G1D.x c) (G1D.y c) (subP (G1D.x b) (G1D.x a)) (subP (G1D.y b) (G1D.y a))) = true)], ((SV.v (V1.c (It.bool true))), []))) := by kernel_rfl
end Go.Proofs.Ytkfcphigoncgjaa

/- The reference's Sum tells of the sum that it is one. No conditions. -/
namespace Go.Proofs.Ytkfcphigoncgjaa

theorem eq_bits {a b : G1D} (h : a = b) : (decide (a.x = b.x) && (decide (a.y = b.y) && (a.inf == b.inf))) = true := by
  subst h
  simp

theorem out_lts (x y : Fp) : (subP (outP x) (outP y)).val < pN := by rw [subP_out]; exact outP_lt _
theorem clean_lts (x : U6) : (cleanP x).val < pN := by rw [cleanP_val]; exact Nat.mod_lt _ (by decide)
theorem outP_eq {x y : Fp} : (outP x = outP y) = (x = y) := propext ⟨outP_inj, fun h => by rw [h]⟩

theorem three_out (x : Fp) : cleanP (outP x + cleanP (outP x + outP x)) = outP (thrice x) := by
  rw [addP_out, addP_out]
  congr 1
  exact three_g x
where three_g {r : Nat} [NeZero r] (x : Fin r) : x + (x + x) = x + x + x := by grind

theorem sub_zero_g {r : Nat} [NeZero r] {x y : Fin r} (h : y - x = 0) : x = y := by grind

theorem sum_fnd1 (a b c : G1D) (ha : onG a = true) (hb : onG b = true) (hc : c = addG a b) : FnD Try.prog 23 [.v (.a a.its), .v (.a b.its), .v (.a c.its)] (.v (.c (.bool true))) [] := by
  obtain ⟨ea, oa⟩ := onG_is ha
  obtain ⟨eb, ob⟩ := onG_is hb
  have hon := on_add ha hb
  rw [← hc] at hon
  rw [addG_is] at hc
  generalize pG a = P at *
  generalize pG b = Q at *
  subst ea eb
  cases P with
  | none =>
    have e : c = gP Q := hc
    have r := suA (gP none) (gP Q) c
    rw [if_pos rfl, eq_bits e] at r
    exact fn_sound qvD_ok Try.func23 r ⟨rfl, trivial⟩
  | some p =>
    cases Q with
    | none =>
      have e : c = gP (some p) := hc
      have r := suB (gP (some p)) (gP none) c
      rw [if_pos rfl, eq_bits e] at r
      exact fn_sound qvD_ok Try.func23 r ⟨rfl, rfl, trivial⟩
    | some q =>
      obtain ⟨x1, y1⟩ := p
      obtain ⟨x2, y2⟩ := q
      have oa : y1 * y1 = x1 * x1 * x1 + fp4 := oa
      have ob : y2 * y2 = x2 * x2 * x2 + fp4 := ob
      by_cases hx : x1 = x2
      · subst hx
        by_cases hy : y1 = 0 - y2
        · have e0 : gadd (some (x1, y1)) (some (x1, y2)) = none := by
            show (if x1 = x1 then if y1 = y2 ∧ y1 ≠ 0 then _ else none else _) = _
            rw [if_pos rfl, if_neg]
            intro h
            rw [← h.1] at hy
            exact h.2 (opp_none two_ne_p hy)
          rw [e0] at hc
          have r := suC (gP (some (x1, y1))) (gP (some (x1, y2))) c
          have e1 : (decide (c.x = 0) && (decide (c.y = 0) && (c.inf == true))) = true := eq_bits (b := ⟨0, 0, true⟩) hc
          rw [if_pos rfl, if_pos rfl, if_pos rfl, e1] at r
          refine fn_sound qvD_ok Try.func23 r ⟨rfl, rfl, decide_eq_true rfl, outP_lt _, ?_, trivial⟩
          show decide (outP y1 = negU (outP y2)) = true
          rw [negU_out, ← hy, decide_eq_true rfl]
        · obtain ⟨he, h0⟩ := opp_y (oa.trans ob.symm) hy
          have e0 : gadd (some (x1, y1)) (some (x1, y2)) = some (thr (thrice (x1 * x1)) (y1 + y1) x1 x1 y1) := by
            show (if x1 = x1 then if y1 = y2 ∧ y1 ≠ 0 then _ else none else _) = _
            rw [if_pos rfl, if_pos ⟨he, h0⟩]
          rw [e0] at hc
          have hd : y1 + y1 ≠ 0 := (twiceOn cv1 oa _ rfl).1
          have l1 := line1 (thrice (x1 * x1)) (y1 + y1) x1 x1 y1 hd
          have l2 := line2 (thrice (x1 * x1)) (y1 + y1) x1 x1 y1 hd
          generalize thr (thrice (x1 * x1)) (y1 + y1) x1 x1 y1 = R at hc l1 l2
          subst hc
          have r := suD (gP (some (x1, y1))) (gP (some (x1, y2))) (gP (some R))
          rw [if_pos rfl, if_pos rfl] at r
          have hch := chP_out x1 y1 x1 R.1 R.2 (y1 + y1) (thrice (x1 * x1)) l1 l2
          rw [← addP_out, ← three_out, ← mulP_out] at hch
          refine fn_sound qvD_ok Try.func23 r ⟨rfl, rfl, decide_eq_true rfl, outP_lt _, ?_, by rw [hon]; rfl, rfl, decide_eq_true rfl, outP_lt _, outP_lt _, clean_lts _, clean_lts _, outP_lt _, hch, trivial⟩
          show decide (outP y1 = negU (outP y2)) = false
          rw [negU_out]
          exact decide_eq_false fun h => hy (outP_inj h)
      · have e0 : gadd (some (x1, y1)) (some (x2, y2)) = some (thr (y2 - y1) (x2 - x1) x1 x2 y1) := by
          show (if x1 = x2 then if y1 = y2 ∧ y1 ≠ 0 then _ else none else _) = _
          rw [if_neg hx]
        rw [e0] at hc
        have hd : x2 - x1 ≠ 0 := fun e => hx (sub_zero_g e)
        have l1 := line1 (y2 - y1) (x2 - x1) x1 x2 y1 hd
        have l2 := line2 (y2 - y1) (x2 - x1) x1 x2 y1 hd
        generalize thr (y2 - y1) (x2 - x1) x1 x2 y1 = R at hc l1 l2
        subst hc
        have r := suE (gP (some (x1, y1))) (gP (some (x2, y2))) (gP (some R))
        rw [if_pos rfl] at r
        have hch := chP_out x1 y1 x2 R.1 R.2 (x2 - x1) (y2 - y1) l1 l2
        rw [← subP_out, ← subP_out] at hch
        have hne : decide (outP x1 = outP x2) = false := decide_eq_false fun h => hx (outP_inj h)
        exact fn_sound qvD_ok Try.func23 r ⟨rfl, rfl, hne, by rw [hon]; rfl, rfl, hne, outP_lt _, outP_lt _, out_lts _ _, out_lts _ _, outP_lt _, hch, trivial⟩

end Go.Proofs.Ytkfcphigoncgjaa

/- OneSums' and OneGroup's laws, walked. No conditions. -/
namespace Go.Proofs.Ytkfcphigoncgjaa

def sumSpec1 : FnSpec
  | [.v (.a [.ob (.fp a), .ob (.fp b), .bool i]), .v (.a [.ob (.fp c), .ob (.fp d), .bool j]), .v (.a [.ob (.fp e), .ob (.fp f), .bool k])] => some ([onG ⟨a, b, i⟩ = true, onG ⟨c, d, j⟩ = true, (⟨e, f, k⟩ : G1D) = addG ⟨a, b, i⟩ ⟨c, d, j⟩], .v (.c (.bool true)), [])
  | _ => none
noncomputable def qvE : Env := qvD.set (addT qvD.fn 23 sumSpec1)
theorem qvE_ok : EnvOk Try.prog qvE := env_add qvD_ok 23 sumSpec1 (enters_of Try.func23 rfl rfl) fun args o r es h ho => by
  unfold sumSpec1 at h
  split at h
  · cases h; exact sum_fnd1 ⟨_, _, _⟩ ⟨_, _, _⟩ ⟨_, _, _⟩ ho.1 ho.2.1 ho.2.2.1
  · cases h
--@env qvE qvE_ok
theorem osA (a b : G1D) : fnRes qvE Try.f3 3000 [.v (.a a.its), .v (.a b.its)] [true, false, false, false, false, false, false, true, true] [] [] = (Option.some ([((ite (false = true) ((onG a) == ((Prod.snd (neR a)) == (0 : Int))) (Bool.not ((onG a) == ((Prod.snd (neR a)) == (0 : Int))))) = false), ((onG a) = true), ((Fin.val (G1D.y a)) < pN), ((ite (false = true) (Bool.and (decide ((G1D.x (Prod.fst (neR a))) = (G1D.x a))) (Bool.and (decide ((G1D.y (Prod.fst (neR a))) = (negU (G1D.y a)))) ((G1D.inf (Prod.fst (neR a))) == (G1D.inf a)))) (Bool.not (Bool.and (decide ((G1D.x (Prod.fst (neR a))) = (G1D.x a))) (Bool.and (decide ((G1D.y (Prod.fst (neR a))) = (negU (G1D.y a)))) ((G1D.inf (Prod.fst (neR a))) == (G1D.inf a)))))) = false), ((Bool.not (onG a)) = false), ((Bool.not (onG a)) = false), ((Bool.not (onG b)) = false), (true = true), (((Prod.snd (adR a b)) == (0 : Int)) = true), ((onG a) = true), ((onG b) = true), ((Prod.fst (adR a b)) = (addG a b))], ((SV.v (V1.c (It.bool true))), []))) := by kernel_rfl
theorem osB (a b : G1D) : fnRes qvE Try.f3 3000 [.v (.a a.its), .v (.a b.its)] [true, false, false, false, false, false, true, true, true] [] [] = (Option.some ([((ite (false = true) ((onG a) == ((Prod.snd (neR a)) == (0 : Int))) (Bool.not ((onG a) == ((Prod.snd (neR a)) == (0 : Int))))) = false), ((onG a) = true), ((Fin.val (G1D.y a)) < pN), ((ite (false = true) (Bool.and (decide ((G1D.x (Prod.fst (neR a))) = (G1D.x a))) (Bool.and (decide ((G1D.y (Prod.fst (neR a))) = (negU (G1D.y a)))) ((G1D.inf (Prod.fst (neR a))) == (G1D.inf a)))) (Bool.not (Bool.and (decide ((G1D.x (Prod.fst (neR a))) = (G1D.x a))) (Bool.and (decide ((G1D.y (Prod.fst (neR a))) = (negU (G1D.y a)))) ((G1D.inf (Prod.fst (neR a))) == (G1D.inf a)))))) = false), ((Bool.not (onG a)) = false), ((Bool.not (onG a)) = false), ((Bool.not (onG b)) = true), (true = true), (((Prod.snd (adR a b)) == (30 : Int)) = true)], ((SV.v (V1.c (It.bool (ite (true = true) (Bool.and (decide ((G1D.x (Prod.fst (adR a b))) = (0 : U6))) (Bool.and (decide ((G1D.y (Prod.fst (adR a b))) = (0 : U6))) ((G1D.inf (Prod.fst (adR a b))) == false))) (Bool.not (Bool.and (decide ((G1D.x (Prod.fst (adR a b))) = (0 : U6))) (Bool.and (decide ((G1D.y (Prod.fst (adR a b))) = (0 : U6))) ((G1D.inf (Prod.fst (adR a b))) == false)))))))), []))) := by kernel_rfl
theorem osC (a b : G1D) : fnRes qvE Try.f3 3000 [.v (.a a.its), .v (.a b.its)] [false, false, false, true, false, false, true, true, true] [] [] = (Option.some ([((ite (false = true) ((onG a) == ((Prod.snd (neR a)) == (0 : Int))) (Bool.not ((onG a) == ((Prod.snd (neR a)) == (0 : Int))))) = false), ((onG a) = false), ((Bool.not (onG a)) = true), (((Prod.snd (neR a)) != (30 : Int)) = false), ((ite (false = true) (Bool.and (decide ((G1D.x (Prod.fst (neR a))) = (0 : U6))) (Bool.and (decide ((G1D.y (Prod.fst (neR a))) = (0 : U6))) ((G1D.inf (Prod.fst (neR a))) == false))) (Bool.not (Bool.and (decide ((G1D.x (Prod.fst (neR a))) = (0 : U6))) (Bool.and (decide ((G1D.y (Prod.fst (neR a))) = (0 : U6))) ((G1D.inf (Prod.fst (neR a))) == false))))) = false), ((Bool.not (onG a)) = true), (true = true), (((Prod.snd (adR a b)) == (30 : Int)) = true)], ((SV.v (V1.c (It.bool (ite (true = true) (Bool.and (decide ((G1D.x (Prod.fst (adR a b))) = (0 : U6))) (Bool.and (decide ((G1D.y (Prod.fst (adR a b))) = (0 : U6))) ((G1D.inf (Prod.fst (adR a b))) == false))) (Bool.not (Bool.and (decide ((G1D.x (Prod.fst (adR a b))) = (0 : U6))) (Bool.and (decide ((G1D.y (Prod.fst (adR a b))) = (0 : U6))) ((G1D.inf (Prod.fst (adR a b))) == false)))))))), []))) := by kernel_rfl
theorem aoR (a b c d : U6) (i j : Bool) : fnRes qvE Try.f24 3000 [.v (.a [.ob (.fp a), .ob (.fp b), .bool i]), .v (.a [.ob (.fp c), .ob (.fp d), .bool j])] [] [] [] = (Option.some ([], ((SV.v (V1.a [(It.ob (Ob.fp (G1D.x (Prod.fst (adR (G1D.mk a b i) (G1D.mk c d j)))))), (It.ob (Ob.fp (G1D.y (Prod.fst (adR (G1D.mk a b i) (G1D.mk c d j)))))), (It.bool (G1D.inf (Prod.fst (adR (G1D.mk a b i) (G1D.mk c d j)))))])), []))) := by kernel_rfl
def addoSpec1 : FnSpec
  | [.v (.a [.ob (.fp a), .ob (.fp b), .bool i]), .v (.a [.ob (.fp c), .ob (.fp d), .bool j])] => some ([], .v (.a (adR ⟨a, b, i⟩ ⟨c, d, j⟩).1.its), [])
  | _ => none
noncomputable def qvF : Env := qvE.set (addT qvE.fn 24 addoSpec1)
theorem qvF_ok : EnvOk Try.prog qvF := env_add qvE_ok 24 addoSpec1 (enters_of Try.func24 rfl rfl) fun args o r es h _ => by
  unfold addoSpec1 at h
  split at h
  · cases h; exact fn_sound qvE_ok Try.func24 (aoR _ _ _ _ _ _) trivial
  · cases h
--@env qvF qvF_ok
theorem oqA (a b c : G1D) : fnRes qvF Try.f4 3000 [.v (.a a.its), .v (.a b.its), .v (.a c.its)] [false, false, false, true, true, true, true, true, true, true] [] [] = (Option.some ([((Bool.not (onG a)) = false), ((Bool.not (onG b)) = false), ((Bool.not (onG c)) = false), (true = true), (((Prod.snd (neR a)) == (0 : Int)) = true), ((ite (true = true) (Bool.and (decide ((G1D.x (Prod.fst (adR a b))) = (G1D.x (Prod.fst (adR b a))))) (Bool.and (decide ((G1D.y (Prod.fst (adR a b))) = (G1D.y (Prod.fst (adR b a))))) ((G1D.inf (Prod.fst (adR a b))) == (G1D.inf (Prod.fst (adR b a)))))) (Bool.not (Bool.and (decide ((G1D.x (Prod.fst (adR a b))) = (G1D.x (Prod.fst (adR b a))))) (Bool.and (decide ((G1D.y (Prod.fst (adR a b))) = (G1D.y (Prod.fst (adR b a))))) ((G1D.inf (Prod.fst (adR a b))) == (G1D.inf (Prod.fst (adR b a)))))))) = true), ((ite (true = true) (Bool.and (decide ((G1D.x (Prod.fst (adR (Prod.fst (adR a b)) c))) = (G1D.x (Prod.fst (adR a (Prod.fst (adR b c))))))) (Bool.and (decide ((G1D.y (Prod.fst (adR (Prod.fst (adR a b)) c))) = (G1D.y (Prod.fst (adR a (Prod.fst (adR b c))))))) ((G1D.inf (Prod.fst (adR (Prod.fst (adR a b)) c))) == (G1D.inf (Prod.fst (adR a (Prod.fst (adR b c)))))))) (Bool.not (Bool.and (decide ((G1D.x (Prod.fst (adR (Prod.fst (adR a b)) c))) = (G1D.x (Prod.fst (adR a (Prod.fst (adR b c))))))) (Bool.and (decide ((G1D.y (Prod.fst (adR (Prod.fst (adR a b)) c))) = (G1D.y (Prod.fst (adR a (Prod.fst (adR b c))))))) ((G1D.inf (Prod.fst (adR (Prod.fst (adR a b)) c))) == (G1D.inf (Prod.fst (adR a (Prod.fst (adR b c)))))))))) = true), ((ite (true = true) (Bool.and (decide ((G1D.x (Prod.fst (adR a (G1D.mk (0 : U6) (0 : U6) true)))) = (G1D.x a))) (Bool.and (decide ((G1D.y (Prod.fst (adR a (G1D.mk (0 : U6) (0 : U6) true)))) = (G1D.y a))) ((G1D.inf (Prod.fst (adR a (G1D.mk (0 : U6) (0 : U6) true)))) == (G1D.inf a)))) (Bool.not (Bool.and (decide ((G1D.x (Prod.fst (adR a (G1D.mk (0 : U6) (0 : U6) true)))) = (G1D.x a))) (Bool.and (decide ((G1D.y (Prod.fst (adR a (G1D.mk (0 : U6) (0 : U6) true)))) = (G1D.y a))) ((G1D.inf (Prod.fst (adR a (G1D.mk (0 : U6) (0 : U6) true)))) == (G1D.inf a)))))) = true), ((ite (true = true) (Bool.and (decide ((G1D.x (Prod.fst (adR a (Prod.fst (neR a))))) = (G1D.x (G1D.mk (0 : U6) (0 : U6) true)))) (Bool.and (decide ((G1D.y (Prod.fst (adR a (Prod.fst (neR a))))) = (G1D.y (G1D.mk (0 : U6) (0 : U6) true)))) ((G1D.inf (Prod.fst (adR a (Prod.fst (neR a))))) == (G1D.inf (G1D.mk (0 : U6) (0 : U6) true))))) (Bool.not (Bool.and (decide ((G1D.x (Prod.fst (adR a (Prod.fst (neR a))))) = (G1D.x (G1D.mk (0 : U6) (0 : U6) true)))) (Bool.and (decide ((G1D.y (Prod.fst (adR a (Prod.fst (neR a))))) = (G1D.y (G1D.mk (0 : U6) (0 : U6) true)))) ((G1D.inf (Prod.fst (adR a (Prod.fst (neR a))))) == (G1D.inf (G1D.mk (0 : U6) (0 : U6) true))))))) = true), ((ite (true = true) (Bool.and (decide ((G1D.x (Prod.fst (adR (Prod.fst (adR a b)) (Prod.fst (neR a))))) = (G1D.x b))) (Bool.and (decide ((G1D.y (Prod.fst (adR (Prod.fst (adR a b)) (Prod.fst (neR a))))) = (G1D.y b))) ((G1D.inf (Prod.fst (adR (Prod.fst (adR a b)) (Prod.fst (neR a))))) == (G1D.inf b)))) (Bool.not (Bool.and (decide ((G1D.x (Prod.fst (adR (Prod.fst (adR a b)) (Prod.fst (neR a))))) = (G1D.x b))) (Bool.and (decide ((G1D.y (Prod.fst (adR (Prod.fst (adR a b)) (Prod.fst (neR a))))) = (G1D.y b))) ((G1D.inf (Prod.fst (adR (Prod.fst (adR a b)) (Prod.fst (neR a))))) == (G1D.inf b)))))) = true)], ((SV.v (V1.c (It.bool (onG (Prod.fst (adR a b)))))), []))) := by kernel_rfl
theorem oqB (a b c : G1D) : fnRes qvF Try.f4 3000 [.v (.a a.its), .v (.a b.its), .v (.a c.its)] [true, true] [] [] = (Option.some ([((Bool.not (onG a)) = true)], ((SV.v (V1.c (It.bool true))), []))) := by kernel_rfl
theorem oqC (a b c : G1D) : fnRes qvF Try.f4 3000 [.v (.a a.its), .v (.a b.its), .v (.a c.its)] [false, true] [] [] = (Option.some ([((Bool.not (onG a)) = false), ((Bool.not (onG b)) = true)], ((SV.v (V1.c (It.bool true))), []))) := by kernel_rfl
theorem oqD (a b c : G1D) : fnRes qvF Try.f4 3000 [.v (.a a.its), .v (.a b.its), .v (.a c.its)] [false, false, true] [] [] = (Option.some ([((Bool.not (onG a)) = false), ((Bool.not (onG b)) = false), ((Bool.not (onG c)) = true)], ((SV.v (V1.c (It.bool true))), []))) := by kernel_rfl
end Go.Proofs.Ytkfcphigoncgjaa

/- OneSums' and OneGroup's laws return true. No conditions. -/
namespace Go.Proofs.Ytkfcphigoncgjaa

theorem adR_on {a b : G1D} (ha : onG a = true) (hb : onG b = true) : adR a b = (addG a b, 0) := by unfold adR; rw [ha, hb]; rfl
theorem adR_off1 {a b : G1D} (ha : onG a = false) : adR a b = (g10, 30) := by unfold adR; rw [ha]; rfl
theorem adR_off2 {a b : G1D} (hb : onG b = false) : adR a b = (g10, 30) := by unfold adR; rw [hb, Bool.and_false]; rfl
theorem neR_on {a : G1D} (ha : onG a = true) : neR a = (negG a, 0) := by unfold neR; rw [ha]; rfl
theorem neR_off {a : G1D} (ha : onG a = false) : neR a = (g10, 30) := by unfold neR; rw [ha]; rfl

theorem negU_zero : negU 0 = 0 := by
  apply Fin.ext
  rw [negU_val]
  show (pN - 0) % pN = 0
  rw [Nat.sub_zero, Nat.mod_self]
theorem on_y {a : G1D} (ha : onG a = true) : a.y.val < pN := by
  rw [← (onG_is ha).1]
  cases pG a with
  | none => decide
  | some p => exact outP_lt _
theorem neg_ref {a : G1D} (ha : onG a = true) : negG a = ⟨a.x, negU a.y, a.inf⟩ := by
  obtain ⟨e, -⟩ := onG_is ha
  rw [negG_is]
  generalize pG a = P at *
  subst e
  cases P with
  | none =>
    show (⟨0, 0, true⟩ : G1D) = ⟨0, negU 0, true⟩
    rw [negU_zero]
  | some p =>
    show (⟨outP p.1, outP (0 - p.2), false⟩ : G1D) = ⟨outP p.1, negU (outP p.2), false⟩
    rw [negU_out]

theorem oneSums_fnd (a b : G1D) : FnD Try.prog 3 [.v (.a a.its), .v (.a b.its)] (.v (.c (.bool true))) [] := by
  by_cases ha : onG a = true
  · have hn := neR_on ha
    have hb0 : (decide ((neR a).1.x = a.x) && (decide ((neR a).1.y = negU a.y) && ((neR a).1.inf == a.inf))) = true := eq_bits (b := ⟨a.x, negU a.y, a.inf⟩) (by rw [hn]; exact neg_ref ha)
    by_cases hb : onG b = true
    · have hd := adR_on ha hb
      refine fn_sound qvE_ok Try.func3 (osA a b) ⟨by rw [ha, hn]; rfl, ha, on_y ha, by rw [hb0]; rfl, by rw [ha]; rfl, by rw [ha]; rfl, by rw [hb]; rfl, rfl, by rw [hd]; rfl, ha, hb, by rw [hd], trivial⟩
    · have hb : onG b = false := Bool.eq_false_iff.2 hb
      have hd := adR_off2 (a := a) hb
      have r := osB a b
      have hz : (decide ((adR a b).1.x = 0) && (decide ((adR a b).1.y = 0) && ((adR a b).1.inf == false))) = true := eq_bits (b := g10) (by rw [hd])
      rw [if_pos rfl, hz] at r
      exact fn_sound qvE_ok Try.func3 r ⟨by rw [ha, hn]; rfl, ha, on_y ha, by rw [hb0]; rfl, by rw [ha]; rfl, by rw [ha]; rfl, by rw [hb]; rfl, rfl, by rw [hd]; rfl, trivial⟩
  · have ha : onG a = false := Bool.eq_false_iff.2 ha
    have hn := neR_off ha
    have hd := adR_off1 (b := b) ha
    have r := osC a b
    have hz : (decide ((adR a b).1.x = 0) && (decide ((adR a b).1.y = 0) && ((adR a b).1.inf == false))) = true := eq_bits (b := g10) (by rw [hd])
    have hb0 : (decide ((neR a).1.x = 0) && (decide ((neR a).1.y = 0) && ((neR a).1.inf == false))) = true := eq_bits (b := g10) (by rw [hn])
    rw [if_pos rfl, hz] at r
    exact fn_sound qvE_ok Try.func3 r ⟨by rw [ha, hn]; rfl, ha, by rw [ha]; rfl, by rw [hn]; rfl, by rw [hb0]; rfl, by rw [ha]; rfl, rfl, by rw [hd]; rfl, trivial⟩

theorem addG_back {a b : G1D} (ha : onG a = true) (hb : onG b = true) : addG (addG a b) (negG a) = b := by
  rw [addG_comm ha hb, addG_assoc hb ha (on_neg ha), addG_neg ha, addG_zero hb]

theorem oneGroup_fnd (a b c : G1D) : FnD Try.prog 4 [.v (.a a.its), .v (.a b.its), .v (.a c.its)] (.v (.c (.bool true))) [] := by
  by_cases ha : onG a = true
  · by_cases hb : onG b = true
    · by_cases hc : onG c = true
      · have hab := on_add ha hb
        have hbc := on_add hb hc
        have hna := on_neg ha
        have r := oqA a b c
        rw [adR_on ha hb, adR_on hb ha, adR_on hb hc, neR_on ha, adR_on hab hc, adR_on ha hbc, adR_on ha on_zero, adR_on ha hna, adR_on hab hna, hab] at r
        exact fn_sound qvF_ok Try.func4 r ⟨by rw [ha]; rfl, by rw [hb]; rfl, by rw [hc]; rfl, rfl, rfl, by rw [if_pos rfl]; exact eq_bits (addG_comm ha hb), by rw [if_pos rfl]; exact eq_bits (addG_assoc ha hb hc),
          by rw [if_pos rfl]; exact eq_bits (addG_zero ha), by rw [if_pos rfl]; exact eq_bits (addG_neg ha), by rw [if_pos rfl]; exact eq_bits (addG_back ha hb), trivial⟩
      · have hc : onG c = false := Bool.eq_false_iff.2 hc
        exact fn_sound qvF_ok Try.func4 (oqD a b c) ⟨by rw [ha]; rfl, by rw [hb]; rfl, by rw [hc]; rfl, trivial⟩
    · have hb : onG b = false := Bool.eq_false_iff.2 hb
      exact fn_sound qvF_ok Try.func4 (oqC a b c) ⟨by rw [ha]; rfl, by rw [hb]; rfl, trivial⟩
  · have ha : onG a = false := Bool.eq_false_iff.2 ha
    exact fn_sound qvF_ok Try.func4 (oqB a b c) ⟨by rw [ha]; rfl, trivial⟩

end Go.Proofs.Ytkfcphigoncgjaa
