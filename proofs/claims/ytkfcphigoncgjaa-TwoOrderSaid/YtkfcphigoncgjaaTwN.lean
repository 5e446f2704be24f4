/- Parts of a proof, one behind the other: WDc, PDc, WDd, PDd, Gb, WDe, PDe, WDf, PDf, WEa, PEa, WMd, PMd, WMw, PMw, WTj, WEb, PTj, PEb, Tall. No conditions. -/
import Derived.Test.YtkfcphigoncgjaaTwM
/- Points of the second curve, in and out, walked. No conditions. -/
namespace Go.Proofs.Ytkfcphigoncgjaa

def pl2Spec : FnSpec
  | [.v (.a [.ob (.p a), .ob (.p b), .ob (.p c), .ob (.p d), .ob (.p e), .ob (.p f)]), .v (.a [.ob (.p a'), .ob (.p b'), .ob (.p c'), .ob (.p d'), .ob (.p e'), .ob (.p f')])] => some ([], .v (.a (pt2Its (jpl (F := F2) ((a, b), (c, d), (e, f)) ((a', b'), (c', d'), (e', f'))))), [])
  | _ => none
noncomputable def qyC : Env := qyB.set (addT qyB.fn 68 pl2Spec)
theorem qyC_ok : EnvOk Try.prog qyC := env_add qyB_ok 68 pl2Spec (enters_of Try.func68 rfl rfl) fun args o r es h _ => by
  unfold pl2Spec at h
  split at h
  · cases h; exact plusPt2_fnd _ _ _ _ _ _ _ _ _ _ _ _
  · cases h
noncomputable def inlAg (T : Nat → Option Func) (f : Nat) : Option Func := if f = 118 then some Try.f118 else T f
noncomputable def qyD : Env := { qyC with inl := inlAg qyC.inl }
theorem qyD_ok : EnvOk Try.prog qyD := by
  refine ⟨qyC_ok.ty, qyC_ok.mixed, qyC_ok.fn, qyC_ok.mu, fun f fn h => ?_, qyC_ok.ex, qyC_ok.inv⟩
  have h : inlAg qyC.inl f = some fn := h
  unfold inlAg at h
  split at h
  · rename_i hf; cases h; subst hf; exact ⟨Try.func118, enters_of Try.func118 rfl rfl⟩
  exact qyC_ok.inl f fn h
--@env qyD qyD_ok
theorem ig2A (a b c d : U6) (i : Bool) : fnRes qyD Try.f70 3000 [.v (.a [.ob (.fp a),.ob (.fp b),.ob (.fp c),.ob (.fp d),.bool i])] [true] [] [] = (some ([((0:Int) ≤ (1:Int)),((1:Int) < (18446744073709551616:Int)),(i = true)],((.v (.a [(.ob (.p (Fin.ofNat pN 1))),(.ob (.p (0:Fp))),(.ob (.p (Fin.ofNat pN 1))),(.ob (.p (0:Fp))),(.ob (.p (0:Fp))),(.ob (.p (0:Fp)))])),[]))) := by kernel_rfl
theorem ig2B (a b c d : U6) (i : Bool) : fnRes qyD Try.f70 3000 [.v (.a [.ob (.fp a),.ob (.fp b),.ob (.fp c),.ob (.fp d),.bool i])] [false] [] [] = (some ([((0:Int) ≤ (1:Int)),((1:Int) < (18446744073709551616:Int)),(i = false)],((.v (.a [(.ob (.p (Prod.fst (inP2 a b)))),(.ob (.p (Prod.snd (inP2 a b)))),(.ob (.p (Prod.fst (inP2 c d)))),(.ob (.p (Prod.snd (inP2 c d)))),(.ob (.p (Fin.ofNat pN 1))),(.ob (.p (0:Fp)))])),[]))) := by kernel_rfl
theorem og2A (a b c d e f : Fp) : fnRes qyD Try.f69 3000 [.v (.a [.ob (.p a),.ob (.p b),.ob (.p c),.ob (.p d),.ob (.p e),.ob (.p f)])] [true,true] [] [] = (some ([((decide ((e,f) = (0 : (Prod (Fin pN) (Fin pN))))) = true)],((.v (.a [(.ob (.fp (0:U6))),(.ob (.fp (0:U6))),(.ob (.fp (0:U6))),(.ob (.fp (0:U6))),(.lit true)])),[]))) := by kernel_rfl
theorem og2B (a b c d e f : Fp) : fnRes qyD Try.f69 3000 [.v (.a [.ob (.p a),.ob (.p b),.ob (.p c),.ob (.p d),.ob (.p e),.ob (.p f)])] [false,false] [] [] = (some ([((decide ((e,f) = (0 : (Prod (Fin pN) (Fin pN))))) = false)],((.v (.a [(.ob (.fp (outP (Prod.fst ((a,b) * ((ivQ2 ivP (e,f)) * (ivQ2 ivP (e,f)))))))),(.ob (.fp (outP (Prod.snd ((a,b) * ((ivQ2 ivP (e,f)) * (ivQ2 ivP (e,f)))))))),(.ob (.fp (outP (Prod.fst (((c,d) * ((ivQ2 ivP (e,f)) * (ivQ2 ivP (e,f)))) * (ivQ2 ivP (e,f))))))),(.ob (.fp (outP (Prod.snd (((c,d) * ((ivQ2 ivP (e,f)) * (ivQ2 ivP (e,f)))) * (ivQ2 ivP (e,f))))))),(.lit false)])),[]))) := by kernel_rfl
theorem on2A (a b c d : U6) (i : Bool) : fnRes qyD Try.f97 3000 [.v (.a [.ob (.fp a),.ob (.fp b),.ob (.fp c),.ob (.fp d),.bool i])] [true] [] [] = (some ([(i = true)],((.v (.c (.bool (ite (true = true) (Bool.and (decide (a = (0:U6))) (Bool.and (decide (b = (0:U6))) (Bool.and (decide (c = (0:U6))) (Bool.and (decide (d = (0:U6))) (i == true))))) (Bool.not (Bool.and (decide (a = (0:U6))) (Bool.and (decide (b = (0:U6))) (Bool.and (decide (c = (0:U6))) (Bool.and (decide (d = (0:U6))) (i == true)))))))))),[]))) := by kernel_rfl
theorem on2B (a b c d : U6) (i : Bool) : fnRes qyD Try.f97 3000 [.v (.a [.ob (.fp a),.ob (.fp b),.ob (.fp c),.ob (.fp d),.bool i])] [false,true,true] [] [] = (some ([(i = false),((0:Int) ≤ (4:Int)),((4:Int) < (18446744073709551616:Int)),((0:Int) ≤ (4:Int)),((4:Int) < (18446744073709551616:Int)),((ite (true = true) (Bool.and (decide ((outP (Prod.fst (inP2 a b))) = a)) (decide ((outP (Prod.snd (inP2 a b))) = b))) (Bool.not (Bool.and (decide ((outP (Prod.fst (inP2 a b))) = a)) (decide ((outP (Prod.snd (inP2 a b))) = b))))) = true),((ite (true = true) (Bool.and (decide ((outP (Prod.fst (inP2 c d))) = c)) (decide ((outP (Prod.snd (inP2 c d))) = d))) (Bool.not (Bool.and (decide ((outP (Prod.fst (inP2 c d))) = c)) (decide ((outP (Prod.snd (inP2 c d))) = d))))) = true)],((.v (.c (.bool (ite (true = true) (Bool.and (decide ((Prod.fst ((inP2 c d) * (inP2 c d))) = (Prod.fst ((((inP2 a b) * (inP2 a b)) * (inP2 a b)) + ((Fin.ofNat pN 4),(Fin.ofNat pN 4)))))) (decide ((Prod.snd ((inP2 c d) * (inP2 c d))) = (Prod.snd ((((inP2 a b) * (inP2 a b)) * (inP2 a b)) + ((Fin.ofNat pN 4),(Fin.ofNat pN 4))))))) (Bool.not (Bool.and (decide ((Prod.fst ((inP2 c d) * (inP2 c d))) = (Prod.fst ((((inP2 a b) * (inP2 a b)) * (inP2 a b)) + ((Fin.ofNat pN 4),(Fin.ofNat pN 4)))))) (decide ((Prod.snd ((inP2 c d) * (inP2 c d))) = (Prod.snd ((((inP2 a b) * (inP2 a b)) * (inP2 a b)) + ((Fin.ofNat pN 4),(Fin.ofNat pN 4)))))))))))),[]))) := by kernel_rfl
theorem on2C (a b c d : U6) (i : Bool) : fnRes qyD Try.f97 3000 [.v (.a [.ob (.fp a),.ob (.fp b),.ob (.fp c),.ob (.fp d),.bool i])] [false,true,false] [] [] = (some ([(i = false),((0:Int) ≤ (4:Int)),((4:Int) < (18446744073709551616:Int)),((0:Int) ≤ (4:Int)),((4:Int) < (18446744073709551616:Int)),((ite (true = true) (Bool.and (decide ((outP (Prod.fst (inP2 a b))) = a)) (decide ((outP (Prod.snd (inP2 a b))) = b))) (Bool.not (Bool.and (decide ((outP (Prod.fst (inP2 a b))) = a)) (decide ((outP (Prod.snd (inP2 a b))) = b))))) = true),((ite (true = true) (Bool.and (decide ((outP (Prod.fst (inP2 c d))) = c)) (decide ((outP (Prod.snd (inP2 c d))) = d))) (Bool.not (Bool.and (decide ((outP (Prod.fst (inP2 c d))) = c)) (decide ((outP (Prod.snd (inP2 c d))) = d))))) = false)],((.v (.c (.lit false))),[]))) := by kernel_rfl
theorem on2D (a b c d : U6) (i : Bool) : fnRes qyD Try.f97 3000 [.v (.a [.ob (.fp a),.ob (.fp b),.ob (.fp c),.ob (.fp d),.bool i])] [false,false,false] [] [] = (some ([(i = false),((0:Int) ≤ (4:Int)),((4:Int) < (18446744073709551616:Int)),((0:Int) ≤ (4:Int)),((4:Int) < (18446744073709551616:Int)),((ite (true = true) (Bool.and (decide ((outP (Prod.fst (inP2 a b))) = a)) (decide ((outP (Prod.snd (inP2 a b))) = b))) (Bool.not (Bool.and (decide ((outP (Prod.fst (inP2 a b))) = a)) (decide ((outP (Prod.snd (inP2 a b))) = b))))) = false)],((.v (.c (.lit false))),[]))) := by kernel_rfl
theorem rc2 (a b : U6) : fnRes qyD Try.f72 3000 [.v (.a [.ob (.fp a),.ob (.fp b)])] [] [] [] = (some ([],((.v (.a [(.ob (.fp (cleanP a))),(.ob (.fp (cleanP b)))])),[]))) := by kernel_rfl
theorem rm2 (a b c d : U6) : fnRes qyD Try.f73 3000 [.v (.a [.ob (.fp a),.ob (.fp b)]),.v (.a [.ob (.fp c),.ob (.fp d)])] [] [] [] = (some ([((Fin.val a) < pN),((Fin.val c) < pN),((Fin.val b) < pN),((Fin.val d) < pN),((Fin.val a) < pN),((Fin.val d) < pN),((Fin.val b) < pN),((Fin.val c) < pN),((Fin.val (mulP b d)) < pN)],((.v (.a [(.ob (.fp (subP (mulP a c) (mulP b d)))),(.ob (.fp (cleanP ((mulP a d) + (mulP b c)))))])),[]))) := by kernel_rfl
theorem ra2 (a b c d : U6) : fnRes qyD Try.f74 3000 [.v (.a [.ob (.fp a),.ob (.fp b)]),.v (.a [.ob (.fp c),.ob (.fp d)])] [] [] [] = (some ([],((.v (.a [(.ob (.fp (cleanP (a + c)))),(.ob (.fp (cleanP (b + d))))])),[]))) := by kernel_rfl
theorem rn2 (a b : U6) : fnRes qyD Try.f75 3000 [.v (.a [.ob (.fp a),.ob (.fp b)])] [] [] [] = (some ([((Fin.val a) < pN),((Fin.val b) < pN)],((.v (.a [(.ob (.fp (negU a))),(.ob (.fp (negU b)))])),[]))) := by kernel_rfl
end Go.Proofs.Ytkfcphigoncgjaa

/- Points of the second curve, in and out; pairs outside: contracts. No conditions. -/
namespace Go.Proofs.Ytkfcphigoncgjaa

def fq4 : F2 := (fp4, fp4)
/-- Which points may be. -/
def onG2 (a : G2D) : Bool :=
  if a.inf then decide (a.xa = 0) && (decide (a.xb = 0) && (decide (a.ya = 0) && decide (a.yb = 0)))
  else (decide (outP (inP a.xa) = a.xa) && decide (outP (inP a.xb) = a.xb)) && ((decide (outP (inP a.ya) = a.ya) && decide (outP (inP a.yb) = a.yb)) && decide (inP2 a.ya a.yb * inP2 a.ya a.yb = inP2 a.xa a.xb * inP2 a.xa a.xb * inP2 a.xa a.xb + fq4))
def inG2 (a : G2D) : F2 × F2 × F2 := if a.inf then ((fp1, 0), (fp1, 0), (0, 0)) else (inP2 a.xa a.xb, inP2 a.ya a.yb, (fp1, 0))
def outG2 (t : F2 × F2 × F2) : G2D :=
  if t.2.2 = 0 then ⟨0, 0, 0, 0, true⟩ else
  ⟨outP (t.1 * (ivQ2 ivP t.2.2 * ivQ2 ivP t.2.2)).1, outP (t.1 * (ivQ2 ivP t.2.2 * ivQ2 ivP t.2.2)).2, outP (t.2.1 * (ivQ2 ivP t.2.2 * ivQ2 ivP t.2.2) * ivQ2 ivP t.2.2).1, outP (t.2.1 * (ivQ2 ivP t.2.2 * ivQ2 ivP t.2.2) * ivQ2 ivP t.2.2).2, false⟩
def addG2 (a b : G2D) : G2D := outG2 (jpl (inG2 a) (inG2 b))
def negG2 (a : G2D) : G2D := outG2 (jng (inG2 a))

theorem lit_fifth {x : Ctx} {i j k l : It} {b : Bool} {v : Value} (h : denS x (.v (.a [i, j, k, l, .lit b])) v) : denS x (.v (.a [i, j, k, l, .bool b])) v := by
  obtain ⟨cs, e, c1, r1, e1, h1, c2, r2, e2, h2, c3, r3, e3, h3, c4, r4, e4, h4, c5, r5, e5, ⟨d, h5⟩, h6⟩ := h
  refine ⟨cs, e, c1, r1, e1, h1, c2, r2, e2, h2, c3, r3, e3, h3, c4, r4, e4, h4, c5, r5, e5, ⟨d, ?_⟩, h6⟩
  cases d <;> exact h5
theorem lit_fifth_t {x : Ctx} {i j k l m : It} {b : Bool} {v : Value} (h : denS x (.t [.a [i, j, k, l, .lit b], .c m]) v) : denS x (.t [.a [i, j, k, l, .bool b], .c m]) v := by
  obtain ⟨vs, e, h1⟩ := h
  cases h1 with | cons d1 ds =>
  exact ⟨_, e, .cons (lit_fifth d1) ds⟩

theorem inG2_fnd (a b c d : U6) (i : Bool) : FnD Try.prog 70 [.v (.a [.ob (.fp a), .ob (.fp b), .ob (.fp c), .ob (.fp d), .bool i])] (.v (.a (pt2Its (inG2 ⟨a, b, c, d, i⟩)))) [] := by
  cases i with
  | true => exact fn_sound qyD_ok Try.func70 (ig2A a b c d true) ⟨by decide, by decide, rfl, trivial⟩
  | false => exact fn_sound qyD_ok Try.func70 (ig2B a b c d false) ⟨by decide, by decide, rfl, trivial⟩

theorem outG2_fnd (a b c d e f : Fp) : FnD Try.prog 69 [.v (.a [.ob (.p a), .ob (.p b), .ob (.p c), .ob (.p d), .ob (.p e), .ob (.p f)])] (.v (.a (outG2 ((a, b), (c, d), (e, f))).its)) [] := by
  by_cases h : ((e, f) : F2) = 0
  · have e0 : outG2 ((a, b), (c, d), (e, f)) = ⟨0, 0, 0, 0, true⟩ := if_pos h
    rw [e0]
    exact (fn_sound qyD_ok Try.func69 (og2A a b c d e f) ⟨decide_eq_true h, trivial⟩).conv (fun _ _ h => h) fun y v hd => lit_fifth hd
  · unfold outG2
    rw [if_neg h]
    exact (fn_sound qyD_ok Try.func69 (og2B a b c d e f) ⟨decide_eq_false h, trivial⟩).conv (fun _ _ h => h) fun y v hd => lit_fifth hd

theorem onG2_fin (a b c d : U6) : onG2 ⟨a, b, c, d, false⟩ = ((decide (outP (inP a) = a) && decide (outP (inP b) = b)) && ((decide (outP (inP c) = c) && decide (outP (inP d) = d)) && decide (inP2 c d * inP2 c d = inP2 a b * inP2 a b * inP2 a b + fq4))) := if_neg (fun h => Bool.noConfusion h)
theorem onG2_inf (a b c d : U6) : onG2 ⟨a, b, c, d, true⟩ = (decide (a = 0) && (decide (b = 0) && (decide (c = 0) && (decide (d = 0) && (true == true))))) := by
  show (decide (a = 0) && (decide (b = 0) && (decide (c = 0) && decide (d = 0)))) = _
  simp

theorem onG2_fnd (a b c d : U6) (i : Bool) : FnD Try.prog 97 [.v (.a [.ob (.fp a), .ob (.fp b), .ob (.fp c), .ob (.fp d), .bool i])] (.v (.c (.bool (onG2 ⟨a, b, c, d, i⟩)))) [] := by
  cases i with
  | true =>
    have r := on2A a b c d true
    rw [if_pos rfl] at r
    rw [onG2_inf]
    exact fn_sound qyD_ok Try.func97 r ⟨rfl, trivial⟩
  | false =>
    rw [onG2_fin]
    cases h1 : (decide (outP (inP a) = a) && decide (outP (inP b) = b)) with
    | true =>
      rw [Bool.true_and]
      cases h2 : (decide (outP (inP c) = c) && decide (outP (inP d) = d)) with
      | true =>
        rw [Bool.true_and]
        have r := on2B a b c d false
        rw [if_pos rfl, if_pos rfl, if_pos rfl] at r
        have e : decide (inP2 c d * inP2 c d = inP2 a b * inP2 a b * inP2 a b + fq4) = _ := pair_dec (inP2 c d * inP2 c d).1 (inP2 a b * inP2 a b * inP2 a b + fq4).1 (inP2 c d * inP2 c d).2 (inP2 a b * inP2 a b * inP2 a b + fq4).2
        rw [e]
        exact fn_sound qyD_ok Try.func97 r ⟨rfl, by decide, by decide, by decide, by decide, h1, h2, trivial⟩
      | false =>
        rw [Bool.false_and]
        have r := on2C a b c d false
        rw [if_pos rfl, if_pos rfl] at r
        exact (fn_sound qyD_ok Try.func97 r ⟨rfl, by decide, by decide, by decide, by decide, h1, h2, trivial⟩).conv (fun _ _ h => h) fun y v hd => lit_bool rfl hd
    | false =>
      rw [Bool.false_and]
      have r := on2D a b c d false
      rw [if_pos rfl] at r
      exact (fn_sound qyD_ok Try.func97 r ⟨rfl, by decide, by decide, by decide, by decide, h1, trivial⟩).conv (fun _ _ h => h) fun y v hd => lit_bool rfl hd

/-! Pairs outside. -/
def u2I (x : U6 × U6) : List It := [.ob (.fp x.1), .ob (.fp x.2)]
def mulP2 (x y : U6 × U6) : U6 × U6 := (subP (mulP x.1 y.1) (mulP x.2 y.2), cleanP (mulP x.1 y.2 + mulP x.2 y.1))
def addP2 (x y : U6 × U6) : U6 × U6 := (cleanP (x.1 + y.1), cleanP (x.2 + y.2))
def negU2 (x : U6 × U6) : U6 × U6 := (negU x.1, negU x.2)
def cleanP2 (x : U6 × U6) : U6 × U6 := (cleanP x.1, cleanP x.2)
def subP2 (x y : U6 × U6) : U6 × U6 := addP2 x (negU2 y)
def outP2 (x : F2) : U6 × U6 := (outP x.1, outP x.2)

theorem mulP_lt (x y : U6) : (mulP x y).val < pN := by rw [mulP_val]; exact Nat.mod_lt _ (by decide)
theorem cleanP_lt (x : U6) : (cleanP x).val < pN := by rw [cleanP_val]; exact Nat.mod_lt _ (by decide)
theorem negU_lt (x : U6) : (negU x).val < pN := by rw [negU_val]; exact Nat.mod_lt _ (by decide)
theorem mulP2_out (x y : F2) : mulP2 (outP2 x) (outP2 y) = outP2 (x * y) := by
  unfold mulP2 outP2
  dsimp only
  rw [mulP_out, mulP_out, mulP_out, mulP_out, subP_out, addP_out]
  rfl
theorem addP2_out (x y : F2) : addP2 (outP2 x) (outP2 y) = outP2 (x + y) := by
  unfold addP2 outP2
  dsimp only
  rw [addP_out, addP_out]
  rfl
theorem negU2_out (x : F2) : negU2 (outP2 x) = outP2 (0 - x) := by
  unfold negU2 outP2
  dsimp only
  rw [negU_out, negU_out]
  rfl
section
variable {r : Nat} [NeZero r]
theorem add_neg_q (x y : Q2 r) : x + (0 - y) = x - y := by grind
end
theorem subP2_out (x y : F2) : subP2 (outP2 x) (outP2 y) = outP2 (x - y) := by
  unfold subP2
  rw [negU2_out, addP2_out, add_neg_q]
theorem outP2_inj {x y : F2} (h : outP2 x = outP2 y) : x = y := by
  have h1 := congrArg Prod.fst h
  have h2 := congrArg Prod.snd h
  exact q2_ext (outP_inj h1) (outP_inj h2)

theorem rm2_fnd (a b c d : U6) (ha : a.val < pN) (hb : b.val < pN) (hc : c.val < pN) (hd : d.val < pN) : FnD Try.prog 73 [.v (.a [.ob (.fp a), .ob (.fp b)]), .v (.a [.ob (.fp c), .ob (.fp d)])] (.v (.a (u2I (mulP2 (a, b) (c, d))))) [] :=
  fn_sound qyD_ok Try.func73 (rm2 a b c d) ⟨ha, hc, hb, hd, ha, hd, hb, hc, mulP_lt _ _, trivial⟩
theorem rn2_fnd (a b : U6) (ha : a.val < pN) (hb : b.val < pN) : FnD Try.prog 75 [.v (.a [.ob (.fp a), .ob (.fp b)])] (.v (.a (u2I (negU2 (a, b))))) [] :=
  fn_sound qyD_ok Try.func75 (rn2 a b) ⟨ha, hb, trivial⟩

end Go.Proofs.Ytkfcphigoncgjaa

/- Points of the second curve outside, and the reference's, walked. No conditions. -/
namespace Go.Proofs.Ytkfcphigoncgjaa

def inG2Spec : FnSpec
  | [.v (.a [.ob (.fp a), .ob (.fp b), .ob (.fp c), .ob (.fp d), .bool i])] => some ([], .v (.a (pt2Its (inG2 ⟨a, b, c, d, i⟩))), [])
  | _ => none
noncomputable def qzA : Env := qyD.set (addT qyD.fn 70 inG2Spec)
theorem qzA_ok : EnvOk Try.prog qzA := env_add qyD_ok 70 inG2Spec (enters_of Try.func70 rfl rfl) fun args o r es h _ => by
  unfold inG2Spec at h
  split at h
  · cases h; exact inG2_fnd _ _ _ _ _
  · cases h
def outG2Spec : FnSpec
  | [.v (.a [.ob (.p a), .ob (.p b), .ob (.p c), .ob (.p d), .ob (.p e), .ob (.p f)])] => some ([], .v (.a (outG2 ((a, b), (c, d), (e, f))).its), [])
  | _ => none
noncomputable def qzB : Env := qzA.set (addT qzA.fn 69 outG2Spec)
theorem qzB_ok : EnvOk Try.prog qzB := env_add qzA_ok 69 outG2Spec (enters_of Try.func69 rfl rfl) fun args o r es h _ => by
  unfold outG2Spec at h
  split at h
  · cases h; exact outG2_fnd _ _ _ _ _ _
  · cases h
def onG2Spec : FnSpec
  | [.v (.a [.ob (.fp a), .ob (.fp b), .ob (.fp c), .ob (.fp d), .bool i])] => some ([], .v (.c (.bool (onG2 ⟨a, b, c, d, i⟩))), [])
  | _ => none
noncomputable def qzC : Env := qzB.set (addT qzB.fn 97 onG2Spec)
theorem qzC_ok : EnvOk Try.prog qzC := env_add qzB_ok 97 onG2Spec (enters_of Try.func97 rfl rfl) fun args o r es h _ => by
  unfold onG2Spec at h
  split at h
  · cases h; exact onG2_fnd _ _ _ _ _
  · cases h
def clean2Spec : FnSpec
  | [.v (.a [.ob (.fp a), .ob (.fp b)])] => some ([], .v (.a (u2I (cleanP2 (a, b)))), [])
  | _ => none
noncomputable def qzD : Env := qzC.set (addT qzC.fn 72 clean2Spec)
theorem qzD_ok : EnvOk Try.prog qzD := env_add qzC_ok 72 clean2Spec (enters_of Try.func72 rfl rfl) fun args o r es h _ => by
  unfold clean2Spec at h
  split at h
  · cases h; exact fn_sound qyD_ok Try.func72 (rc2 _ _) trivial
  · cases h
def mul2Spec : FnSpec
  | [.v (.a [.ob (.fp a), .ob (.fp b)]), .v (.a [.ob (.fp c), .ob (.fp d)])] => some ([a.val < pN, b.val < pN, c.val < pN, d.val < pN], .v (.a (u2I (mulP2 (a, b) (c, d)))), [])
  | _ => none
noncomputable def qzE : Env := qzD.set (addT qzD.fn 73 mul2Spec)
theorem qzE_ok : EnvOk Try.prog qzE := env_add qzD_ok 73 mul2Spec (enters_of Try.func73 rfl rfl) fun args o r es h ho => by
  unfold mul2Spec at h
  split at h
  · cases h; exact rm2_fnd _ _ _ _ ho.1 ho.2.1 ho.2.2.1 ho.2.2.2.1
  · cases h
def add2Spec : FnSpec
  | [.v (.a [.ob (.fp a), .ob (.fp b)]), .v (.a [.ob (.fp c), .ob (.fp d)])] => some ([], .v (.a (u2I (addP2 (a, b) (c, d)))), [])
  | _ => none
noncomputable def qzF : Env := qzE.set (addT qzE.fn 74 add2Spec)
theorem qzF_ok : EnvOk Try.prog qzF := env_add qzE_ok 74 add2Spec (enters_of Try.func74 rfl rfl) fun args o r es h _ => by
  unfold add2Spec at h
  split at h
  · cases h; exact fn_sound qyD_ok Try.func74 (ra2 _ _ _ _) trivial
  · cases h
def rneg2Spec : FnSpec
  | [.v (.a [.ob (.fp a), .ob (.fp b)])] => some ([a.val < pN, b.val < pN], .v (.a (u2I (negU2 (a, b)))), [])
  | _ => none
noncomputable def qzG : Env := qzF.set (addT qzF.fn 75 rneg2Spec)
theorem qzG_ok : EnvOk Try.prog qzG := env_add qzF_ok 75 rneg2Spec (enters_of Try.func75 rfl rfl) fun args o r es h ho => by
  unfold rneg2Spec at h
  split at h
  · cases h; exact rn2_fnd _ _ ho.1 ho.2.1
  · cases h
--@env qzG qzG_ok
theorem rs2 (a b c d : U6) : fnRes qzG Try.f80 3000 [.v (.a [.ob (.fp a),.ob (.fp b)]),.v (.a [.ob (.fp c),.ob (.fp d)])] [] [] [] = (some ([((Fin.val c) < pN),((Fin.val d) < pN)],((.v (.a [(.ob (.fp (Prod.fst (addP2 (a,b) (negU2 (c,d)))))),(.ob (.fp (Prod.snd (addP2 (a,b) (negU2 (c,d))))))])),[]))) := by kernel_rfl
def sub2Spec : FnSpec
  | [.v (.a [.ob (.fp a), .ob (.fp b)]), .v (.a [.ob (.fp c), .ob (.fp d)])] => some ([c.val < pN, d.val < pN], .v (.a (u2I (subP2 (a, b) (c, d)))), [])
  | _ => none
noncomputable def qzH : Env := qzG.set (addT qzG.fn 80 sub2Spec)
theorem qzH_ok : EnvOk Try.prog qzH := env_add qzG_ok 80 sub2Spec (enters_of Try.func80 rfl rfl) fun args o r es h ho => by
  unfold sub2Spec at h
  split at h
  · cases h; exact fn_sound qzG_ok Try.func80 (rs2 _ _ _ _) ⟨ho.1, ho.2.1, trivial⟩
  · cases h
--@env qzH qzH_ok
theorem ri2R (a b c d : U6) (i : Bool) : fnRes qzH Try.f49 3000 [.v (.a [.ob (.fp a),.ob (.fp b),.ob (.fp c),.ob (.fp d),.bool i])] [] [] [] = (some ([],((.v (.c (.bool (onG2 (G2D.mk a b c d i))))),[]))) := by kernel_rfl
theorem ge2R  : fnRes qzH Try.f76 3000 [] [] [] [] = (some ([((0:Int) ≤ (15312334153293348280:Int)),((15312334153293348280:Int) < (18446744073709551616:Int)),((0:Int) ≤ (841050694974028783:Int)),((841050694974028783:Int) < (18446744073709551616:Int)),((0:Int) ≤ (12993178926126977399:Int)),((12993178926126977399:Int) < (18446744073709551616:Int)),((0:Int) ≤ (14331714969349929730:Int)),((14331714969349929730:Int) < (18446744073709551616:Int)),((0:Int) ≤ (2740446039084699729:Int)),((2740446039084699729:Int) < (18446744073709551616:Int)),((0:Int) ≤ (165123225776229009:Int)),((165123225776229009:Int) < (18446744073709551616:Int)),((0:Int) ≤ (16549740192668593022:Int)),((16549740192668593022:Int) < (18446744073709551616:Int)),((0:Int) ≤ (3696594454104530263:Int)),((3696594454104530263:Int) < (18446744073709551616:Int)),((0:Int) ≤ (13103893525273989193:Int)),((13103893525273989193:Int) < (18446744073709551616:Int)),((0:Int) ≤ (6443473286224459290:Int)),((6443473286224459290:Int) < (18446744073709551616:Int)),((0:Int) ≤ (9055845637167730533:Int)),((9055845637167730533:Int) < (18446744073709551616:Int)),((0:Int) ≤ (1432192374203850592:Int)),((1432192374203850592:Int) < (18446744073709551616:Int)),((0:Int) ≤ (16254428414758889473:Int)),((16254428414758889473:Int) < (18446744073709551616:Int)),((0:Int) ≤ (10536956157198377609:Int)),((10536956157198377609:Int) < (18446744073709551616:Int)),((0:Int) ≤ (7873024875724591404:Int)),((7873024875724591404:Int) < (18446744073709551616:Int)),((0:Int) ≤ (12537348094477325223:Int)),((12537348094477325223:Int) < (18446744073709551616:Int)),((0:Int) ≤ (10144865889576432922:Int)),((10144865889576432922:Int) < (18446744073709551616:Int)),((0:Int) ≤ (929383263523139089:Int)),((929383263523139089:Int) < (18446744073709551616:Int)),((0:Int) ≤ (12297368366147926462:Int)),((12297368366147926462:Int) < (18446744073709551616:Int)),((0:Int) ≤ (4555124010822409633:Int)),((4555124010822409633:Int) < (18446744073709551616:Int)),((0:Int) ≤ (2771000935339432363:Int)),((2771000935339432363:Int) < (18446744073709551616:Int)),((0:Int) ≤ (14645187562128761775:Int)),((14645187562128761775:Int) < (18446744073709551616:Int)),((0:Int) ≤ (3651525051980876697:Int)),((3651525051980876697:Int) < (18446744073709551616:Int)),((0:Int) ≤ (434250606344352972:Int)),((434250606344352972:Int) < (18446744073709551616:Int))],((.v (.a [(.ob (.fp (Fin.ofNat B6 352701069587466618187139116011060144890029952792775240219908644239793785735715026873347600343865175952761926303160))),(.ob (.fp (Fin.ofNat B6 3059144344244213709971259814753781636986470325476647558659373206291635324768958432433509563104347017837885763365758))),(.ob (.fp (Fin.ofNat B6 1985150602287291935568054521177171638300868978215655730859378665066344726373823718423869104263333984641494340347905))),(.ob (.fp (Fin.ofNat B6 927553665492332455747201965776037880757740193453592970025027978793976877002675564980949289727957565575433344219582))),(.lit false)])),[]))) := by kernel_rfl
theorem ze2R  : fnRes qzH Try.f33 3000 [] [] [] [] = (some ([],((.v (.a [(.ob (.fp (0:U6))),(.ob (.fp (0:U6))),(.ob (.fp (0:U6))),(.ob (.fp (0:U6))),(.lit true)])),[]))) := by kernel_rfl
theorem rs2R  : fnRes qzH Try.f77 3000 [.v (.c (.int .i64 0))] [true] [] [] = (some ([(((0:Int) == (0:Int)) = true),((0:Int) ≤ (15312334153293348280:Int)),((15312334153293348280:Int) < (18446744073709551616:Int)),((0:Int) ≤ (841050694974028783:Int)),((841050694974028783:Int) < (18446744073709551616:Int)),((0:Int) ≤ (12993178926126977399:Int)),((12993178926126977399:Int) < (18446744073709551616:Int)),((0:Int) ≤ (14331714969349929730:Int)),((14331714969349929730:Int) < (18446744073709551616:Int)),((0:Int) ≤ (2740446039084699729:Int)),((2740446039084699729:Int) < (18446744073709551616:Int)),((0:Int) ≤ (165123225776229009:Int)),((165123225776229009:Int) < (18446744073709551616:Int)),((0:Int) ≤ (16549740192668593022:Int)),((16549740192668593022:Int) < (18446744073709551616:Int)),((0:Int) ≤ (3696594454104530263:Int)),((3696594454104530263:Int) < (18446744073709551616:Int)),((0:Int) ≤ (13103893525273989193:Int)),((13103893525273989193:Int) < (18446744073709551616:Int)),((0:Int) ≤ (6443473286224459290:Int)),((6443473286224459290:Int) < (18446744073709551616:Int)),((0:Int) ≤ (9055845637167730533:Int)),((9055845637167730533:Int) < (18446744073709551616:Int)),((0:Int) ≤ (1432192374203850592:Int)),((1432192374203850592:Int) < (18446744073709551616:Int)),((0:Int) ≤ (16254428414758889473:Int)),((16254428414758889473:Int) < (18446744073709551616:Int)),((0:Int) ≤ (10536956157198377609:Int)),((10536956157198377609:Int) < (18446744073709551616:Int)),((0:Int) ≤ (7873024875724591404:Int)),((7873024875724591404:Int) < (18446744073709551616:Int)),((0:Int) ≤ (12537348094477325223:Int)),((12537348094477325223:Int) < (18446744073709551616:Int)),((0:Int) ≤ (10144865889576432922:Int)),((10144865889576432922:Int) < (18446744073709551616:Int)),((0:Int) ≤ (929383263523139089:Int)),((929383263523139089:Int) < (18446744073709551616:Int)),((0:Int) ≤ (12297368366147926462:Int)),((12297368366147926462:Int) < (18446744073709551616:Int)),((0:Int) ≤ (4555124010822409633:Int)),((4555124010822409633:Int) < (18446744073709551616:Int)),((0:Int) ≤ (2771000935339432363:Int)),((2771000935339432363:Int) < (18446744073709551616:Int)),((0:Int) ≤ (14645187562128761775:Int)),((14645187562128761775:Int) < (18446744073709551616:Int)),((0:Int) ≤ (3651525051980876697:Int)),((3651525051980876697:Int) < (18446744073709551616:Int)),((0:Int) ≤ (434250606344352972:Int)),((434250606344352972:Int) < (18446744073709551616:Int))],((.v (.a [(.ob (.fp (Fin.ofNat B6 352701069587466618187139116011060144890029952792775240219908644239793785735715026873347600343865175952761926303160))),(.ob (.fp (Fin.ofNat B6 3059144344244213709971259814753781636986470325476647558659373206291635324768958432433509563104347017837885763365758))),(.ob (.fp (Fin.ofNat B6 1985150602287291935568054521177171638300868978215655730859378665066344726373823718423869104263333984641494340347905))),(.ob (.fp (Fin.ofNat B6 927553665492332455747201965776037880757740193453592970025027978793976877002675564980949289727957565575433344219582))),(.lit false)])),[]))) := by kernel_rfl
theorem rr2A (a b c d : U6) (i : Bool) : fnRes qzH Try.f28 3000 [.v (.a [.ob (.fp a),.ob (.fp b),.ob (.fp c),.ob (.fp d),.bool i])] [true] [] [] = (some ([(i = true)],((.v (.c (.bool (ite (true = true) (Bool.and (decide (a = (0:U6))) (Bool.and (decide (b = (0:U6))) (Bool.and (decide (c = (0:U6))) (Bool.and (decide (d = (0:U6))) (i == true))))) (Bool.not (Bool.and (decide (a = (0:U6))) (Bool.and (decide (b = (0:U6))) (Bool.and (decide (c = (0:U6))) (Bool.and (decide (d = (0:U6))) (i == true)))))))))),[]))) := by kernel_rfl
theorem rr2B (a b c d : U6) (i : Bool) : fnRes qzH Try.f28 3000 [.v (.a [.ob (.fp a),.ob (.fp b),.ob (.fp c),.ob (.fp d),.bool i])] [false,true,true] [] [] = (some ([(i = false),((ite (false = true) (Bool.and (decide ((Prod.fst (cleanP2 (a,b))) = a)) (decide ((Prod.snd (cleanP2 (a,b))) = b))) (Bool.not (Bool.and (decide ((Prod.fst (cleanP2 (a,b))) = a)) (decide ((Prod.snd (cleanP2 (a,b))) = b))))) = true)],((.v (.c (.lit false))),[]))) := by kernel_rfl
theorem rr2C (a b c d : U6) (i : Bool) : fnRes qzH Try.f28 3000 [.v (.a [.ob (.fp a),.ob (.fp b),.ob (.fp c),.ob (.fp d),.bool i])] [false,false,true] [] [] = (some ([(i = false),((ite (false = true) (Bool.and (decide ((Prod.fst (cleanP2 (a,b))) = a)) (decide ((Prod.snd (cleanP2 (a,b))) = b))) (Bool.not (Bool.and (decide ((Prod.fst (cleanP2 (a,b))) = a)) (decide ((Prod.snd (cleanP2 (a,b))) = b))))) = false),((ite (false = true) (Bool.and (decide ((Prod.fst (cleanP2 (c,d))) = c)) (decide ((Prod.snd (cleanP2 (c,d))) = d))) (Bool.not (Bool.and (decide ((Prod.fst (cleanP2 (c,d))) = c)) (decide ((Prod.snd (cleanP2 (c,d))) = d))))) = true)],((.v (.c (.lit false))),[]))) := by kernel_rfl
theorem rr2D (a b c d : U6) (i : Bool) : fnRes qzH Try.f28 3000 [.v (.a [.ob (.fp a),.ob (.fp b),.ob (.fp c),.ob (.fp d),.bool i])] [false,false,false] [] [] = (some ([(i = false),((ite (false = true) (Bool.and (decide ((Prod.fst (cleanP2 (a,b))) = a)) (decide ((Prod.snd (cleanP2 (a,b))) = b))) (Bool.not (Bool.and (decide ((Prod.fst (cleanP2 (a,b))) = a)) (decide ((Prod.snd (cleanP2 (a,b))) = b))))) = false),((ite (false = true) (Bool.and (decide ((Prod.fst (cleanP2 (c,d))) = c)) (decide ((Prod.snd (cleanP2 (c,d))) = d))) (Bool.not (Bool.and (decide ((Prod.fst (cleanP2 (c,d))) = c)) (decide ((Prod.snd (cleanP2 (c,d))) = d))))) = false),((Fin.val a) < pN),((Fin.val b) < pN),((Fin.val a) < pN),((Fin.val b) < pN),((Fin.val a) < pN),((Fin.val b) < pN),((Fin.val (Prod.fst (mulP2 (a,b) (a,b)))) < pN),((Fin.val (Prod.snd (mulP2 (a,b) (a,b)))) < pN),((Fin.val c) < pN),((Fin.val d) < pN),((Fin.val c) < pN),((Fin.val d) < pN),((0:Int) ≤ (4:Int)),((4:Int) < (18446744073709551616:Int)),((0:Int) ≤ (0:Int)),((0:Int) < (18446744073709551616:Int)),((0:Int) ≤ (0:Int)),((0:Int) < (18446744073709551616:Int)),((0:Int) ≤ (0:Int)),((0:Int) < (18446744073709551616:Int)),((0:Int) ≤ (0:Int)),((0:Int) < (18446744073709551616:Int)),((0:Int) ≤ (0:Int)),((0:Int) < (18446744073709551616:Int)),((0:Int) ≤ (4:Int)),((4:Int) < (18446744073709551616:Int)),((0:Int) ≤ (0:Int)),((0:Int) < (18446744073709551616:Int)),((0:Int) ≤ (0:Int)),((0:Int) < (18446744073709551616:Int)),((0:Int) ≤ (0:Int)),((0:Int) < (18446744073709551616:Int)),((0:Int) ≤ (0:Int)),((0:Int) < (18446744073709551616:Int)),((0:Int) ≤ (0:Int)),((0:Int) < (18446744073709551616:Int))],((.v (.c (.bool (ite (true = true) (Bool.and (decide ((Prod.fst (mulP2 (c,d) (c,d))) = (Prod.fst (addP2 (mulP2 (a,b) (mulP2 (a,b) (a,b))) ((Fin.ofNat B6 4),(Fin.ofNat B6 4)))))) (decide ((Prod.snd (mulP2 (c,d) (c,d))) = (Prod.snd (addP2 (mulP2 (a,b) (mulP2 (a,b) (a,b))) ((Fin.ofNat B6 4),(Fin.ofNat B6 4))))))) (Bool.not (Bool.and (decide ((Prod.fst (mulP2 (c,d) (c,d))) = (Prod.fst (addP2 (mulP2 (a,b) (mulP2 (a,b) (a,b))) ((Fin.ofNat B6 4),(Fin.ofNat B6 4)))))) (decide ((Prod.snd (mulP2 (c,d) (c,d))) = (Prod.snd (addP2 (mulP2 (a,b) (mulP2 (a,b) (a,b))) ((Fin.ofNat B6 4),(Fin.ofNat B6 4)))))))))))),[]))) := by kernel_rfl
theorem rn2R (a b c d : U6) (i : Bool) : fnRes qzH Try.f29 3000 [.v (.a [.ob (.fp a),.ob (.fp b),.ob (.fp c),.ob (.fp d),.bool i])] [] [] [] = (some ([((Fin.val c) < pN),((Fin.val d) < pN)],((.v (.a [.ob (.fp a),.ob (.fp b),(.ob (.fp (Prod.fst (negU2 (c,d))))),(.ob (.fp (Prod.snd (negU2 (c,d))))),(.bool i)])),[]))) := by kernel_rfl
theorem r32R (a b : U6) : fnRes qzH Try.f79 3000 [.v (.a [.ob (.fp a),.ob (.fp b)])] [] [] [] = (some ([],((.v (.a [(.ob (.fp (Prod.fst (addP2 (a,b) (addP2 (a,b) (a,b)))))),(.ob (.fp (Prod.snd (addP2 (a,b) (addP2 (a,b) (a,b))))))])),[]))) := by kernel_rfl
end Go.Proofs.Ytkfcphigoncgjaa

/- The reference's functions on points of the second curve: contracts. No conditions. -/
namespace Go.Proofs.Ytkfcphigoncgjaa

def genG2 : G2D := ⟨Fin.ofNat B6 352701069587466618187139116011060144890029952792775240219908644239793785735715026873347600343865175952761926303160, Fin.ofNat B6 3059144344244213709971259814753781636986470325476647558659373206291635324768958432433509563104347017837885763365758, Fin.ofNat B6 1985150602287291935568054521177171638300868978215655730859378665066344726373823718423869104263333984641494340347905, Fin.ofNat B6 927553665492332455747201965776037880757740193453592970025027978793976877002675564980949289727957565575433344219582, false⟩

theorem four2_out : ((Fin.ofNat B6 4, Fin.ofNat B6 4) : U6 × U6) = outP2 fq4 := by
  unfold outP2 fq4
  rw [four_out]
theorem mul_assoc_q {r : Nat} [NeZero r] (x y z : Q2 r) : x * y * z = x * (y * z) := by grind
theorem mul_assoc2 (x y z : F2) : x * y * z = x * (y * z) := mul_assoc_q x y z

theorem ref_eq2 (X Y : F2) : decide (Y * Y = X * X * X + fq4) = (decide ((mulP2 (outP2 Y) (outP2 Y)).1 = (addP2 (mulP2 (outP2 X) (mulP2 (outP2 X) (outP2 X))) (Fin.ofNat B6 4, Fin.ofNat B6 4)).1) && decide ((mulP2 (outP2 Y) (outP2 Y)).2 = (addP2 (mulP2 (outP2 X) (mulP2 (outP2 X) (outP2 X))) (Fin.ofNat B6 4, Fin.ofNat B6 4)).2)) := by
  rw [← pair_dec, mulP2_out, mulP2_out, mulP2_out, four2_out, addP2_out, mul_assoc2]
  by_cases h : Y * Y = X * (X * X) + fq4
  · rw [decide_eq_true h, h]
    exact (decide_eq_true rfl).symm
  · rw [decide_eq_false h]
    exact (decide_eq_false fun k => h (outP2_inj k)).symm

theorem refRight2_fnd (a b c d : U6) (i : Bool) : FnD Try.prog 28 [.v (.a [.ob (.fp a), .ob (.fp b), .ob (.fp c), .ob (.fp d), .bool i])] (.v (.c (.bool (onG2 ⟨a, b, c, d, i⟩)))) [] := by
  cases i with
  | true =>
    have r := rr2A a b c d true
    rw [if_pos rfl] at r
    rw [onG2_inf]
    exact fn_sound qzH_ok Try.func28 r ⟨rfl, trivial⟩
  | false =>
    rw [onG2_fin, out_in, out_in, out_in, out_in]
    cases h1 : (decide (cleanP a = a) && decide (cleanP b = b)) with
    | true =>
      rw [Bool.true_and]
      cases h2 : (decide (cleanP c = c) && decide (cleanP d = d)) with
      | true =>
        rw [Bool.true_and]
        have r := rr2D a b c d false
        rw [if_pos rfl] at r
        have k1 := h1
        have k2 := h2
        rw [Bool.and_eq_true, decide_eq_true_eq, decide_eq_true_eq] at k1 k2
        have e := ref_eq2 (inP2 a b) (inP2 c d)
        have ex : outP2 (inP2 a b) = (a, b) := by
          show (outP (inP a), outP (inP b)) = (a, b)
          rw [out_in, out_in, k1.1, k1.2]
        have ey : outP2 (inP2 c d) = (c, d) := by
          show (outP (inP c), outP (inP d)) = (c, d)
          rw [out_in, out_in, k2.1, k2.2]
        rw [ex, ey] at e
        rw [e]
        have ha := clean_lt k1.1
        have hb := clean_lt k1.2
        have hc := clean_lt k2.1
        have hd := clean_lt k2.2
        have hm1 : (mulP2 (a, b) (a, b)).1.val < pN := cleanP_lt _
        have hm2 : (mulP2 (a, b) (a, b)).2.val < pN := cleanP_lt _
        exact fn_sound qzH_ok Try.func28 r ⟨rfl, congrArg not h1, congrArg not h2, ha, hb, ha, hb, ha, hb, hm1, hm2, hc, hd, hc, hd, by decide, by decide, by decide, by decide, by decide, by decide, by decide, by decide, by decide, by decide, by decide, by decide, by decide, by decide, by decide, by decide, by decide, by decide, by decide, by decide, by decide, by decide, by decide, by decide, trivial⟩
      | false =>
        rw [Bool.false_and]
        exact (fn_sound qzH_ok Try.func28 (rr2C a b c d false) ⟨rfl, congrArg not h1, congrArg not h2, trivial⟩).conv (fun _ _ h => h) fun y v hd => lit_bool rfl hd
    | false =>
      rw [Bool.false_and]
      exact (fn_sound qzH_ok Try.func28 (rr2B a b c d false) ⟨rfl, congrArg not h1, trivial⟩).conv (fun _ _ h => h) fun y v hd => lit_bool rfl hd

theorem gen2_fnd : FnD Try.prog 76 [] (.v (.a genG2.its)) [] :=
  (fn_sound qzH_ok Try.func76 ge2R (by simp [AllP])).conv (fun _ _ h => h) fun y v hd => lit_fifth hd
theorem some2_fnd (n : Int) (h : n = 0) : FnD Try.prog 77 [.v (.c (.int .i64 n))] (.v (.a genG2.its)) [] := by
  subst h
  exact (fn_sound qzH_ok Try.func77 rs2R (by simp [AllP])).conv (fun _ _ h => h) fun y v hd => lit_fifth hd
theorem zeroG2_fnd : FnD Try.prog 33 [] (.v (.a (G2D.mk 0 0 0 0 true).its)) [] :=
  (fn_sound qzH_ok Try.func33 ze2R (by simp [AllP])).conv (fun _ _ h => h) fun y v hd => lit_fifth hd

end Go.Proofs.Ytkfcphigoncgjaa

/- The second curve is a group: the plain law. No conditions. -/
namespace Go.Proofs.Ytkfcphigoncgjaa

theorem neg1_p : (-1 : Fp) = Fin.ofNat pN (pN - 1) := by decide +kernel
theorem neg1_val : (Fin.ofNat pN (pN - 1)).val = pN - 1 := by decide +kernel
theorem halves_p : pN - 1 = (pN - 1) / 2 + (pN - 1) / 2 := by decide +kernel
theorem neg1_pow : mpow pN (pN - 1) 384 ((pN - 1) / 2) ≠ 1 := by decide +kernel
theorem half_lt : (pN - 1) / 2 < 2 ^ 384 := by decide +kernel
theorem neg1_ne : (0 : Fp) * 0 ≠ -1 := by decide +kernel
theorem no_root (t : Fp) : t * t ≠ -1 := by
  intro h
  by_cases ht : t = 0
  · rw [ht] at h
    exact neg1_ne h
  · have e := two_pw t ((pN - 1) / 2)
    rw [← halves_p, fermat_p t ht, h, neg1_p] at e
    have := congrArg Fin.val e
    rw [pw_mpow _ 384 _ half_lt, neg1_val, one_val_p] at this
    exact neg1_pow this

theorem one_ne_2 : (1 : F2) ≠ 0 := by decide +kernel
theorem two_ne_2 : (1 : F2) + 1 ≠ 0 := by decide +kernel
theorem norm_b : nQ2 ((0 : F2) - fq4) = Fin.ofNat pN 32 := by decide +kernel
theorem val32 : (Fin.ofNat pN 32).val = 32 := by decide +kernel
theorem pow32 : mpow pN 32 384 ((pN - 1) / 3) ≠ 1 := by decide +kernel

theorem neg_of_sum2 {a b : F2} (h : a + b = 0) : a = 0 - b := neg_of_sumR h
where neg_of_sumR {r : Nat} [NeZero r] {a b : Q2 r} (h : a + b = 0) : a = 0 - b := by grind

theorem no2_q (x : F2) : x * x * x + fq4 ≠ 0 := by
  intro h
  have h := congrArg nQ2 (neg_of_sum2 h)
  rw [norm_b, nQ2_mul, nQ2_mul] at h
  refine cube_ne _ (fun e => ?_) (fun e => ?_) (nQ2 x) h
  · have := congrArg Fin.val e
    rw [pw_mpow _ 384 _ third_lt, val32, one_val_p] at this
    exact pow32 this
  · have := congrArg Fin.val e
    rw [val32] at this
    revert this
    decide +kernel

instance fldQ : Fld F2 :=
  { (ringQ2 : CRing (Q2 pN)) with
    inv := ivQ2 ivP
    mul_inv := ivQ2_mul ivP ivP_mul (nQ2_zero ivP ivP_mul no_root)
    one_ne := one_ne_2 }

theorem cv2 : Cv fq4 := ⟨two_ne_2, no2_q⟩

/-- A point outside, as a point; and back. -/
def pG2 (a : G2D) : Pt F2 := if a.inf then none else some (inP2 a.xa a.xb, inP2 a.ya a.yb)
def gP2 : Pt F2 → G2D
  | none => ⟨0, 0, 0, 0, true⟩
  | some p => ⟨outP p.1.1, outP p.1.2, outP p.2.1, outP p.2.2, false⟩

theorem in_out2 (x : F2) : inP2 (outP x.1) (outP x.2) = x := by
  unfold inP2
  rw [in_out, in_out]

theorem pG_gP2 : ∀ P : Pt F2, pG2 (gP2 P) = P
  | none => rfl
  | some p => by
    show some (inP2 (outP p.1.1) (outP p.1.2), inP2 (outP p.2.1) (outP p.2.2)) = some p
    rw [in_out2, in_out2]

theorem onG2_is {a : G2D} (h : onG2 a = true) : gP2 (pG2 a) = a ∧ OnC fq4 (pG2 a) := by
  obtain ⟨xa, xb, ya, yb, i⟩ := a
  cases i with
  | true =>
    have h : (decide (xa = 0) && (decide (xb = 0) && (decide (ya = 0) && decide (yb = 0)))) = true := h
    simp only [Bool.and_eq_true, decide_eq_true_eq] at h
    obtain ⟨rfl, rfl, rfl, rfl⟩ := h
    exact ⟨rfl, True.intro⟩
  | false =>
    have h : ((decide (outP (inP xa) = xa) && decide (outP (inP xb) = xb)) && ((decide (outP (inP ya) = ya) && decide (outP (inP yb) = yb)) && decide (inP2 ya yb * inP2 ya yb = inP2 xa xb * inP2 xa xb * inP2 xa xb + fq4))) = true := h
    simp only [Bool.and_eq_true, decide_eq_true_eq] at h
    obtain ⟨⟨h1, h2⟩, ⟨h3, h4⟩, h5⟩ := h
    refine ⟨?_, h5⟩
    show (⟨outP (inP xa), outP (inP xb), outP (inP ya), outP (inP yb), false⟩ : G2D) = ⟨xa, xb, ya, yb, false⟩
    rw [h1, h2, h3, h4]

theorem onG2_gP : ∀ {P : Pt F2}, OnC fq4 P → onG2 (gP2 P) = true
  | none, _ => by
    show (decide ((0 : U6) = 0) && (decide ((0 : U6) = 0) && (decide ((0 : U6) = 0) && decide ((0 : U6) = 0)))) = true
    rw [decide_eq_true rfl]; rfl
  | some p, h => by
    have h : p.2 * p.2 = p.1 * p.1 * p.1 + fq4 := h
    show ((decide (outP (inP (outP p.1.1)) = outP p.1.1) && decide (outP (inP (outP p.1.2)) = outP p.1.2)) && ((decide (outP (inP (outP p.2.1)) = outP p.2.1) && decide (outP (inP (outP p.2.2)) = outP p.2.2)) && decide (inP2 (outP p.2.1) (outP p.2.2) * inP2 (outP p.2.1) (outP p.2.2) = inP2 (outP p.1.1) (outP p.1.2) * inP2 (outP p.1.1) (outP p.1.2) * inP2 (outP p.1.1) (outP p.1.2) + fq4))) = true
    rw [in_out2, in_out2, in_out, in_out, in_out, in_out, decide_eq_true rfl, decide_eq_true rfl, decide_eq_true rfl, decide_eq_true rfl, decide_eq_true h]
    rfl

theorem one_sq2 : (1 : F2) * 1 = 1 := by decide +kernel
theorem fq1_one : ((fp1, 0) : F2) = 1 := by decide +kernel
theorem mul_one_q {r : Nat} [NeZero r] (x : Q2 r) : x * 1 = x := by grind
theorem mul_one2 (x : F2) : x * 1 = x := mul_one_q x
theorem inG2_jc (a : G2D) : Jc (pG2 a) (inG2 a) := by
  obtain ⟨xa, xb, ya, yb, i⟩ := a
  cases i with
  | true => exact (rfl : (0 : F2) = 0)
  | false =>
    show Jc (some (inP2 xa xb, inP2 ya yb)) (inP2 xa xb, inP2 ya yb, (fp1, 0))
    rw [fq1_one]
    refine ⟨one_ne_2, ?_, ?_⟩
    · show inP2 xa xb = inP2 xa xb * (1 * 1)
      rw [one_sq2, mul_one2]
    · show inP2 ya yb = inP2 ya yb * (1 * 1 * 1)
      rw [one_sq2, one_sq2, mul_one2]

theorem outG2_jc {P : Pt F2} {t : F2 × F2 × F2} (h : Jc P t) : outG2 t = gP2 P := by
  rw [← jpt_of P t h]
  unfold outG2 jpt
  by_cases hz : t.2.2 = 0
  · rw [if_pos hz, if_pos hz]; rfl
  · rw [if_neg hz, if_neg hz]; rfl

theorem addG2_is (a b : G2D) : addG2 a b = gP2 (gadd (pG2 a) (pG2 b)) := outG2_jc (jpl_ok two_ne_2 _ _ _ _ (inG2_jc a) (inG2_jc b))
theorem negG2_is (a : G2D) : negG2 a = gP2 (gneg (pG2 a)) := outG2_jc (jng_ok _ _ (inG2_jc a))
theorem pG2_add (a b : G2D) : pG2 (addG2 a b) = gadd (pG2 a) (pG2 b) := by rw [addG2_is, pG_gP2]
theorem pG2_neg (a : G2D) : pG2 (negG2 a) = gneg (pG2 a) := by rw [negG2_is, pG_gP2]
theorem on_add2 {a b : G2D} (ha : onG2 a = true) (hb : onG2 b = true) : onG2 (addG2 a b) = true := by
  rw [addG2_is]
  exact onG2_gP (gadd_on cv2 _ _ (onG2_is ha).2 (onG2_is hb).2)
theorem on_neg2 {a : G2D} (ha : onG2 a = true) : onG2 (negG2 a) = true := by
  rw [negG2_is]
  exact onG2_gP (gneg_on _ (onG2_is ha).2)
theorem addG2_comm {a b : G2D} (ha : onG2 a = true) (hb : onG2 b = true) : addG2 a b = addG2 b a := by
  rw [addG2_is, addG2_is, gadd_comm cv2 _ _ (onG2_is ha).2 (onG2_is hb).2]
theorem addG2_assoc {a b c : G2D} (ha : onG2 a = true) (hb : onG2 b = true) (hc : onG2 c = true) : addG2 (addG2 a b) c = addG2 a (addG2 b c) := by
  rw [addG2_is (addG2 a b), pG2_add, addG2_is a (addG2 b c), pG2_add, gadd_assoc cv2 _ _ _ (onG2_is ha).2 (onG2_is hb).2 (onG2_is hc).2]
theorem addG2_zero {a : G2D} (ha : onG2 a = true) : addG2 a ⟨0, 0, 0, 0, true⟩ = a := by
  rw [addG2_is]
  show gP2 (gadd (pG2 a) none) = a
  rw [gadd_none, (onG2_is ha).1]
theorem addG2_neg {a : G2D} (ha : onG2 a = true) : addG2 a (negG2 a) = ⟨0, 0, 0, 0, true⟩ := by
  rw [addG2_is, pG2_neg, gadd_gneg cv2 _ (onG2_is ha).2]
  rfl
theorem on_zero2 : onG2 ⟨0, 0, 0, 0, true⟩ = true := onG2_gP (P := none) True.intro
end Go.Proofs.Ytkfcphigoncgjaa

/- Sums and negatives of points of the second curve outside, walked. No conditions. -/
namespace Go.Proofs.Ytkfcphigoncgjaa

def right2Spec : FnSpec
  | [.v (.a [.ob (.fp a), .ob (.fp b), .ob (.fp c), .ob (.fp d), .bool i])] => some ([], .v (.c (.bool (onG2 ⟨a, b, c, d, i⟩))), [])
  | _ => none
noncomputable def rtA : Env := qzH.set (addT qzH.fn 49 right2Spec)
theorem rtA_ok : EnvOk Try.prog rtA := env_add qzH_ok 49 right2Spec (enters_of Try.func49 rfl rfl) fun args o r es h _ => by
  unfold right2Spec at h
  split at h
  · cases h; exact fn_sound qzH_ok Try.func49 (ri2R _ _ _ _ _) trivial
  · cases h
def refRight2Spec : FnSpec
  | [.v (.a [.ob (.fp a), .ob (.fp b), .ob (.fp c), .ob (.fp d), .bool i])] => some ([], .v (.c (.bool (onG2 ⟨a, b, c, d, i⟩))), [])
  | _ => none
noncomputable def rtB : Env := rtA.set (addT rtA.fn 28 refRight2Spec)
theorem rtB_ok : EnvOk Try.prog rtB := env_add rtA_ok 28 refRight2Spec (enters_of Try.func28 rfl rfl) fun args o r es h _ => by
  unfold refRight2Spec at h
  split at h
  · cases h; exact refRight2_fnd _ _ _ _ _
  · cases h
def gen2Spec : FnSpec
  | [] => some ([], .v (.a genG2.its), [])
  | _ => none
noncomputable def rtC : Env := rtB.set (addT rtB.fn 76 gen2Spec)
theorem rtC_ok : EnvOk Try.prog rtC := env_add rtB_ok 76 gen2Spec (enters_of Try.func76 rfl rfl) fun args o r es h _ => by
  unfold gen2Spec at h
  split at h
  · cases h; exact gen2_fnd
  · cases h
def some2Spec : FnSpec
  | [.v (.c (.int .i64 n))] => some ([n = 0], .v (.a genG2.its), [])
  | _ => none
noncomputable def rtD : Env := rtC.set (addT rtC.fn 77 some2Spec)
theorem rtD_ok : EnvOk Try.prog rtD := env_add rtC_ok 77 some2Spec (enters_of Try.func77 rfl rfl) fun args o r es h ho => by
  unfold some2Spec at h
  split at h
  · cases h; exact some2_fnd _ ho.1
  · cases h
def zeroG2Spec : FnSpec
  | [] => some ([], .v (.a (G2D.mk 0 0 0 0 true).its), [])
  | _ => none
noncomputable def rtE : Env := rtD.set (addT rtD.fn 33 zeroG2Spec)
theorem rtE_ok : EnvOk Try.prog rtE := env_add rtD_ok 33 zeroG2Spec (enters_of Try.func33 rfl rfl) fun args o r es h _ => by
  unfold zeroG2Spec at h
  split at h
  · cases h; exact zeroG2_fnd
  · cases h
def refNeg2Spec : FnSpec
  | [.v (.a [.ob (.fp a), .ob (.fp b), .ob (.fp c), .ob (.fp d), .bool i])] => some ([c.val < pN, d.val < pN], .v (.a [.ob (.fp a), .ob (.fp b), .ob (.fp (negU2 (c, d)).1), .ob (.fp (negU2 (c, d)).2), .bool i]), [])
  | _ => none
noncomputable def rtF : Env := rtE.set (addT rtE.fn 29 refNeg2Spec)
theorem rtF_ok : EnvOk Try.prog rtF := env_add rtE_ok 29 refNeg2Spec (enters_of Try.func29 rfl rfl) fun args o r es h ho => by
  unfold refNeg2Spec at h
  split at h
  · cases h; exact fn_sound qzH_ok Try.func29 (rn2R _ _ _ _ _) ⟨ho.1, ho.2.1, trivial⟩
  · cases h
def three2Spec : FnSpec
  | [.v (.a [.ob (.fp a), .ob (.fp b)])] => some ([], .v (.a (u2I (addP2 (a, b) (addP2 (a, b) (a, b))))), [])
  | _ => none
noncomputable def rtG : Env := rtF.set (addT rtF.fn 79 three2Spec)
theorem rtG_ok : EnvOk Try.prog rtG := env_add rtF_ok 79 three2Spec (enters_of Try.func79 rfl rfl) fun args o r es h _ => by
  unfold three2Spec at h
  split at h
  · cases h; exact fn_sound qzH_ok Try.func79 (r32R _ _) trivial
  · cases h
--@env rtG rtG_ok
instance : Inhabited G2D := ⟨g20⟩
theorem ad2A (a b : G2D) : fnRes rtG Try.f26 3000 [.v (.a a.its),.v (.a b.its)] [true,true] [] [] = (some ([((Bool.not (onG2 a)) = true)],((.t [(.a [(.ob (.fp (0:U6))),(.ob (.fp (0:U6))),(.ob (.fp (0:U6))),(.ob (.fp (0:U6))),(.lit false)]),(.c (.int .i64 (30:Int)))]),[]))) := by kernel_rfl
theorem ad2B (a b : G2D) : fnRes rtG Try.f26 3000 [.v (.a a.its),.v (.a b.its)] [false,true] [] [] = (some ([((Bool.not (onG2 a)) = false),((Bool.not (onG2 b)) = true)],((.t [(.a [(.ob (.fp (0:U6))),(.ob (.fp (0:U6))),(.ob (.fp (0:U6))),(.ob (.fp (0:U6))),(.lit false)]),(.c (.int .i64 (30:Int)))]),[]))) := by kernel_rfl
theorem ad2C (a b : G2D) : fnRes rtG Try.f26 3000 [.v (.a a.its),.v (.a b.its)] [false,false] [] [] = (some ([((Bool.not (onG2 a)) = false),((Bool.not (onG2 b)) = false)],((.t [(.a [(.ob (.fp (G2D.xa (outG2 (jpl (inG2 a) (inG2 b)))))),(.ob (.fp (G2D.xb (outG2 (jpl (inG2 a) (inG2 b)))))),(.ob (.fp (G2D.ya (outG2 (jpl (inG2 a) (inG2 b)))))),(.ob (.fp (G2D.yb (outG2 (jpl (inG2 a) (inG2 b)))))),(.bool (G2D.inf (outG2 (jpl (inG2 a) (inG2 b)))))]),(.c (.int .i64 (0:Int)))]),[]))) := by kernel_rfl
theorem ne2A (a : G2D) : fnRes rtG Try.f27 3000 [.v (.a a.its)] [true] [] [] = (some ([((Bool.not (onG2 a)) = true)],((.t [(.a [(.ob (.fp (0:U6))),(.ob (.fp (0:U6))),(.ob (.fp (0:U6))),(.ob (.fp (0:U6))),(.lit false)]),(.c (.int .i64 (30:Int)))]),[]))) := by kernel_rfl
theorem ne2B (a : G2D) : fnRes rtG Try.f27 3000 [.v (.a a.its)] [false] [] [] = (some ([((Bool.not (onG2 a)) = false)],((.t [(.a [(.ob (.fp (G2D.xa (outG2 (jng (inG2 a)))))),(.ob (.fp (G2D.xb (outG2 (jng (inG2 a)))))),(.ob (.fp (G2D.ya (outG2 (jng (inG2 a)))))),(.ob (.fp (G2D.yb (outG2 (jng (inG2 a)))))),(.bool (G2D.inf (outG2 (jng (inG2 a)))))]),(.c (.int .i64 (0:Int)))]),[]))) := by kernel_rfl
theorem al2R  : fnRes rtG Try.f30 3000 [] [true] [] [] = (some ([((0:Int) = (0:Int)),((ite (true = true) (Bool.and (decide ((G2D.xa genG2) = (G2D.xa genG2))) (Bool.and (decide ((G2D.xb genG2) = (G2D.xb genG2))) (Bool.and (decide ((G2D.ya genG2) = (G2D.ya genG2))) (Bool.and (decide ((G2D.yb genG2) = (G2D.yb genG2))) ((G2D.inf genG2) == (G2D.inf genG2)))))) (Bool.not (Bool.and (decide ((G2D.xa genG2) = (G2D.xa genG2))) (Bool.and (decide ((G2D.xb genG2) = (G2D.xb genG2))) (Bool.and (decide ((G2D.ya genG2) = (G2D.ya genG2))) (Bool.and (decide ((G2D.yb genG2) = (G2D.yb genG2))) ((G2D.inf genG2) == (G2D.inf genG2)))))))) = true)],((.v (.c (.bool (ite (true = true) (Bool.and (decide ((G2D.xa (G2D.mk (0:U6) (0:U6) (0:U6) (0:U6) true)) = (0:U6))) (Bool.and (decide ((G2D.xb (G2D.mk (0:U6) (0:U6) (0:U6) (0:U6) true)) = (0:U6))) (Bool.and (decide ((G2D.ya (G2D.mk (0:U6) (0:U6) (0:U6) (0:U6) true)) = (0:U6))) (Bool.and (decide ((G2D.yb (G2D.mk (0:U6) (0:U6) (0:U6) (0:U6) true)) = (0:U6))) ((G2D.inf (G2D.mk (0:U6) (0:U6) (0:U6) (0:U6) true)) == true))))) (Bool.not (Bool.and (decide ((G2D.xa (G2D.mk (0:U6) (0:U6) (0:U6) (0:U6) true)) = (0:U6))) (Bool.and (decide ((G2D.xb (G2D.mk (0:U6) (0:U6) (0:U6) (0:U6) true)) = (0:U6))) (Bool.and (decide ((G2D.ya (G2D.mk (0:U6) (0:U6) (0:U6) (0:U6) true)) = (0:U6))) (Bool.and (decide ((G2D.yb (G2D.mk (0:U6) (0:U6) (0:U6) (0:U6) true)) = (0:U6))) ((G2D.inf (G2D.mk (0:U6) (0:U6) (0:U6) (0:U6) true)) == true)))))))))),[]))) := by kernel_rfl
theorem ch2R (a b c : G2D) (x y z w : U6) : fnRes rtG Try.f78 3000 [.v (.a a.its),.v (.a b.its),.v (.a c.its),.v (.a [.ob (.fp x),.ob (.fp y)]),.v (.a [.ob (.fp z),.ob (.fp w)])] [false] [] [] = (some ([((Fin.val x) < pN),((Fin.val y) < pN),((Fin.val x) < pN),((Fin.val y) < pN),((Fin.val (Prod.fst (addP2 ((G2D.xa c),(G2D.xb c)) (addP2 ((G2D.xa a),(G2D.xb a)) ((G2D.xa b),(G2D.xb b)))))) < pN),((Fin.val (Prod.snd (addP2 ((G2D.xa c),(G2D.xb c)) (addP2 ((G2D.xa a),(G2D.xb a)) ((G2D.xa b),(G2D.xb b)))))) < pN),((Fin.val (Prod.fst (mulP2 (x,y) (x,y)))) < pN),((Fin.val (Prod.snd (mulP2 (x,y) (x,y)))) < pN),((Fin.val z) < pN),((Fin.val w) < pN),((Fin.val z) < pN),((Fin.val w) < pN),((ite (false = true) (Bool.and (decide ((Prod.fst (mulP2 (addP2 ((G2D.xa c),(G2D.xb c)) (addP2 ((G2D.xa a),(G2D.xb a)) ((G2D.xa b),(G2D.xb b)))) (mulP2 (x,y) (x,y)))) = (Prod.fst (mulP2 (z,w) (z,w))))) (decide ((Prod.snd (mulP2 (addP2 ((G2D.xa c),(G2D.xb c)) (addP2 ((G2D.xa a),(G2D.xb a)) ((G2D.xa b),(G2D.xb b)))) (mulP2 (x,y) (x,y)))) = (Prod.snd (mulP2 (z,w) (z,w)))))) (Bool.not (Bool.and (decide ((Prod.fst (mulP2 (addP2 ((G2D.xa c),(G2D.xb c)) (addP2 ((G2D.xa a),(G2D.xb a)) ((G2D.xa b),(G2D.xb b)))) (mulP2 (x,y) (x,y)))) = (Prod.fst (mulP2 (z,w) (z,w))))) (decide ((Prod.snd (mulP2 (addP2 ((G2D.xa c),(G2D.xb c)) (addP2 ((G2D.xa a),(G2D.xb a)) ((G2D.xa b),(G2D.xb b)))) (mulP2 (x,y) (x,y)))) = (Prod.snd (mulP2 (z,w) (z,w)))))))) = false),((Fin.val (Prod.fst (addP2 ((G2D.ya c),(G2D.yb c)) ((G2D.ya a),(G2D.yb a))))) < pN),((Fin.val (Prod.snd (addP2 ((G2D.ya c),(G2D.yb c)) ((G2D.ya a),(G2D.yb a))))) < pN),((Fin.val x) < pN),((Fin.val y) < pN),((Fin.val (G2D.xa c)) < pN),((Fin.val (G2D.xb c)) < pN),((Fin.val z) < pN),((Fin.val w) < pN),((Fin.val (Prod.fst (subP2 ((G2D.xa a),(G2D.xb a)) ((G2D.xa c),(G2D.xb c))))) < pN),((Fin.val (Prod.snd (subP2 ((G2D.xa a),(G2D.xb a)) ((G2D.xa c),(G2D.xb c))))) < pN)],((.v (.c (.bool (ite (true = true) (Bool.and (decide ((Prod.fst (mulP2 (addP2 ((G2D.ya c),(G2D.yb c)) ((G2D.ya a),(G2D.yb a))) (x,y))) = (Prod.fst (mulP2 (z,w) (subP2 ((G2D.xa a),(G2D.xb a)) ((G2D.xa c),(G2D.xb c))))))) (decide ((Prod.snd (mulP2 (addP2 ((G2D.ya c),(G2D.yb c)) ((G2D.ya a),(G2D.yb a))) (x,y))) = (Prod.snd (mulP2 (z,w) (subP2 ((G2D.xa a),(G2D.xb a)) ((G2D.xa c),(G2D.xb c)))))))) (Bool.not (Bool.and (decide ((Prod.fst (mulP2 (addP2 ((G2D.ya c),(G2D.yb c)) ((G2D.ya a),(G2D.yb a))) (x,y))) = (Prod.fst (mulP2 (z,w) (subP2 ((G2D.xa a),(G2D.xb a)) ((G2D.xa c),(G2D.xb c))))))) (decide ((Prod.snd (mulP2 (addP2 ((G2D.ya c),(G2D.yb c)) ((G2D.ya a),(G2D.yb a))) (x,y))) = (Prod.snd (mulP2 (z,w) (subP2 ((G2D.xa a),(G2D.xb a)) ((G2D.xa c),(G2D.xb c))))))))))))),[]))) := by kernel_rfl
end Go.Proofs.Ytkfcphigoncgjaa

/- Sums and negatives of points of the second curve outside: contracts. No conditions. -/
namespace Go.Proofs.Ytkfcphigoncgjaa

/-- What Add and Neg tell. -/
def adR2 (a b : G2D) : G2D × Int := if onG2 a && onG2 b then (addG2 a b, 0) else (g20, 30)
def neR2 (a : G2D) : G2D × Int := if onG2 a then (negG2 a, 0) else (g20, 30)
theorem adR2_on {a b : G2D} (ha : onG2 a = true) (hb : onG2 b = true) : adR2 a b = (addG2 a b, 0) := by unfold adR2; rw [ha, hb]; rfl
theorem adR2_off1 {a b : G2D} (ha : onG2 a = false) : adR2 a b = (g20, 30) := by unfold adR2; rw [ha]; rfl
theorem adR2_off2 {a b : G2D} (hb : onG2 b = false) : adR2 a b = (g20, 30) := by unfold adR2; rw [hb, Bool.and_false]; rfl
theorem neR2_on {a : G2D} (ha : onG2 a = true) : neR2 a = (negG2 a, 0) := by unfold neR2; rw [ha]; rfl
theorem neR2_off {a : G2D} (ha : onG2 a = false) : neR2 a = (g20, 30) := by unfold neR2; rw [ha]; rfl

theorem add2_fnd (a b : G2D) : FnD Try.prog 26 [.v (.a a.its), .v (.a b.its)] (.t [.a (adR2 a b).1.its, .c (.int .i64 (adR2 a b).2)]) [] := by
  by_cases h1 : onG2 a = true
  · by_cases h2 : onG2 b = true
    · rw [adR2_on h1 h2]
      exact fn_sound rtG_ok Try.func26 (ad2C a b) ⟨congrArg not h1, congrArg not h2, trivial⟩
    · have h2 : onG2 b = false := Bool.eq_false_iff.2 h2
      rw [adR2_off2 h2]
      exact (fn_sound rtG_ok Try.func26 (ad2B a b) ⟨congrArg not h1, congrArg not h2, trivial⟩).conv (fun _ _ h => h) fun y v hd => lit_fifth_t hd
  · have h1 : onG2 a = false := Bool.eq_false_iff.2 h1
    rw [adR2_off1 h1]
    exact (fn_sound rtG_ok Try.func26 (ad2A a b) ⟨congrArg not h1, trivial⟩).conv (fun _ _ h => h) fun y v hd => lit_fifth_t hd

theorem neg2_fnd (a : G2D) : FnD Try.prog 27 [.v (.a a.its)] (.t [.a (neR2 a).1.its, .c (.int .i64 (neR2 a).2)]) [] := by
  by_cases h1 : onG2 a = true
  · rw [neR2_on h1]
    exact fn_sound rtG_ok Try.func27 (ne2B a) ⟨congrArg not h1, trivial⟩
  · have h1 : onG2 a = false := Bool.eq_false_iff.2 h1
    rw [neR2_off h1]
    exact (fn_sound rtG_ok Try.func27 (ne2A a) ⟨congrArg not h1, trivial⟩).conv (fun _ _ h => h) fun y v hd => lit_fifth_t hd

theorem eq_bits2 {a b : G2D} (h : a = b) : (decide (a.xa = b.xa) && (decide (a.xb = b.xb) && (decide (a.ya = b.ya) && (decide (a.yb = b.yb) && (a.inf == b.inf))))) = true := by
  subst h
  simp

theorem alive2_fnd : FnD Try.prog 30 [] (.v (.c (.bool true))) [] := by
  have r := al2R
  rw [if_pos rfl, if_pos rfl] at r
  refine (fn_sound rtG_ok Try.func30 r ⟨rfl, eq_bits2 rfl, trivial⟩).conv (fun _ _ h => h) fun y v hd => ?_
  have e := eq_bits2 (a := G2D.mk 0 0 0 0 true) rfl
  rw [e] at hd
  exact hd

/-- The third point of a line that goes up by h at g, as the document says. -/
def chP2 (a b c : G2D) (g h : U6 × U6) : Bool :=
  (decide ((mulP2 (addP2 (c.xa, c.xb) (addP2 (a.xa, a.xb) (b.xa, b.xb))) (mulP2 g g)).1 = (mulP2 h h).1) && decide ((mulP2 (addP2 (c.xa, c.xb) (addP2 (a.xa, a.xb) (b.xa, b.xb))) (mulP2 g g)).2 = (mulP2 h h).2)) &&
  (decide ((mulP2 (addP2 (c.ya, c.yb) (a.ya, a.yb)) g).1 = (mulP2 h (subP2 (a.xa, a.xb) (c.xa, c.xb))).1) && decide ((mulP2 (addP2 (c.ya, c.yb) (a.ya, a.yb)) g).2 = (mulP2 h (subP2 (a.xa, a.xb) (c.xa, c.xb))).2))
theorem chord2_fnd (a b c : G2D) (x y z w : U6) (hx : x.val < pN) (hy : y.val < pN) (hz : z.val < pN) (hw : w.val < pN) (hc1 : c.xa.val < pN) (hc2 : c.xb.val < pN) (hc : chP2 a b c (x, y) (z, w) = true) :
    FnD Try.prog 78 [.v (.a a.its), .v (.a b.its), .v (.a c.its), .v (.a [.ob (.fp x), .ob (.fp y)]), .v (.a [.ob (.fp z), .ob (.fp w)])] (.v (.c (.bool true))) [] := by
  unfold chP2 at hc
  rw [Bool.and_eq_true] at hc
  have r := ch2R a b c x y z w
  rw [if_neg (by decide), if_pos rfl, hc.1, hc.2] at r
  exact fn_sound rtG_ok Try.func78 r ⟨hx, hy, hx, hy, cleanP_lt _, cleanP_lt _, cleanP_lt _, cleanP_lt _, hz, hw, hz, hw, rfl, cleanP_lt _, cleanP_lt _, hx, hy, hc1, hc2, hz, hw, cleanP_lt _, cleanP_lt _, trivial⟩

end Go.Proofs.Ytkfcphigoncgjaa

/- The reference's Sum on the second curve, walked. No conditions. -/
namespace Go.Proofs.Ytkfcphigoncgjaa

def add2Spec1 : FnSpec
  | [.v (.a [.ob (.fp a), .ob (.fp b), .ob (.fp c), .ob (.fp d), .bool i]), .v (.a [.ob (.fp e), .ob (.fp f), .ob (.fp g), .ob (.fp h), .bool j])] => some ([], .t [.a (adR2 ⟨a, b, c, d, i⟩ ⟨e, f, g, h, j⟩).1.its, .c (.int .i64 (adR2 ⟨a, b, c, d, i⟩ ⟨e, f, g, h, j⟩).2)], [])
  | _ => none
noncomputable def rtH : Env := rtG.set (addT rtG.fn 26 add2Spec1)
theorem rtH_ok : EnvOk Try.prog rtH := env_add rtG_ok 26 add2Spec1 (enters_of Try.func26 rfl rfl) fun args o r es h _ => by
  unfold add2Spec1 at h
  split at h
  · cases h; exact add2_fnd ⟨_, _, _, _, _⟩ ⟨_, _, _, _, _⟩
  · cases h
def neg2Spec1 : FnSpec
  | [.v (.a [.ob (.fp a), .ob (.fp b), .ob (.fp c), .ob (.fp d), .bool i])] => some ([], .t [.a (neR2 ⟨a, b, c, d, i⟩).1.its, .c (.int .i64 (neR2 ⟨a, b, c, d, i⟩).2)], [])
  | _ => none
noncomputable def rtI : Env := rtH.set (addT rtH.fn 27 neg2Spec1)
theorem rtI_ok : EnvOk Try.prog rtI := env_add rtH_ok 27 neg2Spec1 (enters_of Try.func27 rfl rfl) fun args o r es h _ => by
  unfold neg2Spec1 at h
  split at h
  · cases h; exact neg2_fnd ⟨_, _, _, _, _⟩
  · cases h
def alive2Spec1 : FnSpec
  | [] => some ([], .v (.c (.bool true)), [])
  | _ => none
noncomputable def rtJ : Env := rtI.set (addT rtI.fn 30 alive2Spec1)
theorem rtJ_ok : EnvOk Try.prog rtJ := env_add rtI_ok 30 alive2Spec1 (enters_of Try.func30 rfl rfl) fun args o r es h _ => by
  unfold alive2Spec1 at h
  split at h
  · cases h; exact alive2_fnd
  · cases h
def chord2Spec1 : FnSpec
  | [.v (.a [.ob (.fp a), .ob (.fp b), .ob (.fp c), .ob (.fp d), .bool i]), .v (.a [.ob (.fp e), .ob (.fp f), .ob (.fp g), .ob (.fp h), .bool j]), .v (.a [.ob (.fp k), .ob (.fp l), .ob (.fp m), .ob (.fp n), .bool o]), .v (.a [.ob (.fp x), .ob (.fp y)]), .v (.a [.ob (.fp z), .ob (.fp w)])] => some ([x.val < pN, y.val < pN, z.val < pN, w.val < pN, k.val < pN, l.val < pN, chP2 ⟨a, b, c, d, i⟩ ⟨e, f, g, h, j⟩ ⟨k, l, m, n, o⟩ (x, y) (z, w) = true], .v (.c (.bool true)), [])
  | _ => none
noncomputable def rtK : Env := rtJ.set (addT rtJ.fn 78 chord2Spec1)
theorem rtK_ok : EnvOk Try.prog rtK := env_add rtJ_ok 78 chord2Spec1 (enters_of Try.func78 rfl rfl) fun args o r es h ho => by
  unfold chord2Spec1 at h
  split at h
  · cases h; exact chord2_fnd ⟨_, _, _, _, _⟩ ⟨_, _, _, _, _⟩ ⟨_, _, _, _, _⟩ _ _ _ _ ho.1 ho.2.1 ho.2.2.1 ho.2.2.2.1 ho.2.2.2.2.1 ho.2.2.2.2.2.1 ho.2.2.2.2.2.2.1
  · cases h
--@env rtK rtK_ok
theorem su2A (a b c : G2D) : fnRes rtK Try.f31 3000 [.v (.a a.its),.v (.a b.its),.v (.a c.its)] [true] [] [] = (some ([((G2D.inf a) = true)],((.v (.c (.bool (ite (true = true) (Bool.and (decide ((G2D.xa c) = (G2D.xa b))) (Bool.and (decide ((G2D.xb c) = (G2D.xb b))) (Bool.and (decide ((G2D.ya c) = (G2D.ya b))) (Bool.and (decide ((G2D.yb c) = (G2D.yb b))) ((G2D.inf c) == (G2D.inf b)))))) (Bool.not (Bool.and (decide ((G2D.xa c) = (G2D.xa b))) (Bool.and (decide ((G2D.xb c) = (G2D.xb b))) (Bool.and (decide ((G2D.ya c) = (G2D.ya b))) (Bool.and (decide ((G2D.yb c) = (G2D.yb b))) ((G2D.inf c) == (G2D.inf b))))))))))),[]))) := by kernel_rfl
theorem su2B (a b c : G2D) : fnRes rtK Try.f31 3000 [.v (.a a.its),.v (.a b.its),.v (.a c.its)] [false,true] [] [] = (some ([((G2D.inf a) = false),((G2D.inf b) = true)],((.v (.c (.bool (ite (true = true) (Bool.and (decide ((G2D.xa c) = (G2D.xa a))) (Bool.and (decide ((G2D.xb c) = (G2D.xb a))) (Bool.and (decide ((G2D.ya c) = (G2D.ya a))) (Bool.and (decide ((G2D.yb c) = (G2D.yb a))) ((G2D.inf c) == (G2D.inf a)))))) (Bool.not (Bool.and (decide ((G2D.xa c) = (G2D.xa a))) (Bool.and (decide ((G2D.xb c) = (G2D.xb a))) (Bool.and (decide ((G2D.ya c) = (G2D.ya a))) (Bool.and (decide ((G2D.yb c) = (G2D.yb a))) ((G2D.inf c) == (G2D.inf a))))))))))),[]))) := by kernel_rfl
theorem su2C (a b c : G2D) : fnRes rtK Try.f31 3000 [.v (.a a.its),.v (.a b.its),.v (.a c.its)] [false,false,true,true] [] [] = (some ([((G2D.inf a) = false),((G2D.inf b) = false),((ite (true = true) (Bool.and (decide ((G2D.xa a) = (G2D.xa b))) (decide ((G2D.xb a) = (G2D.xb b)))) (Bool.not (Bool.and (decide ((G2D.xa a) = (G2D.xa b))) (decide ((G2D.xb a) = (G2D.xb b)))))) = true),((Fin.val (G2D.ya b)) < pN),((Fin.val (G2D.yb b)) < pN),((ite (true = true) (Bool.and (decide ((G2D.ya a) = (Prod.fst (negU2 ((G2D.ya b),(G2D.yb b)))))) (decide ((G2D.yb a) = (Prod.snd (negU2 ((G2D.ya b),(G2D.yb b))))))) (Bool.not (Bool.and (decide ((G2D.ya a) = (Prod.fst (negU2 ((G2D.ya b),(G2D.yb b)))))) (decide ((G2D.yb a) = (Prod.snd (negU2 ((G2D.ya b),(G2D.yb b))))))))) = true)],((.v (.c (.bool (ite (true = true) (Bool.and (decide ((G2D.xa c) = (0:U6))) (Bool.and (decide ((G2D.xb c) = (0:U6))) (Bool.and (decide ((G2D.ya c) = (0:U6))) (Bool.and (decide ((G2D.yb c) = (0:U6))) ((G2D.inf c) == true))))) (Bool.not (Bool.and (decide ((G2D.xa c) = (0:U6))) (Bool.and (decide ((G2D.xb c) = (0:U6))) (Bool.and (decide ((G2D.ya c) = (0:U6))) (Bool.and (decide ((G2D.yb c) = (0:U6))) ((G2D.inf c) == true)))))))))),[]))) := by kernel_rfl
theorem su2D (a b c : G2D) : fnRes rtK Try.f31 3000 [.v (.a a.its),.v (.a b.its),.v (.a c.its)] [false,false,true,false,false,false,true] [] [] = (some ([((G2D.inf a) = false),((G2D.inf b) = false),((ite (true = true) (Bool.and (decide ((G2D.xa a) = (G2D.xa b))) (decide ((G2D.xb a) = (G2D.xb b)))) (Bool.not (Bool.and (decide ((G2D.xa a) = (G2D.xa b))) (decide ((G2D.xb a) = (G2D.xb b)))))) = true),((Fin.val (G2D.ya b)) < pN),((Fin.val (G2D.yb b)) < pN),((ite (true = true) (Bool.and (decide ((G2D.ya a) = (Prod.fst (negU2 ((G2D.ya b),(G2D.yb b)))))) (decide ((G2D.yb a) = (Prod.snd (negU2 ((G2D.ya b),(G2D.yb b))))))) (Bool.not (Bool.and (decide ((G2D.ya a) = (Prod.fst (negU2 ((G2D.ya b),(G2D.yb b)))))) (decide ((G2D.yb a) = (Prod.snd (negU2 ((G2D.ya b),(G2D.yb b))))))))) = false),((Bool.not (onG2 c)) = false),((G2D.inf c) = false),((ite (true = true) (Bool.and (decide ((G2D.xa a) = (G2D.xa b))) (decide ((G2D.xb a) = (G2D.xb b)))) (Bool.not (Bool.and (decide ((G2D.xa a) = (G2D.xa b))) (decide ((G2D.xb a) = (G2D.xb b)))))) = true),((Fin.val (G2D.xa a)) < pN),((Fin.val (G2D.xb a)) < pN),((Fin.val (G2D.xa a)) < pN),((Fin.val (G2D.xb a)) < pN),((Fin.val (Prod.fst (addP2 ((G2D.ya a),(G2D.yb a)) ((G2D.ya a),(G2D.yb a))))) < pN),((Fin.val (Prod.snd (addP2 ((G2D.ya a),(G2D.yb a)) ((G2D.ya a),(G2D.yb a))))) < pN),((Fin.val (Prod.fst (addP2 (mulP2 ((G2D.xa a),(G2D.xb a)) ((G2D.xa a),(G2D.xb a))) (addP2 (mulP2 ((G2D.xa a),(G2D.xb a)) ((G2D.xa a),(G2D.xb a))) (mulP2 ((G2D.xa a),(G2D.xb a)) ((G2D.xa a),(G2D.xb a))))))) < pN),((Fin.val (Prod.snd (addP2 (mulP2 ((G2D.xa a),(G2D.xb a)) ((G2D.xa a),(G2D.xb a))) (addP2 (mulP2 ((G2D.xa a),(G2D.xb a)) ((G2D.xa a),(G2D.xb a))) (mulP2 ((G2D.xa a),(G2D.xb a)) ((G2D.xa a),(G2D.xb a))))))) < pN),((Fin.val (G2D.xa c)) < pN),((Fin.val (G2D.xb c)) < pN),((chP2 a a c (addP2 ((G2D.ya a),(G2D.yb a)) ((G2D.ya a),(G2D.yb a))) (addP2 (mulP2 ((G2D.xa a),(G2D.xb a)) ((G2D.xa a),(G2D.xb a))) (addP2 (mulP2 ((G2D.xa a),(G2D.xb a)) ((G2D.xa a),(G2D.xb a))) (mulP2 ((G2D.xa a),(G2D.xb a)) ((G2D.xa a),(G2D.xb a)))))) = true)],((.v (.c (.bool true))),[]))) := by kernel_rfl
theorem su2E (a b c : G2D) : fnRes rtK Try.f31 3000 [.v (.a a.its),.v (.a b.its),.v (.a c.its)] [false,false,false,false,false,false,false] [] [] = (some ([((G2D.inf a) = false),((G2D.inf b) = false),((ite (true = true) (Bool.and (decide ((G2D.xa a) = (G2D.xa b))) (decide ((G2D.xb a) = (G2D.xb b)))) (Bool.not (Bool.and (decide ((G2D.xa a) = (G2D.xa b))) (decide ((G2D.xb a) = (G2D.xb b)))))) = false),((Bool.not (onG2 c)) = false),((G2D.inf c) = false),((ite (true = true) (Bool.and (decide ((G2D.xa a) = (G2D.xa b))) (decide ((G2D.xb a) = (G2D.xb b)))) (Bool.not (Bool.and (decide ((G2D.xa a) = (G2D.xa b))) (decide ((G2D.xb a) = (G2D.xb b)))))) = false),((Fin.val (G2D.xa a)) < pN),((Fin.val (G2D.xb a)) < pN),((Fin.val (G2D.ya a)) < pN),((Fin.val (G2D.yb a)) < pN),((Fin.val (Prod.fst (subP2 ((G2D.xa b),(G2D.xb b)) ((G2D.xa a),(G2D.xb a))))) < pN),((Fin.val (Prod.snd (subP2 ((G2D.xa b),(G2D.xb b)) ((G2D.xa a),(G2D.xb a))))) < pN),((Fin.val (Prod.fst (subP2 ((G2D.ya b),(G2D.yb b)) ((G2D.ya a),(G2D.yb a))))) < pN),((Fin.val (Prod.snd (subP2 ((G2D.ya b),(G2D.yb b)) ((G2D.ya a),(G2D.yb a))))) < pN),((Fin.val (G2D.xa c)) < pN),((Fin.val (G2D.xb c)) < pN),((chP2 a b c (subP2 ((G2D.xa b),(G2D.xb b)) ((G2D.xa a),(G2D.xb a))) (subP2 ((G2D.ya b),(G2D.yb b)) ((G2D.ya a),(G2D.yb a)))) = true)],((.v (.c (.bool true))),[]))) := by kernel_rfl
end Go.Proofs.Ytkfcphigoncgjaa

/- The reference's Sum on the second curve tells of the sum that it is one. No conditions. -/
namespace Go.Proofs.Ytkfcphigoncgjaa

theorem outP2_ne {x y : F2} (h : ¬ x = y) : (decide ((outP2 x).1 = (outP2 y).1) && decide ((outP2 x).2 = (outP2 y).2)) = false := by
  rw [← pair_dec]
  exact decide_eq_false fun e => h (outP2_inj e)
theorem outP2_same {x y : F2} (h : x = y) : (decide ((outP2 x).1 = (outP2 y).1) && decide ((outP2 x).2 = (outP2 y).2)) = true := by
  subst h
  rw [← pair_dec]
  exact decide_eq_true rfl
theorem outP2_lt1 (x : F2) : (outP2 x).1.val < pN := outP_lt _
theorem outP2_lt2 (x : F2) : (outP2 x).2.val < pN := outP_lt _

section
variable {r : Nat} [NeZero r]
theorem three_q (x : Q2 r) : x + (x + x) = x + x + x := by grind
theorem sub_zero_q {x y : Q2 r} (h : y - x = 0) : x = y := by grind
end
theorem three2_out (x : F2) : addP2 (outP2 x) (addP2 (outP2 x) (outP2 x)) = outP2 (thrice x) := by
  rw [addP2_out, addP2_out]
  congr 1
  exact three_q x

theorem chP2_out (p q c : F2 × F2) (d e : F2) (h1 : (c.1 + (p.1 + q.1)) * (d * d) = e * e) (h2 : (c.2 + p.2) * d = e * (p.1 - c.1)) :
    chP2 (gP2 (some p)) (gP2 (some q)) (gP2 (some c)) (outP2 d) (outP2 e) = true := by
  have e1 : mulP2 (addP2 (outP2 c.1) (addP2 (outP2 p.1) (outP2 q.1))) (mulP2 (outP2 d) (outP2 d)) = mulP2 (outP2 e) (outP2 e) := by
    rw [addP2_out, addP2_out, mulP2_out, mulP2_out, mulP2_out, h1]
  have e2 : mulP2 (addP2 (outP2 c.2) (outP2 p.2)) (outP2 d) = mulP2 (outP2 e) (subP2 (outP2 p.1) (outP2 c.1)) := by
    rw [addP2_out, mulP2_out, h2, subP2_out, mulP2_out]
  show ((decide ((mulP2 (addP2 (outP2 c.1) (addP2 (outP2 p.1) (outP2 q.1))) (mulP2 (outP2 d) (outP2 d))).1 = (mulP2 (outP2 e) (outP2 e)).1) && decide ((mulP2 (addP2 (outP2 c.1) (addP2 (outP2 p.1) (outP2 q.1))) (mulP2 (outP2 d) (outP2 d))).2 = (mulP2 (outP2 e) (outP2 e)).2)) &&
    (decide ((mulP2 (addP2 (outP2 c.2) (outP2 p.2)) (outP2 d)).1 = (mulP2 (outP2 e) (subP2 (outP2 p.1) (outP2 c.1))).1) && decide ((mulP2 (addP2 (outP2 c.2) (outP2 p.2)) (outP2 d)).2 = (mulP2 (outP2 e) (subP2 (outP2 p.1) (outP2 c.1))).2))) = true
  rw [e1, e2]
  simp

theorem sum_fnd2 (a b c : G2D) (ha : onG2 a = true) (hb : onG2 b = true) (hc : c = addG2 a b) : FnD Try.prog 31 [.v (.a a.its), .v (.a b.its), .v (.a c.its)] (.v (.c (.bool true))) [] := by
  obtain ⟨ea, oa⟩ := onG2_is ha
  obtain ⟨eb, ob⟩ := onG2_is hb
  have hon := on_add2 ha hb
  rw [← hc] at hon
  rw [addG2_is] at hc
  generalize pG2 a = P at *
  generalize pG2 b = Q at *
  subst ea eb
  cases P with
  | none =>
    have e : c = gP2 Q := hc
    have r := su2A (gP2 none) (gP2 Q) c
    rw [if_pos rfl, eq_bits2 e] at r
    exact fn_sound rtK_ok Try.func31 r ⟨rfl, trivial⟩
  | some p =>
    cases Q with
    | none =>
      have e : c = gP2 (some p) := hc
      have r := su2B (gP2 (some p)) (gP2 none) c
      rw [if_pos rfl, eq_bits2 e] at r
      exact fn_sound rtK_ok Try.func31 r ⟨rfl, rfl, trivial⟩
    | some q =>
      obtain ⟨x1, y1⟩ := p
      obtain ⟨x2, y2⟩ := q
      have oa : y1 * y1 = x1 * x1 * x1 + fq4 := oa
      have ob : y2 * y2 = x2 * x2 * x2 + fq4 := ob
      by_cases hx : x1 = x2
      · subst hx
        by_cases hy : y1 = 0 - y2
        · have e0 : gadd (some (x1, y1)) (some (x1, y2)) = none := by
            show (if x1 = x1 then if y1 = y2 ∧ y1 ≠ 0 then _ else none else _) = _
            rw [if_pos rfl, if_neg]
            intro h
            rw [← h.1] at hy
            exact h.2 (opp_none two_ne_2 hy)
          rw [e0] at hc
          have r := su2C (gP2 (some (x1, y1))) (gP2 (some (x1, y2))) c
          have e1 : (decide (c.xa = 0) && (decide (c.xb = 0) && (decide (c.ya = 0) && (decide (c.yb = 0) && (c.inf == true))))) = true := eq_bits2 (b := ⟨0, 0, 0, 0, true⟩) hc
          rw [if_pos rfl, if_pos rfl, if_pos rfl, e1] at r
          refine fn_sound rtK_ok Try.func31 r ⟨rfl, rfl, outP2_same (x := x1) rfl, outP_lt _, outP_lt _, ?_, trivial⟩
          show (decide ((outP2 y1).1 = (negU2 (outP2 y2)).1) && decide ((outP2 y1).2 = (negU2 (outP2 y2)).2)) = true
          rw [negU2_out]
          exact outP2_same hy
        · obtain ⟨he, h0⟩ := opp_y (oa.trans ob.symm) hy
          have e0 : gadd (some (x1, y1)) (some (x1, y2)) = some (thr (thrice (x1 * x1)) (y1 + y1) x1 x1 y1) := by
            show (if x1 = x1 then if y1 = y2 ∧ y1 ≠ 0 then _ else none else _) = _
            rw [if_pos rfl, if_pos ⟨he, h0⟩]
          rw [e0] at hc
          have hd : y1 + y1 ≠ 0 := (twiceOn cv2 oa _ rfl).1
          have l1 := line1 (thrice (x1 * x1)) (y1 + y1) x1 x1 y1 hd
          have l2 := line2 (thrice (x1 * x1)) (y1 + y1) x1 x1 y1 hd
          generalize thr (thrice (x1 * x1)) (y1 + y1) x1 x1 y1 = R at hc l1 l2
          subst hc
          have r := su2D (gP2 (some (x1, y1))) (gP2 (some (x1, y2))) (gP2 (some R))
          rw [if_pos rfl, if_pos rfl] at r
          have hch := chP2_out (x1, y1) (x1, y1) R (y1 + y1) (thrice (x1 * x1)) l1 l2
          rw [← addP2_out, ← three2_out, ← mulP2_out] at hch
          refine fn_sound rtK_ok Try.func31 r ⟨rfl, rfl, outP2_same (x := x1) rfl, outP_lt _, outP_lt _, ?_, congrArg not hon, rfl, outP2_same (x := x1) rfl, outP_lt _, outP_lt _, outP_lt _, outP_lt _, cleanP_lt _, cleanP_lt _, cleanP_lt _, cleanP_lt _, outP_lt _, outP_lt _, hch, trivial⟩
          show (decide ((outP2 y1).1 = (negU2 (outP2 y2)).1) && decide ((outP2 y1).2 = (negU2 (outP2 y2)).2)) = false
          rw [negU2_out]
          exact outP2_ne hy
      · have e0 : gadd (some (x1, y1)) (some (x2, y2)) = some (thr (y2 - y1) (x2 - x1) x1 x2 y1) := by
          show (if x1 = x2 then if y1 = y2 ∧ y1 ≠ 0 then _ else none else _) = _
          rw [if_neg hx]
        rw [e0] at hc
        have hd : x2 - x1 ≠ 0 := fun e => hx (sub_zero_q e)
        have l1 := line1 (y2 - y1) (x2 - x1) x1 x2 y1 hd
        have l2 := line2 (y2 - y1) (x2 - x1) x1 x2 y1 hd
        generalize thr (y2 - y1) (x2 - x1) x1 x2 y1 = R at hc l1 l2
        subst hc
        have r := su2E (gP2 (some (x1, y1))) (gP2 (some (x2, y2))) (gP2 (some R))
        rw [if_pos rfl] at r
        have hch := chP2_out (x1, y1) (x2, y2) R (x2 - x1) (y2 - y1) l1 l2
        rw [← subP2_out, ← subP2_out] at hch
        have hne := outP2_ne hx
        exact fn_sound rtK_ok Try.func31 r ⟨rfl, rfl, hne, congrArg not hon, rfl, hne, outP_lt _, outP_lt _, outP_lt _, outP_lt _, cleanP_lt _, cleanP_lt _, cleanP_lt _, cleanP_lt _, outP_lt _, outP_lt _, hch, trivial⟩

end Go.Proofs.Ytkfcphigoncgjaa

/- TwoSums' and TwoGroup's laws, walked. No conditions. -/
namespace Go.Proofs.Ytkfcphigoncgjaa

def sum2Spec1 : FnSpec
  | [.v (.a [.ob (.fp a), .ob (.fp b), .ob (.fp c), .ob (.fp d), .bool i]), .v (.a [.ob (.fp e), .ob (.fp f), .ob (.fp g), .ob (.fp h), .bool j]), .v (.a [.ob (.fp k), .ob (.fp l), .ob (.fp m), .ob (.fp n), .bool o])] => some ([onG2 ⟨a, b, c, d, i⟩ = true, onG2 ⟨e, f, g, h, j⟩ = true, (⟨k, l, m, n, o⟩ : G2D) = addG2 ⟨a, b, c, d, i⟩ ⟨e, f, g, h, j⟩], .v (.c (.bool true)), [])
  | _ => none
noncomputable def rtL : Env := rtK.set (addT rtK.fn 31 sum2Spec1)
theorem rtL_ok : EnvOk Try.prog rtL := env_add rtK_ok 31 sum2Spec1 (enters_of Try.func31 rfl rfl) fun args o r es h ho => by
  unfold sum2Spec1 at h
  split at h
  · cases h; exact sum_fnd2 ⟨_, _, _, _, _⟩ ⟨_, _, _, _, _⟩ ⟨_, _, _, _, _⟩ ho.1 ho.2.1 ho.2.2.1
  · cases h
--@env rtL rtL_ok
theorem tsA (a b : G2D) : fnRes rtL Try.f5 3000 [.v (.a a.its),.v (.a b.its)] [true,false,false,false,false,false,false,true,true] [] [] = (some ([((ite (false = true) ((onG2 a) == ((Prod.snd (neR2 a)) == (0:Int))) (Bool.not ((onG2 a) == ((Prod.snd (neR2 a)) == (0:Int))))) = false),((onG2 a) = true),((Fin.val (G2D.ya a)) < pN),((Fin.val (G2D.yb a)) < pN),((ite (false = true) (Bool.and (decide ((G2D.xa (Prod.fst (neR2 a))) = (G2D.xa a))) (Bool.and (decide ((G2D.xb (Prod.fst (neR2 a))) = (G2D.xb a))) (Bool.and (decide ((G2D.ya (Prod.fst (neR2 a))) = (Prod.fst (negU2 ((G2D.ya a),(G2D.yb a)))))) (Bool.and (decide ((G2D.yb (Prod.fst (neR2 a))) = (Prod.snd (negU2 ((G2D.ya a),(G2D.yb a)))))) ((G2D.inf (Prod.fst (neR2 a))) == (G2D.inf a)))))) (Bool.not (Bool.and (decide ((G2D.xa (Prod.fst (neR2 a))) = (G2D.xa a))) (Bool.and (decide ((G2D.xb (Prod.fst (neR2 a))) = (G2D.xb a))) (Bool.and (decide ((G2D.ya (Prod.fst (neR2 a))) = (Prod.fst (negU2 ((G2D.ya a),(G2D.yb a)))))) (Bool.and (decide ((G2D.yb (Prod.fst (neR2 a))) = (Prod.snd (negU2 ((G2D.ya a),(G2D.yb a)))))) ((G2D.inf (Prod.fst (neR2 a))) == (G2D.inf a)))))))) = false),((Bool.not (onG2 a)) = false),((Bool.not (onG2 a)) = false),((Bool.not (onG2 b)) = false),(true = true),(((Prod.snd (adR2 a b)) == (0:Int)) = true),((onG2 a) = true),((onG2 b) = true),((Prod.fst (adR2 a b)) = (addG2 a b))],((.v (.c (.bool true))),[]))) := by kernel_rfl
theorem tsB (a b : G2D) : fnRes rtL Try.f5 3000 [.v (.a a.its),.v (.a b.its)] [true,false,false,false,false,false,true,true,true] [] [] = (some ([((ite (false = true) ((onG2 a) == ((Prod.snd (neR2 a)) == (0:Int))) (Bool.not ((onG2 a) == ((Prod.snd (neR2 a)) == (0:Int))))) = false),((onG2 a) = true),((Fin.val (G2D.ya a)) < pN),((Fin.val (G2D.yb a)) < pN),((ite (false = true) (Bool.and (decide ((G2D.xa (Prod.fst (neR2 a))) = (G2D.xa a))) (Bool.and (decide ((G2D.xb (Prod.fst (neR2 a))) = (G2D.xb a))) (Bool.and (decide ((G2D.ya (Prod.fst (neR2 a))) = (Prod.fst (negU2 ((G2D.ya a),(G2D.yb a)))))) (Bool.and (decide ((G2D.yb (Prod.fst (neR2 a))) = (Prod.snd (negU2 ((G2D.ya a),(G2D.yb a)))))) ((G2D.inf (Prod.fst (neR2 a))) == (G2D.inf a)))))) (Bool.not (Bool.and (decide ((G2D.xa (Prod.fst (neR2 a))) = (G2D.xa a))) (Bool.and (decide ((G2D.xb (Prod.fst (neR2 a))) = (G2D.xb a))) (Bool.and (decide ((G2D.ya (Prod.fst (neR2 a))) = (Prod.fst (negU2 ((G2D.ya a),(G2D.yb a)))))) (Bool.and (decide ((G2D.yb (Prod.fst (neR2 a))) = (Prod.snd (negU2 ((G2D.ya a),(G2D.yb a)))))) ((G2D.inf (Prod.fst (neR2 a))) == (G2D.inf a)))))))) = false),((Bool.not (onG2 a)) = false),((Bool.not (onG2 a)) = false),((Bool.not (onG2 b)) = true),(true = true),(((Prod.snd (adR2 a b)) == (30:Int)) = true)],((.v (.c (.bool (ite (true = true) (Bool.and (decide ((G2D.xa (Prod.fst (adR2 a b))) = (0:U6))) (Bool.and (decide ((G2D.xb (Prod.fst (adR2 a b))) = (0:U6))) (Bool.and (decide ((G2D.ya (Prod.fst (adR2 a b))) = (0:U6))) (Bool.and (decide ((G2D.yb (Prod.fst (adR2 a b))) = (0:U6))) ((G2D.inf (Prod.fst (adR2 a b))) == false))))) (Bool.not (Bool.and (decide ((G2D.xa (Prod.fst (adR2 a b))) = (0:U6))) (Bool.and (decide ((G2D.xb (Prod.fst (adR2 a b))) = (0:U6))) (Bool.and (decide ((G2D.ya (Prod.fst (adR2 a b))) = (0:U6))) (Bool.and (decide ((G2D.yb (Prod.fst (adR2 a b))) = (0:U6))) ((G2D.inf (Prod.fst (adR2 a b))) == false)))))))))),[]))) := by kernel_rfl
theorem tsC (a b : G2D) : fnRes rtL Try.f5 3000 [.v (.a a.its),.v (.a b.its)] [false,false,false,true,false,false,true,true,true] [] [] = (some ([((ite (false = true) ((onG2 a) == ((Prod.snd (neR2 a)) == (0:Int))) (Bool.not ((onG2 a) == ((Prod.snd (neR2 a)) == (0:Int))))) = false),((onG2 a) = false),((Bool.not (onG2 a)) = true),(((Prod.snd (neR2 a)) != (30:Int)) = false),((ite (false = true) (Bool.and (decide ((G2D.xa (Prod.fst (neR2 a))) = (0:U6))) (Bool.and (decide ((G2D.xb (Prod.fst (neR2 a))) = (0:U6))) (Bool.and (decide ((G2D.ya (Prod.fst (neR2 a))) = (0:U6))) (Bool.and (decide ((G2D.yb (Prod.fst (neR2 a))) = (0:U6))) ((G2D.inf (Prod.fst (neR2 a))) == false))))) (Bool.not (Bool.and (decide ((G2D.xa (Prod.fst (neR2 a))) = (0:U6))) (Bool.and (decide ((G2D.xb (Prod.fst (neR2 a))) = (0:U6))) (Bool.and (decide ((G2D.ya (Prod.fst (neR2 a))) = (0:U6))) (Bool.and (decide ((G2D.yb (Prod.fst (neR2 a))) = (0:U6))) ((G2D.inf (Prod.fst (neR2 a))) == false))))))) = false),((Bool.not (onG2 a)) = true),(true = true),(((Prod.snd (adR2 a b)) == (30:Int)) = true)],((.v (.c (.bool (ite (true = true) (Bool.and (decide ((G2D.xa (Prod.fst (adR2 a b))) = (0:U6))) (Bool.and (decide ((G2D.xb (Prod.fst (adR2 a b))) = (0:U6))) (Bool.and (decide ((G2D.ya (Prod.fst (adR2 a b))) = (0:U6))) (Bool.and (decide ((G2D.yb (Prod.fst (adR2 a b))) = (0:U6))) ((G2D.inf (Prod.fst (adR2 a b))) == false))))) (Bool.not (Bool.and (decide ((G2D.xa (Prod.fst (adR2 a b))) = (0:U6))) (Bool.and (decide ((G2D.xb (Prod.fst (adR2 a b))) = (0:U6))) (Bool.and (decide ((G2D.ya (Prod.fst (adR2 a b))) = (0:U6))) (Bool.and (decide ((G2D.yb (Prod.fst (adR2 a b))) = (0:U6))) ((G2D.inf (Prod.fst (adR2 a b))) == false)))))))))),[]))) := by kernel_rfl
theorem ao2R (a b c d e f g h : U6) (i j : Bool) : fnRes rtL Try.f32 3000 [.v (.a [.ob (.fp a),.ob (.fp b),.ob (.fp c),.ob (.fp d),.bool i]),.v (.a [.ob (.fp e),.ob (.fp f),.ob (.fp g),.ob (.fp h),.bool j])] [] [] [] = (some ([],((.v (.a [(.ob (.fp (G2D.xa (Prod.fst (adR2 (G2D.mk a b c d i) (G2D.mk e f g h j)))))),(.ob (.fp (G2D.xb (Prod.fst (adR2 (G2D.mk a b c d i) (G2D.mk e f g h j)))))),(.ob (.fp (G2D.ya (Prod.fst (adR2 (G2D.mk a b c d i) (G2D.mk e f g h j)))))),(.ob (.fp (G2D.yb (Prod.fst (adR2 (G2D.mk a b c d i) (G2D.mk e f g h j)))))),(.bool (G2D.inf (Prod.fst (adR2 (G2D.mk a b c d i) (G2D.mk e f g h j)))))])),[]))) := by kernel_rfl
def addo2Spec1 : FnSpec
  | [.v (.a [.ob (.fp a), .ob (.fp b), .ob (.fp c), .ob (.fp d), .bool i]), .v (.a [.ob (.fp e), .ob (.fp f), .ob (.fp g), .ob (.fp h), .bool j])] => some ([], .v (.a (adR2 ⟨a, b, c, d, i⟩ ⟨e, f, g, h, j⟩).1.its), [])
  | _ => none
noncomputable def rtM : Env := rtL.set (addT rtL.fn 32 addo2Spec1)
theorem rtM_ok : EnvOk Try.prog rtM := env_add rtL_ok 32 addo2Spec1 (enters_of Try.func32 rfl rfl) fun args o r es h _ => by
  unfold addo2Spec1 at h
  split at h
  · cases h; exact fn_sound rtL_ok Try.func32 (ao2R _ _ _ _ _ _ _ _ _ _) trivial
  · cases h
--@env rtM rtM_ok
theorem tqA (a b c : G2D) : fnRes rtM Try.f6 3000 [.v (.a a.its),.v (.a b.its),.v (.a c.its)] [false,false,false,true,true,true,true,true,true,true] [] [] = (some ([((Bool.not (onG2 a)) = false),((Bool.not (onG2 b)) = false),((Bool.not (onG2 c)) = false),(true = true),(((Prod.snd (neR2 a)) == (0:Int)) = true),((ite (true = true) (Bool.and (decide ((G2D.xa (Prod.fst (adR2 a b))) = (G2D.xa (Prod.fst (adR2 b a))))) (Bool.and (decide ((G2D.xb (Prod.fst (adR2 a b))) = (G2D.xb (Prod.fst (adR2 b a))))) (Bool.and (decide ((G2D.ya (Prod.fst (adR2 a b))) = (G2D.ya (Prod.fst (adR2 b a))))) (Bool.and (decide ((G2D.yb (Prod.fst (adR2 a b))) = (G2D.yb (Prod.fst (adR2 b a))))) ((G2D.inf (Prod.fst (adR2 a b))) == (G2D.inf (Prod.fst (adR2 b a)))))))) (Bool.not (Bool.and (decide ((G2D.xa (Prod.fst (adR2 a b))) = (G2D.xa (Prod.fst (adR2 b a))))) (Bool.and (decide ((G2D.xb (Prod.fst (adR2 a b))) = (G2D.xb (Prod.fst (adR2 b a))))) (Bool.and (decide ((G2D.ya (Prod.fst (adR2 a b))) = (G2D.ya (Prod.fst (adR2 b a))))) (Bool.and (decide ((G2D.yb (Prod.fst (adR2 a b))) = (G2D.yb (Prod.fst (adR2 b a))))) ((G2D.inf (Prod.fst (adR2 a b))) == (G2D.inf (Prod.fst (adR2 b a)))))))))) = true),((ite (true = true) (Bool.and (decide ((G2D.xa (Prod.fst (adR2 (Prod.fst (adR2 a b)) c))) = (G2D.xa (Prod.fst (adR2 a (Prod.fst (adR2 b c))))))) (Bool.and (decide ((G2D.xb (Prod.fst (adR2 (Prod.fst (adR2 a b)) c))) = (G2D.xb (Prod.fst (adR2 a (Prod.fst (adR2 b c))))))) (Bool.and (decide ((G2D.ya (Prod.fst (adR2 (Prod.fst (adR2 a b)) c))) = (G2D.ya (Prod.fst (adR2 a (Prod.fst (adR2 b c))))))) (Bool.and (decide ((G2D.yb (Prod.fst (adR2 (Prod.fst (adR2 a b)) c))) = (G2D.yb (Prod.fst (adR2 a (Prod.fst (adR2 b c))))))) ((G2D.inf (Prod.fst (adR2 (Prod.fst (adR2 a b)) c))) == (G2D.inf (Prod.fst (adR2 a (Prod.fst (adR2 b c)))))))))) (Bool.not (Bool.and (decide ((G2D.xa (Prod.fst (adR2 (Prod.fst (adR2 a b)) c))) = (G2D.xa (Prod.fst (adR2 a (Prod.fst (adR2 b c))))))) (Bool.and (decide ((G2D.xb (Prod.fst (adR2 (Prod.fst (adR2 a b)) c))) = (G2D.xb (Prod.fst (adR2 a (Prod.fst (adR2 b c))))))) (Bool.and (decide ((G2D.ya (Prod.fst (adR2 (Prod.fst (adR2 a b)) c))) = (G2D.ya (Prod.fst (adR2 a (Prod.fst (adR2 b c))))))) (Bool.and (decide ((G2D.yb (Prod.fst (adR2 (Prod.fst (adR2 a b)) c))) = (G2D.yb (Prod.fst (adR2 a (Prod.fst (adR2 b c))))))) ((G2D.inf (Prod.fst (adR2 (Prod.fst (adR2 a b)) c))) == (G2D.inf (Prod.fst (adR2 a (Prod.fst (adR2 b c)))))))))))) = true),((ite (true = true) (Bool.and (decide ((G2D.xa (Prod.fst (adR2 a (G2D.mk (0:U6) (0:U6) (0:U6) (0:U6) true)))) = (G2D.xa a))) (Bool.and (decide ((G2D.xb (Prod.fst (adR2 a (G2D.mk (0:U6) (0:U6) (0:U6) (0:U6) true)))) = (G2D.xb a))) (Bool.and (decide ((G2D.ya (Prod.fst (adR2 a (G2D.mk (0:U6) (0:U6) (0:U6) (0:U6) true)))) = (G2D.ya a))) (Bool.and (decide ((G2D.yb (Prod.fst (adR2 a (G2D.mk (0:U6) (0:U6) (0:U6) (0:U6) true)))) = (G2D.yb a))) ((G2D.inf (Prod.fst (adR2 a (G2D.mk (0:U6) (0:U6) (0:U6) (0:U6) true)))) == (G2D.inf a)))))) (Bool.not (Bool.and (decide ((G2D.xa (Prod.fst (adR2 a (G2D.mk (0:U6) (0:U6) (0:U6) (0:U6) true)))) = (G2D.xa a))) (Bool.and (decide ((G2D.xb (Prod.fst (adR2 a (G2D.mk (0:U6) (0:U6) (0:U6) (0:U6) true)))) = (G2D.xb a))) (Bool.and (decide ((G2D.ya (Prod.fst (adR2 a (G2D.mk (0:U6) (0:U6) (0:U6) (0:U6) true)))) = (G2D.ya a))) (Bool.and (decide ((G2D.yb (Prod.fst (adR2 a (G2D.mk (0:U6) (0:U6) (0:U6) (0:U6) true)))) = (G2D.yb a))) ((G2D.inf (Prod.fst (adR2 a (G2D.mk (0:U6) (0:U6) (0:U6) (0:U6) true)))) == (G2D.inf a)))))))) = true),((ite (true = true) (Bool.and (decide ((G2D.xa (Prod.fst (adR2 a (Prod.fst (neR2 a))))) = (G2D.xa (G2D.mk (0:U6) (0:U6) (0:U6) (0:U6) true)))) (Bool.and (decide ((G2D.xb (Prod.fst (adR2 a (Prod.fst (neR2 a))))) = (G2D.xb (G2D.mk (0:U6) (0:U6) (0:U6) (0:U6) true)))) (Bool.and (decide ((G2D.ya (Prod.fst (adR2 a (Prod.fst (neR2 a))))) = (G2D.ya (G2D.mk (0:U6) (0:U6) (0:U6) (0:U6) true)))) (Bool.and (decide ((G2D.yb (Prod.fst (adR2 a (Prod.fst (neR2 a))))) = (G2D.yb (G2D.mk (0:U6) (0:U6) (0:U6) (0:U6) true)))) ((G2D.inf (Prod.fst (adR2 a (Prod.fst (neR2 a))))) == (G2D.inf (G2D.mk (0:U6) (0:U6) (0:U6) (0:U6) true))))))) (Bool.not (Bool.and (decide ((G2D.xa (Prod.fst (adR2 a (Prod.fst (neR2 a))))) = (G2D.xa (G2D.mk (0:U6) (0:U6) (0:U6) (0:U6) true)))) (Bool.and (decide ((G2D.xb (Prod.fst (adR2 a (Prod.fst (neR2 a))))) = (G2D.xb (G2D.mk (0:U6) (0:U6) (0:U6) (0:U6) true)))) (Bool.and (decide ((G2D.ya (Prod.fst (adR2 a (Prod.fst (neR2 a))))) = (G2D.ya (G2D.mk (0:U6) (0:U6) (0:U6) (0:U6) true)))) (Bool.and (decide ((G2D.yb (Prod.fst (adR2 a (Prod.fst (neR2 a))))) = (G2D.yb (G2D.mk (0:U6) (0:U6) (0:U6) (0:U6) true)))) ((G2D.inf (Prod.fst (adR2 a (Prod.fst (neR2 a))))) == (G2D.inf (G2D.mk (0:U6) (0:U6) (0:U6) (0:U6) true))))))))) = true),((ite (true = true) (Bool.and (decide ((G2D.xa (Prod.fst (adR2 (Prod.fst (adR2 a b)) (Prod.fst (neR2 a))))) = (G2D.xa b))) (Bool.and (decide ((G2D.xb (Prod.fst (adR2 (Prod.fst (adR2 a b)) (Prod.fst (neR2 a))))) = (G2D.xb b))) (Bool.and (decide ((G2D.ya (Prod.fst (adR2 (Prod.fst (adR2 a b)) (Prod.fst (neR2 a))))) = (G2D.ya b))) (Bool.and (decide ((G2D.yb (Prod.fst (adR2 (Prod.fst (adR2 a b)) (Prod.fst (neR2 a))))) = (G2D.yb b))) ((G2D.inf (Prod.fst (adR2 (Prod.fst (adR2 a b)) (Prod.fst (neR2 a))))) == (G2D.inf b)))))) (Bool.not (Bool.and (decide ((G2D.xa (Prod.fst (adR2 (Prod.fst (adR2 a b)) (Prod.fst (neR2 a))))) = (G2D.xa b))) (Bool.and (decide ((G2D.xb (Prod.fst (adR2 (Prod.fst (adR2 a b)) (Prod.fst (neR2 a))))) = (G2D.xb b))) (Bool.and (decide ((G2D.ya (Prod.fst (adR2 (Prod.fst (adR2 a b)) (Prod.fst (neR2 a))))) = (G2D.ya b))) (Bool.and (decide ((G2D.yb (Prod.fst (adR2 (Prod.fst (adR2 a b)) (Prod.fst (neR2 a))))) = (G2D.yb b))) ((G2D.inf (Prod.fst (adR2 (Prod.fst (adR2 a b)) (Prod.fst (neR2 a))))) == (G2D.inf b)))))))) = true)],((.v (.c (.bool (onG2 (Prod.fst (adR2 a b)))))),[]))) := by kernel_rfl
theorem tqB (a b c : G2D) : fnRes rtM Try.f6 3000 [.v (.a a.its),.v (.a b.its),.v (.a c.its)] [true,true] [] [] = (some ([((Bool.not (onG2 a)) = true)],((.v (.c (.bool true))),[]))) := by kernel_rfl
theorem tqC (a b c : G2D) : fnRes rtM Try.f6 3000 [.v (.a a.its),.v (.a b.its),.v (.a c.its)] [false,true] [] [] = (some ([((Bool.not (onG2 a)) = false),((Bool.not (onG2 b)) = true)],((.v (.c (.bool true))),[]))) := by kernel_rfl
theorem tqD (a b c : G2D) : fnRes rtM Try.f6 3000 [.v (.a a.its),.v (.a b.its),.v (.a c.its)] [false,false,true] [] [] = (some ([((Bool.not (onG2 a)) = false),((Bool.not (onG2 b)) = false),((Bool.not (onG2 c)) = true)],((.v (.c (.bool true))),[]))) := by kernel_rfl
end Go.Proofs.Ytkfcphigoncgjaa

/- TwoSums' and TwoGroup's laws return true. No conditions. -/
namespace Go.Proofs.Ytkfcphigoncgjaa

theorem negU2_zero : negU2 (0, 0) = (0, 0) := by
  unfold negU2
  dsimp only
  rw [negU_zero]
theorem on_y2 {a : G2D} (ha : onG2 a = true) : a.ya.val < pN ∧ a.yb.val < pN := by
  rw [← (onG2_is ha).1]
  cases pG2 a with
  | none => exact ⟨by decide, by decide⟩
  | some p => exact ⟨outP_lt _, outP_lt _⟩
theorem neg2_ref {a : G2D} (ha : onG2 a = true) : negG2 a = ⟨a.xa, a.xb, (negU2 (a.ya, a.yb)).1, (negU2 (a.ya, a.yb)).2, a.inf⟩ := by
  obtain ⟨e, -⟩ := onG2_is ha
  rw [negG2_is]
  generalize pG2 a = P at *
  subst e
  cases P with
  | none =>
    show (⟨0, 0, 0, 0, true⟩ : G2D) = ⟨0, 0, negU 0, negU 0, true⟩
    rw [negU_zero]
  | some p =>
    show (⟨outP p.1.1, outP p.1.2, outP (0 - p.2.1), outP (0 - p.2.2), false⟩ : G2D) = ⟨outP p.1.1, outP p.1.2, negU (outP p.2.1), negU (outP p.2.2), false⟩
    rw [negU_out, negU_out]

theorem twoSums_fnd (a b : G2D) : FnD Try.prog 5 [.v (.a a.its), .v (.a b.its)] (.v (.c (.bool true))) [] := by
  by_cases ha : onG2 a = true
  · have hn := neR2_on ha
    have hb0 : (decide ((neR2 a).1.xa = a.xa) && (decide ((neR2 a).1.xb = a.xb) && (decide ((neR2 a).1.ya = (negU2 (a.ya, a.yb)).1) && (decide ((neR2 a).1.yb = (negU2 (a.ya, a.yb)).2) && ((neR2 a).1.inf == a.inf))))) = true := eq_bits2 (b := ⟨a.xa, a.xb, (negU2 (a.ya, a.yb)).1, (negU2 (a.ya, a.yb)).2, a.inf⟩) (by rw [hn]; exact neg2_ref ha)
    by_cases hb : onG2 b = true
    · have hd := adR2_on ha hb
      refine fn_sound rtL_ok Try.func5 (tsA a b) ⟨by rw [ha, hn]; rfl, ha, (on_y2 ha).1, (on_y2 ha).2, by rw [hb0]; rfl, by rw [ha]; rfl, by rw [ha]; rfl, by rw [hb]; rfl, rfl, by rw [hd]; rfl, ha, hb, by rw [hd], trivial⟩
    · have hb : onG2 b = false := Bool.eq_false_iff.2 hb
      have hd := adR2_off2 (a := a) hb
      have r := tsB a b
      have hz : (decide ((adR2 a b).1.xa = 0) && (decide ((adR2 a b).1.xb = 0) && (decide ((adR2 a b).1.ya = 0) && (decide ((adR2 a b).1.yb = 0) && ((adR2 a b).1.inf == false))))) = true := eq_bits2 (b := g20) (by rw [hd])
      rw [if_pos rfl, hz] at r
      exact fn_sound rtL_ok Try.func5 r ⟨by rw [ha, hn]; rfl, ha, (on_y2 ha).1, (on_y2 ha).2, by rw [hb0]; rfl, by rw [ha]; rfl, by rw [ha]; rfl, by rw [hb]; rfl, rfl, by rw [hd]; rfl, trivial⟩
  · have ha : onG2 a = false := Bool.eq_false_iff.2 ha
    have hn := neR2_off ha
    have hd := adR2_off1 (b := b) ha
    have r := tsC a b
    have hz : (decide ((adR2 a b).1.xa = 0) && (decide ((adR2 a b).1.xb = 0) && (decide ((adR2 a b).1.ya = 0) && (decide ((adR2 a b).1.yb = 0) && ((adR2 a b).1.inf == false))))) = true := eq_bits2 (b := g20) (by rw [hd])
    have hb0 : (decide ((neR2 a).1.xa = 0) && (decide ((neR2 a).1.xb = 0) && (decide ((neR2 a).1.ya = 0) && (decide ((neR2 a).1.yb = 0) && ((neR2 a).1.inf == false))))) = true := eq_bits2 (b := g20) (by rw [hn])
    rw [if_pos rfl, hz] at r
    exact fn_sound rtL_ok Try.func5 r ⟨by rw [ha, hn]; rfl, ha, by rw [ha]; rfl, by rw [hn]; rfl, by rw [hb0]; rfl, by rw [ha]; rfl, rfl, by rw [hd]; rfl, trivial⟩

theorem addG2_back {a b : G2D} (ha : onG2 a = true) (hb : onG2 b = true) : addG2 (addG2 a b) (negG2 a) = b := by
  rw [addG2_comm ha hb, addG2_assoc hb ha (on_neg2 ha), addG2_neg ha, addG2_zero hb]

theorem twoGroup_fnd (a b c : G2D) : FnD Try.prog 6 [.v (.a a.its), .v (.a b.its), .v (.a c.its)] (.v (.c (.bool true))) [] := by
  by_cases ha : onG2 a = true
  · by_cases hb : onG2 b = true
    · by_cases hc : onG2 c = true
      · have hab := on_add2 ha hb
        have hbc := on_add2 hb hc
        have hna := on_neg2 ha
        have r := tqA a b c
        rw [adR2_on ha hb, adR2_on hb ha, adR2_on hb hc, neR2_on ha, adR2_on hab hc, adR2_on ha hbc, adR2_on ha on_zero2, adR2_on ha hna, adR2_on hab hna, hab] at r
        exact fn_sound rtM_ok Try.func6 r ⟨by rw [ha]; rfl, by rw [hb]; rfl, by rw [hc]; rfl, rfl, rfl, by rw [if_pos rfl]; exact eq_bits2 (addG2_comm ha hb), by rw [if_pos rfl]; exact eq_bits2 (addG2_assoc ha hb hc),
          by rw [if_pos rfl]; exact eq_bits2 (addG2_zero ha), by rw [if_pos rfl]; exact eq_bits2 (addG2_neg ha), by rw [if_pos rfl]; exact eq_bits2 (addG2_back ha hb), trivial⟩
      · have hc : onG2 c = false := Bool.eq_false_iff.2 hc
        exact fn_sound rtM_ok Try.func6 (tqD a b c) ⟨by rw [ha]; rfl, by rw [hb]; rfl, by rw [hc]; rfl, trivial⟩
    · have hb : onG2 b = false := Bool.eq_false_iff.2 hb
      exact fn_sound rtM_ok Try.func6 (tqC a b c) ⟨by rw [ha]; rfl, by rw [hb]; rfl, trivial⟩
  · have ha : onG2 a = false := Bool.eq_false_iff.2 ha
    exact fn_sound rtM_ok Try.func6 (tqB a b c) ⟨by rw [ha]; rfl, trivial⟩

end Go.Proofs.Ytkfcphigoncgjaa

/- Digits of a number, handed on: walked. No conditions. -/
namespace Go.Proofs.Ytkfcphigoncgjaa
section
variable {w0 : World} {F0 : Nat → Prop} {K : Kp} {ac : List Act} {Q : Exit → Act → World → Prop} {cX : Ctx} {aX : Act}

--@env qrJ qrJ_ok
noncomputable def dg_k : List KI := (run qrJ false 3000 ((fun (l : Nat) (k : U4) => (⟨[.code (bodyOf Try.f138)], .normal, ⟨argT [.v (.c (.val (.func (.yield l) #[] #[]))), .v (.c (.ptr 0 0))], one (.fl [.ob (.fr k)]), Try.f138.ntmps, 16, []⟩⟩ : Cfg)) default default) []).cfg.k
theorem dg_hk (l : Nat) (k : U4) : (run qrJ false 3000 ((⟨[.code (bodyOf Try.f138)], .normal, ⟨argT [.v (.c (.val (.func (.yield l) #[] #[]))), .v (.c (.ptr 0 0))], one (.fl [.ob (.fr k)]), Try.f138.ntmps, 16, []⟩⟩ : Cfg)) []).cfg.k = dg_k := by kernel_rfl
theorem dg (l : Nat) (k : U4) (ho : AllP []) (hs : Sim w0 F0 K ac (⟨argT [.v (.c (.val (.func (.yield l) #[] #[]))),.v (.c (.ptr 0 0))],one (.fl [.ob (.fr k)]),Try.f138.ntmps,16,[]⟩) cX aX) (hK : ∀ ac cY aY,Sim w0 F0 K ac (mkSt 32 [0,1,3,4] [(.v (.c (.val (Value.func (Fn.yield l) (Array.mk ([] : List Value)) (Array.mk ([] : List Value)))))),.pt 0 0,(.v (.c (.lit false))),.ii (63:Int)] [0] [(some (.fl [.ob (.fr k)]))] 48 [] []) cY aY → Wq Try.prog Q (dg_k) ac Exit.normal aY cY.w) : Wq Try.prog Q ([.code (bodyOf Try.f138)]) ac .normal aX cX.w :=
  run_at2 (o := ⟨_, _, _, _, _, _, _⟩) qrJ_ok (by kernel_rfl) (dg_hk l k) ho hs hK
noncomputable def dgS (l : Nat) (k : U4) (g : Bool) (i:Int) : St := mkSt 32 [0,1,3,4] [(.v (.c (.val (Value.func (Fn.yield l) (Array.mk ([] : List Value)) (Array.mk ([] : List Value)))))),.pt 0 0,.v (.c (.bool g)),.v (.c (.int .i64 i))] [0] [(some (.fl [.ob (.fr k)]))] 48 [] []
noncomputable def dgY_k : List KI := (run qrJ false 3000 ((fun (l : Nat) (k : U4) (g : Bool) (i : Int) => (⟨lpIn dg_k, .normal, dgS l k g i⟩ : Cfg)) default default default default) [true, true, true]).cfg.k
theorem dgY_hk (l : Nat) (k : U4) (g : Bool) (i : Int) : (run qrJ false 3000 ((⟨lpIn dg_k, .normal, dgS l k g i⟩ : Cfg)) [true, true, true]).cfg.k = dgY_k := by kernel_rfl
theorem dgY (l : Nat) (k : U4) (g : Bool) (i:Int) (ho : AllP [((decide (i ≥ (0:Int))) = true),((16:Int) ≠ (0:Int)),((0:Int) ≤ (IntKind.wrap .i64 (Int.tdiv i (16:Int)))),((IntKind.wrap .i64 (Int.tdiv i (16:Int))) < (4:Int)),((0 + (((IntKind.wrap .i64 (Int.tdiv i (16:Int)))).toNat * 1)) < (Ob.k (.fr k))),((16:Int) ≠ (0:Int)),((0:Int) ≤ (IntKind.wrap .i64 ((4:Int) * (Int.tmod i (16:Int))))),(g = true)]) (hs : Sim w0 F0 K ac (dgS l k g i) cX aX) (hK : ∀ ac cY aY,Sim w0 F0 K ac (mkSt 32 [0,1,3,4,26,27,28] [(.v (.c (.val (Value.func (Fn.yield l) (Array.mk ([] : List Value)) (Array.mk ([] : List Value)))))),.pt 0 0,(.v (.c (.lit true))),.ii i,(.v (.c (.lit true))),(.v (.c (.val (Value.func (Fn.yield l) (Array.mk ([] : List Value)) (Array.mk ([] : List Value)))))),(.ii (IntKind.wrap .i64 (bitsOp BinOp.and IntKind.u64 (Int.fdiv (limb (Ob.n (.fr k)) (0 + (((IntKind.wrap .i64 (Int.tdiv i (16:Int)))).toNat * 1))) ((2:Int) ^ (Min.min ((IntKind.wrap .i64 ((4:Int) * (Int.tmod i (16:Int))))).toNat 64))) (15:Int))))] [0] [(some (.fl [.ob (.fr k)]))] 416 [] []) cY aY → Wq Try.prog Q (dgY_k) ac Exit.normal aY cY.w) : Wq Try.prog Q (lpIn dg_k) ac .normal aX cX.w :=
  run_at2 (o := ⟨_, _, _, _, _, _, _⟩) qrJ_ok (by kernel_rfl) (dgY_hk l k g i) ho hs hK
theorem dgZ_hk (l : Nat) (k : U4) (g : Bool) (i : Int) : (run qrJ false 3000 ((⟨lpIn dg_k, .normal, dgS l k g i⟩ : Cfg)) [true, false, true]).cfg.k = dgY_k := by kernel_rfl
theorem dgZ (l : Nat) (k : U4) (g : Bool) (i:Int) (ho : AllP [((decide (i ≥ (0:Int))) = true),((16:Int) ≠ (0:Int)),((0:Int) ≤ (IntKind.wrap .i64 (Int.tdiv i (16:Int)))),((IntKind.wrap .i64 (Int.tdiv i (16:Int))) < (4:Int)),((0 + (((IntKind.wrap .i64 (Int.tdiv i (16:Int)))).toNat * 1)) < (Ob.k (.fr k))),((16:Int) ≠ (0:Int)),((0:Int) ≤ (IntKind.wrap .i64 ((4:Int) * (Int.tmod i (16:Int))))),(g = false),((decide ((IntKind.wrap .i64 (bitsOp BinOp.and IntKind.u64 (Int.fdiv (limb (Ob.n (.fr k)) (0 + (((IntKind.wrap .i64 (Int.tdiv i (16:Int)))).toNat * 1))) ((2:Int) ^ (Min.min ((IntKind.wrap .i64 ((4:Int) * (Int.tmod i (16:Int))))).toNat 64))) (15:Int))) > (0:Int))) = true)]) (hs : Sim w0 F0 K ac (dgS l k g i) cX aX) (hK : ∀ ac cY aY,Sim w0 F0 K ac (mkSt 32 [0,1,3,4,26,27,28] [(.v (.c (.val (Value.func (Fn.yield l) (Array.mk ([] : List Value)) (Array.mk ([] : List Value)))))),.pt 0 0,(.v (.c (.bool (decide ((IntKind.wrap .i64 (bitsOp BinOp.and IntKind.u64 (Int.fdiv (limb (Ob.n (.fr k)) (0 + (((IntKind.wrap .i64 (Int.tdiv i (16:Int)))).toNat * 1))) ((2:Int) ^ (Min.min ((IntKind.wrap .i64 ((4:Int) * (Int.tmod i (16:Int))))).toNat 64))) (15:Int))) > (0:Int)))))),.ii i,(.v (.c (.lit true))),(.v (.c (.val (Value.func (Fn.yield l) (Array.mk ([] : List Value)) (Array.mk ([] : List Value)))))),(.ii (IntKind.wrap .i64 (bitsOp BinOp.and IntKind.u64 (Int.fdiv (limb (Ob.n (.fr k)) (0 + (((IntKind.wrap .i64 (Int.tdiv i (16:Int)))).toNat * 1))) ((2:Int) ^ (Min.min ((IntKind.wrap .i64 ((4:Int) * (Int.tmod i (16:Int))))).toNat 64))) (15:Int))))] [0] [(some (.fl [.ob (.fr k)]))] 416 [] []) cY aY → Wq Try.prog Q (dgY_k) ac Exit.normal aY cY.w) : Wq Try.prog Q (lpIn dg_k) ac .normal aX cX.w :=
  run_at2 (o := ⟨_, _, _, _, _, _, _⟩) qrJ_ok (by kernel_rfl) (dgZ_hk l k g i) ho hs hK
theorem dgN_hk (l : Nat) (k : U4) (g : Bool) (i : Int) : (run qrJ false 3000 ((⟨lpIn dg_k, .normal, dgS l k g i⟩ : Cfg)) [true, false, false]).cfg.k = lpBk dg_k := by kernel_rfl
theorem dgN (l : Nat) (k : U4) (g : Bool) (i:Int) (ho : AllP [((decide (i ≥ (0:Int))) = true),((16:Int) ≠ (0:Int)),((0:Int) ≤ (IntKind.wrap .i64 (Int.tdiv i (16:Int)))),((IntKind.wrap .i64 (Int.tdiv i (16:Int))) < (4:Int)),((0 + (((IntKind.wrap .i64 (Int.tdiv i (16:Int)))).toNat * 1)) < (Ob.k (.fr k))),((16:Int) ≠ (0:Int)),((0:Int) ≤ (IntKind.wrap .i64 ((4:Int) * (Int.tmod i (16:Int))))),(g = false),((decide ((IntKind.wrap .i64 (bitsOp BinOp.and IntKind.u64 (Int.fdiv (limb (Ob.n (.fr k)) (0 + (((IntKind.wrap .i64 (Int.tdiv i (16:Int)))).toNat * 1))) ((2:Int) ^ (Min.min ((IntKind.wrap .i64 ((4:Int) * (Int.tmod i (16:Int))))).toNat 64))) (15:Int))) > (0:Int))) = false)]) (hs : Sim w0 F0 K ac (dgS l k g i) cX aX) (hK : ∀ ac cY aY,Sim w0 F0 K ac (mkSt 32 [0,1,3,4] [(.v (.c (.val (Value.func (Fn.yield l) (Array.mk ([] : List Value)) (Array.mk ([] : List Value)))))),.pt 0 0,(.v (.c (.bool (decide ((IntKind.wrap .i64 (bitsOp BinOp.and IntKind.u64 (Int.fdiv (limb (Ob.n (.fr k)) (0 + (((IntKind.wrap .i64 (Int.tdiv i (16:Int)))).toNat * 1))) ((2:Int) ^ (Min.min ((IntKind.wrap .i64 ((4:Int) * (Int.tmod i (16:Int))))).toNat 64))) (15:Int))) > (0:Int)))))),(.ii (IntKind.wrap .i64 (i - (1:Int))))] [0] [(some (.fl [.ob (.fr k)]))] 512 [] []) cY aY → Wq Try.prog Q (lpBk dg_k) ac Exit.normal aY cY.w) : Wq Try.prog Q (lpIn dg_k) ac .normal aX cX.w :=
  run_at2 (o := ⟨_, _, _, _, _, _, _⟩) qrJ_ok (by kernel_rfl) (dgN_hk l k g i) ho hs hK
theorem dgX_hk (l : Nat) (k : U4) (g : Bool) (i : Int) : (run qrJ false 3000 ((⟨lpIn dg_k, .normal, dgS l k g i⟩ : Cfg)) [false]).cfg.k = [] := by kernel_rfl
theorem dgX (l : Nat) (k : U4) (g : Bool) (i:Int) (ho : AllP [((decide (i ≥ (0:Int))) = false)]) (hs : Sim w0 F0 K ac (dgS l k g i) cX aX) (hK : ∀ ac cY aY,Sim w0 F0 K ac (mkSt 32 [] [] [0] [(some (.fl [.ob (.fr k)]))] 80 [] []) cY aY → Wq Try.prog Q ([]) ac Exit.normal aY cY.w) : Wq Try.prog Q (lpIn dg_k) ac .normal aX cX.w :=
  run_at2 (o := ⟨_, _, _, _, _, _, _⟩) qrJ_ok (by kernel_rfl) (dgX_hk l k g i) ho hs hK
theorem dgB_hk (l : Nat) (k : U4) (i d : Int) : (run qrJ false 3000 ((⟨opsNext dgY_k, .normal, ⟨setT (look .top [0, 1, 3, 4, 26, 27, 28] [(.v (.c (.val (.func (.yield l) #[] #[])))), (.v (.c (.ptr 0 0))), (.v (.c (.bool true))), (.v (.c (.int .i64 i))), (.v (.c (.lit true))), (.v (.c (.val (.func (.yield l) #[] #[])))), (.v (.c (.int .i64 d)))]) 29 (.v (.c (.lit true))), one (.fl [.ob (.fr k)]), 32, 400, []⟩⟩ : Cfg)) []).cfg.k = lpBk dg_k := by kernel_rfl
theorem dgB (l : Nat) (k : U4) (i d:Int) (ho : AllP []) (hs : Sim w0 F0 K ac (⟨setT (look .top [0,1,3,4,26,27,28] [(.v (.c (.val (.func (.yield l) #[] #[])))),.pt 0 0,(.v (.c (.bool true))),.ii i,(.v (.c (.lit true))),(.v (.c (.val (.func (.yield l) #[] #[])))),.ii d]) 29 (.v (.c (.lit true))),one (.fl [.ob (.fr k)]),32,400,[]⟩) cX aX) (hK : ∀ ac cY aY,Sim w0 F0 K ac (mkSt 32 [0,1,3,4] [(.v (.c (.val (Value.func (Fn.yield l) (Array.mk ([] : List Value)) (Array.mk ([] : List Value)))))),.pt 0 0,(.v (.c (.bool true))),(.ii (IntKind.wrap .i64 (i - (1:Int))))] [0] [(some (.fl [.ob (.fr k)]))] 480 [] []) cY aY → Wq Try.prog Q (lpBk dg_k) ac Exit.normal aY cY.w) : Wq Try.prog Q (opsNext dgY_k) ac .normal aX cX.w :=
  run_at2 (o := ⟨_, _, _, _, _, _, _⟩) qrJ_ok (by kernel_rfl) (dgB_hk l k i d) ho hs hK
end
end Go.Proofs.Ytkfcphigoncgjaa

/- Digits handed on: contract. No conditions. -/
namespace Go.Proofs.Ytkfcphigoncgjaa

def dgEnc (d : Nat) : List Value := [.int .i64 (d : Int)]
def dgVals (d : Nat) : List SV := [.v (.c (.int .i64 (d : Int)))]

theorem digits_iter {x : Ctx} {p : Nat} {k : U4} {M : List Nat → Nat → Option En} (hM : ∀ s, M s p = some (.fl [.ob (.fr k)])) :
    IterC Try.prog x 138 [(p, 0)] dgEnc (dgT k.val 64) M := by
  intro l J W hgrow hread hyield hJ
  have key : Wq Try.prog (bodyPost Try.prog Try.f138 fun e' W' => (∃ v, e' = Ending.returned v) ∧ J (dgT k.val 64) W') [.code (bodyOf Try.f138)] [] .normal { tmps := [Value.func (.yield l) #[] #[], .pointer (some ⟨x.β p, 0, none⟩)].toArray ++ Array.replicate 30 undef, defers := [] } W := ?_
  · exact calls_of_wp (c := bodyOf Try.f138) Try.func138 rfl ((wpIn_wide (n := 0)).1 key.wp)
  obtain ⟨y, rfl, hm, hcp⟩ := hread [] W hJ
  obtain ⟨hr, hβ⟩ := hcp (p, 0) List.mem_cons_self
  have hr : y.k p = .real := hr
  have hβ : y.β p = x.β p := hβ
  have hargs : denSs (itCtx y p) [.v (.c (.val (.func (.yield l) #[] #[]))), .v (.c (.ptr 0 0))] [.func (.yield l) #[] #[], .pointer (some ⟨x.β p, 0, none⟩)] :=
    .cons ⟨rfl, 0, rfl, rfl⟩ (.cons ⟨rfl, 0, rfl, by show _ = [Value.pointer (some ⟨y.β p, 0, none⟩)]; rw [hβ]⟩ .nil)
  have hpure : ∀ y : Ctx, ∀ (cs : Array Value) ty, y.w.heap[y.β p]? = some (.cells cs ty (0, 0)) → denEn y (.fl [.ob (.fr k)]) cs.toList → denEn (itCtx y p) (.fl [.ob (.fr k)]) cs.toList := fun y cs ty _ h => pure_En rfl h
  have hs := it_sim (nx := 16) (nt := 32) (a := { tmps := [Value.func (.yield l) #[] #[], .pointer (some ⟨x.β p, 0, none⟩)].toArray ++ Array.replicate 30 undef, defers := [] }) hm (hM []) hr (hpure y) rfl (by simp) (argT_den hargs 30)
  change Wq Try.prog _ _ _ _ _ (itCtx y p).w
  refine dg l k trivial hs fun ac cY aY hs1 => ?_
  have hmb : Mem (itCtx y p) (one (.fl [.ob (.fr k)])) := it_mem hm (hM _) hr (hpure y)
  have hs2 := hs1.slots (svs' := [.v (.c (.val (.func (.yield l) #[] #[]))), .v (.c (.ptr 0 0)), .v (.c (.bool false)), .v (.c (.int .i64 63))]) ⟨fun _ h => h, fun _ h => h, fun _ h => lit_bool rfl h, fun _ h => h, trivial⟩
  let I : { t : Nat // t ≤ 64 } → List Act → Act → World → Prop := fun t ac a w => ∃ y z, z.w = w ∧ y.k p = .real ∧ y.β p = x.β p ∧ Mem y (M (dgT k.val t.1)) ∧ J (dgT k.val t.1) y.w ∧ Mem (itCtx y p) (one (.fl [.ob (.fr k)])) ∧ Sim y.w y.F (kPin (itCtx y p)) ac (dgS l k (!(dgT k.val t.1).isEmpty) ((63 : Int) - (t.1 : Int))) z a
  refine loop_inv I (fun t => 64 - t) (c := lpC dg_k) (k := lpR dg_k) (by kernel_rfl) (fun t ih ac b w hI => ?_) ⟨0, Nat.zero_le _⟩ ⟨y, cY, rfl, hr, hβ, hm, hJ, hmb, hs2.nx _⟩
  obtain ⟨t, ht⟩ := t
  obtain ⟨y, z, rfl, hr, hβ, hm, hJ, hmb, hs⟩ := hI
  simp only at hm hJ hs ih
  by_cases h : t < 64
  · obtain ⟨i, hi⟩ : ∃ i : Nat, i = 63 - t := ⟨_, rfl⟩
    have ei : (63 : Int) - (t : Int) = (i : Int) := by omega
    have hi64 : i < 64 := by omega
    rw [ei] at hs
    have hdig := dig_expr k hi64
    have hpl := dig_place hi64
    have ho1 : decide ((i : Int) ≥ 0) = true := decide_eq_true (by omega)
    have ho2 : (0 : Int) ≤ IntKind.wrap IntKind.i64 (Int.tdiv (i : Int) 16) := by rw [hpl]; omega
    have ho3 : IntKind.wrap IntKind.i64 (Int.tdiv (i : Int) 16) < 4 := by rw [hpl]; omega
    have ho4 : 0 + (IntKind.wrap IntKind.i64 (Int.tdiv (i : Int) 16)).toNat * 1 < Ob.k (Ob.fr k) := by rw [hpl]; show _ < 4; omega
    have ho5 := dig_shift i
    have e4 : IntKind.wrap IntKind.i64 ((i : Int) - 1) = (63 : Int) - ((t + 1 : Nat) : Int) := by rw [wrap_id (by omega) (by omega)]; omega
    obtain ⟨d, hd⟩ : ∃ d, k.val / 16 ^ i % 16 = d := ⟨_, rfl⟩
    rw [hd] at hdig
    have hd' : k.val / 16 ^ (63 - t) % 16 = d := by rw [← hi]; exact hd
    -- what is handed on
    have give : ∀ (ac : List Act) (cU : Ctx) (aU : Act), dgT k.val (t + 1) = dgT k.val t ++ [d] → Sim y.w y.F (kPin (itCtx y p)) ac (mkSt 32 [0, 1, 3, 4, 26, 27, 28] [.v (.c (.val (.func (.yield l) #[] #[]))), .v (.c (.ptr 0 0)), .v (.c (.bool true)), .v (.c (.int .i64 (i : Int))), .v (.c (.lit true)), .v (.c (.val (.func (.yield l) #[] #[]))), .v (.c (.int .i64 (d : Int)))] [0] [some (.fl [.ob (.fr k)])] 416 [] []) cU aU →
        Wq Try.prog (bodyPost Try.prog Try.f138 fun e' W' => (∃ v, e' = Ending.returned v) ∧ J (dgT k.val 64) W') dgY_k ac .normal aU cU.w := by
      intro ac cU aU e3 hs6
      obtain ⟨hg, hk2, hβ2⟩ := it_back hmb rfl hs6 rfl
      have hJ2 := hgrow _ _ _ hJ hg
      obtain ⟨r, hr1⟩ := dgT_pre k.val (m := 64) (t := t + 1) h
      refine yield_at (R := fun W' => J (dgT k.val (t + 1)) W') (dst := some 29) (f := .tmp 27) (args := [.tmp 28]) (by kernel_rfl) hs6 (l := l) rfl (vs := dgEnc d) ?_ ?_ fun W' hJ3 => ?_
      · have h21 := D_int (hs6.t 28)
        show [aU.tmps.getD 28 undef] = _
        rw [h21]
        rfl
      · have := hyield (dgT k.val t) d _ hJ2 ⟨r, by rw [hr1, e3, List.append_assoc]; rfl⟩
        rw [← e3] at this
        exact this
      · obtain ⟨y3, rfl, hm3, hc3⟩ := hread _ _ hJ3
        obtain ⟨hr3, hβ3⟩ := hc3 (p, 0) List.mem_cons_self
        have hr3 : y3.k p = .real := hr3
        have hβ3 : y3.β p = x.β p := hβ3
        have hmb3 : Mem (itCtx y3 p) (one (.fl [.ob (.fr k)])) := it_mem hm3 (hM _) hr3 (hpure y3)
        have hs7 := it_again (nx' := 400) (dst := 29) (b := true) hs6 (by kernel_rfl) rfl hm3 (hM _) hr3 (hpure y3) (by rw [hβ2, hβ]; exact hβ3.symm) (by decide)
        change Wq Try.prog _ _ _ _ _ (itCtx y3 p).w
        refine dgB l k _ _ trivial hs7 fun ac cT aT hs8 => ?_
        rw [e4] at hs8
        have hne : (!(dgT k.val (t + 1)).isEmpty) = true := by rw [e3]; simp
        refine ih ⟨t + 1, by omega⟩ (by show 64 - (t + 1) < 64 - t; omega) ac aT _ ⟨y3, cT, rfl, hr3, hβ3, hm3, hJ3, hmb3, ?_⟩
        show Sim _ _ _ _ (dgS l k (!(dgT k.val (t + 1)).isEmpty) _) _ _
        rw [hne]
        exact hs8.nx _
    by_cases hg : (dgT k.val t).isEmpty = true
    · rw [hg] at hs
      by_cases hz : d = 0
      · have e3 : dgT k.val (t + 1) = [] := dgT_stay hg (by rw [hd', hz])
        refine dgN l k _ _ ⟨ho1, by decide, ho2, ho3, ho4, by decide, ho5, rfl, by rw [hdig, hz]; rfl, trivial⟩ hs fun ac cT aT hs8 => ?_
        rw [e4, hdig, hz] at hs8
        have e5 : dgT k.val (t + 1) = dgT k.val t := by rw [e3, List.isEmpty_iff.1 hg]
        refine ih ⟨t + 1, by omega⟩ (by show 64 - (t + 1) < 64 - t; omega) ac aT _ ⟨y, cT, rfl, hr, hβ, ?_, ?_, hmb, ?_⟩
        · show Mem y (M (dgT k.val (t + 1)))
          rw [e5]; exact hm
        · show J (dgT k.val (t + 1)) y.w
          rw [e5]; exact hJ
        · show Sim _ _ _ _ (dgS l k (!(dgT k.val (t + 1)).isEmpty) _) _ _
          rw [e3]
          exact hs8.nx _
      · have e3 : dgT k.val (t + 1) = dgT k.val t ++ [d] := by
          rw [← hd']
          exact dgT_go fun hc => hz (by rw [← hd']; exact hc.2)
        have hp0 : decide ((d : Int) > 0) = true := decide_eq_true (by omega)
        refine dgZ l k _ _ ⟨ho1, by decide, ho2, ho3, ho4, by decide, ho5, rfl, by rw [hdig]; exact hp0, trivial⟩ hs fun ac cU aU hs6 => ?_
        rw [hdig, hp0] at hs6
        exact give ac cU aU e3 (hs6.nx _)
    · have hg : (dgT k.val t).isEmpty = false := Bool.eq_false_iff.2 hg
      rw [hg] at hs
      have e3 : dgT k.val (t + 1) = dgT k.val t ++ [d] := by
        rw [← hd']
        exact dgT_go fun hc => by rw [hg] at hc; exact absurd hc.1 (by decide)
      refine dgY l k _ _ ⟨ho1, by decide, ho2, ho3, ho4, by decide, ho5, rfl, trivial⟩ hs fun ac cU aU hs6 => ?_
      rw [hdig] at hs6
      have hs6' := hs6.slots (svs' := [.v (.c (.val (.func (.yield l) #[] #[]))), .v (.c (.ptr 0 0)), .v (.c (.bool true)), .v (.c (.int .i64 (i : Int))), .v (.c (.lit true)), .v (.c (.val (.func (.yield l) #[] #[]))), .v (.c (.int .i64 (d : Int)))])
        ⟨fun _ h => h, fun _ h => h, fun _ h => lit_bool rfl h, fun _ h => h, fun _ h => h, fun _ h => h, fun _ h => h, trivial⟩
      exact give ac cU aU e3 (hs6'.nx _)
  · have e5 : t = 64 := by omega
    subst e5
    refine dgX l k _ _ ⟨by decide, trivial⟩ hs fun ac cV aV hs4 => ?_
    obtain ⟨hg, _, _⟩ := it_back hmb rfl hs4 rfl
    exact ⟨it_end qrJ_ok hs4 rfl rfl rfl (fun v => ⟨⟨v, rfl⟩, hgrow _ _ _ hJ hg⟩) (.inr rfl)⟩

end Go.Proofs.Ytkfcphigoncgjaa

/- A point of the second curve as often as a number says: walked. No conditions. -/
namespace Go.Proofs.Ytkfcphigoncgjaa
section
variable {w0 : World} {F0 : Nat → Prop} {K : Kp} {ac : List Act} {Q : Exit → Act → World → Prop} {cX : Ctx} {aX : Act}

--@env rtM rtM_ok
noncomputable def ny_k : List KI := (run rtM false 3000 ((fun (a b c d e f : Fp) (k : U4) => (⟨[.code (bodyOf Try.f82)], .normal, initSt Try.f82.ntmps [.v (.a [.ob (.p a), .ob (.p b), .ob (.p c), .ob (.p d), .ob (.p e), .ob (.p f)]), .v (.a [.ob (.fr k)])]⟩ : Cfg)) default default default default default default default) []).cfg.k
theorem ny_hk (a b c d e f : Fp) (k : U4) : (run rtM false 3000 ((⟨[.code (bodyOf Try.f82)], .normal, initSt Try.f82.ntmps [.v (.a [.ob (.p a), .ob (.p b), .ob (.p c), .ob (.p d), .ob (.p e), .ob (.p f)]), .v (.a [.ob (.fr k)])]⟩ : Cfg)) []).cfg.k = ny_k := by kernel_rfl
theorem ny (a b c d e f : Fp) (k : U4) (ho : AllP [((0:Int) ≤ (0:Int)),((0:Int) < (16:Int))]) (hs : Sim w0 F0 K ac (initSt Try.f82.ntmps [.v (.a [.ob (.p a),.ob (.p b),.ob (.p c),.ob (.p d),.ob (.p e),.ob (.p f)]),.v (.a [.ob (.fr k)])]) cX aX) (hK : ∀ ac cY aY,Sim w0 F0 K ac (mkSt 43 [2,3,4,5,6] [.pt 16 0,.pt 32 0,.pt 48 0,.pt 64 0,.ii (1:Int)] [16,32,48,64] [(some (.fl [.ob (.p a),.ob (.p b),.ob (.p c),.ob (.p d),.ob (.p e),.ob (.p f)])),(some (.fl [.ob (.fr k)])),(some (.fl [(.ob (.p (0:Fp))),(.ob (.p (0:Fp))),(.ob (.p (0:Fp))),(.ob (.p (0:Fp))),(.ob (.p (0:Fp))),(.ob (.p (0:Fp)))])),(some (.fl [.ob (.p a),.ob (.p b),.ob (.p c),.ob (.p d),(.ob (.p (0:Fp))),(.ob (.p (0:Fp))),(.ob (.p (0:Fp))),(.ob (.p (0:Fp))),(.ob (.p (0:Fp))),(.ob (.p (0:Fp))),(.ob (.p (0:Fp))),(.ob (.p (0:Fp))),(.ob (.p (0:Fp))),(.ob (.p (0:Fp))),(.ob (.p (0:Fp))),(.ob (.p (0:Fp))),(.ob (.p (0:Fp))),(.ob (.p (0:Fp))),(.ob (.p (0:Fp))),(.ob (.p (0:Fp))),(.ob (.p (0:Fp))),(.ob (.p (0:Fp))),(.ob (.p (0:Fp))),(.ob (.p (0:Fp))),(.ob (.p (0:Fp))),(.ob (.p (0:Fp))),(.ob (.p (0:Fp))),(.ob (.p (0:Fp))),(.ob (.p (0:Fp))),(.ob (.p (0:Fp))),(.ob (.p (0:Fp))),(.ob (.p (0:Fp))),(.ob (.p (0:Fp))),(.ob (.p (0:Fp))),(.ob (.p (0:Fp))),(.ob (.p (0:Fp))),(.ob (.p (0:Fp))),(.ob (.p (0:Fp))),(.ob (.p (0:Fp))),(.ob (.p (0:Fp))),(.ob (.p (0:Fp))),(.ob (.p (0:Fp))),(.ob (.p (0:Fp))),(.ob (.p (0:Fp))),(.ob (.p (0:Fp))),(.ob (.p (0:Fp))),(.ob (.p (0:Fp))),(.ob (.p (0:Fp))),(.ob (.p (0:Fp))),(.ob (.p (0:Fp))),(.ob (.p (0:Fp))),(.ob (.p (0:Fp))),(.ob (.p (0:Fp))),(.ob (.p (0:Fp))),(.ob (.p (0:Fp))),(.ob (.p (0:Fp))),(.ob (.p (0:Fp))),(.ob (.p (0:Fp))),(.ob (.p (0:Fp))),(.ob (.p (0:Fp))),(.ob (.p (0:Fp))),(.ob (.p (0:Fp))),(.ob (.p (0:Fp))),(.ob (.p (0:Fp))),(.ob (.p (0:Fp))),(.ob (.p (0:Fp))),(.ob (.p (0:Fp))),(.ob (.p (0:Fp))),(.ob (.p (0:Fp))),(.ob (.p (0:Fp))),(.ob (.p (0:Fp))),(.ob (.p (0:Fp))),(.ob (.p (0:Fp))),(.ob (.p (0:Fp))),(.ob (.p (0:Fp))),(.ob (.p (0:Fp))),(.ob (.p (0:Fp))),(.ob (.p (0:Fp))),(.ob (.p (0:Fp))),(.ob (.p (0:Fp))),(.ob (.p (0:Fp))),(.ob (.p (0:Fp))),(.ob (.p (0:Fp))),(.ob (.p (0:Fp))),(.ob (.p (0:Fp))),(.ob (.p (0:Fp))),(.ob (.p (0:Fp))),(.ob (.p (0:Fp))),(.ob (.p (0:Fp))),(.ob (.p (0:Fp))),(.ob (.p (0:Fp))),(.ob (.p (0:Fp))),(.ob (.p (0:Fp))),(.ob (.p (0:Fp))),(.ob (.p (0:Fp))),(.ob (.p (0:Fp)))]))] 208 [] []) cY aY → Wq Try.prog Q (ny_k) ac Exit.normal aY cY.w) : Wq Try.prog Q ([.code (bodyOf Try.f82)]) ac .normal aX cX.w :=
  run_at2 (o := ⟨_, _, _, _, _, _, _⟩) rtM_ok (by kernel_rfl) (ny_hk a b c d e f k) ho hs hK
noncomputable def nyS (a b c d e f : Fp) (k : U4) (L : List (F2 × F2 × F2)) (i:Int) : St := mkSt 43 [2,3,4,5,6] [.pt 16 0,.pt 32 0,.pt 48 0,.pt 64 0,.v (.c (.int .i64 i))] [16,32,48,64] [(some (.fl [.ob (.p a),.ob (.p b),.ob (.p c),.ob (.p d),.ob (.p e),.ob (.p f)])),(some (.fl [.ob (.fr k)])),(some (.fl [(.ob (.p (0:Fp))),(.ob (.p (0:Fp))),(.ob (.p (0:Fp))),(.ob (.p (0:Fp))),(.ob (.p (0:Fp))),(.ob (.p (0:Fp)))])),some (.sq (.pt2 L))] 208 [] []
theorem nyA_hk (a b c d e f : Fp) (k : U4) (L : List (F2 × F2 × F2)) (i : Int) : (run rtM false 3000 ((⟨lpIn ny_k, .normal, nyS a b c d e f k L i⟩ : Cfg)) [true]).cfg.k = lpBk ny_k := by kernel_rfl
theorem nyA (a b c d e f : Fp) (k : U4) (L : List (F2 × F2 × F2)) (i:Int) (ho : AllP [((decide (i < (16:Int))) = true),((0:Int) ≤ (IntKind.wrap .i64 (i - (1:Int)))),((IntKind.wrap .i64 (i - (1:Int))) < (16:Int)),(0 = 0),(((IntKind.wrap .i64 (i - (1:Int)))).toNat < (List.length L)),((0:Int) ≤ i),(i < (16:Int)),(0 = 0),((i).toNat < (List.length L))]) (hs : Sim w0 F0 K ac (nyS a b c d e f k L i) cX aX) (hK : ∀ ac cY aY,Sim w0 F0 K ac (mkSt 43 [2,3,4,5,6] [.pt 16 0,.pt 32 0,.pt 48 0,.pt 64 0,(.ii (IntKind.wrap .i64 (i + (1:Int))))] [16,32,48,64] [(some (.fl [.ob (.p a),.ob (.p b),.ob (.p c),.ob (.p d),.ob (.p e),.ob (.p f)])),(some (.fl [.ob (.fr k)])),(some (.fl [(.ob (.p (0:Fp))),(.ob (.p (0:Fp))),(.ob (.p (0:Fp))),(.ob (.p (0:Fp))),(.ob (.p (0:Fp))),(.ob (.p (0:Fp)))])),(some (.sq (Sq.pt2 (List.set L (i).toNat (jpl (List.getD L ((IntKind.wrap .i64 (i - (1:Int)))).toNat pt20) ((a,b),((c,d),(e,f))))))))] 432 [] []) cY aY → Wq Try.prog Q (lpBk ny_k) ac Exit.normal aY cY.w) : Wq Try.prog Q (lpIn ny_k) ac .normal aX cX.w :=
  run_at2 (o := ⟨_, _, _, _, _, _, _⟩) rtM_ok (by kernel_rfl) (nyA_hk a b c d e f k L i) ho hs hK
noncomputable def nyB_k : List KI := (run rtM false 3000 ((fun (a b c d e f : Fp) (k : U4) (L : List (F2 × F2 × F2)) (i : Int) => (⟨lpIn ny_k, .normal, nyS a b c d e f k L i⟩ : Cfg)) default default default default default default default default default) [false]).cfg.k
theorem nyB_hk (a b c d e f : Fp) (k : U4) (L : List (F2 × F2 × F2)) (i : Int) : (run rtM false 3000 ((⟨lpIn ny_k, .normal, nyS a b c d e f k L i⟩ : Cfg)) [false]).cfg.k = nyB_k := by kernel_rfl
theorem nyB (a b c d e f : Fp) (k : U4) (L : List (F2 × F2 × F2)) (i:Int) (ho : AllP [((decide (i < (16:Int))) = false),((0:Int) ≤ (0:Int)),((0:Int) < (16:Int)),(0 = 0),(0 < (List.length L))]) (hs : Sim w0 F0 K ac (nyS a b c d e f k L i) cX aX) (hK : ∀ ac cY aY,Sim w0 F0 K ac (mkSt 43 [4,5,7,30] [.pt 48 0,.pt 64 0,.pt 272 0,(.v (.c (.clo 138 [(320,0)])))] [48,64,272,320] [(some (.fl [(.ob (.p (0:Fp))),(.ob (.p (0:Fp))),(.ob (.p (0:Fp))),(.ob (.p (0:Fp))),(.ob (.p (0:Fp))),(.ob (.p (0:Fp)))])),(some (.sq (Sq.pt2 L))),(some (.fl [(.ob (.p (Prod.fst (Prod.fst (List.getD L 0 pt20))))),(.ob (.p (Prod.snd (Prod.fst (List.getD L 0 pt20))))),(.ob (.p (Prod.fst (Prod.fst (Prod.snd (List.getD L 0 pt20)))))),(.ob (.p (Prod.snd (Prod.fst (Prod.snd (List.getD L 0 pt20)))))),(.ob (.p (Prod.fst (Prod.snd (Prod.snd (List.getD L 0 pt20)))))),(.ob (.p (Prod.snd (Prod.snd (Prod.snd (List.getD L 0 pt20))))))])),(some (.fl [.ob (.fr k)]))] 384 [] []) cY aY → Wq Try.prog Q (nyB_k) ac Exit.normal aY cY.w) : Wq Try.prog Q (lpIn ny_k) ac .normal aX cX.w :=
  run_at2 (o := ⟨_, _, _, _, _, _, _⟩) rtM_ok (by kernel_rfl) (nyB_hk a b c d e f k L i) ho hs hK
noncomputable def nyR (k : U4) (L : List (F2 × F2 × F2)) (o : F2 × F2 × F2) : St := mkSt 43 [4,5,7,30] [.pt 48 0,.pt 64 0,.pt 272 0,(.v (.c (.clo 138 [(320,0)])))] [48,64,272,320] [(some (.fl [(.ob (.p (0:Fp))),(.ob (.p (0:Fp))),(.ob (.p (0:Fp))),(.ob (.p (0:Fp))),(.ob (.p (0:Fp))),(.ob (.p (0:Fp)))])),(some (.sq (Sq.pt2 L))),some (.fl [.ob (.p o.1.1),.ob (.p o.1.2),.ob (.p o.2.1.1),.ob (.p o.2.1.2),.ob (.p o.2.2.1),.ob (.p o.2.2.2)]),(some (.fl [.ob (.fr k)]))] 384 [] []
theorem nrA_hk (k : U4) (L : List (F2 × F2 × F2)) (o : F2 × F2 × F2) (d : Int) : (run rtM false 3000 ((⟨[.code (rfA nyB_k)], .normal, roundSt (nyR k L o) [(31, .v (.c (.int .i64 d)))]⟩ : Cfg)) []).cfg.k = [] := by kernel_rfl
theorem nrA (k : U4) (L : List (F2 × F2 × F2)) (o : F2 × F2 × F2) (d:Int) {ρ : Option Nat} (ho : AllP []) (hs : Sim w0 F0 K ac (roundSt (nyR k L o) [(31,.v (.c (.int .i64 d)))]) cX aX) (hK : ∀ cY aY,Sim w0 F0 K ac (mkSt 43 [4,5,7,8] [.pt 48 0,.pt 64 0,.pt 272 0,.ii d] [48,64,272,320] [(some (.fl [(.ob (.p (0:Fp))),(.ob (.p (0:Fp))),(.ob (.p (0:Fp))),(.ob (.p (0:Fp))),(.ob (.p (0:Fp))),(.ob (.p (0:Fp)))])),(some (.sq (Sq.pt2 L))),(some (.fl [(.ob (.p (Prod.fst (Prod.fst o)))),(.ob (.p (Prod.snd (Prod.fst o)))),(.ob (.p (Prod.fst (Prod.fst (Prod.snd o))))),(.ob (.p (Prod.snd (Prod.fst (Prod.snd o))))),(.ob (.p (Prod.fst (Prod.snd (Prod.snd o))))),(.ob (.p (Prod.snd (Prod.snd (Prod.snd o)))))])),(some (.fl [.ob (.fr k)]))] 400 [[4,5,7,30]] [([.pt 48 0,.pt 64 0,.pt 272 0,(.v (.c (.clo 138 [(320,0)])))],43)]) cY aY → Wq Try.prog Q ([]) ac Exit.normal aY cY.w ρ) : Wq Try.prog Q ([.code (rfA nyB_k)]) ac .normal aX cX.w ρ :=
  run_atT (o := ⟨_, _, _, _, _, _, _⟩) rtM_ok (by kernel_rfl) (nrA_hk k L o d) ho (by kernel_rfl) (by kernel_rfl) hs hK
noncomputable def nrB (k : U4) (L : List (F2 × F2 × F2)) (o : F2 × F2 × F2) (d:Int) : St := mkSt 43 [4,5,7,8] [.pt 48 0,.pt 64 0,.pt 272 0,.ii d] [48,64,272,320] [(some (.fl [(.ob (.p (0:Fp))),(.ob (.p (0:Fp))),(.ob (.p (0:Fp))),(.ob (.p (0:Fp))),(.ob (.p (0:Fp))),(.ob (.p (0:Fp)))])),(some (.sq (Sq.pt2 L))),some (.fl [.ob (.p o.1.1),.ob (.p o.1.2),.ob (.p o.2.1.1),.ob (.p o.2.1.2),.ob (.p o.2.2.1),.ob (.p o.2.2.2)]),(some (.fl [.ob (.fr k)]))] 400 [[4,5,7,30]] [([.pt 48 0,.pt 64 0,.pt 272 0,(.v (.c (.clo 138 [(320,0)])))],43)]
noncomputable def nrC_k : List KI := (run rtM false 3000 ((fun (k : U4) (L : List (F2 × F2 × F2)) (o : F2 × F2 × F2) (d : Int) => (⟨[.code (rfB nyB_k)], .normal, nrB k L o d⟩ : Cfg)) default default default default) []).cfg.k
theorem nrC_hk (k : U4) (L : List (F2 × F2 × F2)) (o : F2 × F2 × F2) (d : Int) : (run rtM false 3000 ((⟨[.code (rfB nyB_k)], .normal, nrB k L o d⟩ : Cfg)) []).cfg.k = nrC_k := by kernel_rfl
theorem nrC (k : U4) (L : List (F2 × F2 × F2)) (o : F2 × F2 × F2) (d:Int) {ρ : Option Nat} (ho : AllP []) (hs : Sim w0 F0 K ac (nrB k L o d) cX aX) (hK : ∀ cY aY,Sim w0 F0 K ac (mkSt 43 [4,5,7,8,32] [.pt 48 0,.pt 64 0,.pt 272 0,.ii d,.ii (0:Int)] [48,64,272,320] [(some (.fl [(.ob (.p (0:Fp))),(.ob (.p (0:Fp))),(.ob (.p (0:Fp))),(.ob (.p (0:Fp))),(.ob (.p (0:Fp))),(.ob (.p (0:Fp)))])),(some (.sq (Sq.pt2 L))),(some (.fl [(.ob (.p (Prod.fst (Prod.fst o)))),(.ob (.p (Prod.snd (Prod.fst o)))),(.ob (.p (Prod.fst (Prod.fst (Prod.snd o))))),(.ob (.p (Prod.snd (Prod.fst (Prod.snd o))))),(.ob (.p (Prod.fst (Prod.snd (Prod.snd o))))),(.ob (.p (Prod.snd (Prod.snd (Prod.snd o)))))])),(some (.fl [.ob (.fr k)]))] 416 [[4,5,7,30]] [([.pt 48 0,.pt 64 0,.pt 272 0,(.v (.c (.clo 138 [(320,0)])))],43)]) cY aY → Wq Try.prog Q (nrC_k) ac Exit.normal aY cY.w ρ) : Wq Try.prog Q ([.code (rfB nyB_k)]) ac .normal aX cX.w ρ :=
  run_atT (o := ⟨_, _, _, _, _, _, _⟩) rtM_ok (by kernel_rfl) (nrC_hk k L o d) ho (by kernel_rfl) (by kernel_rfl) hs hK
noncomputable def nrS (k : U4) (L : List (F2 × F2 × F2)) (o : F2 × F2 × F2) (d j:Int) : St := mkSt 43 [4,5,7,8,32] [.pt 48 0,.pt 64 0,.pt 272 0,.ii d,.v (.c (.int .i64 j))] [48,64,272,320] [(some (.fl [(.ob (.p (0:Fp))),(.ob (.p (0:Fp))),(.ob (.p (0:Fp))),(.ob (.p (0:Fp))),(.ob (.p (0:Fp))),(.ob (.p (0:Fp)))])),(some (.sq (Sq.pt2 L))),some (.fl [.ob (.p o.1.1),.ob (.p o.1.2),.ob (.p o.2.1.1),.ob (.p o.2.1.2),.ob (.p o.2.2.1),.ob (.p o.2.2.2)]),(some (.fl [.ob (.fr k)]))] 416 [[4,5,7,30]] [([.pt 48 0,.pt 64 0,.pt 272 0,(.v (.c (.clo 138 [(320,0)])))],43)]
theorem nrD_hk (k : U4) (L : List (F2 × F2 × F2)) (o : F2 × F2 × F2) (d j : Int) : (run rtM false 3000 ((⟨lpIn nrC_k, .normal, nrS k L o d j⟩ : Cfg)) [true]).cfg.k = lpBk nrC_k := by kernel_rfl
theorem nrD (k : U4) (L : List (F2 × F2 × F2)) (o : F2 × F2 × F2) (d j:Int) {ρ : Option Nat} (ho : AllP [((decide (j < (4:Int))) = true)]) (hs : Sim w0 F0 K ac (nrS k L o d j) cX aX) (hK : ∀ cY aY,Sim w0 F0 K ac (mkSt 43 [4,5,7,8,32] [.pt 48 0,.pt 64 0,.pt 272 0,.ii d,(.ii (IntKind.wrap .i64 (j + (1:Int))))] [48,64,272,320] [(some (.fl [(.ob (.p (0:Fp))),(.ob (.p (0:Fp))),(.ob (.p (0:Fp))),(.ob (.p (0:Fp))),(.ob (.p (0:Fp))),(.ob (.p (0:Fp)))])),(some (.sq (Sq.pt2 L))),(some (.fl [(.ob (.p (Prod.fst (Prod.fst (jtw o))))),(.ob (.p (Prod.snd (Prod.fst (jtw o))))),(.ob (.p (Prod.fst (Prod.fst (Prod.snd (jtw o)))))),(.ob (.p (Prod.snd (Prod.fst (Prod.snd (jtw o)))))),(.ob (.p (Prod.fst (Prod.snd (Prod.snd (jtw o)))))),(.ob (.p (Prod.snd (Prod.snd (Prod.snd (jtw o))))))])),(some (.fl [.ob (.fr k)]))] 512 [[4,5,7,30]] [([.pt 48 0,.pt 64 0,.pt 272 0,(.v (.c (.clo 138 [(320,0)])))],43)]) cY aY → Wq Try.prog Q (lpBk nrC_k) ac Exit.normal aY cY.w ρ) : Wq Try.prog Q (lpIn nrC_k) ac .normal aX cX.w ρ :=
  run_atT (o := ⟨_, _, _, _, _, _, _⟩) rtM_ok (by kernel_rfl) (nrD_hk k L o d j) ho (by kernel_rfl) (by kernel_rfl) hs hK
theorem nrE_hk (k : U4) (L : List (F2 × F2 × F2)) (o : F2 × F2 × F2) (d j : Int) : (run rtM false 3000 ((⟨lpIn nrC_k, .normal, nrS k L o d j⟩ : Cfg)) [false]).cfg.k = [] := by kernel_rfl
theorem nrE (k : U4) (L : List (F2 × F2 × F2)) (o : F2 × F2 × F2) (d j:Int) {ρ : Option Nat} (ho : AllP [((decide (j < (4:Int))) = false),((0:Int) ≤ d),(d < (16:Int)),(0 = 0),((d).toNat < (List.length L))]) (hs : Sim w0 F0 K ac (nrS k L o d j) cX aX) (hK : ∀ cY aY,Sim w0 F0 K ac (mkSt 43 [4] [.pt 48 0] [48,64,272,320] [(some (.fl [(.ob (.p (0:Fp))),(.ob (.p (0:Fp))),(.ob (.p (0:Fp))),(.ob (.p (0:Fp))),(.ob (.p (0:Fp))),(.ob (.p (0:Fp)))])),(some (.sq (Sq.pt2 L))),(some (.fl [(.ob (.p (Prod.fst (Prod.fst (jpl o (List.getD L (d).toNat pt20)))))),(.ob (.p (Prod.snd (Prod.fst (jpl o (List.getD L (d).toNat pt20)))))),(.ob (.p (Prod.fst (Prod.fst (Prod.snd (jpl o (List.getD L (d).toNat pt20))))))),(.ob (.p (Prod.snd (Prod.fst (Prod.snd (jpl o (List.getD L (d).toNat pt20))))))),(.ob (.p (Prod.fst (Prod.snd (Prod.snd (jpl o (List.getD L (d).toNat pt20))))))),(.ob (.p (Prod.snd (Prod.snd (Prod.snd (jpl o (List.getD L (d).toNat pt20)))))))])),(some (.fl [.ob (.fr k)]))] 528 [[4,5,7,30]] [([.pt 48 0,.pt 64 0,.pt 272 0,(.v (.c (.clo 138 [(320,0)])))],43)]) cY aY → Wq Try.prog Q ([]) ac Exit.normal aY cY.w ρ) : Wq Try.prog Q (lpIn nrC_k) ac .normal aX cX.w ρ :=
  run_atT (o := ⟨_, _, _, _, _, _, _⟩) rtM_ok (by kernel_rfl) (nrE_hk k L o d j) ho (by kernel_rfl) (by kernel_rfl) hs hK
noncomputable def nrF (k : U4) (L : List (F2 × F2 × F2)) (o : F2 × F2 × F2) : St := mkSt 43 [4] [.pt 48 0] [48,64,272,320] [(some (.fl [(.ob (.p (0:Fp))),(.ob (.p (0:Fp))),(.ob (.p (0:Fp))),(.ob (.p (0:Fp))),(.ob (.p (0:Fp))),(.ob (.p (0:Fp)))])),(some (.sq (Sq.pt2 L))),some (.fl [.ob (.p o.1.1),.ob (.p o.1.2),.ob (.p o.2.1.1),.ob (.p o.2.1.2),.ob (.p o.2.2.1),.ob (.p o.2.2.2)]),(some (.fl [.ob (.fr k)]))] 528 [[4,5,7,30]] [([.pt 48 0,.pt 64 0,.pt 272 0,(.v (.c (.clo 138 [(320,0)])))],43)]
theorem nrX_hk (k : U4) (L : List (F2 × F2 × F2)) (o : F2 × F2 × F2) : (run rtM false 3000 ((⟨rfR nyB_k, .normal, nyR k L o⟩ : Cfg)) []).cfg.k = [] := by kernel_rfl
theorem nrX (k : U4) (L : List (F2 × F2 × F2)) (o : F2 × F2 × F2) (ho : AllP []) (hs : Sim w0 F0 K ac (nyR k L o) cX aX) (hK : ∀ ac cY aY,Sim w0 F0 K ac (mkSt 43 [4] [.pt 48 0] [48] [(some (.fl [(.ob (.p (Prod.fst (Prod.fst o)))),(.ob (.p (Prod.snd (Prod.fst o)))),(.ob (.p (Prod.fst (Prod.fst (Prod.snd o))))),(.ob (.p (Prod.snd (Prod.fst (Prod.snd o))))),(.ob (.p (Prod.fst (Prod.snd (Prod.snd o))))),(.ob (.p (Prod.snd (Prod.snd (Prod.snd o)))))]))] 416 [] []) cY aY → Wq Try.prog Q ([]) ac Exit.ret aY cY.w) : Wq Try.prog Q (rfR nyB_k) ac .normal aX cX.w :=
  run_at2 (o := ⟨_, _, _, _, _, _, _⟩) rtM_ok (by kernel_rfl) (nrX_hk k L o) ho hs hK
noncomputable def nrZ (o : F2 × F2 × F2) : St := mkSt 43 [4] [.pt 48 0] [48] [some (.fl [.ob (.p o.1.1),.ob (.p o.1.2),.ob (.p o.2.1.1),.ob (.p o.2.1.2),.ob (.p o.2.2.1),.ob (.p o.2.2.2)])] 416 [] []
theorem nrR_end (o : F2 × F2 × F2) : runEnd rtM Try.f82 false 3000 (⟨[],.ret,nrZ o⟩) [] [] [] = (some ([],((.v (.a [(.ob (.p (Prod.fst (Prod.fst o)))),(.ob (.p (Prod.snd (Prod.fst o)))),(.ob (.p (Prod.fst (Prod.fst (Prod.snd o))))),(.ob (.p (Prod.snd (Prod.fst (Prod.snd o))))),(.ob (.p (Prod.fst (Prod.snd (Prod.snd o))))),(.ob (.p (Prod.snd (Prod.snd (Prod.snd o)))))])),[]))) := by kernel_rfl
end
end Go.Proofs.Ytkfcphigoncgjaa

/- A point of the second curve as often as a number says: contract. No conditions. -/
namespace Go.Proofs.Ytkfcphigoncgjaa

/-- Sixteen points of the second curve, one behind the other. -/
def flatPt2 (l : List (F2 × F2 × F2)) : Nat → Nat → List It
  | _, 0 => []
  | i, n + 1 => .ob (.p (l.getD i pt20).1.1) :: .ob (.p (l.getD i pt20).1.2) :: .ob (.p (l.getD i pt20).2.1.1) :: .ob (.p (l.getD i pt20).2.1.2) :: .ob (.p (l.getD i pt20).2.2.1) :: .ob (.p (l.getD i pt20).2.2.2) :: flatPt2 l (i + 1) n

theorem cat_flat2 {x : Ctx} (L : List (F2 × F2 × F2)) : ∀ (n i : Nat) (cs : List Value), catL x.D (flatPt2 L i n) cs → cs.length = n * 36 ∧ ∀ j, j < n → ∃ c, catL x.D (pt2Its (L.getD (i + j) pt20)) c ∧ ∀ (q : Nat) (v : Value), c[q]? = some v → cs[j * 36 + q]? = some v
  | 0, i, cs, h => by
    have h : cs = [] := h
    subst h
    exact ⟨rfl, fun j hj => absurd hj (Nat.not_lt_zero _)⟩
  | n + 1, i, cs, h => by
    obtain ⟨c1, r1, e1, h1, c2, r2, e2, h2, c3, r3, e3, h3, c4, r4, e4, h4, c5, r5, e5, h5, c6, r6, e6, h6, h7⟩ := h
    obtain ⟨hl, hj⟩ := cat_flat2 L n (i + 1) r6 h7
    have l1 : c1.length = 6 := D_len h1
    have l2 : c2.length = 6 := D_len h2
    have l3 : c3.length = 6 := D_len h3
    have l4 : c4.length = 6 := D_len h4
    have l5 : c5.length = 6 := D_len h5
    have l6 : c6.length = 6 := D_len h6
    subst e1 e2 e3 e4 e5 e6
    refine ⟨by simp only [List.length_append]; omega, fun j hjn => ?_⟩
    have e : c1 ++ (c2 ++ (c3 ++ (c4 ++ (c5 ++ (c6 ++ r6))))) = (c1 ++ (c2 ++ (c3 ++ (c4 ++ (c5 ++ c6))))) ++ r6 := by simp
    have hl36 : (c1 ++ (c2 ++ (c3 ++ (c4 ++ (c5 ++ c6))))).length = 36 := by simp only [List.length_append]; omega
    cases j with
    | zero =>
      refine ⟨c1 ++ (c2 ++ (c3 ++ (c4 ++ (c5 ++ (c6 ++ []))))), ⟨c1, _, rfl, h1, c2, _, rfl, h2, c3, _, rfl, h3, c4, _, rfl, h4, c5, _, rfl, h5, c6, _, rfl, h6, rfl⟩, fun q v hq => ?_⟩
      rw [List.append_nil] at hq
      have hlt : q < (c1 ++ (c2 ++ (c3 ++ (c4 ++ (c5 ++ c6))))).length := by
        rcases Nat.lt_or_ge q (c1 ++ (c2 ++ (c3 ++ (c4 ++ (c5 ++ c6))))).length with h | h
        · exact h
        · rw [List.getElem?_eq_none h] at hq; cases hq
      rw [Nat.zero_mul, Nat.zero_add, ← hq, e, List.getElem?_append_left hlt]
    | succ j =>
      obtain ⟨c, hc, hv⟩ := hj j (by omega)
      rw [show i + 1 + j = i + (j + 1) from by omega] at hc
      refine ⟨c, hc, fun q v hq => ?_⟩
      rw [e, List.getElem?_append_right (by rw [hl36]; omega), hl36, show (j + 1) * 36 + q - 36 = j * 36 + q from by omega]
      exact hv q v hq

theorem tab_conv2 {x : Ctx} (L : List (F2 × F2 × F2)) (h : L.length = 16) (cs : List Value) (hc : denEn x (.fl (flatPt2 L 0 16)) cs) : denEn x (.sq (.pt2 L)) cs := by
  obtain ⟨hl, hj⟩ := cat_flat2 L 16 0 cs hc
  refine ⟨?_, fun i hi => ?_⟩
  · show L.length * 36 ≤ cs.length
    rw [h, hl]
    exact Nat.le_refl _
  · have hi : i < L.length := hi
    rw [h] at hi
    obtain ⟨c, h1, h2⟩ := hj i hi
    rw [Nat.zero_add] at h1
    exact ⟨c, h1, h2⟩

def tab02 (x y : F2) : List (F2 × F2 × F2) := (x, y, 0) :: List.replicate 15 pt20

theorem many2_fnd (a b c d e f : Fp) (k : U4) : FnD Try.prog 82 [.v (.a [.ob (.p a), .ob (.p b), .ob (.p c), .ob (.p d), .ob (.p e), .ob (.p f)]), .v (.a [.ob (.fr k)])] (.v (.a (pt2Its (jmn (F := F2) ((a, b), (c, d), (e, f)) (dgT k.val 64))))) [] := by
  generalize hpa : (((a, b), (c, d), (e, f)) : F2 × F2 × F2) = pa
  refine fn_start_m (fn := Try.f82) (c := bodyOf Try.f82) Try.func82 rfl rfl fun x0 a0 hk hF hs => ?_
  refine ny a b c d e f k ⟨by decide, by decide, trivial⟩ hs fun ac cY aY hs1 => ?_
  have hs2 := hs1.blocks (ens' := [some (.fl [.ob (.p a), .ob (.p b), .ob (.p c), .ob (.p d), .ob (.p e), .ob (.p f)]), some (.fl [.ob (.fr k)]), some (.fl [.ob (.p 0), .ob (.p 0), .ob (.p 0), .ob (.p 0), .ob (.p 0), .ob (.p 0)]), some (.sq (.pt2 (tab02 (a, b) (c, d))))])
    ⟨.inl rfl, .inl rfl, .inl rfl, .inr ⟨_, _, _, rfl, rfl, rfl, fun cs h => tab_conv2 _ rfl cs h⟩, trivial⟩
  refine loop_rule (ι := { p : Nat × List (F2 × F2 × F2) // 1 ≤ p.1 ∧ p.1 ≤ 16 ∧ p.2.length = 16 ∧ ∀ j, j < p.1 → p.2.getD j pt20 = jtab pa j }) (fun p => nyS a b c d e f k p.1.2 (p.1.1 : Int)) (fun p => 16 - p.1.1) (c := lpC ny_k) (k := lpR ny_k) (by kernel_rfl) (fun p ih ac cY aY hs => ?_)
    ⟨(1, tab02 (a, b) (c, d)), Nat.le_refl 1, by show (1 : Nat) ≤ 16; omega, rfl, fun j hj => by
      have : j = 0 := by have hj : j < 1 := hj; omega
      subst this; rw [← hpa]; rfl⟩ (hs2.nx _)
  obtain ⟨⟨i, L⟩, h1, h16, hL, htab⟩ := p
  simp only at ih hs h1 h16 hL htab
  by_cases hi : i < 16
  · have e1 : IntKind.wrap IntKind.i64 ((i : Int) - 1) = ((i - 1 : Nat) : Int) := by rw [wrap_id (by omega) (by omega)]; omega
    have e2 : IntKind.wrap IntKind.i64 ((i : Int) + 1) = ((i + 1 : Nat) : Int) := by rw [wrap_id (by omega) (by omega)]; omega
    refine nyA a b c d e f k L i ⟨decide_eq_true (by omega), by rw [e1]; omega, by rw [e1]; omega, rfl, by rw [e1, Int.toNat_natCast, hL]; omega, by omega, by omega, rfl, by rw [Int.toNat_natCast, hL]; exact hi, trivial⟩ hs fun ac cZ aZ hs3 => ?_
    rw [e1, e2, Int.toNat_natCast, Int.toNat_natCast, htab (i - 1) (by omega), hpa] at hs3
    have e3 : jpl (jtab pa (i - 1)) pa = jtab pa i := by
      obtain ⟨m, rfl⟩ : ∃ m, i = m + 1 := ⟨i - 1, by omega⟩
      rfl
    rw [e3] at hs3
    refine ih ⟨(i + 1, L.set i (jtab pa i)), by show 1 ≤ i + 1; omega, hi, by show (L.set i _).length = 16; rw [List.length_set]; exact hL, fun j hj => ?_⟩ (by show 16 - (i + 1) < 16 - i; omega) ac cZ aZ (hs3.nx _)
    have hj : j < i + 1 := hj
    show (L.set i (jtab pa i)).getD j pt20 = _
    by_cases e : j = i
    · subst e
      simp [List.getD, hL, hi]
    · have : (L.set i (jtab pa i)).getD j pt20 = L.getD j pt20 := by
        simp [List.getD, List.getElem?_set_ne (Ne.symm e)]
      rw [this]
      exact htab j (by omega)
  · have : i = 16 := by omega
    subst this
    refine nyB a b c d e f k L _ ⟨by decide, by decide, by decide, rfl, by rw [hL]; decide, trivial⟩ hs fun ac cZ aZ hs3 => ?_
    rw [htab 0 (by decide)] at hs3
    obtain ⟨e1, e2⟩ := isRf_eq (k := nyB_k) (by kernel_rfl)
    rw [e1]
    have eP : (rfP nyB_k).toList = [31] := by kernel_rfl
    have eG : rfG nyB_k = .tmp 30 := by kernel_rfl
    refine range_rule (ps := rfP nyB_k) e2 hs3 (gf := 138) (caps := [(320, 0)]) (enters_of Try.func138 rfl rfl) (fun pre => nyR k L (pre.foldl (jst pa) (jtab pa 0))) (fun s => by rw [eG]; rfl) ⟨_, rfl⟩ (dgT k.val 64) dgVals dgEnc
      (fun y z => .cons ⟨rfl, 0, rfl⟩ .nil) (fun z => by rw [← Array.length_toList, eP]; rfl) (fun pre p hp => ?_) (digits_iter fun s => rfl) (fun pre d => nrB k L (pre.foldl (jst pa) (jtab pa 0)) d)
      (fun pre d => nrF k L ((pre ++ [d]).foldl (jst pa) (jtab pa 0))) (fun pre d => ⟨_, rfl⟩) (fun pre d hd w1 F1 K1 as1 Q1 l y1 b hs4 hQ => ?_) (fun pre d hd w1 F1 K1 as1 Q1 l y1 b hs4 hQ => ?_) fun D y1 hs4 hD hFD hd => ?_
    · rw [eP] at hp
      have h43 : (nyR k L (pre.foldl (jst pa) (jtab pa 0))).nt = 43 := rfl
      rw [h43]
      simp only [List.mem_cons, List.not_mem_nil, or_false] at hp
      subst hp
      decide
    · rw [eP] at hs4
      exact nrA k L _ d trivial hs4 fun cZ aZ hs5 => ⟨hQ _ _ (hs5.nx _)⟩
    · have hd16 : d < 16 := by
        obtain ⟨r, hr⟩ := hd
        exact dgT_lt (n := k.val) 64 d (by rw [hr]; simp)
      rw [List.foldl_append] at hQ
      generalize pre.foldl (jst pa) (jtab pa 0) = o at hs4 hQ
      have hst : List.foldl (jst pa) o [d] = jpl (jtws 4 o) (L.getD d pt20) := by
        rw [htab d hd16, List.foldl_cons, List.foldl_nil]
        exact jst_tws pa o d
      rw [hst] at hQ
      refine nrC k L o d trivial hs4 fun cV aV hs5 => ?_
      let I : { j : Nat // j ≤ 4 } → List Act → Act → World → Prop := fun j ac a w => ac = as1 ∧ ∃ z, z.w = w ∧ Sim w1 F1 K1 as1 (nrS k L (jtws j.1 o) d (j.1 : Int)) z a
      refine loop_inv (ρ := some l) I (fun j => 4 - j.1) (c := lpC nrC_k) (k := lpR nrC_k) (by kernel_rfl) (fun j ih ac aV w hI => ?_) ⟨0, Nat.zero_le _⟩ ⟨rfl, cV, rfl, hs5.nx _⟩
      obtain ⟨j, hj⟩ := j
      obtain ⟨rfl, cV, rfl, hs6⟩ := hI
      simp only at ih hs6
      by_cases hj4 : j < 4
      · have ej : jtw (jtws j o) = jtws (j + 1) o := (jtws_succ j o).symm
        generalize jtws j o = o1 at hs6 ej
        refine nrD k L _ d j ⟨decide_eq_true (by omega), trivial⟩ hs6 fun cU aU hs7 => ?_
        rw [wrap_id (n := (j : Int) + 1) (by omega) (by omega), ej] at hs7
        exact ih ⟨j + 1, hj4⟩ (by show 4 - (j + 1) < 4 - j; omega) _ aU _ ⟨rfl, cU, rfl, hs7.nx _⟩
      · have : j = 4 := by omega
        subst this
        refine nrE k L _ d _ ⟨by decide, by omega, by omega, rfl, by rw [Int.toNat_natCast, hL]; exact hd16, trivial⟩ hs6 fun cU aU hs7 => ?_
        rw [Int.toNat_natCast] at hs7
        generalize jpl (jtws 4 o) (L.getD d pt20) = q at hQ hs7
        exact ⟨hQ _ _ (hs7.nx _)⟩
    · have hs5 := hs4.marked rfl rfl D
      show Wq _ _ _ _ _ _ _ _
      have ej : (dgT k.val 64).foldl (jst pa) (jtab pa 0) = jmn pa (dgT k.val 64) := rfl
      rw [ej] at hs4 hs5
      generalize jmn pa (dgT k.val 64) = o at hs4 hs5 ⊢
      refine nrX k L o trivial hs5 fun ac cV aV hs6 => ⟨?_⟩
      have hs7 : Sim y1.w y1.F (kOwn y1 kAll (markOf D)) ac (nrZ o) cV aV := hs6
      exact fn_finish rtM_ok hk hF (nrR_end o) trivial (fun y v hd => hd) hs4 hD hFD hd rfl hs7

end Go.Proofs.Ytkfcphigoncgjaa

/- two.Mul, and TwoTimes' law, walked. No conditions. -/
namespace Go.Proofs.Ytkfcphigoncgjaa
section
variable {w0 : World} {F0 : Nat → Prop} {K : Kp} {ac : List Act} {Q : Exit → Act → World → Prop} {cX : Ctx} {aX : Act}

/-- A point outside as often as a number says. -/
def mulG2 (a : G2D) (k : U4) : G2D := outG2 (jmn (inG2 a) (dgT k.val 64))
theorem mulG2_is {a : G2D} (ha : onG2 a = true) (k : U4) : mulG2 a k = gP2 (nmul (pG2 a) k.val) := by
  unfold mulG2
  generalize hl : dgT k.val 64 = l
  have h := jmn_ok cv2 (onG2_is ha).2 (inG2_jc a) l
  have e : dgV l = k.val := by rw [← hl]; exact dgV_is k
  rw [e] at h
  exact outG2_jc h
theorem pG2_mul {a : G2D} (ha : onG2 a = true) (k : U4) : pG2 (mulG2 a k) = nmul (pG2 a) k.val := by rw [mulG2_is ha, pG_gP2]
theorem on_mul2 {a : G2D} (ha : onG2 a = true) (k : U4) : onG2 (mulG2 a k) = true := by
  rw [mulG2_is ha]
  exact onG2_gP (nmul_on cv2 (onG2_is ha).2 _)


def many2Spec1 : FnSpec
  | [.v (.a [.ob (.p a), .ob (.p b), .ob (.p c), .ob (.p d), .ob (.p e), .ob (.p f)]), .v (.a [.ob (.fr k)])] => some ([], .v (.a (pt2Its (jmn (F := F2) ((a, b), (c, d), (e, f)) (dgT k.val 64)))), [])
  | _ => none
noncomputable def ruA : Env := rtM.set (addT rtM.fn 82 many2Spec1)
theorem ruA_ok : EnvOk Try.prog ruA := env_add rtM_ok 82 many2Spec1 (enters_of Try.func82 rfl rfl) fun args o r es h _ => by
  unfold many2Spec1 at h
  split at h
  · cases h; exact many2_fnd _ _ _ _ _ _ _
  · cases h
--@env ruA ruA_ok
theorem mu2A (a b c d : U6) (i : Bool) (k : U4) : fnRes ruA Try.f36 3000 [.v (.a [.ob (.fp a),.ob (.fp b),.ob (.fp c),.ob (.fp d),.bool i]),.v (.a [.ob (.fr k)])] [true] [] [] = (some ([((Bool.not (onG2 (G2D.mk a b c d i))) = true)],((.t [(.a [(.ob (.fp (0:U6))),(.ob (.fp (0:U6))),(.ob (.fp (0:U6))),(.ob (.fp (0:U6))),(.lit false)]),(.c (.int .i64 (30:Int)))]),[]))) := by kernel_rfl
theorem mu2B (a b c d : U6) (i : Bool) (k : U4) : fnRes ruA Try.f36 3000 [.v (.a [.ob (.fp a),.ob (.fp b),.ob (.fp c),.ob (.fp d),.bool i]),.v (.a [.ob (.fr k)])] [false] [] [] = (some ([((Bool.not (onG2 (G2D.mk a b c d i))) = false)],((.t [(.a [(.ob (.fp (G2D.xa (outG2 (jmn (inG2 (G2D.mk a b c d i)) (dgT (Fin.val k) 64)))))),(.ob (.fp (G2D.xb (outG2 (jmn (inG2 (G2D.mk a b c d i)) (dgT (Fin.val k) 64)))))),(.ob (.fp (G2D.ya (outG2 (jmn (inG2 (G2D.mk a b c d i)) (dgT (Fin.val k) 64)))))),(.ob (.fp (G2D.yb (outG2 (jmn (inG2 (G2D.mk a b c d i)) (dgT (Fin.val k) 64)))))),(.bool (G2D.inf (outG2 (jmn (inG2 (G2D.mk a b c d i)) (dgT (Fin.val k) 64)))))]),(.c (.int .i64 (0:Int)))]),[]))) := by kernel_rfl
/-- What Mul tells. -/
def muR2 (a : G2D) (k : U4) : G2D × Int := if onG2 a then (mulG2 a k, 0) else (g20, 30)
theorem muR2_on {a : G2D} (k : U4) (ha : onG2 a = true) : muR2 a k = (mulG2 a k, 0) := by unfold muR2; rw [ha]; rfl
theorem muR2_off {a : G2D} (k : U4) (ha : onG2 a = false) : muR2 a k = (g20, 30) := by unfold muR2; rw [ha]; rfl
theorem mul2_fnd (a b c d : U6) (i : Bool) (k : U4) : FnD Try.prog 36 [.v (.a [.ob (.fp a), .ob (.fp b), .ob (.fp c), .ob (.fp d), .bool i]), .v (.a [.ob (.fr k)])] (.t [.a (muR2 ⟨a, b, c, d, i⟩ k).1.its, .c (.int .i64 (muR2 ⟨a, b, c, d, i⟩ k).2)]) [] := by
  by_cases h1 : onG2 ⟨a, b, c, d, i⟩ = true
  · rw [muR2_on k h1]
    exact fn_sound ruA_ok Try.func36 (mu2B a b c d i k) ⟨by rw [h1]; rfl, trivial⟩
  · have h1 : onG2 ⟨a, b, c, d, i⟩ = false := Bool.eq_false_iff.2 h1
    rw [muR2_off k h1]
    exact (fn_sound ruA_ok Try.func36 (mu2A a b c d i k) ⟨by rw [h1]; rfl, trivial⟩).conv (fun _ _ h => h) fun y v hd => lit_fifth_t hd
def mulSpec3 : FnSpec
  | [.v (.a [.ob (.fp a), .ob (.fp b), .ob (.fp c), .ob (.fp d), .bool i]), .v (.a [.ob (.fr k)])] => some ([], .t [.a (muR2 ⟨a, b, c, d, i⟩ k).1.its, .c (.int .i64 (muR2 ⟨a, b, c, d, i⟩ k).2)], [])
  | _ => none
noncomputable def ruB : Env := ruA.set (addT ruA.fn 36 mulSpec3)
theorem ruB_ok : EnvOk Try.prog ruB := env_add ruA_ok 36 mulSpec3 (enters_of Try.func36 rfl rfl) fun args o r es h _ => by
  unfold mulSpec3 at h
  split at h
  · cases h; exact mul2_fnd _ _ _ _ _ _
  · cases h
--@env ruB ruB_ok
theorem mo2R (a b c d : U6) (i : Bool) (k : U4) : fnRes ruB Try.f37 3000 [.v (.a [.ob (.fp a),.ob (.fp b),.ob (.fp c),.ob (.fp d),.bool i]),.v (.a [.ob (.fr k)])] [] [] [] = (some ([],((.v (.a [(.ob (.fp (G2D.xa (Prod.fst (muR2 (G2D.mk a b c d i) k))))),(.ob (.fp (G2D.xb (Prod.fst (muR2 (G2D.mk a b c d i) k))))),(.ob (.fp (G2D.ya (Prod.fst (muR2 (G2D.mk a b c d i) k))))),(.ob (.fp (G2D.yb (Prod.fst (muR2 (G2D.mk a b c d i) k))))),(.bool (G2D.inf (Prod.fst (muR2 (G2D.mk a b c d i) k))))])),[]))) := by kernel_rfl
def mulSpec4 : FnSpec
  | [.v (.a [.ob (.fp a), .ob (.fp b), .ob (.fp c), .ob (.fp d), .bool i]), .v (.a [.ob (.fr k)])] => some ([], .v (.a (muR2 ⟨a, b, c, d, i⟩ k).1.its), [])
  | _ => none
noncomputable def ruC : Env := ruB.set (addT ruB.fn 37 mulSpec4)
theorem ruC_ok : EnvOk Try.prog ruC := env_add ruB_ok 37 mulSpec4 (enters_of Try.func37 rfl rfl) fun args o r es h _ => by
  unfold mulSpec4 at h
  split at h
  · cases h; exact fn_sound ruB_ok Try.func37 (mo2R _ _ _ _ _ _) trivial
  · cases h
--@env ruC ruC_ok
theorem tjA (a : G2D) (n s t:Int) : fnRes ruC Try.f8 3000 [.v (.a a.its),.v (.c (.int .i64 n)),.v (.c (.int .u32 s)),.v (.c (.int .u32 t))] [true,true,true] [] [] = (some ([((Bool.not (onG2 a)) = true),((0:Int) ≤ (1:Int)),((1:Int) < (18446744073709551616:Int)),((0:Int) ≤ (0:Int)),((0:Int) < (18446744073709551616:Int)),((0:Int) ≤ (0:Int)),((0:Int) < (18446744073709551616:Int)),((0:Int) ≤ (0:Int)),((0:Int) < (18446744073709551616:Int)),(true = true),(((Prod.snd (muR2 a (Fin.ofNat B4 1))) == (30:Int)) = true)],((.v (.c (.bool (ite (true = true) (Bool.and (decide ((G2D.xa (Prod.fst (muR2 a (Fin.ofNat B4 1)))) = (0:U6))) (Bool.and (decide ((G2D.xb (Prod.fst (muR2 a (Fin.ofNat B4 1)))) = (0:U6))) (Bool.and (decide ((G2D.ya (Prod.fst (muR2 a (Fin.ofNat B4 1)))) = (0:U6))) (Bool.and (decide ((G2D.yb (Prod.fst (muR2 a (Fin.ofNat B4 1)))) = (0:U6))) ((G2D.inf (Prod.fst (muR2 a (Fin.ofNat B4 1)))) == false))))) (Bool.not (Bool.and (decide ((G2D.xa (Prod.fst (muR2 a (Fin.ofNat B4 1)))) = (0:U6))) (Bool.and (decide ((G2D.xb (Prod.fst (muR2 a (Fin.ofNat B4 1)))) = (0:U6))) (Bool.and (decide ((G2D.ya (Prod.fst (muR2 a (Fin.ofNat B4 1)))) = (0:U6))) (Bool.and (decide ((G2D.yb (Prod.fst (muR2 a (Fin.ofNat B4 1)))) = (0:U6))) ((G2D.inf (Prod.fst (muR2 a (Fin.ofNat B4 1)))) == false)))))))))),[]))) := by kernel_rfl
noncomputable def tj_k : List KI := (run ruC false 3000 ((fun (a : G2D) (n s t : Int) => (⟨[.code (bodyOf Try.f8)], .normal, initSt Try.f8.ntmps [.v (.a a.its), .v (.c (.int .i64 n)), .v (.c (.int .u32 s)), .v (.c (.int .u32 t))]⟩ : Cfg)) default default default default) [false]).cfg.k
theorem tj_hk (a : G2D) (n s t : Int) : (run ruC false 3000 ((⟨[.code (bodyOf Try.f8)], .normal, initSt Try.f8.ntmps [.v (.a a.its), .v (.c (.int .i64 n)), .v (.c (.int .u32 s)), .v (.c (.int .u32 t))]⟩ : Cfg)) [false]).cfg.k = tj_k := by kernel_rfl
theorem tj (a : G2D) (n s t:Int) (ho : AllP [((Bool.not (onG2 a)) = false)]) (hs : Sim w0 F0 K ac (initSt Try.f8.ntmps [.v (.a a.its),.v (.c (.int .i64 n)),.v (.c (.int .u32 s)),.v (.c (.int .u32 t))]) cX aX) (hK : ∀ ac cY aY,Sim w0 F0 K ac (mkSt 94 [1,2,3,4,11,37,38] [(.ii (ite ((40:Int) < (ite ((0:Int) > n) (0:Int) n)) (40:Int) (ite ((0:Int) > n) (0:Int) n))),(.v (.c (.int .u32 s))),(.v (.c (.int .u32 t))),.pt 16 0,.pt 176 0,(.ii (ite ((40:Int) < (ite ((0:Int) > n) (0:Int) n)) (40:Int) (ite ((0:Int) > n) (0:Int) n))),.ii (0:Int)] [16,176] [(some (.fl [(.ob (.fp (G2D.xa a))),(.ob (.fp (G2D.xb a))),(.ob (.fp (G2D.ya a))),(.ob (.fp (G2D.yb a))),(.bool (G2D.inf a))])),(some (.fl [(.ob (.fp (G2D.xa (G2D.mk (0:U6) (0:U6) (0:U6) (0:U6) true)))),(.ob (.fp (G2D.xb (G2D.mk (0:U6) (0:U6) (0:U6) (0:U6) true)))),(.ob (.fp (G2D.ya (G2D.mk (0:U6) (0:U6) (0:U6) (0:U6) true)))),(.ob (.fp (G2D.yb (G2D.mk (0:U6) (0:U6) (0:U6) (0:U6) true)))),(.bool (G2D.inf (G2D.mk (0:U6) (0:U6) (0:U6) (0:U6) true)))]))] 240 [] []) cY aY → Wq Try.prog Q (tj_k) ac Exit.normal aY cY.w) : Wq Try.prog Q ([.code (bodyOf Try.f8)]) ac .normal aX cX.w :=
  run_at2 (o := ⟨_, _, _, _, _, _, _⟩) ruC_ok (by kernel_rfl) (tj_hk a n s t) ho hs hK
noncomputable def tjS (a : G2D) (m s t:Int) (o : G2D) (j:Int) : St := mkSt 94 [1,2,3,4,11,37,38] [.v (.c (.int .i64 m)),(.v (.c (.int .u32 s))),(.v (.c (.int .u32 t))),.pt 16 0,.pt 176 0,.v (.c (.int .i64 m)),.v (.c (.int .i64 j))] [16,176] [(some (.fl [(.ob (.fp (G2D.xa a))),(.ob (.fp (G2D.xb a))),(.ob (.fp (G2D.ya a))),(.ob (.fp (G2D.yb a))),(.bool (G2D.inf a))])),some (.fl [.ob (.fp o.xa),.ob (.fp o.xb),.ob (.fp o.ya),.ob (.fp o.yb),.bool o.inf])] 240 [] []
theorem tjB_hk (a : G2D) (m s t : Int) (o : G2D) (j : Int) : (run ruC false 3000 ((⟨lpIn tj_k, .normal, tjS a m s t o j⟩ : Cfg)) [true]).cfg.k = lpBk tj_k := by kernel_rfl
theorem tjB (a : G2D) (m s t:Int) (o : G2D) (j:Int) (ho : AllP [((decide (j < m)) = true)]) (hs : Sim w0 F0 K ac (tjS a m s t o j) cX aX) (hK : ∀ ac cY aY,Sim w0 F0 K ac (mkSt 94 [1,2,3,4,11,37,38] [.ii m,(.v (.c (.int .u32 s))),(.v (.c (.int .u32 t))),.pt 16 0,.pt 176 0,.ii m,(.ii (IntKind.wrap .i64 (j + (1:Int))))] [16,176] [(some (.fl [(.ob (.fp (G2D.xa a))),(.ob (.fp (G2D.xb a))),(.ob (.fp (G2D.ya a))),(.ob (.fp (G2D.yb a))),(.bool (G2D.inf a))])),(some (.fl [(.ob (.fp (G2D.xa (Prod.fst (adR2 o a))))),(.ob (.fp (G2D.xb (Prod.fst (adR2 o a))))),(.ob (.fp (G2D.ya (Prod.fst (adR2 o a))))),(.ob (.fp (G2D.yb (Prod.fst (adR2 o a))))),(.bool (G2D.inf (Prod.fst (adR2 o a))))]))] 352 [] []) cY aY → Wq Try.prog Q (lpBk tj_k) ac Exit.normal aY cY.w) : Wq Try.prog Q (lpIn tj_k) ac .normal aX cX.w :=
  run_at2 (o := ⟨_, _, _, _, _, _, _⟩) ruC_ok (by kernel_rfl) (tjB_hk a m s t o j) ho hs hK
theorem tjX_end (a : G2D) (m s t:Int) (o : G2D) (j:Int) : runEnd ruC Try.f8 false 3000 (⟨lpIn tj_k,.normal,tjS a m s t o j⟩) [false,true,true,true] [] [] = (some ([((decide (j < m)) = false),((0:Int) ≤ (IntKind.wrap .u64 s)),((IntKind.wrap .u64 s) < (18446744073709551616:Int)),((0:Int) ≤ (0:Int)),((0:Int) < (18446744073709551616:Int)),((0:Int) ≤ (0:Int)),((0:Int) < (18446744073709551616:Int)),((0:Int) ≤ (0:Int)),((0:Int) < (18446744073709551616:Int)),((0:Int) ≤ (IntKind.wrap .u64 t)),((IntKind.wrap .u64 t) < (18446744073709551616:Int)),((0:Int) ≤ (0:Int)),((0:Int) < (18446744073709551616:Int)),((0:Int) ≤ (0:Int)),((0:Int) < (18446744073709551616:Int)),((0:Int) ≤ (0:Int)),((0:Int) < (18446744073709551616:Int)),(true = true),((0:Int) ≤ (IntKind.wrap .u64 m)),((IntKind.wrap .u64 m) < (18446744073709551616:Int)),((0:Int) ≤ (0:Int)),((0:Int) < (18446744073709551616:Int)),((0:Int) ≤ (0:Int)),((0:Int) < (18446744073709551616:Int)),((0:Int) ≤ (0:Int)),((0:Int) < (18446744073709551616:Int)),((ite (true = true) (Bool.and (decide ((G2D.xa (Prod.fst (muR2 a (Fin.ofNat B4 (((IntKind.wrap .u64 m)).toNat + 0))))) = (G2D.xa o))) (Bool.and (decide ((G2D.xb (Prod.fst (muR2 a (Fin.ofNat B4 (((IntKind.wrap .u64 m)).toNat + 0))))) = (G2D.xb o))) (Bool.and (decide ((G2D.ya (Prod.fst (muR2 a (Fin.ofNat B4 (((IntKind.wrap .u64 m)).toNat + 0))))) = (G2D.ya o))) (Bool.and (decide ((G2D.yb (Prod.fst (muR2 a (Fin.ofNat B4 (((IntKind.wrap .u64 m)).toNat + 0))))) = (G2D.yb o))) ((G2D.inf (Prod.fst (muR2 a (Fin.ofNat B4 (((IntKind.wrap .u64 m)).toNat + 0))))) == (G2D.inf o)))))) (Bool.not (Bool.and (decide ((G2D.xa (Prod.fst (muR2 a (Fin.ofNat B4 (((IntKind.wrap .u64 m)).toNat + 0))))) = (G2D.xa o))) (Bool.and (decide ((G2D.xb (Prod.fst (muR2 a (Fin.ofNat B4 (((IntKind.wrap .u64 m)).toNat + 0))))) = (G2D.xb o))) (Bool.and (decide ((G2D.ya (Prod.fst (muR2 a (Fin.ofNat B4 (((IntKind.wrap .u64 m)).toNat + 0))))) = (G2D.ya o))) (Bool.and (decide ((G2D.yb (Prod.fst (muR2 a (Fin.ofNat B4 (((IntKind.wrap .u64 m)).toNat + 0))))) = (G2D.yb o))) ((G2D.inf (Prod.fst (muR2 a (Fin.ofNat B4 (((IntKind.wrap .u64 m)).toNat + 0))))) == (G2D.inf o)))))))) = true),((0:Int) ≤ (IntKind.wrap .u64 ((IntKind.wrap .u64 s) + (IntKind.wrap .u64 t)))),((IntKind.wrap .u64 ((IntKind.wrap .u64 s) + (IntKind.wrap .u64 t))) < (18446744073709551616:Int)),((0:Int) ≤ (0:Int)),((0:Int) < (18446744073709551616:Int)),((0:Int) ≤ (0:Int)),((0:Int) < (18446744073709551616:Int)),((0:Int) ≤ (0:Int)),((0:Int) < (18446744073709551616:Int)),((ite (true = true) (Bool.and (decide ((G2D.xa (Prod.fst (adR2 (Prod.fst (muR2 a (Fin.ofNat B4 (((IntKind.wrap .u64 s)).toNat + 0)))) (Prod.fst (muR2 a (Fin.ofNat B4 (((IntKind.wrap .u64 t)).toNat + 0))))))) = (G2D.xa (Prod.fst (muR2 a (Fin.ofNat B4 (((IntKind.wrap .u64 ((IntKind.wrap .u64 s) + (IntKind.wrap .u64 t)))).toNat + 0))))))) (Bool.and (decide ((G2D.xb (Prod.fst (adR2 (Prod.fst (muR2 a (Fin.ofNat B4 (((IntKind.wrap .u64 s)).toNat + 0)))) (Prod.fst (muR2 a (Fin.ofNat B4 (((IntKind.wrap .u64 t)).toNat + 0))))))) = (G2D.xb (Prod.fst (muR2 a (Fin.ofNat B4 (((IntKind.wrap .u64 ((IntKind.wrap .u64 s) + (IntKind.wrap .u64 t)))).toNat + 0))))))) (Bool.and (decide ((G2D.ya (Prod.fst (adR2 (Prod.fst (muR2 a (Fin.ofNat B4 (((IntKind.wrap .u64 s)).toNat + 0)))) (Prod.fst (muR2 a (Fin.ofNat B4 (((IntKind.wrap .u64 t)).toNat + 0))))))) = (G2D.ya (Prod.fst (muR2 a (Fin.ofNat B4 (((IntKind.wrap .u64 ((IntKind.wrap .u64 s) + (IntKind.wrap .u64 t)))).toNat + 0))))))) (Bool.and (decide ((G2D.yb (Prod.fst (adR2 (Prod.fst (muR2 a (Fin.ofNat B4 (((IntKind.wrap .u64 s)).toNat + 0)))) (Prod.fst (muR2 a (Fin.ofNat B4 (((IntKind.wrap .u64 t)).toNat + 0))))))) = (G2D.yb (Prod.fst (muR2 a (Fin.ofNat B4 (((IntKind.wrap .u64 ((IntKind.wrap .u64 s) + (IntKind.wrap .u64 t)))).toNat + 0))))))) ((G2D.inf (Prod.fst (adR2 (Prod.fst (muR2 a (Fin.ofNat B4 (((IntKind.wrap .u64 s)).toNat + 0)))) (Prod.fst (muR2 a (Fin.ofNat B4 (((IntKind.wrap .u64 t)).toNat + 0))))))) == (G2D.inf (Prod.fst (muR2 a (Fin.ofNat B4 (((IntKind.wrap .u64 ((IntKind.wrap .u64 s) + (IntKind.wrap .u64 t)))).toNat + 0)))))))))) (Bool.not (Bool.and (decide ((G2D.xa (Prod.fst (adR2 (Prod.fst (muR2 a (Fin.ofNat B4 (((IntKind.wrap .u64 s)).toNat + 0)))) (Prod.fst (muR2 a (Fin.ofNat B4 (((IntKind.wrap .u64 t)).toNat + 0))))))) = (G2D.xa (Prod.fst (muR2 a (Fin.ofNat B4 (((IntKind.wrap .u64 ((IntKind.wrap .u64 s) + (IntKind.wrap .u64 t)))).toNat + 0))))))) (Bool.and (decide ((G2D.xb (Prod.fst (adR2 (Prod.fst (muR2 a (Fin.ofNat B4 (((IntKind.wrap .u64 s)).toNat + 0)))) (Prod.fst (muR2 a (Fin.ofNat B4 (((IntKind.wrap .u64 t)).toNat + 0))))))) = (G2D.xb (Prod.fst (muR2 a (Fin.ofNat B4 (((IntKind.wrap .u64 ((IntKind.wrap .u64 s) + (IntKind.wrap .u64 t)))).toNat + 0))))))) (Bool.and (decide ((G2D.ya (Prod.fst (adR2 (Prod.fst (muR2 a (Fin.ofNat B4 (((IntKind.wrap .u64 s)).toNat + 0)))) (Prod.fst (muR2 a (Fin.ofNat B4 (((IntKind.wrap .u64 t)).toNat + 0))))))) = (G2D.ya (Prod.fst (muR2 a (Fin.ofNat B4 (((IntKind.wrap .u64 ((IntKind.wrap .u64 s) + (IntKind.wrap .u64 t)))).toNat + 0))))))) (Bool.and (decide ((G2D.yb (Prod.fst (adR2 (Prod.fst (muR2 a (Fin.ofNat B4 (((IntKind.wrap .u64 s)).toNat + 0)))) (Prod.fst (muR2 a (Fin.ofNat B4 (((IntKind.wrap .u64 t)).toNat + 0))))))) = (G2D.yb (Prod.fst (muR2 a (Fin.ofNat B4 (((IntKind.wrap .u64 ((IntKind.wrap .u64 s) + (IntKind.wrap .u64 t)))).toNat + 0))))))) ((G2D.inf (Prod.fst (adR2 (Prod.fst (muR2 a (Fin.ofNat B4 (((IntKind.wrap .u64 s)).toNat + 0)))) (Prod.fst (muR2 a (Fin.ofNat B4 (((IntKind.wrap .u64 t)).toNat + 0))))))) == (G2D.inf (Prod.fst (muR2 a (Fin.ofNat B4 (((IntKind.wrap .u64 ((IntKind.wrap .u64 s) + (IntKind.wrap .u64 t)))).toNat + 0)))))))))))) = true),((0:Int) ≤ (IntKind.wrap .u64 t)),((IntKind.wrap .u64 t) < (18446744073709551616:Int)),((0:Int) ≤ (0:Int)),((0:Int) < (18446744073709551616:Int)),((0:Int) ≤ (0:Int)),((0:Int) < (18446744073709551616:Int)),((0:Int) ≤ (0:Int)),((0:Int) < (18446744073709551616:Int)),((0:Int) ≤ (IntKind.wrap .u64 ((IntKind.wrap .u64 s) * (IntKind.wrap .u64 t)))),((IntKind.wrap .u64 ((IntKind.wrap .u64 s) * (IntKind.wrap .u64 t))) < (18446744073709551616:Int)),((0:Int) ≤ (0:Int)),((0:Int) < (18446744073709551616:Int)),((0:Int) ≤ (0:Int)),((0:Int) < (18446744073709551616:Int)),((0:Int) ≤ (0:Int)),((0:Int) < (18446744073709551616:Int))],((.v (.c (.bool (ite (true = true) (Bool.and (decide ((G2D.xa (Prod.fst (muR2 (Prod.fst (muR2 a (Fin.ofNat B4 (((IntKind.wrap .u64 s)).toNat + 0)))) (Fin.ofNat B4 (((IntKind.wrap .u64 t)).toNat + 0))))) = (G2D.xa (Prod.fst (muR2 a (Fin.ofNat B4 (((IntKind.wrap .u64 ((IntKind.wrap .u64 s) * (IntKind.wrap .u64 t)))).toNat + 0))))))) (Bool.and (decide ((G2D.xb (Prod.fst (muR2 (Prod.fst (muR2 a (Fin.ofNat B4 (((IntKind.wrap .u64 s)).toNat + 0)))) (Fin.ofNat B4 (((IntKind.wrap .u64 t)).toNat + 0))))) = (G2D.xb (Prod.fst (muR2 a (Fin.ofNat B4 (((IntKind.wrap .u64 ((IntKind.wrap .u64 s) * (IntKind.wrap .u64 t)))).toNat + 0))))))) (Bool.and (decide ((G2D.ya (Prod.fst (muR2 (Prod.fst (muR2 a (Fin.ofNat B4 (((IntKind.wrap .u64 s)).toNat + 0)))) (Fin.ofNat B4 (((IntKind.wrap .u64 t)).toNat + 0))))) = (G2D.ya (Prod.fst (muR2 a (Fin.ofNat B4 (((IntKind.wrap .u64 ((IntKind.wrap .u64 s) * (IntKind.wrap .u64 t)))).toNat + 0))))))) (Bool.and (decide ((G2D.yb (Prod.fst (muR2 (Prod.fst (muR2 a (Fin.ofNat B4 (((IntKind.wrap .u64 s)).toNat + 0)))) (Fin.ofNat B4 (((IntKind.wrap .u64 t)).toNat + 0))))) = (G2D.yb (Prod.fst (muR2 a (Fin.ofNat B4 (((IntKind.wrap .u64 ((IntKind.wrap .u64 s) * (IntKind.wrap .u64 t)))).toNat + 0))))))) ((G2D.inf (Prod.fst (muR2 (Prod.fst (muR2 a (Fin.ofNat B4 (((IntKind.wrap .u64 s)).toNat + 0)))) (Fin.ofNat B4 (((IntKind.wrap .u64 t)).toNat + 0))))) == (G2D.inf (Prod.fst (muR2 a (Fin.ofNat B4 (((IntKind.wrap .u64 ((IntKind.wrap .u64 s) * (IntKind.wrap .u64 t)))).toNat + 0)))))))))) (Bool.not (Bool.and (decide ((G2D.xa (Prod.fst (muR2 (Prod.fst (muR2 a (Fin.ofNat B4 (((IntKind.wrap .u64 s)).toNat + 0)))) (Fin.ofNat B4 (((IntKind.wrap .u64 t)).toNat + 0))))) = (G2D.xa (Prod.fst (muR2 a (Fin.ofNat B4 (((IntKind.wrap .u64 ((IntKind.wrap .u64 s) * (IntKind.wrap .u64 t)))).toNat + 0))))))) (Bool.and (decide ((G2D.xb (Prod.fst (muR2 (Prod.fst (muR2 a (Fin.ofNat B4 (((IntKind.wrap .u64 s)).toNat + 0)))) (Fin.ofNat B4 (((IntKind.wrap .u64 t)).toNat + 0))))) = (G2D.xb (Prod.fst (muR2 a (Fin.ofNat B4 (((IntKind.wrap .u64 ((IntKind.wrap .u64 s) * (IntKind.wrap .u64 t)))).toNat + 0))))))) (Bool.and (decide ((G2D.ya (Prod.fst (muR2 (Prod.fst (muR2 a (Fin.ofNat B4 (((IntKind.wrap .u64 s)).toNat + 0)))) (Fin.ofNat B4 (((IntKind.wrap .u64 t)).toNat + 0))))) = (G2D.ya (Prod.fst (muR2 a (Fin.ofNat B4 (((IntKind.wrap .u64 ((IntKind.wrap .u64 s) * (IntKind.wrap .u64 t)))).toNat + 0))))))) (Bool.and (decide ((G2D.yb (Prod.fst (muR2 (Prod.fst (muR2 a (Fin.ofNat B4 (((IntKind.wrap .u64 s)).toNat + 0)))) (Fin.ofNat B4 (((IntKind.wrap .u64 t)).toNat + 0))))) = (G2D.yb (Prod.fst (muR2 a (Fin.ofNat B4 (((IntKind.wrap .u64 ((IntKind.wrap .u64 s) * (IntKind.wrap .u64 t)))).toNat + 0))))))) ((G2D.inf (Prod.fst (muR2 (Prod.fst (muR2 a (Fin.ofNat B4 (((IntKind.wrap .u64 s)).toNat + 0)))) (Fin.ofNat B4 (((IntKind.wrap .u64 t)).toNat + 0))))) == (G2D.inf (Prod.fst (muR2 a (Fin.ofNat B4 (((IntKind.wrap .u64 ((IntKind.wrap .u64 s) * (IntKind.wrap .u64 t)))).toNat + 0))))))))))))))),[]))) := by kernel_rfl
end
end Go.Proofs.Ytkfcphigoncgjaa

/- TwoOrder's and TwoNegs' laws, walked. No conditions. -/
namespace Go.Proofs.Ytkfcphigoncgjaa

noncomputable def ubA : Env := ruC.or S4.gK
theorem ubA_ok : EnvOk Try.prog ubA := env_or ruC_ok S4.gK_ok
--@env ubA ubA_ok
theorem gtA (a b c d : U6) (i : Bool) : fnRes ubA Try.f43 3000 [.v (.a [.ob (.fp a),.ob (.fp b),.ob (.fp c),.ob (.fp d),.bool i])] [true] [] [] = (some ([((onG2 (G2D.mk a b c d i)) = true)],((.v (.c (.bool (decide ((Prod.snd (Prod.snd (jmn (inG2 (G2D.mk a b c d i)) (dgT 52435875175126190479447740508185965837690552500527637822603658699938581184513 64)))) = (0 : (Prod (Fin pN) (Fin pN)))))))),[]))) := by kernel_rfl
theorem gtB (a b c d : U6) (i : Bool) : fnRes ubA Try.f43 3000 [.v (.a [.ob (.fp a),.ob (.fp b),.ob (.fp c),.ob (.fp d),.bool i])] [false] [] [] = (some ([((onG2 (G2D.mk a b c d i)) = false)],((.v (.c (.lit false))),[]))) := by kernel_rfl
/-- Whether a point is of the group. -/
def grp2 (a : G2D) : Bool := onG2 a && decide ((jmn (inG2 a) (dgT 52435875175126190479447740508185965837690552500527637822603658699938581184513 64)).2.2 = 0)
theorem grp2_fnd (a b c d : U6) (i : Bool) : FnD Try.prog 43 [.v (.a [.ob (.fp a), .ob (.fp b), .ob (.fp c), .ob (.fp d), .bool i])] (.v (.c (.bool (grp2 ⟨a, b, c, d, i⟩)))) [] := by
  by_cases h1 : onG2 ⟨a, b, c, d, i⟩ = true
  · have e : grp2 ⟨a, b, c, d, i⟩ = decide ((jmn (inG2 ⟨a, b, c, d, i⟩) (dgT 52435875175126190479447740508185965837690552500527637822603658699938581184513 64)).2.2 = 0) := by unfold grp2; rw [h1, Bool.true_and]
    rw [e]
    exact fn_sound ubA_ok Try.func43 (gtA a b c d i) ⟨h1, trivial⟩
  · have h1 : onG2 ⟨a, b, c, d, i⟩ = false := Bool.eq_false_iff.2 h1
    have e : grp2 ⟨a, b, c, d, i⟩ = false := by unfold grp2; rw [h1, Bool.false_and]
    rw [e]
    exact (fn_sound ubA_ok Try.func43 (gtB a b c d i) ⟨h1, trivial⟩).conv (fun _ _ h => h) fun y v hd => lit_bool rfl hd
def grp2Spec : FnSpec
  | [.v (.a [.ob (.fp a), .ob (.fp b), .ob (.fp c), .ob (.fp d), .bool i])] => some ([], .v (.c (.bool (grp2 ⟨a, b, c, d, i⟩))), [])
  | _ => none
noncomputable def ubB : Env := ubA.set (addT ubA.fn 43 grp2Spec)
theorem ubB_ok : EnvOk Try.prog ubB := env_add ubA_ok 43 grp2Spec (enters_of Try.func43 rfl rfl) fun args o r es h _ => by
  unfold grp2Spec at h
  split at h
  · cases h; exact grp2_fnd _ _ _ _ _
  · cases h
--@env ubB ubB_ok
theorem torA (a : G2D) (k l : U4) : fnRes ubB Try.f10 3000 [.v (.a a.its),.v (.a [.ob (.fr k)]),.v (.a [.ob (.fr l)])] [true,true] [] [] = (some ([((Bool.not (onG2 a)) = true),(true = true)],((.v (.c (.bool (Bool.not (grp2 a))))),[]))) := by kernel_rfl
theorem torB (a : G2D) (k l : U4) : fnRes ubB Try.f10 3000 [.v (.a a.its),.v (.a [.ob (.fr k)]),.v (.a [.ob (.fr l)])] [false,false,false,true] [] [] = (some ([((Bool.not (onG2 a)) = false),((ite (false = true) ((ite (true = true) (Bool.and (decide ((G2D.xa (Prod.fst (muR2 a S4.rU))) = (G2D.xa (G2D.mk (0:U6) (0:U6) (0:U6) (0:U6) true)))) (Bool.and (decide ((G2D.xb (Prod.fst (muR2 a S4.rU))) = (G2D.xb (G2D.mk (0:U6) (0:U6) (0:U6) (0:U6) true)))) (Bool.and (decide ((G2D.ya (Prod.fst (muR2 a S4.rU))) = (G2D.ya (G2D.mk (0:U6) (0:U6) (0:U6) (0:U6) true)))) (Bool.and (decide ((G2D.yb (Prod.fst (muR2 a S4.rU))) = (G2D.yb (G2D.mk (0:U6) (0:U6) (0:U6) (0:U6) true)))) ((G2D.inf (Prod.fst (muR2 a S4.rU))) == (G2D.inf (G2D.mk (0:U6) (0:U6) (0:U6) (0:U6) true))))))) (Bool.not (Bool.and (decide ((G2D.xa (Prod.fst (muR2 a S4.rU))) = (G2D.xa (G2D.mk (0:U6) (0:U6) (0:U6) (0:U6) true)))) (Bool.and (decide ((G2D.xb (Prod.fst (muR2 a S4.rU))) = (G2D.xb (G2D.mk (0:U6) (0:U6) (0:U6) (0:U6) true)))) (Bool.and (decide ((G2D.ya (Prod.fst (muR2 a S4.rU))) = (G2D.ya (G2D.mk (0:U6) (0:U6) (0:U6) (0:U6) true)))) (Bool.and (decide ((G2D.yb (Prod.fst (muR2 a S4.rU))) = (G2D.yb (G2D.mk (0:U6) (0:U6) (0:U6) (0:U6) true)))) ((G2D.inf (Prod.fst (muR2 a S4.rU))) == (G2D.inf (G2D.mk (0:U6) (0:U6) (0:U6) (0:U6) true))))))))) == (grp2 a)) (Bool.not ((ite (true = true) (Bool.and (decide ((G2D.xa (Prod.fst (muR2 a S4.rU))) = (G2D.xa (G2D.mk (0:U6) (0:U6) (0:U6) (0:U6) true)))) (Bool.and (decide ((G2D.xb (Prod.fst (muR2 a S4.rU))) = (G2D.xb (G2D.mk (0:U6) (0:U6) (0:U6) (0:U6) true)))) (Bool.and (decide ((G2D.ya (Prod.fst (muR2 a S4.rU))) = (G2D.ya (G2D.mk (0:U6) (0:U6) (0:U6) (0:U6) true)))) (Bool.and (decide ((G2D.yb (Prod.fst (muR2 a S4.rU))) = (G2D.yb (G2D.mk (0:U6) (0:U6) (0:U6) (0:U6) true)))) ((G2D.inf (Prod.fst (muR2 a S4.rU))) == (G2D.inf (G2D.mk (0:U6) (0:U6) (0:U6) (0:U6) true))))))) (Bool.not (Bool.and (decide ((G2D.xa (Prod.fst (muR2 a S4.rU))) = (G2D.xa (G2D.mk (0:U6) (0:U6) (0:U6) (0:U6) true)))) (Bool.and (decide ((G2D.xb (Prod.fst (muR2 a S4.rU))) = (G2D.xb (G2D.mk (0:U6) (0:U6) (0:U6) (0:U6) true)))) (Bool.and (decide ((G2D.ya (Prod.fst (muR2 a S4.rU))) = (G2D.ya (G2D.mk (0:U6) (0:U6) (0:U6) (0:U6) true)))) (Bool.and (decide ((G2D.yb (Prod.fst (muR2 a S4.rU))) = (G2D.yb (G2D.mk (0:U6) (0:U6) (0:U6) (0:U6) true)))) ((G2D.inf (Prod.fst (muR2 a S4.rU))) == (G2D.inf (G2D.mk (0:U6) (0:U6) (0:U6) (0:U6) true))))))))) == (grp2 a)))) = false),((Bool.not true) = false),((Bool.not (ite (true = true) (Bool.and (decide ((G2D.xa (Prod.fst (muR2 a S4.rU))) = (G2D.xa (G2D.mk (0:U6) (0:U6) (0:U6) (0:U6) true)))) (Bool.and (decide ((G2D.xb (Prod.fst (muR2 a S4.rU))) = (G2D.xb (G2D.mk (0:U6) (0:U6) (0:U6) (0:U6) true)))) (Bool.and (decide ((G2D.ya (Prod.fst (muR2 a S4.rU))) = (G2D.ya (G2D.mk (0:U6) (0:U6) (0:U6) (0:U6) true)))) (Bool.and (decide ((G2D.yb (Prod.fst (muR2 a S4.rU))) = (G2D.yb (G2D.mk (0:U6) (0:U6) (0:U6) (0:U6) true)))) ((G2D.inf (Prod.fst (muR2 a S4.rU))) == (G2D.inf (G2D.mk (0:U6) (0:U6) (0:U6) (0:U6) true))))))) (Bool.not (Bool.and (decide ((G2D.xa (Prod.fst (muR2 a S4.rU))) = (G2D.xa (G2D.mk (0:U6) (0:U6) (0:U6) (0:U6) true)))) (Bool.and (decide ((G2D.xb (Prod.fst (muR2 a S4.rU))) = (G2D.xb (G2D.mk (0:U6) (0:U6) (0:U6) (0:U6) true)))) (Bool.and (decide ((G2D.ya (Prod.fst (muR2 a S4.rU))) = (G2D.ya (G2D.mk (0:U6) (0:U6) (0:U6) (0:U6) true)))) (Bool.and (decide ((G2D.yb (Prod.fst (muR2 a S4.rU))) = (G2D.yb (G2D.mk (0:U6) (0:U6) (0:U6) (0:U6) true)))) ((G2D.inf (Prod.fst (muR2 a S4.rU))) == (G2D.inf (G2D.mk (0:U6) (0:U6) (0:U6) (0:U6) true)))))))))) = true)],((.v (.c (.lit true))),[]))) := by kernel_rfl
theorem torC (a : G2D) (k l : U4) : fnRes ubB Try.f10 3000 [.v (.a a.its),.v (.a [.ob (.fr k)]),.v (.a [.ob (.fr l)])] [false,false,false,false,true,true,true] [] [] = (some ([((Bool.not (onG2 a)) = false),((ite (false = true) ((ite (true = true) (Bool.and (decide ((G2D.xa (Prod.fst (muR2 a S4.rU))) = (G2D.xa (G2D.mk (0:U6) (0:U6) (0:U6) (0:U6) true)))) (Bool.and (decide ((G2D.xb (Prod.fst (muR2 a S4.rU))) = (G2D.xb (G2D.mk (0:U6) (0:U6) (0:U6) (0:U6) true)))) (Bool.and (decide ((G2D.ya (Prod.fst (muR2 a S4.rU))) = (G2D.ya (G2D.mk (0:U6) (0:U6) (0:U6) (0:U6) true)))) (Bool.and (decide ((G2D.yb (Prod.fst (muR2 a S4.rU))) = (G2D.yb (G2D.mk (0:U6) (0:U6) (0:U6) (0:U6) true)))) ((G2D.inf (Prod.fst (muR2 a S4.rU))) == (G2D.inf (G2D.mk (0:U6) (0:U6) (0:U6) (0:U6) true))))))) (Bool.not (Bool.and (decide ((G2D.xa (Prod.fst (muR2 a S4.rU))) = (G2D.xa (G2D.mk (0:U6) (0:U6) (0:U6) (0:U6) true)))) (Bool.and (decide ((G2D.xb (Prod.fst (muR2 a S4.rU))) = (G2D.xb (G2D.mk (0:U6) (0:U6) (0:U6) (0:U6) true)))) (Bool.and (decide ((G2D.ya (Prod.fst (muR2 a S4.rU))) = (G2D.ya (G2D.mk (0:U6) (0:U6) (0:U6) (0:U6) true)))) (Bool.and (decide ((G2D.yb (Prod.fst (muR2 a S4.rU))) = (G2D.yb (G2D.mk (0:U6) (0:U6) (0:U6) (0:U6) true)))) ((G2D.inf (Prod.fst (muR2 a S4.rU))) == (G2D.inf (G2D.mk (0:U6) (0:U6) (0:U6) (0:U6) true))))))))) == (grp2 a)) (Bool.not ((ite (true = true) (Bool.and (decide ((G2D.xa (Prod.fst (muR2 a S4.rU))) = (G2D.xa (G2D.mk (0:U6) (0:U6) (0:U6) (0:U6) true)))) (Bool.and (decide ((G2D.xb (Prod.fst (muR2 a S4.rU))) = (G2D.xb (G2D.mk (0:U6) (0:U6) (0:U6) (0:U6) true)))) (Bool.and (decide ((G2D.ya (Prod.fst (muR2 a S4.rU))) = (G2D.ya (G2D.mk (0:U6) (0:U6) (0:U6) (0:U6) true)))) (Bool.and (decide ((G2D.yb (Prod.fst (muR2 a S4.rU))) = (G2D.yb (G2D.mk (0:U6) (0:U6) (0:U6) (0:U6) true)))) ((G2D.inf (Prod.fst (muR2 a S4.rU))) == (G2D.inf (G2D.mk (0:U6) (0:U6) (0:U6) (0:U6) true))))))) (Bool.not (Bool.and (decide ((G2D.xa (Prod.fst (muR2 a S4.rU))) = (G2D.xa (G2D.mk (0:U6) (0:U6) (0:U6) (0:U6) true)))) (Bool.and (decide ((G2D.xb (Prod.fst (muR2 a S4.rU))) = (G2D.xb (G2D.mk (0:U6) (0:U6) (0:U6) (0:U6) true)))) (Bool.and (decide ((G2D.ya (Prod.fst (muR2 a S4.rU))) = (G2D.ya (G2D.mk (0:U6) (0:U6) (0:U6) (0:U6) true)))) (Bool.and (decide ((G2D.yb (Prod.fst (muR2 a S4.rU))) = (G2D.yb (G2D.mk (0:U6) (0:U6) (0:U6) (0:U6) true)))) ((G2D.inf (Prod.fst (muR2 a S4.rU))) == (G2D.inf (G2D.mk (0:U6) (0:U6) (0:U6) (0:U6) true))))))))) == (grp2 a)))) = false),((Bool.not true) = false),((Bool.not (ite (true = true) (Bool.and (decide ((G2D.xa (Prod.fst (muR2 a S4.rU))) = (G2D.xa (G2D.mk (0:U6) (0:U6) (0:U6) (0:U6) true)))) (Bool.and (decide ((G2D.xb (Prod.fst (muR2 a S4.rU))) = (G2D.xb (G2D.mk (0:U6) (0:U6) (0:U6) (0:U6) true)))) (Bool.and (decide ((G2D.ya (Prod.fst (muR2 a S4.rU))) = (G2D.ya (G2D.mk (0:U6) (0:U6) (0:U6) (0:U6) true)))) (Bool.and (decide ((G2D.yb (Prod.fst (muR2 a S4.rU))) = (G2D.yb (G2D.mk (0:U6) (0:U6) (0:U6) (0:U6) true)))) ((G2D.inf (Prod.fst (muR2 a S4.rU))) == (G2D.inf (G2D.mk (0:U6) (0:U6) (0:U6) (0:U6) true))))))) (Bool.not (Bool.and (decide ((G2D.xa (Prod.fst (muR2 a S4.rU))) = (G2D.xa (G2D.mk (0:U6) (0:U6) (0:U6) (0:U6) true)))) (Bool.and (decide ((G2D.xb (Prod.fst (muR2 a S4.rU))) = (G2D.xb (G2D.mk (0:U6) (0:U6) (0:U6) (0:U6) true)))) (Bool.and (decide ((G2D.ya (Prod.fst (muR2 a S4.rU))) = (G2D.ya (G2D.mk (0:U6) (0:U6) (0:U6) (0:U6) true)))) (Bool.and (decide ((G2D.yb (Prod.fst (muR2 a S4.rU))) = (G2D.yb (G2D.mk (0:U6) (0:U6) (0:U6) (0:U6) true)))) ((G2D.inf (Prod.fst (muR2 a S4.rU))) == (G2D.inf (G2D.mk (0:U6) (0:U6) (0:U6) (0:U6) true)))))))))) = false),((ite (true = true) (Bool.and (decide ((G2D.xa (Prod.fst (muR2 a k))) = (G2D.xa (Prod.fst (muR2 a (S4.outF (S4.inF k))))))) (Bool.and (decide ((G2D.xb (Prod.fst (muR2 a k))) = (G2D.xb (Prod.fst (muR2 a (S4.outF (S4.inF k))))))) (Bool.and (decide ((G2D.ya (Prod.fst (muR2 a k))) = (G2D.ya (Prod.fst (muR2 a (S4.outF (S4.inF k))))))) (Bool.and (decide ((G2D.yb (Prod.fst (muR2 a k))) = (G2D.yb (Prod.fst (muR2 a (S4.outF (S4.inF k))))))) ((G2D.inf (Prod.fst (muR2 a k))) == (G2D.inf (Prod.fst (muR2 a (S4.outF (S4.inF k)))))))))) (Bool.not (Bool.and (decide ((G2D.xa (Prod.fst (muR2 a k))) = (G2D.xa (Prod.fst (muR2 a (S4.outF (S4.inF k))))))) (Bool.and (decide ((G2D.xb (Prod.fst (muR2 a k))) = (G2D.xb (Prod.fst (muR2 a (S4.outF (S4.inF k))))))) (Bool.and (decide ((G2D.ya (Prod.fst (muR2 a k))) = (G2D.ya (Prod.fst (muR2 a (S4.outF (S4.inF k))))))) (Bool.and (decide ((G2D.yb (Prod.fst (muR2 a k))) = (G2D.yb (Prod.fst (muR2 a (S4.outF (S4.inF k))))))) ((G2D.inf (Prod.fst (muR2 a k))) == (G2D.inf (Prod.fst (muR2 a (S4.outF (S4.inF k)))))))))))) = true),((ite (true = true) (Bool.and (decide ((G2D.xa (Prod.fst (adR2 (Prod.fst (muR2 a k)) (Prod.fst (muR2 a l))))) = (G2D.xa (Prod.fst (muR2 a (S4.outF ((S4.inF k) + (S4.inF l)))))))) (Bool.and (decide ((G2D.xb (Prod.fst (adR2 (Prod.fst (muR2 a k)) (Prod.fst (muR2 a l))))) = (G2D.xb (Prod.fst (muR2 a (S4.outF ((S4.inF k) + (S4.inF l)))))))) (Bool.and (decide ((G2D.ya (Prod.fst (adR2 (Prod.fst (muR2 a k)) (Prod.fst (muR2 a l))))) = (G2D.ya (Prod.fst (muR2 a (S4.outF ((S4.inF k) + (S4.inF l)))))))) (Bool.and (decide ((G2D.yb (Prod.fst (adR2 (Prod.fst (muR2 a k)) (Prod.fst (muR2 a l))))) = (G2D.yb (Prod.fst (muR2 a (S4.outF ((S4.inF k) + (S4.inF l)))))))) ((G2D.inf (Prod.fst (adR2 (Prod.fst (muR2 a k)) (Prod.fst (muR2 a l))))) == (G2D.inf (Prod.fst (muR2 a (S4.outF ((S4.inF k) + (S4.inF l))))))))))) (Bool.not (Bool.and (decide ((G2D.xa (Prod.fst (adR2 (Prod.fst (muR2 a k)) (Prod.fst (muR2 a l))))) = (G2D.xa (Prod.fst (muR2 a (S4.outF ((S4.inF k) + (S4.inF l)))))))) (Bool.and (decide ((G2D.xb (Prod.fst (adR2 (Prod.fst (muR2 a k)) (Prod.fst (muR2 a l))))) = (G2D.xb (Prod.fst (muR2 a (S4.outF ((S4.inF k) + (S4.inF l)))))))) (Bool.and (decide ((G2D.ya (Prod.fst (adR2 (Prod.fst (muR2 a k)) (Prod.fst (muR2 a l))))) = (G2D.ya (Prod.fst (muR2 a (S4.outF ((S4.inF k) + (S4.inF l)))))))) (Bool.and (decide ((G2D.yb (Prod.fst (adR2 (Prod.fst (muR2 a k)) (Prod.fst (muR2 a l))))) = (G2D.yb (Prod.fst (muR2 a (S4.outF ((S4.inF k) + (S4.inF l)))))))) ((G2D.inf (Prod.fst (adR2 (Prod.fst (muR2 a k)) (Prod.fst (muR2 a l))))) == (G2D.inf (Prod.fst (muR2 a (S4.outF ((S4.inF k) + (S4.inF l))))))))))))) = true),((ite (true = true) (Bool.and (decide ((G2D.xa (Prod.fst (muR2 (Prod.fst (muR2 a k)) l))) = (G2D.xa (Prod.fst (muR2 a (S4.outF ((S4.inF k) * (S4.inF l)))))))) (Bool.and (decide ((G2D.xb (Prod.fst (muR2 (Prod.fst (muR2 a k)) l))) = (G2D.xb (Prod.fst (muR2 a (S4.outF ((S4.inF k) * (S4.inF l)))))))) (Bool.and (decide ((G2D.ya (Prod.fst (muR2 (Prod.fst (muR2 a k)) l))) = (G2D.ya (Prod.fst (muR2 a (S4.outF ((S4.inF k) * (S4.inF l)))))))) (Bool.and (decide ((G2D.yb (Prod.fst (muR2 (Prod.fst (muR2 a k)) l))) = (G2D.yb (Prod.fst (muR2 a (S4.outF ((S4.inF k) * (S4.inF l)))))))) ((G2D.inf (Prod.fst (muR2 (Prod.fst (muR2 a k)) l))) == (G2D.inf (Prod.fst (muR2 a (S4.outF ((S4.inF k) * (S4.inF l))))))))))) (Bool.not (Bool.and (decide ((G2D.xa (Prod.fst (muR2 (Prod.fst (muR2 a k)) l))) = (G2D.xa (Prod.fst (muR2 a (S4.outF ((S4.inF k) * (S4.inF l)))))))) (Bool.and (decide ((G2D.xb (Prod.fst (muR2 (Prod.fst (muR2 a k)) l))) = (G2D.xb (Prod.fst (muR2 a (S4.outF ((S4.inF k) * (S4.inF l)))))))) (Bool.and (decide ((G2D.ya (Prod.fst (muR2 (Prod.fst (muR2 a k)) l))) = (G2D.ya (Prod.fst (muR2 a (S4.outF ((S4.inF k) * (S4.inF l)))))))) (Bool.and (decide ((G2D.yb (Prod.fst (muR2 (Prod.fst (muR2 a k)) l))) = (G2D.yb (Prod.fst (muR2 a (S4.outF ((S4.inF k) * (S4.inF l)))))))) ((G2D.inf (Prod.fst (muR2 (Prod.fst (muR2 a k)) l))) == (G2D.inf (Prod.fst (muR2 a (S4.outF ((S4.inF k) * (S4.inF l))))))))))))) = true)],((.v (.c (.bool (grp2 (Prod.fst (muR2 a k)))))),[]))) := by kernel_rfl
theorem tnsA (a : G2D) (k : U4) : fnRes ubB Try.f12 3000 [.v (.a a.its),.v (.a [.ob (.fr k)])] [true] [] [] = (some ([((Bool.not (onG2 a)) = true)],((.v (.c (.bool true))),[]))) := by kernel_rfl
theorem tnsB (a : G2D) (k : U4) : fnRes ubB Try.f12 3000 [.v (.a a.its),.v (.a [.ob (.fr k)])] [false,false,false,false,false,false] [] [] = (some ([((Bool.not (onG2 a)) = false),(((Prod.snd (neR2 a)) != (0:Int)) = false),(((Prod.snd (neR2 (Prod.fst (muR2 a k)))) != (0:Int)) = false),((ite (false = true) (Bool.and (decide ((G2D.xa (Prod.fst (muR2 (Prod.fst (neR2 a)) k))) = (G2D.xa (Prod.fst (neR2 (Prod.fst (muR2 a k))))))) (Bool.and (decide ((G2D.xb (Prod.fst (muR2 (Prod.fst (neR2 a)) k))) = (G2D.xb (Prod.fst (neR2 (Prod.fst (muR2 a k))))))) (Bool.and (decide ((G2D.ya (Prod.fst (muR2 (Prod.fst (neR2 a)) k))) = (G2D.ya (Prod.fst (neR2 (Prod.fst (muR2 a k))))))) (Bool.and (decide ((G2D.yb (Prod.fst (muR2 (Prod.fst (neR2 a)) k))) = (G2D.yb (Prod.fst (neR2 (Prod.fst (muR2 a k))))))) ((G2D.inf (Prod.fst (muR2 (Prod.fst (neR2 a)) k))) == (G2D.inf (Prod.fst (neR2 (Prod.fst (muR2 a k)))))))))) (Bool.not (Bool.and (decide ((G2D.xa (Prod.fst (muR2 (Prod.fst (neR2 a)) k))) = (G2D.xa (Prod.fst (neR2 (Prod.fst (muR2 a k))))))) (Bool.and (decide ((G2D.xb (Prod.fst (muR2 (Prod.fst (neR2 a)) k))) = (G2D.xb (Prod.fst (neR2 (Prod.fst (muR2 a k))))))) (Bool.and (decide ((G2D.ya (Prod.fst (muR2 (Prod.fst (neR2 a)) k))) = (G2D.ya (Prod.fst (neR2 (Prod.fst (muR2 a k))))))) (Bool.and (decide ((G2D.yb (Prod.fst (muR2 (Prod.fst (neR2 a)) k))) = (G2D.yb (Prod.fst (neR2 (Prod.fst (muR2 a k))))))) ((G2D.inf (Prod.fst (muR2 (Prod.fst (neR2 a)) k))) == (G2D.inf (Prod.fst (neR2 (Prod.fst (muR2 a k)))))))))))) = false),((Bool.not true) = false),((Bool.not (grp2 a)) = false)],((.v (.c (.bool (ite (true = true) (Bool.and (decide ((G2D.xa (Prod.fst (adR2 (Prod.fst (muR2 a k)) (Prod.fst (muR2 a (S4.outF ((0:Fr) - (S4.inF k)))))))) = (G2D.xa (G2D.mk (0:U6) (0:U6) (0:U6) (0:U6) true)))) (Bool.and (decide ((G2D.xb (Prod.fst (adR2 (Prod.fst (muR2 a k)) (Prod.fst (muR2 a (S4.outF ((0:Fr) - (S4.inF k)))))))) = (G2D.xb (G2D.mk (0:U6) (0:U6) (0:U6) (0:U6) true)))) (Bool.and (decide ((G2D.ya (Prod.fst (adR2 (Prod.fst (muR2 a k)) (Prod.fst (muR2 a (S4.outF ((0:Fr) - (S4.inF k)))))))) = (G2D.ya (G2D.mk (0:U6) (0:U6) (0:U6) (0:U6) true)))) (Bool.and (decide ((G2D.yb (Prod.fst (adR2 (Prod.fst (muR2 a k)) (Prod.fst (muR2 a (S4.outF ((0:Fr) - (S4.inF k)))))))) = (G2D.yb (G2D.mk (0:U6) (0:U6) (0:U6) (0:U6) true)))) ((G2D.inf (Prod.fst (adR2 (Prod.fst (muR2 a k)) (Prod.fst (muR2 a (S4.outF ((0:Fr) - (S4.inF k)))))))) == (G2D.inf (G2D.mk (0:U6) (0:U6) (0:U6) (0:U6) true))))))) (Bool.not (Bool.and (decide ((G2D.xa (Prod.fst (adR2 (Prod.fst (muR2 a k)) (Prod.fst (muR2 a (S4.outF ((0:Fr) - (S4.inF k)))))))) = (G2D.xa (G2D.mk (0:U6) (0:U6) (0:U6) (0:U6) true)))) (Bool.and (decide ((G2D.xb (Prod.fst (adR2 (Prod.fst (muR2 a k)) (Prod.fst (muR2 a (S4.outF ((0:Fr) - (S4.inF k)))))))) = (G2D.xb (G2D.mk (0:U6) (0:U6) (0:U6) (0:U6) true)))) (Bool.and (decide ((G2D.ya (Prod.fst (adR2 (Prod.fst (muR2 a k)) (Prod.fst (muR2 a (S4.outF ((0:Fr) - (S4.inF k)))))))) = (G2D.ya (G2D.mk (0:U6) (0:U6) (0:U6) (0:U6) true)))) (Bool.and (decide ((G2D.yb (Prod.fst (adR2 (Prod.fst (muR2 a k)) (Prod.fst (muR2 a (S4.outF ((0:Fr) - (S4.inF k)))))))) = (G2D.yb (G2D.mk (0:U6) (0:U6) (0:U6) (0:U6) true)))) ((G2D.inf (Prod.fst (adR2 (Prod.fst (muR2 a k)) (Prod.fst (muR2 a (S4.outF ((0:Fr) - (S4.inF k)))))))) == (G2D.inf (G2D.mk (0:U6) (0:U6) (0:U6) (0:U6) true)))))))))))),[]))) := by kernel_rfl
theorem tnsC (a : G2D) (k : U4) : fnRes ubB Try.f12 3000 [.v (.a a.its),.v (.a [.ob (.fr k)])] [false,false,false,false,false,true] [] [] = (some ([((Bool.not (onG2 a)) = false),(((Prod.snd (neR2 a)) != (0:Int)) = false),(((Prod.snd (neR2 (Prod.fst (muR2 a k)))) != (0:Int)) = false),((ite (false = true) (Bool.and (decide ((G2D.xa (Prod.fst (muR2 (Prod.fst (neR2 a)) k))) = (G2D.xa (Prod.fst (neR2 (Prod.fst (muR2 a k))))))) (Bool.and (decide ((G2D.xb (Prod.fst (muR2 (Prod.fst (neR2 a)) k))) = (G2D.xb (Prod.fst (neR2 (Prod.fst (muR2 a k))))))) (Bool.and (decide ((G2D.ya (Prod.fst (muR2 (Prod.fst (neR2 a)) k))) = (G2D.ya (Prod.fst (neR2 (Prod.fst (muR2 a k))))))) (Bool.and (decide ((G2D.yb (Prod.fst (muR2 (Prod.fst (neR2 a)) k))) = (G2D.yb (Prod.fst (neR2 (Prod.fst (muR2 a k))))))) ((G2D.inf (Prod.fst (muR2 (Prod.fst (neR2 a)) k))) == (G2D.inf (Prod.fst (neR2 (Prod.fst (muR2 a k)))))))))) (Bool.not (Bool.and (decide ((G2D.xa (Prod.fst (muR2 (Prod.fst (neR2 a)) k))) = (G2D.xa (Prod.fst (neR2 (Prod.fst (muR2 a k))))))) (Bool.and (decide ((G2D.xb (Prod.fst (muR2 (Prod.fst (neR2 a)) k))) = (G2D.xb (Prod.fst (neR2 (Prod.fst (muR2 a k))))))) (Bool.and (decide ((G2D.ya (Prod.fst (muR2 (Prod.fst (neR2 a)) k))) = (G2D.ya (Prod.fst (neR2 (Prod.fst (muR2 a k))))))) (Bool.and (decide ((G2D.yb (Prod.fst (muR2 (Prod.fst (neR2 a)) k))) = (G2D.yb (Prod.fst (neR2 (Prod.fst (muR2 a k))))))) ((G2D.inf (Prod.fst (muR2 (Prod.fst (neR2 a)) k))) == (G2D.inf (Prod.fst (neR2 (Prod.fst (muR2 a k)))))))))))) = false),((Bool.not true) = false),((Bool.not (grp2 a)) = true)],((.v (.c (.lit true))),[]))) := by kernel_rfl
end Go.Proofs.Ytkfcphigoncgjaa

/- TwoTimes' law returns true. No conditions. -/
namespace Go.Proofs.Ytkfcphigoncgjaa

theorem mul_of2 {a : G2D} (ha : onG2 a = true) {n : Nat} (h : n < 18446744073709551616) : (muR2 a (Fin.ofNat B4 n)).1 = gP2 (nmul (pG2 a) n) := by
  rw [congrArg Prod.fst (muR2_on (Fin.ofNat B4 n) ha), mulG2_is ha, ofN_val h]
theorem add_of2 {P Q : Pt F2} (hP : OnC fq4 P) (hQ : OnC fq4 Q) : (adR2 (gP2 P) (gP2 Q)).1 = gP2 (gadd P Q) := by
  rw [congrArg Prod.fst (adR2_on (onG2_gP hP) (onG2_gP hQ)), addG2_is, pG_gP2, pG_gP2]

theorem twoTimes_fnd (a : G2D) (n s t : Int) (hs0 : 0 ≤ s) (hs1 : s < 4294967296) (ht0 : 0 ≤ t) (ht1 : t < 4294967296) :
    FnD Try.prog 8 [.v (.a a.its), .v (.c (.int .i64 n)), .v (.c (.int .u32 s)), .v (.c (.int .u32 t))] (.v (.c (.bool true))) [] := by
  by_cases ha : onG2 a = true
  · obtain ⟨S, rfl⟩ := Int.eq_ofNat_of_zero_le hs0
    obtain ⟨T, rfl⟩ := Int.eq_ofNat_of_zero_le ht0
    have hS : S < 4294967296 := by omega
    have hT : T < 4294967296 := by omega
    have hST : S * T < 18446744073709551616 := by
      have : S * T ≤ 4294967295 * 4294967295 := Nat.mul_le_mul (by omega) (by omega)
      omega
    refine fn_start (fn := Try.f8) (c := bodyOf Try.f8) Try.func8 rfl rfl fun cx ca hk hF hs => ?_
    refine tj a n S T ⟨by rw [ha]; rfl, trivial⟩ hs fun ac cY aY hs1 => ?_
    obtain ⟨m, hm, hm40⟩ : ∃ m : Nat, (ite ((40 : Int) < (ite ((0 : Int) > n) (0 : Int) n)) (40 : Int) (ite ((0 : Int) > n) (0 : Int) n)) = (m : Int) ∧ m ≤ 40 := by
      refine ⟨((ite ((40 : Int) < (ite ((0 : Int) > n) (0 : Int) n)) (40 : Int) (ite ((0 : Int) > n) (0 : Int) n))).toNat, ?_, ?_⟩ <;> (split <;> split <;> omega)
    rw [hm] at hs1
    obtain ⟨ea, oa⟩ := onG2_is ha
    have hon := fun k => nmul_on cv2 oa k
    have e0 : (⟨0, 0, 0, 0, true⟩ : G2D) = gP2 (nmul (pG2 a) 0) := rfl
    rw [e0] at hs1
    refine loop_rule (ι := { j : Nat // j ≤ m }) (fun j => tjS a m S T (gP2 (nmul (pG2 a) j.1)) (j.1 : Int)) (fun j => m - j.1) (c := lpC tj_k) (k := lpR tj_k) (by kernel_rfl) (fun j ih ac cY aY hs => ?_) ⟨0, Nat.zero_le _⟩ (hs1.nx _)
    obtain ⟨j, hj⟩ := j
    simp only at ih hs
    by_cases hjm : j < m
    · refine tjB a m S T _ j ⟨decide_eq_true (by omega), trivial⟩ hs fun ac cZ aZ hs2 => ?_
      have e1 : (adR2 (gP2 (nmul (pG2 a) j)) a).1 = gP2 (nmul (pG2 a) (j + 1)) := by
        have := add_of2 (hon j) oa
        rw [ea] at this
        exact this
      rw [wrap_id (n := (j : Int) + 1) (by omega) (by omega), e1] at hs2
      exact ih ⟨j + 1, hjm⟩ (by show m - (j + 1) < m - j; omega) ac cZ aZ (hs2.nx _)
    · have hjm : j = m := by omega
      subst hjm
      have r := tjX_end a j S T (gP2 (nmul (pG2 a) j)) j
      have eS : IntKind.wrap IntKind.u64 (S : Int) = (S : Int) := wrap_u (by omega) (by omega)
      have eT : IntKind.wrap IntKind.u64 (T : Int) = (T : Int) := wrap_u (by omega) (by omega)
      have eJ : IntKind.wrap IntKind.u64 (j : Int) = (j : Int) := wrap_u (by omega) (by omega)
      have eA : IntKind.wrap IntKind.u64 ((S : Int) + (T : Int)) = ((S + T : Nat) : Int) := wrap_u (by omega) (by omega)
      have eM : IntKind.wrap IntKind.u64 ((S : Int) * (T : Int)) = ((S * T : Nat) : Int) := by
        rw [← Int.natCast_mul]
        exact wrap_u (by omega) (by omega)
      rw [eS, eT, eJ, eA, eM] at r
      rw [Int.toNat_natCast S, Int.toNat_natCast T, Int.toNat_natCast j, Int.toNat_natCast (S + T), Int.toNat_natCast (S * T), Nat.add_zero S, Nat.add_zero T, Nat.add_zero j, Nat.add_zero (S + T), Nat.add_zero (S * T)] at r
      have fS := mul_of2 ha (n := S) (by omega)
      have fT := mul_of2 ha (n := T) (by omega)
      have fJ := mul_of2 ha (n := j) (by omega)
      have fA := mul_of2 ha (n := S + T) (by omega)
      have fM := mul_of2 ha (n := S * T) hST
      have fG := add_of2 (hon S) (hon T)
      rw [← nmul_add cv2 oa] at fG
      have fX : (muR2 (gP2 (nmul (pG2 a) S)) (Fin.ofNat B4 T)).1 = gP2 (nmul (pG2 a) (S * T)) := by
        rw [mul_of2 (onG2_gP (hon S)) (by omega), pG_gP2, nmul_mul cv2 oa]
      rw [fS, fT, fJ, fA, fM, fG, fX] at r
      have b := eq_bits2 (a := gP2 (nmul (pG2 a) (S * T))) rfl
      rw [if_pos rfl, if_pos rfl, if_pos rfl, b, eq_bits2 (a := gP2 (nmul (pG2 a) j)) rfl, eq_bits2 (a := gP2 (nmul (pG2 a) (S + T))) rfl] at r
      refine run_end ruC_ok hk hF r ?_ (fun z w hd => hd) hs
      refine ⟨by simp, ?_⟩
      simp only [AllP, and_true, true_and]
      and_intros <;> first | rfl | omega
  · have ha : onG2 a = false := Bool.eq_false_iff.2 ha
    have hd := muR2_off (Fin.ofNat B4 1) ha
    have r := tjA a n s t
    have hz : (decide ((muR2 a (Fin.ofNat B4 1)).1.xa = 0) && (decide ((muR2 a (Fin.ofNat B4 1)).1.xb = 0) && (decide ((muR2 a (Fin.ofNat B4 1)).1.ya = 0) && (decide ((muR2 a (Fin.ofNat B4 1)).1.yb = 0) && ((muR2 a (Fin.ofNat B4 1)).1.inf == false))))) = true := eq_bits2 (b := g20) (by rw [hd])
    rw [if_pos rfl, hz] at r
    exact fn_sound ruC_ok Try.func8 r ⟨by rw [ha]; rfl, by decide, by decide, by decide, by decide, by decide, by decide, by decide, by decide, rfl, by rw [hd]; rfl, trivial⟩

end Go.Proofs.Ytkfcphigoncgjaa

/- TwoOrder's and TwoNegs' laws return true. No conditions. -/
namespace Go.Proofs.Ytkfcphigoncgjaa

theorem bits_eq2 (a b : G2D) : (decide (a.xa = b.xa) && (decide (a.xb = b.xb) && (decide (a.ya = b.ya) && (decide (a.yb = b.yb) && (a.inf == b.inf))))) = true ↔ a = b := by
  refine ⟨fun h => ?_, eq_bits2⟩
  obtain ⟨ax, ax', ay, ay', ai⟩ := a
  obtain ⟨bx, bx', bY, bY', bi⟩ := b
  simp only [Bool.and_eq_true, decide_eq_true_eq, beq_iff_eq] at h
  obtain ⟨h1, h2, h3, h4, h5⟩ := h
  rw [h1, h2, h3, h4, h5]

theorem gP2_none {P : Pt F2} : gP2 P = ⟨0, 0, 0, 0, true⟩ ↔ P = none := by
  constructor
  · intro h
    cases P with
    | none => rfl
    | some p => exact absurd (congrArg G2D.inf h) Bool.false_ne_true
  · rintro rfl; rfl

theorem mul_any2 {P : Pt F2} (hP : OnC fq4 P) (k : U4) : (muR2 (gP2 P) k).1 = gP2 (nmul P k.val) := by
  rw [congrArg Prod.fst (muR2_on k (onG2_gP hP)), mulG2_is (onG2_gP hP), pG_gP2]

theorem grp2_is {P : Pt F2} (hP : OnC fq4 P) : grp2 (gP2 P) = decide (nmul P rN = none) := by
  unfold grp2
  rw [onG2_gP hP, Bool.true_and]
  have h := jmn_zero cv2 hP (pG_gP2 P ▸ inG2_jc (gP2 P)) (dgT 52435875175126190479447740508185965837690552500527637822603658699938581184513 64)
  rw [dgV_lit] at h
  generalize (dgT 52435875175126190479447740508185965837690552500527637822603658699938581184513 64) = t at h ⊢
  exact h

theorem zero_bits2 {P : Pt F2} (hP : OnC fq4 P) : (decide ((muR2 (gP2 P) S4.rU).1.xa = (G2D.mk 0 0 0 0 true).xa) && (decide ((muR2 (gP2 P) S4.rU).1.xb = (G2D.mk 0 0 0 0 true).xb) && (decide ((muR2 (gP2 P) S4.rU).1.ya = (G2D.mk 0 0 0 0 true).ya) && (decide ((muR2 (gP2 P) S4.rU).1.yb = (G2D.mk 0 0 0 0 true).yb) && ((muR2 (gP2 P) S4.rU).1.inf == (G2D.mk 0 0 0 0 true).inf))))) = grp2 (gP2 P) := by
  rw [grp2_is hP]
  apply Bool.eq_iff_iff.2
  rw [bits_eq2, mul_any2 hP, gP2_none, decide_eq_true_eq, rU_val]
  exact Iff.rfl

theorem twoOrder_fnd (a : G2D) (k l : U4) : FnD Try.prog 10 [.v (.a a.its), .v (.a [.ob (.fr k)]), .v (.a [.ob (.fr l)])] (.v (.c (.bool true))) [] := by
  by_cases ha : onG2 a = true
  · obtain ⟨ea, hP⟩ := onG2_is ha
    generalize pG2 a = P at ea hP
    subst ea
    have hZ := zero_bits2 hP
    have hg := grp2_is hP
    by_cases hr : nmul P rN = none
    · rw [decide_eq_true hr] at hg
      have hm := nmul_mod cv2 hP hr
      have on := nmul_on cv2 hP
      have m1 := mul_any2 hP k
      have m2 := mul_any2 hP l
      have r := torC (gP2 P) k l
      have g2 : grp2 (muR2 (gP2 P) k).1 = true := by
        rw [m1, grp2_is (on _)]
        exact decide_eq_true (by rw [← nmul_mul cv2 hP, hm, Nat.mul_mod_left]; rfl)
      rw [g2] at r
      refine fn_sound ubB_ok Try.func10 r ⟨by rw [ha]; rfl, ?_, rfl, ?_, ?_, ?_, ?_, trivial⟩
      · rw [if_neg Bool.false_ne_true, if_pos rfl, hZ, hg]; rfl
      · rw [if_pos rfl, hZ, hg]; rfl
      · rw [if_pos rfl]
        exact eq_bits2 (by rw [m1, mul_any2 hP, clean_val, ← hm])
      · rw [if_pos rfl]
        exact eq_bits2 (by rw [m1, m2, mul_any2 hP, cadd_val, add_of2 (on _) (on _), ← nmul_add cv2 hP, ← hm])
      · rw [if_pos rfl]
        exact eq_bits2 (by rw [m1, mul_any2 (on _), mul_any2 hP, cmul_val, ← nmul_mul cv2 hP, ← hm])
    · rw [decide_eq_false hr] at hg
      refine (fn_sound ubB_ok Try.func10 (torB (gP2 P) k l) ⟨by rw [ha]; rfl, ?_, rfl, ?_, trivial⟩).conv (fun _ _ h => h) fun y v hd => lit_bool rfl hd
      · rw [if_neg Bool.false_ne_true, if_pos rfl, hZ, hg]; rfl
      · rw [if_pos rfl, hZ, hg]; rfl
  · have ha : onG2 a = false := Bool.eq_false_iff.2 ha
    have r := torA a k l
    have g : grp2 a = false := by unfold grp2; rw [ha, Bool.false_and]
    rw [g] at r
    exact fn_sound ubB_ok Try.func10 r ⟨by rw [ha]; rfl, rfl, trivial⟩

theorem neg_any2 {P : Pt F2} (hP : OnC fq4 P) : neR2 (gP2 P) = (gP2 (gneg P), 0) := by
  rw [neR2_on (onG2_gP hP), negG2_is, pG_gP2]

theorem twoNegs_fnd (a : G2D) (k : U4) : FnD Try.prog 12 [.v (.a a.its), .v (.a [.ob (.fr k)])] (.v (.c (.bool true))) [] := by
  by_cases ha : onG2 a = true
  · obtain ⟨ea, hP⟩ := onG2_is ha
    generalize pG2 a = P at ea hP
    subst ea
    have on := nmul_on cv2 hP
    have m1 := mul_any2 hP k
    have n1 := neg_any2 hP
    have n2 := neg_any2 (on k.val)
    have m2 := mul_any2 (gneg_on _ hP) k
    rw [nmul_gneg cv2 hP] at m2
    have hg := grp2_is hP
    have hb : (decide ((muR2 (neR2 (gP2 P)).1 k).1.xa = (neR2 (muR2 (gP2 P) k).1).1.xa) && (decide ((muR2 (neR2 (gP2 P)).1 k).1.xb = (neR2 (muR2 (gP2 P) k).1).1.xb) && (decide ((muR2 (neR2 (gP2 P)).1 k).1.ya = (neR2 (muR2 (gP2 P) k).1).1.ya) && (decide ((muR2 (neR2 (gP2 P)).1 k).1.yb = (neR2 (muR2 (gP2 P) k).1).1.yb) && ((muR2 (neR2 (gP2 P)).1 k).1.inf == (neR2 (muR2 (gP2 P) k).1).1.inf))))) = true :=
      eq_bits2 (by rw [n1, m1, m2, n2])
    by_cases hr : nmul P rN = none
    · rw [decide_eq_true hr] at hg
      have hm := nmul_mod cv2 hP hr
      have r := tnsB (gP2 P) k
      have hc : (decide ((adR2 (muR2 (gP2 P) k).1 (muR2 (gP2 P) (S4.outF (0 - S4.inF k))).1).1.xa = (G2D.mk 0 0 0 0 true).xa) && (decide ((adR2 (muR2 (gP2 P) k).1 (muR2 (gP2 P) (S4.outF (0 - S4.inF k))).1).1.xb = (G2D.mk 0 0 0 0 true).xb) && (decide ((adR2 (muR2 (gP2 P) k).1 (muR2 (gP2 P) (S4.outF (0 - S4.inF k))).1).1.ya = (G2D.mk 0 0 0 0 true).ya) && (decide ((adR2 (muR2 (gP2 P) k).1 (muR2 (gP2 P) (S4.outF (0 - S4.inF k))).1).1.yb = (G2D.mk 0 0 0 0 true).yb) && ((adR2 (muR2 (gP2 P) k).1 (muR2 (gP2 P) (S4.outF (0 - S4.inF k))).1).1.inf == (G2D.mk 0 0 0 0 true).inf))))) = true :=
        eq_bits2 (by rw [m1, mul_any2 hP, add_of2 (on _) (on _), ← nmul_add cv2 hP, hm, cneg_val]; rfl)
      rw [if_pos rfl, hc] at r
      refine fn_sound ubB_ok Try.func12 r ⟨by rw [ha]; rfl, by rw [n1]; rfl, by rw [m1, n2]; rfl, ?_, rfl, by rw [hg]; rfl, trivial⟩
      rw [if_neg Bool.false_ne_true, hb]; rfl
    · rw [decide_eq_false hr] at hg
      refine (fn_sound ubB_ok Try.func12 (tnsC (gP2 P) k) ⟨by rw [ha]; rfl, by rw [n1]; rfl, by rw [m1, n2]; rfl, ?_, rfl, by rw [hg]; rfl, trivial⟩).conv (fun _ _ h => h) fun y v hd => lit_bool rfl hd
      rw [if_neg Bool.false_ne_true, hb]; rfl
  · have ha : onG2 a = false := Bool.eq_false_iff.2 ha
    exact fn_sound ubB_ok Try.func12 (tnsA a k) ⟨by rw [ha]; rfl, trivial⟩

end Go.Proofs.Ytkfcphigoncgjaa

/- All that the claims of a group need. No conditions. -/
namespace Go.Proofs.Ytkfcphigoncgjaa
end Go.Proofs.Ytkfcphigoncgjaa
