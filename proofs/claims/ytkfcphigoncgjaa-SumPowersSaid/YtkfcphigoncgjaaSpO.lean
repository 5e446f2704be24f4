/- Parts of a proof, one behind the other: WDc, PDc, WDd, PDd, WDe, WNc, Nm, WTi, WOb, WPe, PTi, POb, PPe, Pall. No conditions. -/
import Derived.Test.YtkfcphigoncgjaaSpN
/- Points of the second curve, in and out, walked. No conditions. -/
namespace Go.Proofs.Ytkfcphigoncgjaa

def pl2Spec : FnSpec
  | [.v (.a [.ob (.p a), .ob (.p b), .ob (.p c), .ob (.p d), .ob (.p e), .ob (.p f)]), .v (.a [.ob (.p a'), .ob (.p b'), .ob (.p c'), .ob (.p d'), .ob (.p e'), .ob (.p f')])] => some ([], .v (.a (pt2Its (jpl (F := F2) ((a, b), (c, d), (e, f)) ((a', b'), (c', d'), (e', f'))))), [])
  | _ => none
noncomputable def qyC : Env := qyB.set (addT qyB.fn 68 pl2Spec)
theorem qyC_ok : EnvOk Try.prog qyC := env_add qyB_ok 68 pl2Spec (enters_of Try.func68 rfl rfl) fun args o r es h _ => by
  unfold pl2Spec at h
  split at h
  · cases h; exact plusPt2_fnd _ _ _ _ _ _ _ _ _ _ _ _
  · cases h
noncomputable def inlAg (T : Nat → Option Func) (f : Nat) : Option Func := if f = 118 then some Try.f118 else T f
noncomputable def qyD : Env := { qyC with inl := inlAg qyC.inl }
theorem qyD_ok : EnvOk Try.prog qyD := by
  refine ⟨qyC_ok.ty, qyC_ok.mixed, qyC_ok.fn, qyC_ok.mu, fun f fn h => ?_, qyC_ok.ex, qyC_ok.inv⟩
  have h : inlAg qyC.inl f = some fn := h
  unfold inlAg at h
  split at h
  · rename_i hf; cases h; subst hf; exact ⟨Try.func118, enters_of Try.func118 rfl rfl⟩
  exact qyC_ok.inl f fn h
--@env qyD qyD_ok
theorem ig2A (a b c d : U6) (i : Bool) : fnRes qyD Try.f70 3000 [.v (.a [.ob (.fp a),.ob (.fp b),.ob (.fp c),.ob (.fp d),.bool i])] [true] [] [] = (some ([((0:Int) ≤ (1:Int)),((1:Int) < (18446744073709551616:Int)),(i = true)],((.v (.a [(.ob (.p (Fin.ofNat pN 1))),(.ob (.p (0:Fp))),(.ob (.p (Fin.ofNat pN 1))),(.ob (.p (0:Fp))),(.ob (.p (0:Fp))),(.ob (.p (0:Fp)))])),[]))) := by kernel_rfl
theorem ig2B (a b c d : U6) (i : Bool) : fnRes qyD Try.f70 3000 [.v (.a [.ob (.fp a),.ob (.fp b),.ob (.fp c),.ob (.fp d),.bool i])] [false] [] [] = (some ([((0:Int) ≤ (1:Int)),((1:Int) < (18446744073709551616:Int)),(i = false)],((.v (.a [(.ob (.p (Prod.fst (inP2 a b)))),(.ob (.p (Prod.snd (inP2 a b)))),(.ob (.p (Prod.fst (inP2 c d)))),(.ob (.p (Prod.snd (inP2 c d)))),(.ob (.p (Fin.ofNat pN 1))),(.ob (.p (0:Fp)))])),[]))) := by kernel_rfl
theorem og2A (a b c d e f : Fp) : fnRes qyD Try.f69 3000 [.v (.a [.ob (.p a),.ob (.p b),.ob (.p c),.ob (.p d),.ob (.p e),.ob (.p f)])] [true,true] [] [] = (some ([((decide ((e,f) = (0 : (Prod (Fin pN) (Fin pN))))) = true)],((.v (.a [(.ob (.fp (0:U6))),(.ob (.fp (0:U6))),(.ob (.fp (0:U6))),(.ob (.fp (0:U6))),(.lit true)])),[]))) := by kernel_rfl
theorem og2B (a b c d e f : Fp) : fnRes qyD Try.f69 3000 [.v (.a [.ob (.p a),.ob (.p b),.ob (.p c),.ob (.p d),.ob (.p e),.ob (.p f)])] [false,false] [] [] = (some ([((decide ((e,f) = (0 : (Prod (Fin pN) (Fin pN))))) = false)],((.v (.a [(.ob (.fp (outP (Prod.fst ((a,b) * ((ivQ2 ivP (e,f)) * (ivQ2 ivP (e,f)))))))),(.ob (.fp (outP (Prod.snd ((a,b) * ((ivQ2 ivP (e,f)) * (ivQ2 ivP (e,f)))))))),(.ob (.fp (outP (Prod.fst (((c,d) * ((ivQ2 ivP (e,f)) * (ivQ2 ivP (e,f)))) * (ivQ2 ivP (e,f))))))),(.ob (.fp (outP (Prod.snd (((c,d) * ((ivQ2 ivP (e,f)) * (ivQ2 ivP (e,f)))) * (ivQ2 ivP (e,f))))))),(.lit false)])),[]))) := by kernel_rfl
theorem on2A (a b c d : U6) (i : Bool) : fnRes qyD Try.f97 3000 [.v (.a [.ob (.fp a),.ob (.fp b),.ob (.fp c),.ob (.fp d),.bool i])] [true] [] [] = (some ([(i = true)],((.v (.c (.bool (ite (true = true) (Bool.and (decide (a = (0:U6))) (Bool.and (decide (b = (0:U6))) (Bool.and (decide (c = (0:U6))) (Bool.and (decide (d = (0:U6))) (i == true))))) (Bool.not (Bool.and (decide (a = (0:U6))) (Bool.and (decide (b = (0:U6))) (Bool.and (decide (c = (0:U6))) (Bool.and (decide (d = (0:U6))) (i == true)))))))))),[]))) := by kernel_rfl
theorem on2B (a b c d : U6) (i : Bool) : fnRes qyD Try.f97 3000 [.v (.a [.ob (.fp a),.ob (.fp b),.ob (.fp c),.ob (.fp d),.bool i])] [false,true,true] [] [] = (some ([(i = false),((0:Int) ≤ (4:Int)),((4:Int) < (18446744073709551616:Int)),((0:Int) ≤ (4:Int)),((4:Int) < (18446744073709551616:Int)),((ite (true = true) (Bool.and (decide ((outP (Prod.fst (inP2 a b))) = a)) (decide ((outP (Prod.snd (inP2 a b))) = b))) (Bool.not (Bool.and (decide ((outP (Prod.fst (inP2 a b))) = a)) (decide ((outP (Prod.snd (inP2 a b))) = b))))) = true),((ite (true = true) (Bool.and (decide ((outP (Prod.fst (inP2 c d))) = c)) (decide ((outP (Prod.snd (inP2 c d))) = d))) (Bool.not (Bool.and (decide ((outP (Prod.fst (inP2 c d))) = c)) (decide ((outP (Prod.snd (inP2 c d))) = d))))) = true)],((.v (.c (.bool (ite (true = true) (Bool.and (decide ((Prod.fst ((inP2 c d) * (inP2 c d))) = (Prod.fst ((((inP2 a b) * (inP2 a b)) * (inP2 a b)) + ((Fin.ofNat pN 4),(Fin.ofNat pN 4)))))) (decide ((Prod.snd ((inP2 c d) * (inP2 c d))) = (Prod.snd ((((inP2 a b) * (inP2 a b)) * (inP2 a b)) + ((Fin.ofNat pN 4),(Fin.ofNat pN 4))))))) (Bool.not (Bool.and (decide ((Prod.fst ((inP2 c d) * (inP2 c d))) = (Prod.fst ((((inP2 a b) * (inP2 a b)) * (inP2 a b)) + ((Fin.ofNat pN 4),(Fin.ofNat pN 4)))))) (decide ((Prod.snd ((inP2 c d) * (inP2 c d))) = (Prod.snd ((((inP2 a b) * (inP2 a b)) * (inP2 a b)) + ((Fin.ofNat pN 4),(Fin.ofNat pN 4)))))))))))),[]))) := by kernel_rfl
theorem on2C (a b c d : U6) (i : Bool) : fnRes qyD Try.f97 3000 [.v (.a [.ob (.fp a),.ob (.fp b),.ob (.fp c),.ob (.fp d),.bool i])] [false,true,false] [] [] = (some ([(i = false),((0:Int) ≤ (4:Int)),((4:Int) < (18446744073709551616:Int)),((0:Int) ≤ (4:Int)),((4:Int) < (18446744073709551616:Int)),((ite (true = true) (Bool.and (decide ((outP (Prod.fst (inP2 a b))) = a)) (decide ((outP (Prod.snd (inP2 a b))) = b))) (Bool.not (Bool.and (decide ((outP (Prod.fst (inP2 a b))) = a)) (decide ((outP (Prod.snd (inP2 a b))) = b))))) = true),((ite (true = true) (Bool.and (decide ((outP (Prod.fst (inP2 c d))) = c)) (decide ((outP (Prod.snd (inP2 c d))) = d))) (Bool.not (Bool.and (decide ((outP (Prod.fst (inP2 c d))) = c)) (decide ((outP (Prod.snd (inP2 c d))) = d))))) = false)],((.v (.c (.lit false))),[]))) := by kernel_rfl
theorem on2D (a b c d : U6) (i : Bool) : fnRes qyD Try.f97 3000 [.v (.a [.ob (.fp a),.ob (.fp b),.ob (.fp c),.ob (.fp d),.bool i])] [false,false,false] [] [] = (some ([(i = false),((0:Int) ≤ (4:Int)),((4:Int) < (18446744073709551616:Int)),((0:Int) ≤ (4:Int)),((4:Int) < (18446744073709551616:Int)),((ite (true = true) (Bool.and (decide ((outP (Prod.fst (inP2 a b))) = a)) (decide ((outP (Prod.snd (inP2 a b))) = b))) (Bool.not (Bool.and (decide ((outP (Prod.fst (inP2 a b))) = a)) (decide ((outP (Prod.snd (inP2 a b))) = b))))) = false)],((.v (.c (.lit false))),[]))) := by kernel_rfl
end Go.Proofs.Ytkfcphigoncgjaa

/- Points of the second curve, in and out; pairs outside: contracts. No conditions. -/
namespace Go.Proofs.Ytkfcphigoncgjaa

def fq4 : F2 := (fp4, fp4)
/-- Which points may be. -/
def onG2 (a : G2D) : Bool :=
  if a.inf then decide (a.xa = 0) && (decide (a.xb = 0) && (decide (a.ya = 0) && decide (a.yb = 0)))
  else (decide (outP (inP a.xa) = a.xa) && decide (outP (inP a.xb) = a.xb)) && ((decide (outP (inP a.ya) = a.ya) && decide (outP (inP a.yb) = a.yb)) && decide (inP2 a.ya a.yb * inP2 a.ya a.yb = inP2 a.xa a.xb * inP2 a.xa a.xb * inP2 a.xa a.xb + fq4))
def inG2 (a : G2D) : F2 × F2 × F2 := if a.inf then ((fp1, 0), (fp1, 0), (0, 0)) else (inP2 a.xa a.xb, inP2 a.ya a.yb, (fp1, 0))
def outG2 (t : F2 × F2 × F2) : G2D :=
  if t.2.2 = 0 then ⟨0, 0, 0, 0, true⟩ else
  ⟨outP (t.1 * (ivQ2 ivP t.2.2 * ivQ2 ivP t.2.2)).1, outP (t.1 * (ivQ2 ivP t.2.2 * ivQ2 ivP t.2.2)).2, outP (t.2.1 * (ivQ2 ivP t.2.2 * ivQ2 ivP t.2.2) * ivQ2 ivP t.2.2).1, outP (t.2.1 * (ivQ2 ivP t.2.2 * ivQ2 ivP t.2.2) * ivQ2 ivP t.2.2).2, false⟩
def addG2 (a b : G2D) : G2D := outG2 (jpl (inG2 a) (inG2 b))
def negG2 (a : G2D) : G2D := outG2 (jng (inG2 a))

theorem lit_fifth {x : Ctx} {i j k l : It} {b : Bool} {v : Value} (h : denS x (.v (.a [i, j, k, l, .lit b])) v) : denS x (.v (.a [i, j, k, l, .bool b])) v := by
  obtain ⟨cs, e, c1, r1, e1, h1, c2, r2, e2, h2, c3, r3, e3, h3, c4, r4, e4, h4, c5, r5, e5, ⟨d, h5⟩, h6⟩ := h
  refine ⟨cs, e, c1, r1, e1, h1, c2, r2, e2, h2, c3, r3, e3, h3, c4, r4, e4, h4, c5, r5, e5, ⟨d, ?_⟩, h6⟩
  cases d <;> exact h5
theorem lit_fifth_t {x : Ctx} {i j k l m : It} {b : Bool} {v : Value} (h : denS x (.t [.a [i, j, k, l, .lit b], .c m]) v) : denS x (.t [.a [i, j, k, l, .bool b], .c m]) v := by
  obtain ⟨vs, e, h1⟩ := h
  cases h1 with | cons d1 ds =>
  exact ⟨_, e, .cons (lit_fifth d1) ds⟩

theorem inG2_fnd (a b c d : U6) (i : Bool) : FnD Try.prog 70 [.v (.a [.ob (.fp a), .ob (.fp b), .ob (.fp c), .ob (.fp d), .bool i])] (.v (.a (pt2Its (inG2 ⟨a, b, c, d, i⟩)))) [] := by
  cases i with
  | true => exact fn_sound qyD_ok Try.func70 (ig2A a b c d true) ⟨by decide, by decide, rfl, trivial⟩
  | false => exact fn_sound qyD_ok Try.func70 (ig2B a b c d false) ⟨by decide, by decide, rfl, trivial⟩

theorem outG2_fnd (a b c d e f : Fp) : FnD Try.prog 69 [.v (.a [.ob (.p a), .ob (.p b), .ob (.p c), .ob (.p d), .ob (.p e), .ob (.p f)])] (.v (.a (outG2 ((a, b), (c, d), (e, f))).its)) [] := by
  by_cases h : ((e, f) : F2) = 0
  · have e0 : outG2 ((a, b), (c, d), (e, f)) = ⟨0, 0, 0, 0, true⟩ := if_pos h
    rw [e0]
    exact (fn_sound qyD_ok Try.func69 (og2A a b c d e f) ⟨decide_eq_true h, trivial⟩).conv (fun _ _ h => h) fun y v hd => lit_fifth hd
  · unfold outG2
    rw [if_neg h]
    exact (fn_sound qyD_ok Try.func69 (og2B a b c d e f) ⟨decide_eq_false h, trivial⟩).conv (fun _ _ h => h) fun y v hd => lit_fifth hd

theorem onG2_fin (a b c d : U6) : onG2 ⟨a, b, c, d, false⟩ = ((decide (outP (inP a) = a) && decide (outP (inP b) = b)) && ((decide (outP (inP c) = c) && decide (outP (inP d) = d)) && decide (inP2 c d * inP2 c d = inP2 a b * inP2 a b * inP2 a b + fq4))) := if_neg (fun h => Bool.noConfusion h)
theorem onG2_inf (a b c d : U6) : onG2 ⟨a, b, c, d, true⟩ = (decide (a = 0) && (decide (b = 0) && (decide (c = 0) && (decide (d = 0) && (true == true))))) := by
  show (decide (a = 0) && (decide (b = 0) && (decide (c = 0) && decide (d = 0)))) = _
  simp

theorem onG2_fnd (a b c d : U6) (i : Bool) : FnD Try.prog 97 [.v (.a [.ob (.fp a), .ob (.fp b), .ob (.fp c), .ob (.fp d), .bool i])] (.v (.c (.bool (onG2 ⟨a, b, c, d, i⟩)))) [] := by
  cases i with
  | true =>
    have r := on2A a b c d true
    rw [if_pos rfl] at r
    rw [onG2_inf]
    exact fn_sound qyD_ok Try.func97 r ⟨rfl, trivial⟩
  | false =>
    rw [onG2_fin]
    cases h1 : (decide (outP (inP a) = a) && decide (outP (inP b) = b)) with
    | true =>
      rw [Bool.true_and]
      cases h2 : (decide (outP (inP c) = c) && decide (outP (inP d) = d)) with
      | true =>
        rw [Bool.true_and]
        have r := on2B a b c d false
        rw [if_pos rfl, if_pos rfl, if_pos rfl] at r
        have e : decide (inP2 c d * inP2 c d = inP2 a b * inP2 a b * inP2 a b + fq4) = _ := pair_dec (inP2 c d * inP2 c d).1 (inP2 a b * inP2 a b * inP2 a b + fq4).1 (inP2 c d * inP2 c d).2 (inP2 a b * inP2 a b * inP2 a b + fq4).2
        rw [e]
        exact fn_sound qyD_ok Try.func97 r ⟨rfl, by decide, by decide, by decide, by decide, h1, h2, trivial⟩
      | false =>
        rw [Bool.false_and]
        have r := on2C a b c d false
        rw [if_pos rfl, if_pos rfl] at r
        exact (fn_sound qyD_ok Try.func97 r ⟨rfl, by decide, by decide, by decide, by decide, h1, h2, trivial⟩).conv (fun _ _ h => h) fun y v hd => lit_bool rfl hd
    | false =>
      rw [Bool.false_and]
      have r := on2D a b c d false
      rw [if_pos rfl] at r
      exact (fn_sound qyD_ok Try.func97 r ⟨rfl, by decide, by decide, by decide, by decide, h1, trivial⟩).conv (fun _ _ h => h) fun y v hd => lit_bool rfl hd

/-! Pairs outside. -/
def u2I (x : U6 × U6) : List It := [.ob (.fp x.1), .ob (.fp x.2)]
def outP2 (x : F2) : U6 × U6 := (outP x.1, outP x.2)

section
variable {r : Nat} [NeZero r]
theorem add_neg_q (x y : Q2 r) : x + (0 - y) = x - y := by grind
end
theorem outP2_inj {x y : F2} (h : outP2 x = outP2 y) : x = y := by
  have h1 := congrArg Prod.fst h
  have h2 := congrArg Prod.snd h
  exact q2_ext (outP_inj h1) (outP_inj h2)

end Go.Proofs.Ytkfcphigoncgjaa

/- Points of the second curve outside, and the reference's, walked. No conditions. -/
namespace Go.Proofs.Ytkfcphigoncgjaa

def inG2Spec : FnSpec
  | [.v (.a [.ob (.fp a), .ob (.fp b), .ob (.fp c), .ob (.fp d), .bool i])] => some ([], .v (.a (pt2Its (inG2 ⟨a, b, c, d, i⟩))), [])
  | _ => none
noncomputable def qzA : Env := qyD.set (addT qyD.fn 70 inG2Spec)
theorem qzA_ok : EnvOk Try.prog qzA := env_add qyD_ok 70 inG2Spec (enters_of Try.func70 rfl rfl) fun args o r es h _ => by
  unfold inG2Spec at h
  split at h
  · cases h; exact inG2_fnd _ _ _ _ _
  · cases h
def outG2Spec : FnSpec
  | [.v (.a [.ob (.p a), .ob (.p b), .ob (.p c), .ob (.p d), .ob (.p e), .ob (.p f)])] => some ([], .v (.a (outG2 ((a, b), (c, d), (e, f))).its), [])
  | _ => none
noncomputable def qzB : Env := qzA.set (addT qzA.fn 69 outG2Spec)
theorem qzB_ok : EnvOk Try.prog qzB := env_add qzA_ok 69 outG2Spec (enters_of Try.func69 rfl rfl) fun args o r es h _ => by
  unfold outG2Spec at h
  split at h
  · cases h; exact outG2_fnd _ _ _ _ _ _
  · cases h
def onG2Spec : FnSpec
  | [.v (.a [.ob (.fp a), .ob (.fp b), .ob (.fp c), .ob (.fp d), .bool i])] => some ([], .v (.c (.bool (onG2 ⟨a, b, c, d, i⟩))), [])
  | _ => none
noncomputable def qzH : Env := qzB.set (addT qzB.fn 97 onG2Spec)
theorem qzH_ok : EnvOk Try.prog qzH := env_add qzB_ok 97 onG2Spec (enters_of Try.func97 rfl rfl) fun args o r es h _ => by
  unfold onG2Spec at h
  split at h
  · cases h; exact onG2_fnd _ _ _ _ _
  · cases h
--@env qzH qzH_ok
theorem ri2R (a b c d : U6) (i : Bool) : fnRes qzH Try.f49 3000 [.v (.a [.ob (.fp a),.ob (.fp b),.ob (.fp c),.ob (.fp d),.bool i])] [] [] [] = (some ([],((.v (.c (.bool (onG2 (G2D.mk a b c d i))))),[]))) := by kernel_rfl
theorem ge2R  : fnRes qzH Try.f76 3000 [] [] [] [] = (some ([((0:Int) ≤ (15312334153293348280:Int)),((15312334153293348280:Int) < (18446744073709551616:Int)),((0:Int) ≤ (841050694974028783:Int)),((841050694974028783:Int) < (18446744073709551616:Int)),((0:Int) ≤ (12993178926126977399:Int)),((12993178926126977399:Int) < (18446744073709551616:Int)),((0:Int) ≤ (14331714969349929730:Int)),((14331714969349929730:Int) < (18446744073709551616:Int)),((0:Int) ≤ (2740446039084699729:Int)),((2740446039084699729:Int) < (18446744073709551616:Int)),((0:Int) ≤ (165123225776229009:Int)),((165123225776229009:Int) < (18446744073709551616:Int)),((0:Int) ≤ (16549740192668593022:Int)),((16549740192668593022:Int) < (18446744073709551616:Int)),((0:Int) ≤ (3696594454104530263:Int)),((3696594454104530263:Int) < (18446744073709551616:Int)),((0:Int) ≤ (13103893525273989193:Int)),((13103893525273989193:Int) < (18446744073709551616:Int)),((0:Int) ≤ (6443473286224459290:Int)),((6443473286224459290:Int) < (18446744073709551616:Int)),((0:Int) ≤ (9055845637167730533:Int)),((9055845637167730533:Int) < (18446744073709551616:Int)),((0:Int) ≤ (1432192374203850592:Int)),((1432192374203850592:Int) < (18446744073709551616:Int)),((0:Int) ≤ (16254428414758889473:Int)),((16254428414758889473:Int) < (18446744073709551616:Int)),((0:Int) ≤ (10536956157198377609:Int)),((10536956157198377609:Int) < (18446744073709551616:Int)),((0:Int) ≤ (7873024875724591404:Int)),((7873024875724591404:Int) < (18446744073709551616:Int)),((0:Int) ≤ (12537348094477325223:Int)),((12537348094477325223:Int) < (18446744073709551616:Int)),((0:Int) ≤ (10144865889576432922:Int)),((10144865889576432922:Int) < (18446744073709551616:Int)),((0:Int) ≤ (929383263523139089:Int)),((929383263523139089:Int) < (18446744073709551616:Int)),((0:Int) ≤ (12297368366147926462:Int)),((12297368366147926462:Int) < (18446744073709551616:Int)),((0:Int) ≤ (4555124010822409633:Int)),((4555124010822409633:Int) < (18446744073709551616:Int)),((0:Int) ≤ (2771000935339432363:Int)),((2771000935339432363:Int) < (18446744073709551616:Int)),((0:Int) ≤ (14645187562128761775:Int)),((14645187562128761775:Int) < (18446744073709551616:Int)),((0:Int) ≤ (3651525051980876697:Int)),((3651525051980876697:Int) < (18446744073709551616:Int)),((0:Int) ≤ (434250606344352972:Int)),((434250606344352972:Int) < (18446744073709551616:Int))],((.v (.a [(.ob (.fp (Fin.ofNat B6 352701069587466618187139116011060144890029952792775240219908644239793785735715026873347600343865175952761926303160))),(.ob (.fp (Fin.ofNat B6 3059144344244213709971259814753781636986470325476647558659373206291635324768958432433509563104347017837885763365758))),(.ob (.fp (Fin.ofNat B6 1985150602287291935568054521177171638300868978215655730859378665066344726373823718423869104263333984641494340347905))),(.ob (.fp (Fin.ofNat B6 927553665492332455747201965776037880757740193453592970025027978793976877002675564980949289727957565575433344219582))),(.lit false)])),[]))) := by kernel_rfl
theorem ze2R  : fnRes qzH Try.f33 3000 [] [] [] [] = (some ([],((.v (.a [(.ob (.fp (0:U6))),(.ob (.fp (0:U6))),(.ob (.fp (0:U6))),(.ob (.fp (0:U6))),(.lit true)])),[]))) := by kernel_rfl
end Go.Proofs.Ytkfcphigoncgjaa

/- The reference's functions on points of the second curve: contracts. No conditions. -/
namespace Go.Proofs.Ytkfcphigoncgjaa

def genG2 : G2D := ⟨Fin.ofNat B6 352701069587466618187139116011060144890029952792775240219908644239793785735715026873347600343865175952761926303160, Fin.ofNat B6 3059144344244213709971259814753781636986470325476647558659373206291635324768958432433509563104347017837885763365758, Fin.ofNat B6 1985150602287291935568054521177171638300868978215655730859378665066344726373823718423869104263333984641494340347905, Fin.ofNat B6 927553665492332455747201965776037880757740193453592970025027978793976877002675564980949289727957565575433344219582, false⟩

theorem gen2_fnd : FnD Try.prog 76 [] (.v (.a genG2.its)) [] :=
  (fn_sound qzH_ok Try.func76 ge2R (by simp [AllP])).conv (fun _ _ h => h) fun y v hd => lit_fifth hd
theorem zeroG2_fnd : FnD Try.prog 33 [] (.v (.a (G2D.mk 0 0 0 0 true).its)) [] :=
  (fn_sound qzH_ok Try.func33 ze2R (by simp [AllP])).conv (fun _ _ h => h) fun y v hd => lit_fifth hd

end Go.Proofs.Ytkfcphigoncgjaa

/- Sums and negatives of points of the second curve outside, walked. No conditions. -/
namespace Go.Proofs.Ytkfcphigoncgjaa

def right2Spec : FnSpec
  | [.v (.a [.ob (.fp a), .ob (.fp b), .ob (.fp c), .ob (.fp d), .bool i])] => some ([], .v (.c (.bool (onG2 ⟨a, b, c, d, i⟩))), [])
  | _ => none
noncomputable def rtA : Env := qzH.set (addT qzH.fn 49 right2Spec)
theorem rtA_ok : EnvOk Try.prog rtA := env_add qzH_ok 49 right2Spec (enters_of Try.func49 rfl rfl) fun args o r es h _ => by
  unfold right2Spec at h
  split at h
  · cases h; exact fn_sound qzH_ok Try.func49 (ri2R _ _ _ _ _) trivial
  · cases h
def gen2Spec : FnSpec
  | [] => some ([], .v (.a genG2.its), [])
  | _ => none
noncomputable def rtC : Env := rtA.set (addT rtA.fn 76 gen2Spec)
theorem rtC_ok : EnvOk Try.prog rtC := env_add rtA_ok 76 gen2Spec (enters_of Try.func76 rfl rfl) fun args o r es h _ => by
  unfold gen2Spec at h
  split at h
  · cases h; exact gen2_fnd
  · cases h
def zeroG2Spec : FnSpec
  | [] => some ([], .v (.a (G2D.mk 0 0 0 0 true).its), [])
  | _ => none
noncomputable def rtG : Env := rtC.set (addT rtC.fn 33 zeroG2Spec)
theorem rtG_ok : EnvOk Try.prog rtG := env_add rtC_ok 33 zeroG2Spec (enters_of Try.func33 rfl rfl) fun args o r es h _ => by
  unfold zeroG2Spec at h
  split at h
  · cases h; exact zeroG2_fnd
  · cases h
--@env rtG rtG_ok
instance : Inhabited G2D := ⟨g20⟩
theorem ad2A (a b : G2D) : fnRes rtG Try.f26 3000 [.v (.a a.its),.v (.a b.its)] [true,true] [] [] = (some ([((Bool.not (onG2 a)) = true)],((.t [(.a [(.ob (.fp (0:U6))),(.ob (.fp (0:U6))),(.ob (.fp (0:U6))),(.ob (.fp (0:U6))),(.lit false)]),(.c (.int .i64 (30:Int)))]),[]))) := by kernel_rfl
theorem ad2B (a b : G2D) : fnRes rtG Try.f26 3000 [.v (.a a.its),.v (.a b.its)] [false,true] [] [] = (some ([((Bool.not (onG2 a)) = false),((Bool.not (onG2 b)) = true)],((.t [(.a [(.ob (.fp (0:U6))),(.ob (.fp (0:U6))),(.ob (.fp (0:U6))),(.ob (.fp (0:U6))),(.lit false)]),(.c (.int .i64 (30:Int)))]),[]))) := by kernel_rfl
theorem ad2C (a b : G2D) : fnRes rtG Try.f26 3000 [.v (.a a.its),.v (.a b.its)] [false,false] [] [] = (some ([((Bool.not (onG2 a)) = false),((Bool.not (onG2 b)) = false)],((.t [(.a [(.ob (.fp (G2D.xa (outG2 (jpl (inG2 a) (inG2 b)))))),(.ob (.fp (G2D.xb (outG2 (jpl (inG2 a) (inG2 b)))))),(.ob (.fp (G2D.ya (outG2 (jpl (inG2 a) (inG2 b)))))),(.ob (.fp (G2D.yb (outG2 (jpl (inG2 a) (inG2 b)))))),(.bool (G2D.inf (outG2 (jpl (inG2 a) (inG2 b)))))]),(.c (.int .i64 (0:Int)))]),[]))) := by kernel_rfl
theorem ne2A (a : G2D) : fnRes rtG Try.f27 3000 [.v (.a a.its)] [true] [] [] = (some ([((Bool.not (onG2 a)) = true)],((.t [(.a [(.ob (.fp (0:U6))),(.ob (.fp (0:U6))),(.ob (.fp (0:U6))),(.ob (.fp (0:U6))),(.lit false)]),(.c (.int .i64 (30:Int)))]),[]))) := by kernel_rfl
theorem ne2B (a : G2D) : fnRes rtG Try.f27 3000 [.v (.a a.its)] [false] [] [] = (some ([((Bool.not (onG2 a)) = false)],((.t [(.a [(.ob (.fp (G2D.xa (outG2 (jng (inG2 a)))))),(.ob (.fp (G2D.xb (outG2 (jng (inG2 a)))))),(.ob (.fp (G2D.ya (outG2 (jng (inG2 a)))))),(.ob (.fp (G2D.yb (outG2 (jng (inG2 a)))))),(.bool (G2D.inf (outG2 (jng (inG2 a)))))]),(.c (.int .i64 (0:Int)))]),[]))) := by kernel_rfl
end Go.Proofs.Ytkfcphigoncgjaa

/- The laws of sums: alive. No conditions. -/
namespace Go.Proofs.Ytkfcphigoncgjaa

noncomputable def ncA : Env := naF.or rtG
theorem ncA_ok : EnvOk Try.prog ncA := env_or naF_ok rtG_ok
--@env ncA ncA_ok
theorem a11  : fnRes ncA Try.f47 3000 [] [true,true,true] [] [] = (some ([(((0:Int) == (0:Int)) = true),((ite (true = true) (Bool.and (decide ((G1D.x (G1D.mk (0:U6) (0:U6) true)) = (G1D.x (G1D.mk (0:U6) (0:U6) true)))) (Bool.and (decide ((G1D.y (G1D.mk (0:U6) (0:U6) true)) = (G1D.y (G1D.mk (0:U6) (0:U6) true)))) ((G1D.inf (G1D.mk (0:U6) (0:U6) true)) == (G1D.inf (G1D.mk (0:U6) (0:U6) true))))) (Bool.not (Bool.and (decide ((G1D.x (G1D.mk (0:U6) (0:U6) true)) = (G1D.x (G1D.mk (0:U6) (0:U6) true)))) (Bool.and (decide ((G1D.y (G1D.mk (0:U6) (0:U6) true)) = (G1D.y (G1D.mk (0:U6) (0:U6) true)))) ((G1D.inf (G1D.mk (0:U6) (0:U6) true)) == (G1D.inf (G1D.mk (0:U6) (0:U6) true))))))) = true),((onG genG) = true)],((.v (.c (.bool (onG2 genG2)))),[]))) := by kernel_rfl
theorem onGen : onG genG = true := by decide +kernel
theorem onGen2 : onG2 genG2 = true := by decide +kernel
theorem alive11_fnd : FnD Try.prog 47 [] (.v (.c (.bool true))) [] := by
  have r := a11
  rw [if_pos rfl, onGen2] at r
  exact fn_sound ncA_ok Try.func47 r ⟨rfl, by decide, onGen, trivial⟩
end Go.Proofs.Ytkfcphigoncgjaa

/- A point as often as a number says: the plain law. No conditions. -/
namespace Go.Proofs.Ytkfcphigoncgjaa

/-- A point outside as often as a number says. -/
def mulG (a : G1D) (k : U4) : G1D := outG (jmn (inG a) (dgT k.val 64))
theorem mulG_is {a : G1D} (ha : onG a = true) (k : U4) : mulG a k = gP (nmul (pG a) k.val) := by
  unfold mulG
  generalize hl : dgT k.val 64 = l
  have h := jmn_ok cv1 (onG_is ha).2 (inG_jc a) l
  have e : dgV l = k.val := by rw [← hl]; exact dgV_is k
  rw [e] at h
  exact outG_jc h
theorem pG_mul {a : G1D} (ha : onG a = true) (k : U4) : pG (mulG a k) = nmul (pG a) k.val := by rw [mulG_is ha, pG_gP]
theorem on_mul {a : G1D} (ha : onG a = true) (k : U4) : onG (mulG a k) = true := by
  rw [mulG_is ha]
  exact onG_gP (nmul_on cv1 (onG_is ha).2 _)

end Go.Proofs.Ytkfcphigoncgjaa

/- one.Mul, and OneTimes' law, walked. No conditions. -/
namespace Go.Proofs.Ytkfcphigoncgjaa

instance : Inhabited G1D := ⟨g10⟩
def manySpec1 : FnSpec
  | [.v (.a [.ob (.p x), .ob (.p y), .ob (.p z)]), .v (.a [.ob (.fr k)])] => some ([], .v (.a (ptIts (jmn (x, y, z) (dgT k.val 64)))), [])
  | _ => none
noncomputable def qwA : Env := qvF.set (addT qvF.fn 81 manySpec1)
theorem qwA_ok : EnvOk Try.prog qwA := env_add qvF_ok 81 manySpec1 (enters_of Try.func81 rfl rfl) fun args o r es h _ => by
  unfold manySpec1 at h
  split at h
  · cases h; exact many_fnd _ _ _ _
  · cases h
--@env qwA qwA_ok
theorem muA (a b : U6) (i : Bool) (k : U4) : fnRes qwA Try.f34 3000 [.v (.a [.ob (.fp a),.ob (.fp b),.bool i]),.v (.a [.ob (.fr k)])] [true] [] [] = (some ([((Bool.not (onG (G1D.mk a b i))) = true)],((.t [(.a [(.ob (.fp (0:U6))),(.ob (.fp (0:U6))),(.lit false)]),(.c (.int .i64 (30:Int)))]),[]))) := by kernel_rfl
theorem muB (a b : U6) (i : Bool) (k : U4) : fnRes qwA Try.f34 3000 [.v (.a [.ob (.fp a),.ob (.fp b),.bool i]),.v (.a [.ob (.fr k)])] [false] [] [] = (some ([((Bool.not (onG (G1D.mk a b i))) = false)],((.t [(.a [(.ob (.fp (G1D.x (outG (jmn (inG (G1D.mk a b i)) (dgT (Fin.val k) 64)))))),(.ob (.fp (G1D.y (outG (jmn (inG (G1D.mk a b i)) (dgT (Fin.val k) 64)))))),(.bool (G1D.inf (outG (jmn (inG (G1D.mk a b i)) (dgT (Fin.val k) 64)))))]),(.c (.int .i64 (0:Int)))]),[]))) := by kernel_rfl
/-- What Mul tells. -/
def muR (a : G1D) (k : U4) : G1D × Int := if onG a then (mulG a k, 0) else (g10, 30)
theorem muR_on {a : G1D} (k : U4) (ha : onG a = true) : muR a k = (mulG a k, 0) := by unfold muR; rw [ha]; rfl
theorem muR_off {a : G1D} (k : U4) (ha : onG a = false) : muR a k = (g10, 30) := by unfold muR; rw [ha]; rfl
theorem mul_fnd1 (a b : U6) (i : Bool) (k : U4) : FnD Try.prog 34 [.v (.a [.ob (.fp a), .ob (.fp b), .bool i]), .v (.a [.ob (.fr k)])] (.t [.a (muR ⟨a, b, i⟩ k).1.its, .c (.int .i64 (muR ⟨a, b, i⟩ k).2)]) [] := by
  by_cases h1 : onG ⟨a, b, i⟩ = true
  · rw [muR_on k h1]
    exact fn_sound qwA_ok Try.func34 (muB a b i k) ⟨by rw [h1]; rfl, trivial⟩
  · have h1 : onG ⟨a, b, i⟩ = false := Bool.eq_false_iff.2 h1
    rw [muR_off k h1]
    exact (fn_sound qwA_ok Try.func34 (muA a b i k) ⟨by rw [h1]; rfl, trivial⟩).conv (fun _ _ h => h) fun y v hd => lit_third_t hd
def mulSpec1 : FnSpec
  | [.v (.a [.ob (.fp a), .ob (.fp b), .bool i]), .v (.a [.ob (.fr k)])] => some ([], .t [.a (muR ⟨a, b, i⟩ k).1.its, .c (.int .i64 (muR ⟨a, b, i⟩ k).2)], [])
  | _ => none
noncomputable def qwC : Env := qwA.set (addT qwA.fn 34 mulSpec1)
theorem qwC_ok : EnvOk Try.prog qwC := env_add qwA_ok 34 mulSpec1 (enters_of Try.func34 rfl rfl) fun args o r es h _ => by
  unfold mulSpec1 at h
  split at h
  · cases h; exact mul_fnd1 _ _ _ _
  · cases h
--@env qwC qwC_ok
end Go.Proofs.Ytkfcphigoncgjaa

/- OneOrder's and OneNegs' laws, walked. No conditions. -/
namespace Go.Proofs.Ytkfcphigoncgjaa

noncomputable def uaA : Env := qwC.or S4.gK
theorem uaA_ok : EnvOk Try.prog uaA := env_or qwC_ok S4.gK_ok
--@env uaA uaA_ok
theorem grA (a b : U6) (i : Bool) : fnRes uaA Try.f38 3000 [.v (.a [.ob (.fp a),.ob (.fp b),.bool i])] [true] [] [] = (some ([((onG (G1D.mk a b i)) = true)],((.v (.c (.bool (decide ((Prod.snd (Prod.snd (jmn (inG (G1D.mk a b i)) (dgT 52435875175126190479447740508185965837690552500527637822603658699938581184513 64)))) = (0:Fp)))))),[]))) := by kernel_rfl
theorem grB (a b : U6) (i : Bool) : fnRes uaA Try.f38 3000 [.v (.a [.ob (.fp a),.ob (.fp b),.bool i])] [false] [] [] = (some ([((onG (G1D.mk a b i)) = false)],((.v (.c (.lit false))),[]))) := by kernel_rfl
/-- Whether a point is of the group. -/
def grp (a : G1D) : Bool := onG a && decide ((jmn (inG a) (dgT 52435875175126190479447740508185965837690552500527637822603658699938581184513 64)).2.2 = 0)
theorem grp_fnd (a b : U6) (i : Bool) : FnD Try.prog 38 [.v (.a [.ob (.fp a), .ob (.fp b), .bool i])] (.v (.c (.bool (grp ⟨a, b, i⟩)))) [] := by
  by_cases h1 : onG ⟨a, b, i⟩ = true
  · have e : grp ⟨a, b, i⟩ = decide ((jmn (inG ⟨a, b, i⟩) (dgT 52435875175126190479447740508185965837690552500527637822603658699938581184513 64)).2.2 = 0) := by unfold grp; rw [h1, Bool.true_and]
    rw [e]
    exact fn_sound uaA_ok Try.func38 (grA a b i) ⟨h1, trivial⟩
  · have h1 : onG ⟨a, b, i⟩ = false := Bool.eq_false_iff.2 h1
    have e : grp ⟨a, b, i⟩ = false := by unfold grp; rw [h1, Bool.false_and]
    rw [e]
    exact (fn_sound uaA_ok Try.func38 (grB a b i) ⟨h1, trivial⟩).conv (fun _ _ h => h) fun y v hd => lit_bool rfl hd
def grpSpec : FnSpec
  | [.v (.a [.ob (.fp a), .ob (.fp b), .bool i])] => some ([], .v (.c (.bool (grp ⟨a, b, i⟩))), [])
  | _ => none
noncomputable def uaB : Env := uaA.set (addT uaA.fn 38 grpSpec)
theorem uaB_ok : EnvOk Try.prog uaB := env_add uaA_ok 38 grpSpec (enters_of Try.func38 rfl rfl) fun args o r es h _ => by
  unfold grpSpec at h
  split at h
  · cases h; exact grp_fnd _ _ _
  · cases h
--@env uaB uaB_ok
end Go.Proofs.Ytkfcphigoncgjaa

/- SumPowers' law, walked. No conditions. -/
namespace Go.Proofs.Ytkfcphigoncgjaa
section
variable {w0 : World} {F0 : Nat → Prop} {K : Kp} {ac : List Act} {Q : Exit → Act → World → Prop} {cX : Ctx} {aX : Act}

noncomputable def pgA : Env := peE.or qwC
theorem pgA_ok : EnvOk Try.prog pgA := env_or peE_ok qwC_ok
noncomputable def powersSpec : FnSpec
  | [.v (.a [.ob (.fp x), .ob (.fp y), .bool j]), .v (.a [.ob (.fr k)]), .v (.c (.int .i64 n))] => some ([], .t [.c (.sl (.g1 (pwR ⟨x, y, j⟩ k n).1)), .c (.int .i64 (pwR ⟨x, y, j⟩ k n).2)], [])
  | _ => none
noncomputable def pgB : Env := pgA.set (addT pgA.fn 51 powersSpec)
theorem pgB_ok : EnvOk Try.prog pgB := env_add pgA_ok 51 powersSpec (enters_of Try.func51 rfl rfl) fun args o r es h _ => by
  unfold powersSpec at h
  split at h
  · cases h; exact powers_fnd ⟨_, _, _⟩ _ _
  · cases h
noncomputable def alive11Spec : FnSpec
  | [] => some ([], .v (.c (.bool true)), [])
  | _ => none
noncomputable def pgC : Env := pgB.set (addT pgB.fn 47 alive11Spec)
theorem pgC_ok : EnvOk Try.prog pgC := env_add pgB_ok 47 alive11Spec (enters_of Try.func47 rfl rfl) fun args o r es h _ => by
  unfold alive11Spec at h
  split at h
  · cases h; exact alive11_fnd
  · cases h
--@env pgC pgC_ok
theorem lpA (a : G1D) (k : U4) (n:Int) : fnRes pgC Try.f17 3000 [.v (.a a.its),.v (.a [.ob (.fr k)]),.v (.c (.int .i64 n))] [false,true,true,true] [] [] = (some ([((decide (n > (12:Int))) = false),((decide (n < (0:Int))) = true),(true = true),(((Prod.snd (pwR a k n)) == (1:Int)) = true)],((.v (.c (.bool ((((List.length (Prod.fst (pwR a k n))) : Nat):Int) == (0:Int))))),[]))) := by kernel_rfl
theorem lpB (a : G1D) (k : U4) (n:Int) : fnRes pgC Try.f17 3000 [.v (.a a.its),.v (.a [.ob (.fr k)]),.v (.c (.int .i64 n))] [true,false,false,true,true,true] [] [] = (some ([((decide (n > (12:Int))) = true),((decide (n ≤ (4096:Int))) = false),((decide (n < (0:Int))) = false),((decide (n > (4096:Int))) = true),(true = true),(((Prod.snd (pwR a k n)) == (1:Int)) = true)],((.v (.c (.bool ((((List.length (Prod.fst (pwR a k n))) : Nat):Int) == (0:Int))))),[]))) := by kernel_rfl
theorem lpE (a : G1D) (k : U4) (n:Int) : fnRes pgC Try.f17 3000 [.v (.a a.its),.v (.a [.ob (.fr k)]),.v (.c (.int .i64 n))] [true,true,false,false,true,true,true] [] [] = (some ([((decide (n > (12:Int))) = true),((decide (n ≤ (4096:Int))) = true),((decide ((12:Int) < (0:Int))) = false),((decide ((12:Int) > (4096:Int))) = false),((Bool.not (onG a)) = true),(true = true),(((Prod.snd (pwR a k (12:Int))) == (30:Int)) = true)],((.v (.c (.bool ((((List.length (Prod.fst (pwR a k (12:Int)))) : Nat):Int) == (0:Int))))),[]))) := by kernel_rfl
theorem lpF (a : G1D) (k : U4) (n:Int) : fnRes pgC Try.f17 3000 [.v (.a a.its),.v (.a [.ob (.fr k)]),.v (.c (.int .i64 n))] [false,false,false,true,true,true] [] [] = (some ([((decide (n > (12:Int))) = false),((decide (n < (0:Int))) = false),((decide (n > (4096:Int))) = false),((Bool.not (onG a)) = true),(true = true),(((Prod.snd (pwR a k n)) == (30:Int)) = true)],((.v (.c (.bool ((((List.length (Prod.fst (pwR a k n))) : Nat):Int) == (0:Int))))),[]))) := by kernel_rfl
noncomputable def lpG_k : List KI := (run pgC false 3000 ((fun (x y : U6) (j : Bool) (k : U4) (n : Int) => (⟨[.code (bodyOf Try.f17)], .normal, initSt Try.f17.ntmps [.v (.a [.ob (.fp x), .ob (.fp y), .bool j]), .v (.a [.ob (.fr k)]), .v (.c (.int .i64 n))]⟩ : Cfg)) default default default default default) [true, true, false, false, false, false, false]).cfg.k
theorem lpG_hk (x y : U6) (j : Bool) (k : U4) (n : Int) : (run pgC false 3000 ((⟨[.code (bodyOf Try.f17)], .normal, initSt Try.f17.ntmps [.v (.a [.ob (.fp x), .ob (.fp y), .bool j]), .v (.a [.ob (.fr k)]), .v (.c (.int .i64 n))]⟩ : Cfg)) [true, true, false, false, false, false, false]).cfg.k = lpG_k := by kernel_rfl
theorem lpG (x y : U6) (j : Bool) (k : U4) (n:Int) (ho : AllP [((decide (n > (12:Int))) = true),((decide (n ≤ (4096:Int))) = true),((decide ((12:Int) < (0:Int))) = false),((decide ((12:Int) > (4096:Int))) = false),((Bool.not (onG (G1D.mk x y j))) = false),(((Prod.snd (pwR (G1D.mk x y j) k (12:Int))) != (0:Int)) = false),(((((List.length (Prod.fst (pwR (G1D.mk x y j) k (12:Int)))) : Nat):Int) != (12:Int)) = false)]) (hs : Sim w0 F0 K ac (initSt Try.f17.ntmps [.v (.a [.ob (.fp x),.ob (.fp y),.bool j]),.v (.a [.ob (.fr k)]),.v (.c (.int .i64 n))]) cX aX) (hK : ∀ ac cY aY,Sim w0 F0 K ac (mkSt 89 [3,4,63,64,65] [.pt 16 0,.pt 32 0,(.v (.c (.sl (Sq.g1 (Prod.fst (pwR (G1D.mk x y j) k (12:Int))))))),(.ii (((List.length (Prod.fst (pwR (G1D.mk x y j) k (12:Int)))) : Nat):Int)),.ii (0:Int)] [16,32] [(some (.fl [.ob (.fp x),.ob (.fp y),(.bool j)])),(some (.fl [.ob (.fr k)]))] 640 [] []) cY aY → Wq Try.prog Q (lpG_k) ac Exit.normal aY cY.w) : Wq Try.prog Q ([.code (bodyOf Try.f17)]) ac .normal aX cX.w :=
  run_at2 (o := ⟨_, _, _, _, _, _, _⟩) pgC_ok (by kernel_rfl) (lpG_hk x y j k n) ho hs hK
theorem lpH_hk (x y : U6) (j : Bool) (k : U4) (n : Int) : (run pgC false 3000 ((⟨[.code (bodyOf Try.f17)], .normal, initSt Try.f17.ntmps [.v (.a [.ob (.fp x), .ob (.fp y), .bool j]), .v (.a [.ob (.fr k)]), .v (.c (.int .i64 n))]⟩ : Cfg)) [false, false, false, false, false, false]).cfg.k = lpG_k := by kernel_rfl
theorem lpH (x y : U6) (j : Bool) (k : U4) (n:Int) (ho : AllP [((decide (n > (12:Int))) = false),((decide (n < (0:Int))) = false),((decide (n > (4096:Int))) = false),((Bool.not (onG (G1D.mk x y j))) = false),(((Prod.snd (pwR (G1D.mk x y j) k n)) != (0:Int)) = false),(((((List.length (Prod.fst (pwR (G1D.mk x y j) k n))) : Nat):Int) != n) = false)]) (hs : Sim w0 F0 K ac (initSt Try.f17.ntmps [.v (.a [.ob (.fp x),.ob (.fp y),.bool j]),.v (.a [.ob (.fr k)]),.v (.c (.int .i64 n))]) cX aX) (hK : ∀ ac cY aY,Sim w0 F0 K ac (mkSt 89 [3,4,63,64,65] [.pt 16 0,.pt 32 0,(.v (.c (.sl (Sq.g1 (Prod.fst (pwR (G1D.mk x y j) k n)))))),(.ii (((List.length (Prod.fst (pwR (G1D.mk x y j) k n))) : Nat):Int)),.ii (0:Int)] [16,32] [(some (.fl [.ob (.fp x),.ob (.fp y),(.bool j)])),(some (.fl [.ob (.fr k)]))] 624 [] []) cY aY → Wq Try.prog Q (lpG_k) ac Exit.normal aY cY.w) : Wq Try.prog Q ([.code (bodyOf Try.f17)]) ac .normal aX cX.w :=
  run_at2 (o := ⟨_, _, _, _, _, _, _⟩) pgC_ok (by kernel_rfl) (lpH_hk x y j k n) ho hs hK
noncomputable def lpS (x y : U6) (j : Bool) (k : U4) (L : List G1D) (i:Int) : St := mkSt 89 [3,4,63,64,65] [.pt 16 0,.pt 32 0,.v (.c (.sl (.g1 L))),.v (.c (.int .i64 ((L.length : Nat):Int))),.v (.c (.int .i64 i))] [16,32] [(some (.fl [.ob (.fp x),.ob (.fp y),(.bool j)])),(some (.fl [.ob (.fr k)]))] 640 [] []
theorem lpI_hk (x y : U6) (j : Bool) (k : U4) (L : List G1D) (i : Int) : (run pgC false 3000 ((⟨lpIn lpG_k, .normal, lpS x y j k L i⟩ : Cfg)) [true, false, false]).cfg.k = lpBk lpG_k := by kernel_rfl
theorem lpI (x y : U6) (j : Bool) (k : U4) (L : List G1D) (i:Int) (ho : AllP [((decide (i < (((List.length L) : Nat):Int))) = true),((0:Int) ≤ i),(i < (((List.length L) : Nat):Int)),((0:Int) ≤ (IntKind.wrap .u64 i)),((IntKind.wrap .u64 i) < (18446744073709551616:Int)),((0:Int) ≤ (0:Int)),((0:Int) < (18446744073709551616:Int)),((0:Int) ≤ (0:Int)),((0:Int) < (18446744073709551616:Int)),((0:Int) ≤ (0:Int)),((0:Int) < (18446744073709551616:Int)),(((Prod.snd (muR (G1D.mk x y j) (frPow k (Fin.val (Fin.ofNat B4 (((IntKind.wrap .u64 i)).toNat + 0)))))) != (0:Int)) = false),((ite (false = true) (Bool.and (decide ((G1D.x (List.getD L (i).toNat g10)) = (G1D.x (Prod.fst (muR (G1D.mk x y j) (frPow k (Fin.val (Fin.ofNat B4 (((IntKind.wrap .u64 i)).toNat + 0))))))))) (Bool.and (decide ((G1D.y (List.getD L (i).toNat g10)) = (G1D.y (Prod.fst (muR (G1D.mk x y j) (frPow k (Fin.val (Fin.ofNat B4 (((IntKind.wrap .u64 i)).toNat + 0))))))))) ((G1D.inf (List.getD L (i).toNat g10)) == (G1D.inf (Prod.fst (muR (G1D.mk x y j) (frPow k (Fin.val (Fin.ofNat B4 (((IntKind.wrap .u64 i)).toNat + 0)))))))))) (Bool.not (Bool.and (decide ((G1D.x (List.getD L (i).toNat g10)) = (G1D.x (Prod.fst (muR (G1D.mk x y j) (frPow k (Fin.val (Fin.ofNat B4 (((IntKind.wrap .u64 i)).toNat + 0))))))))) (Bool.and (decide ((G1D.y (List.getD L (i).toNat g10)) = (G1D.y (Prod.fst (muR (G1D.mk x y j) (frPow k (Fin.val (Fin.ofNat B4 (((IntKind.wrap .u64 i)).toNat + 0))))))))) ((G1D.inf (List.getD L (i).toNat g10)) == (G1D.inf (Prod.fst (muR (G1D.mk x y j) (frPow k (Fin.val (Fin.ofNat B4 (((IntKind.wrap .u64 i)).toNat + 0)))))))))))) = false)]) (hs : Sim w0 F0 K ac (lpS x y j k L i) cX aX) (hK : ∀ ac cY aY,Sim w0 F0 K ac (mkSt 89 [3,4,63,64,65] [.pt 16 0,.pt 32 0,(.v (.c (.sl (Sq.g1 L)))),(.ii (((List.length L) : Nat):Int)),(.ii (IntKind.wrap .i64 (i + (1:Int))))] [16,32] [(some (.fl [.ob (.fp x),.ob (.fp y),(.bool j)])),(some (.fl [.ob (.fr k)]))] 1104 [] []) cY aY → Wq Try.prog Q (lpBk lpG_k) ac Exit.normal aY cY.w) : Wq Try.prog Q (lpIn lpG_k) ac .normal aX cX.w :=
  run_at2 (o := ⟨_, _, _, _, _, _, _⟩) pgC_ok (by kernel_rfl) (lpI_hk x y j k L i) ho hs hK
theorem lpX_end (x y : U6) (j : Bool) (k : U4) (L : List G1D) (i:Int) : runEnd pgC Try.f17 false 3000 (⟨lpIn lpG_k,.normal,lpS x y j k L i⟩) [false] [] [] = (some ([((decide (i < (((List.length L) : Nat):Int))) = false)],((.v (.c (.bool true))),[]))) := by kernel_rfl
end
end Go.Proofs.Ytkfcphigoncgjaa

/- OneTimes' law returns true. No conditions. -/
namespace Go.Proofs.Ytkfcphigoncgjaa

theorem mul_of {a : G1D} (ha : onG a = true) {n : Nat} (h : n < 18446744073709551616) : (muR a (Fin.ofNat B4 n)).1 = gP (nmul (pG a) n) := by
  rw [congrArg Prod.fst (muR_on (Fin.ofNat B4 n) ha), mulG_is ha, ofN_val h]
theorem add_of {P Q : Pt Fp} (hP : OnC fp4 P) (hQ : OnC fp4 Q) : (adR (gP P) (gP Q)).1 = gP (gadd P Q) := by
  rw [congrArg Prod.fst (adR_on (onG_gP hP) (onG_gP hQ)), addG_is, pG_gP, pG_gP]

end Go.Proofs.Ytkfcphigoncgjaa

/- OneOrder's and OneNegs' laws return true. No conditions. -/
namespace Go.Proofs.Ytkfcphigoncgjaa

theorem bits_eq (a b : G1D) : (decide (a.x = b.x) && (decide (a.y = b.y) && (a.inf == b.inf))) = true ↔ a = b := by
  refine ⟨fun h => ?_, eq_bits⟩
  obtain ⟨ax, ay, ai⟩ := a
  obtain ⟨bx, bY, bi⟩ := b
  rw [Bool.and_eq_true, Bool.and_eq_true, decide_eq_true_eq, decide_eq_true_eq, beq_iff_eq] at h
  obtain ⟨h1, h2, h3⟩ := h
  have h1 : ax = bx := h1
  have h2 : ay = bY := h2
  have h3 : ai = bi := h3
  rw [h1, h2, h3]

theorem gP_none {P : Pt Fp} : gP P = ⟨0, 0, true⟩ ↔ P = none := by
  constructor
  · intro h
    cases P with
    | none => rfl
    | some p => exact absurd (congrArg G1D.inf h) Bool.false_ne_true
  · rintro rfl; rfl

theorem mul_any {P : Pt Fp} (hP : OnC fp4 P) (k : U4) : (muR (gP P) k).1 = gP (nmul P k.val) := by
  rw [congrArg Prod.fst (muR_on k (onG_gP hP)), mulG_is (onG_gP hP), pG_gP]

theorem grp_is {P : Pt Fp} (hP : OnC fp4 P) : grp (gP P) = decide (nmul P rN = none) := by
  unfold grp
  rw [onG_gP hP, Bool.true_and]
  have h := jmn_zero cv1 hP (pG_gP P ▸ inG_jc (gP P)) (dgT 52435875175126190479447740508185965837690552500527637822603658699938581184513 64)
  rw [dgV_lit] at h
  generalize (dgT 52435875175126190479447740508185965837690552500527637822603658699938581184513 64) = t at h ⊢
  exact h

theorem neg_any {P : Pt Fp} (hP : OnC fp4 P) : neR (gP P) = (gP (gneg P), 0) := by
  rw [neR_on (onG_gP hP), negG_is, pG_gP]

end Go.Proofs.Ytkfcphigoncgjaa

/- SumPowers' law returns true. No conditions. -/
namespace Go.Proofs.Ytkfcphigoncgjaa

theorem in_outS (x : Fr) : S4.inF (S4.outF x) = x := by
  apply Fin.ext
  show (S4.outF x).val % rN = x.val
  rw [S4.outF_val, Nat.mod_eq_of_lt x.isLt]
theorem pwK_is (k : U4) : ∀ i, pwK k i = frPow k i
  | 0 => rfl
  | i + 1 => by
    show S4.outF (S4.inF (pwK k i) * S4.inF k) = S4.outF (pw (S4.inF k) i * S4.inF k)
    rw [pwK_is k i]
    unfold frPow
    rw [in_outS]
theorem u4_lim (k : U4) : k.val < 2 ^ 256 := by
  have h : B4 = 2 ^ 256 := by decide +kernel
  rw [← h]
  exact k.isLt
theorem pwE_of (a : Fp × Fp × Fp) (q : U4) {n : Nat} (hn : n = 64) : pwE (tb64 a) q = outG (pkT pt0 a q.val n) := by
  unfold pwE
  rw [tb64_is, pkL_is a q.val 64 64 (Nat.le_refl _), hn]
theorem pwE_is {a : G1D} (ha : onG a = true) (q : U4) : pwE (tb64 (inG a)) q = gP (nmul (pG a) q.val) := by
  obtain ⟨n, hn⟩ : ∃ n : Nat, n = 64 := ⟨_, rfl⟩
  rw [pwE_of (inG a) q hn]
  exact outG_jc (pkT_all cv1 (z := pt0) rfl (onG_is ha).2 (inG_jc a) hn (u4_lim q))
theorem mul_pw {a : G1D} (ha : onG a = true) (k : U4) : muR a k = (gP (nmul (pG a) k.val), 0) := by
  rw [muR_on k ha, mulG_is ha]
theorem ofnat_small {i : Nat} (h : i < 4096) : Fin.val (Fin.ofNat B4 (((IntKind.wrap IntKind.u64 (i : Int))).toNat + 0)) = i := by
  have e : IntKind.wrap IntKind.u64 (i : Int) = (i : Int) := by
    show (i : Int) % 18446744073709551616 = (i : Int)
    omega
  rw [e, Int.toNat_natCast]
  show (i + 0) % B4 = i
  have hb : 4096 ≤ B4 := by decide +kernel
  exact Nat.mod_eq_of_lt (by omega)

/-- The loop of the law. -/
theorem lp_loop (x y : U6) (j : Bool) (k : U4) (n : Nat) (h : n ≤ 12) (ha : onG ⟨x, y, j⟩ = true) {x0 : Ctx} (hk : ∀ p, x0.k p = .no) (hF : ∀ b, x0.F b → b < x0.w.heap.size) {ac : List Act} {cX : Ctx} {aX : Act}
    (hs : Sim x0.w x0.F kAll ac (lpS x y j k (pwL (tb64 (inG ⟨x, y, j⟩)) k n) 0) cX aX) : Wq Try.prog (Post Try.prog Try.f17 x0 (.v (.c (.bool true))) []) lpG_k ac .normal aX cX.w := by
  have hlen := pwL_len (tb64 (inG ⟨x, y, j⟩)) k n
  have hget : ∀ i, i < n → (pwL (tb64 (inG ⟨x, y, j⟩)) k n).getD i g10 = gP (nmul (pG ⟨x, y, j⟩) (frPow k i).val) := fun i hi => by
    rw [pwL_get _ _ hi, pwE_is ha, pwK_is]
  generalize pwL (tb64 (inG ⟨x, y, j⟩)) k n = L at hs hlen hget
  refine loop_rule (ι := { i : Nat // i ≤ n }) (fun i => lpS x y j k L (i.1 : Int)) (fun i => n - i.1) (c := lpC lpG_k) (k := lpR lpG_k) (by kernel_rfl) (fun i ih ac cY aY hs => ?_) ⟨0, Nat.zero_le _⟩ hs
  obtain ⟨i, hi⟩ := i
  simp only at ih hs
  by_cases hin : i < n
  · have hu := ofnat_small (i := i) (by omega)
    have ew : IntKind.wrap IntKind.u64 (i : Int) = (i : Int) := by
      show (i : Int) % 18446744073709551616 = (i : Int)
      omega
    have hm := mul_pw ha (frPow k i)
    have hg := hget i hin
    refine lpI x y j k L i ⟨decide_eq_true (by omega), by omega, by omega, by rw [ew]; omega, by rw [ew]; omega, by decide, by decide, by decide, by decide, by decide, by decide, by rw [hu, hm]; rfl, by rw [hu, hm, Int.toNat_natCast, if_neg Bool.false_ne_true, eq_bits (a := L.getD i g10) (b := gP (nmul (pG ⟨x, y, j⟩) (frPow k i).val)) hg]; rfl, trivial⟩ hs fun ac cU aU hs2 => ?_
    rw [wrap_id (n := (i : Int) + 1) (by omega) (by omega)] at hs2
    exact ih ⟨i + 1, hin⟩ (by show n - (i + 1) < n - i; omega) ac cU aU (hs2.nx _)
  · obtain rfl : i = n := by omega
    exact run_end2 pgC_ok hk hF (lpX_end x y j k L _) ⟨decide_eq_false (by omega), trivial⟩ (fun y v hd => hd) hs

theorem powers_true (x y : U6) (j : Bool) (k : U4) (n : Int) (h0 : 0 ≤ n) (h1 : n ≤ 4096) (ha : onG ⟨x, y, j⟩ = true) : FnD Try.prog 17 [.v (.a [.ob (.fp x), .ob (.fp y), .bool j]), .v (.a [.ob (.fr k)]), .v (.c (.int .i64 n))] (.v (.c (.bool true))) [] := by
  refine fn_start (fn := Try.f17) (c := bodyOf Try.f17) Try.func17 rfl rfl fun x0 a0 hk hF hs => ?_
  by_cases h12 : n > 12
  · have hr := pwR_on (a := ⟨x, y, j⟩) (k := k) (n := 12) (by omega) ha
    have hl := pwL_len (tb64 (inG ⟨x, y, j⟩)) k (12 : Int).toNat
    refine lpG x y j k n ⟨decide_eq_true h12, decide_eq_true (by omega), rfl, rfl, by rw [ha]; rfl, by rw [hr]; rfl, by rw [hr, hl]; rfl, trivial⟩ hs fun ac cY aY hs1 => ?_
    rw [hr] at hs1
    exact lp_loop x y j k 12 (Nat.le_refl _) ha hk hF (hs1.nx _)
  · obtain ⟨m, rfl⟩ : ∃ m : Nat, n = (m : Int) := ⟨n.toNat, by omega⟩
    have hr := pwR_on (a := ⟨x, y, j⟩) (k := k) (n := (m : Int)) (by omega) ha
    rw [Int.toNat_natCast] at hr
    have hl := pwL_len (tb64 (inG ⟨x, y, j⟩)) k m
    refine lpH x y j k m ⟨decide_eq_false h12, decide_eq_false (by omega), decide_eq_false (by omega), by rw [ha]; rfl, by rw [hr]; rfl, by rw [hr, hl]; simp, trivial⟩ hs fun ac cY aY hs1 => ?_
    rw [hr] at hs1
    exact lp_loop x y j k m (by omega) ha hk hF (hs1.nx _)

theorem sumPowers_fnd (a : G1D) (k : U4) (n : Int) : FnD Try.prog 17 [.v (.a a.its), .v (.a [.ob (.fr k)]), .v (.c (.int .i64 n))] (.v (.c (.bool true))) [] := by
  by_cases h0 : n < 0
  · have hr := pwR_arg (a := a) (k := k) (n := n) (.inl h0)
    have r := lpA a k n
    rw [hr] at r
    exact fn_sound pgC_ok Try.func17 r ⟨decide_eq_false (by omega), decide_eq_true h0, rfl, rfl, trivial⟩
  · by_cases h1 : n > 4096
    · have hr := pwR_arg (a := a) (k := k) (n := n) (.inr h1)
      have r := lpB a k n
      rw [hr] at r
      exact fn_sound pgC_ok Try.func17 r ⟨decide_eq_true (by omega), decide_eq_false (by omega), decide_eq_false h0, decide_eq_true h1, rfl, rfl, trivial⟩
    · cases ha : onG a with
      | true => exact powers_true a.x a.y a.inf k n (by omega) (by omega) ha
      | false =>
        by_cases h12 : n > 12
        · have hr := pwR_off (a := a) (k := k) (n := 12) (by omega) ha
          have r := lpE a k n
          rw [hr] at r
          exact fn_sound pgC_ok Try.func17 r ⟨decide_eq_true h12, decide_eq_true (by omega), rfl, rfl, by rw [ha]; rfl, rfl, rfl, trivial⟩
        · have hr := pwR_off (a := a) (k := k) (n := n) (by omega) ha
          have r := lpF a k n
          rw [hr] at r
          exact fn_sound pgC_ok Try.func17 r ⟨decide_eq_false h12, decide_eq_false h0, decide_eq_false h1, by rw [ha]; rfl, rfl, rfl, trivial⟩

end Go.Proofs.Ytkfcphigoncgjaa

/- All that the claim of powers needs. No conditions. -/
namespace Go.Proofs.Ytkfcphigoncgjaa
end Go.Proofs.Ytkfcphigoncgjaa
