/- Parts of a proof, one behind the other: PDb, WDc, PDc, WDd, PDd, WDe, WUf, PTi, POb, PUf, Uall. No conditions. -/
import Derived.Test.YtkfcphigoncgjaaSuN
/- Points of the second curve: sums, contract. No conditions. -/
namespace Go.Proofs.Ytkfcphigoncgjaa

theorem plusPt2_fnd (a b c d e f a' b' c' d' e' f' : Fp) : FnD Try.prog 68 [.v (.a [.ob (.p a), .ob (.p b), .ob (.p c), .ob (.p d), .ob (.p e), .ob (.p f)]), .v (.a [.ob (.p a'), .ob (.p b'), .ob (.p c'), .ob (.p d'), .ob (.p e'), .ob (.p f')])] (.v (.a (pt2Its (jpl (F := F2) ((a, b), (c, d), (e, f)) ((a', b'), (c', d'), (e', f')))))) [] := by
  by_cases h : ((e, f) : F2) = 0
  · have e0 : jpl (F := F2) ((a, b), (c, d), (e, f)) ((a', b'), (c', d'), (e', f')) = ((a', b'), (c', d'), (e', f')) := if_pos h
    rw [e0]
    exact fn_sound qyB_ok Try.func68 (pq2A a b c d e f a' b' c' d' e' f') ⟨decide_eq_true h, trivial⟩
  · by_cases h2 : ((e', f') : F2) = 0
    · have e0 : jpl (F := F2) ((a, b), (c, d), (e, f)) ((a', b'), (c', d'), (e', f')) = ((a, b), (c, d), (e, f)) := (if_neg h).trans (if_pos h2)
      rw [e0]
      exact fn_sound qyB_ok Try.func68 (pq2B a b c d e f a' b' c' d' e' f') ⟨decide_eq_false h, decide_eq_true h2, trivial⟩
    · unfold jpl
      rw [if_neg h, if_neg h2]
      dsimp only
      by_cases h3 : ((a', b') : F2) * (((e, f) : F2) * ((e, f) : F2)) - ((a, b) : F2) * (((e', f') : F2) * ((e', f') : F2)) = 0
      · rw [if_pos h3]
        by_cases h4 : ((c', d') : F2) * (((e, f) : F2) * ((e, f) : F2)) * ((e, f) : F2) - ((c, d) : F2) * (((e', f') : F2) * ((e', f') : F2)) * ((e', f') : F2) = 0
        · rw [if_pos h4]
          exact fn_sound qyB_ok Try.func68 (pq2C a b c d e f a' b' c' d' e' f') ⟨decide_eq_false h, decide_eq_false h2, decide_eq_true h3, decide_eq_true h4, trivial⟩
        · rw [if_neg h4]
          exact fn_sound qyB_ok Try.func68 (pq2D a b c d e f a' b' c' d' e' f') ⟨decide_eq_false h, decide_eq_false h2, decide_eq_true h3, decide_eq_false h4, trivial⟩
      · rw [if_neg h3]
        exact fn_sound qyB_ok Try.func68 (pq2E a b c d e f a' b' c' d' e' f') ⟨decide_eq_false h, decide_eq_false h2, decide_eq_false h3, trivial⟩

end Go.Proofs.Ytkfcphigoncgjaa

/- Points of the second curve, in and out, walked. No conditions. -/
namespace Go.Proofs.Ytkfcphigoncgjaa

def pl2Spec : FnSpec
  | [.v (.a [.ob (.p a), .ob (.p b), .ob (.p c), .ob (.p d), .ob (.p e), .ob (.p f)]), .v (.a [.ob (.p a'), .ob (.p b'), .ob (.p c'), .ob (.p d'), .ob (.p e'), .ob (.p f')])] => some ([], .v (.a (pt2Its (jpl (F := F2) ((a, b), (c, d), (e, f)) ((a', b'), (c', d'), (e', f'))))), [])
  | _ => none
noncomputable def qyC : Env := qyB.set (addT qyB.fn 68 pl2Spec)
theorem qyC_ok : EnvOk Try.prog qyC := env_add qyB_ok 68 pl2Spec (enters_of Try.func68 rfl rfl) fun args o r es h _ => by
  unfold pl2Spec at h
  split at h
  · cases h; exact plusPt2_fnd _ _ _ _ _ _ _ _ _ _ _ _
  · cases h
noncomputable def inlAg (T : Nat → Option Func) (f : Nat) : Option Func := if f = 118 then some Try.f118 else T f
noncomputable def qyD : Env := { qyC with inl := inlAg qyC.inl }
theorem qyD_ok : EnvOk Try.prog qyD := by
  refine ⟨qyC_ok.ty, qyC_ok.mixed, qyC_ok.fn, qyC_ok.mu, fun f fn h => ?_, qyC_ok.ex, qyC_ok.inv⟩
  have h : inlAg qyC.inl f = some fn := h
  unfold inlAg at h
  split at h
  · rename_i hf; cases h; subst hf; exact ⟨Try.func118, enters_of Try.func118 rfl rfl⟩
  exact qyC_ok.inl f fn h
--@env qyD qyD_ok
theorem ig2A (a b c d : U6) (i : Bool) : fnRes qyD Try.f70 3000 [.v (.a [.ob (.fp a),.ob (.fp b),.ob (.fp c),.ob (.fp d),.bool i])] [true] [] [] = (some ([((0:Int) ≤ (1:Int)),((1:Int) < (18446744073709551616:Int)),(i = true)],((.v (.a [(.ob (.p (Fin.ofNat pN 1))),(.ob (.p (0:Fp))),(.ob (.p (Fin.ofNat pN 1))),(.ob (.p (0:Fp))),(.ob (.p (0:Fp))),(.ob (.p (0:Fp)))])),[]))) := by kernel_rfl
theorem ig2B (a b c d : U6) (i : Bool) : fnRes qyD Try.f70 3000 [.v (.a [.ob (.fp a),.ob (.fp b),.ob (.fp c),.ob (.fp d),.bool i])] [false] [] [] = (some ([((0:Int) ≤ (1:Int)),((1:Int) < (18446744073709551616:Int)),(i = false)],((.v (.a [(.ob (.p (Prod.fst (inP2 a b)))),(.ob (.p (Prod.snd (inP2 a b)))),(.ob (.p (Prod.fst (inP2 c d)))),(.ob (.p (Prod.snd (inP2 c d)))),(.ob (.p (Fin.ofNat pN 1))),(.ob (.p (0:Fp)))])),[]))) := by kernel_rfl
theorem og2A (a b c d e f : Fp) : fnRes qyD Try.f69 3000 [.v (.a [.ob (.p a),.ob (.p b),.ob (.p c),.ob (.p d),.ob (.p e),.ob (.p f)])] [true,true] [] [] = (some ([((decide ((e,f) = (0 : (Prod (Fin pN) (Fin pN))))) = true)],((.v (.a [(.ob (.fp (0:U6))),(.ob (.fp (0:U6))),(.ob (.fp (0:U6))),(.ob (.fp (0:U6))),(.lit true)])),[]))) := by kernel_rfl
theorem og2B (a b c d e f : Fp) : fnRes qyD Try.f69 3000 [.v (.a [.ob (.p a),.ob (.p b),.ob (.p c),.ob (.p d),.ob (.p e),.ob (.p f)])] [false,false] [] [] = (some ([((decide ((e,f) = (0 : (Prod (Fin pN) (Fin pN))))) = false)],((.v (.a [(.ob (.fp (outP (Prod.fst ((a,b) * ((ivQ2 ivP (e,f)) * (ivQ2 ivP (e,f)))))))),(.ob (.fp (outP (Prod.snd ((a,b) * ((ivQ2 ivP (e,f)) * (ivQ2 ivP (e,f)))))))),(.ob (.fp (outP (Prod.fst (((c,d) * ((ivQ2 ivP (e,f)) * (ivQ2 ivP (e,f)))) * (ivQ2 ivP (e,f))))))),(.ob (.fp (outP (Prod.snd (((c,d) * ((ivQ2 ivP (e,f)) * (ivQ2 ivP (e,f)))) * (ivQ2 ivP (e,f))))))),(.lit false)])),[]))) := by kernel_rfl
theorem on2A (a b c d : U6) (i : Bool) : fnRes qyD Try.f97 3000 [.v (.a [.ob (.fp a),.ob (.fp b),.ob (.fp c),.ob (.fp d),.bool i])] [true] [] [] = (some ([(i = true)],((.v (.c (.bool (ite (true = true) (Bool.and (decide (a = (0:U6))) (Bool.and (decide (b = (0:U6))) (Bool.and (decide (c = (0:U6))) (Bool.and (decide (d = (0:U6))) (i == true))))) (Bool.not (Bool.and (decide (a = (0:U6))) (Bool.and (decide (b = (0:U6))) (Bool.and (decide (c = (0:U6))) (Bool.and (decide (d = (0:U6))) (i == true)))))))))),[]))) := by kernel_rfl
theorem on2B (a b c d : U6) (i : Bool) : fnRes qyD Try.f97 3000 [.v (.a [.ob (.fp a),.ob (.fp b),.ob (.fp c),.ob (.fp d),.bool i])] [false,true,true] [] [] = (some ([(i = false),((0:Int) ≤ (4:Int)),((4:Int) < (18446744073709551616:Int)),((0:Int) ≤ (4:Int)),((4:Int) < (18446744073709551616:Int)),((ite (true = true) (Bool.and (decide ((outP (Prod.fst (inP2 a b))) = a)) (decide ((outP (Prod.snd (inP2 a b))) = b))) (Bool.not (Bool.and (decide ((outP (Prod.fst (inP2 a b))) = a)) (decide ((outP (Prod.snd (inP2 a b))) = b))))) = true),((ite (true = true) (Bool.and (decide ((outP (Prod.fst (inP2 c d))) = c)) (decide ((outP (Prod.snd (inP2 c d))) = d))) (Bool.not (Bool.and (decide ((outP (Prod.fst (inP2 c d))) = c)) (decide ((outP (Prod.snd (inP2 c d))) = d))))) = true)],((.v (.c (.bool (ite (true = true) (Bool.and (decide ((Prod.fst ((inP2 c d) * (inP2 c d))) = (Prod.fst ((((inP2 a b) * (inP2 a b)) * (inP2 a b)) + ((Fin.ofNat pN 4),(Fin.ofNat pN 4)))))) (decide ((Prod.snd ((inP2 c d) * (inP2 c d))) = (Prod.snd ((((inP2 a b) * (inP2 a b)) * (inP2 a b)) + ((Fin.ofNat pN 4),(Fin.ofNat pN 4))))))) (Bool.not (Bool.and (decide ((Prod.fst ((inP2 c d) * (inP2 c d))) = (Prod.fst ((((inP2 a b) * (inP2 a b)) * (inP2 a b)) + ((Fin.ofNat pN 4),(Fin.ofNat pN 4)))))) (decide ((Prod.snd ((inP2 c d) * (inP2 c d))) = (Prod.snd ((((inP2 a b) * (inP2 a b)) * (inP2 a b)) + ((Fin.ofNat pN 4),(Fin.ofNat pN 4)))))))))))),[]))) := by kernel_rfl
theorem on2C (a b c d : U6) (i : Bool) : fnRes qyD Try.f97 3000 [.v (.a [.ob (.fp a),.ob (.fp b),.ob (.fp c),.ob (.fp d),.bool i])] [false,true,false] [] [] = (some ([(i = false),((0:Int) ≤ (4:Int)),((4:Int) < (18446744073709551616:Int)),((0:Int) ≤ (4:Int)),((4:Int) < (18446744073709551616:Int)),((ite (true = true) (Bool.and (decide ((outP (Prod.fst (inP2 a b))) = a)) (decide ((outP (Prod.snd (inP2 a b))) = b))) (Bool.not (Bool.and (decide ((outP (Prod.fst (inP2 a b))) = a)) (decide ((outP (Prod.snd (inP2 a b))) = b))))) = true),((ite (true = true) (Bool.and (decide ((outP (Prod.fst (inP2 c d))) = c)) (decide ((outP (Prod.snd (inP2 c d))) = d))) (Bool.not (Bool.and (decide ((outP (Prod.fst (inP2 c d))) = c)) (decide ((outP (Prod.snd (inP2 c d))) = d))))) = false)],((.v (.c (.lit false))),[]))) := by kernel_rfl
theorem on2D (a b c d : U6) (i : Bool) : fnRes qyD Try.f97 3000 [.v (.a [.ob (.fp a),.ob (.fp b),.ob (.fp c),.ob (.fp d),.bool i])] [false,false,false] [] [] = (some ([(i = false),((0:Int) ≤ (4:Int)),((4:Int) < (18446744073709551616:Int)),((0:Int) ≤ (4:Int)),((4:Int) < (18446744073709551616:Int)),((ite (true = true) (Bool.and (decide ((outP (Prod.fst (inP2 a b))) = a)) (decide ((outP (Prod.snd (inP2 a b))) = b))) (Bool.not (Bool.and (decide ((outP (Prod.fst (inP2 a b))) = a)) (decide ((outP (Prod.snd (inP2 a b))) = b))))) = false)],((.v (.c (.lit false))),[]))) := by kernel_rfl
end Go.Proofs.Ytkfcphigoncgjaa

/- Points of the second curve, in and out; pairs outside: contracts. No conditions. -/
namespace Go.Proofs.Ytkfcphigoncgjaa

def fq4 : F2 := (fp4, fp4)
/-- Which points may be. -/
def onG2 (a : G2D) : Bool :=
  if a.inf then decide (a.xa = 0) && (decide (a.xb = 0) && (decide (a.ya = 0) && decide (a.yb = 0)))
  else (decide (outP (inP a.xa) = a.xa) && decide (outP (inP a.xb) = a.xb)) && ((decide (outP (inP a.ya) = a.ya) && decide (outP (inP a.yb) = a.yb)) && decide (inP2 a.ya a.yb * inP2 a.ya a.yb = inP2 a.xa a.xb * inP2 a.xa a.xb * inP2 a.xa a.xb + fq4))
def inG2 (a : G2D) : F2 × F2 × F2 := if a.inf then ((fp1, 0), (fp1, 0), (0, 0)) else (inP2 a.xa a.xb, inP2 a.ya a.yb, (fp1, 0))
def outG2 (t : F2 × F2 × F2) : G2D :=
  if t.2.2 = 0 then ⟨0, 0, 0, 0, true⟩ else
  ⟨outP (t.1 * (ivQ2 ivP t.2.2 * ivQ2 ivP t.2.2)).1, outP (t.1 * (ivQ2 ivP t.2.2 * ivQ2 ivP t.2.2)).2, outP (t.2.1 * (ivQ2 ivP t.2.2 * ivQ2 ivP t.2.2) * ivQ2 ivP t.2.2).1, outP (t.2.1 * (ivQ2 ivP t.2.2 * ivQ2 ivP t.2.2) * ivQ2 ivP t.2.2).2, false⟩
def addG2 (a b : G2D) : G2D := outG2 (jpl (inG2 a) (inG2 b))
def negG2 (a : G2D) : G2D := outG2 (jng (inG2 a))

theorem lit_fifth {x : Ctx} {i j k l : It} {b : Bool} {v : Value} (h : denS x (.v (.a [i, j, k, l, .lit b])) v) : denS x (.v (.a [i, j, k, l, .bool b])) v := by
  obtain ⟨cs, e, c1, r1, e1, h1, c2, r2, e2, h2, c3, r3, e3, h3, c4, r4, e4, h4, c5, r5, e5, ⟨d, h5⟩, h6⟩ := h
  refine ⟨cs, e, c1, r1, e1, h1, c2, r2, e2, h2, c3, r3, e3, h3, c4, r4, e4, h4, c5, r5, e5, ⟨d, ?_⟩, h6⟩
  cases d <;> exact h5
theorem lit_fifth_t {x : Ctx} {i j k l m : It} {b : Bool} {v : Value} (h : denS x (.t [.a [i, j, k, l, .lit b], .c m]) v) : denS x (.t [.a [i, j, k, l, .bool b], .c m]) v := by
  obtain ⟨vs, e, h1⟩ := h
  cases h1 with | cons d1 ds =>
  exact ⟨_, e, .cons (lit_fifth d1) ds⟩

theorem inG2_fnd (a b c d : U6) (i : Bool) : FnD Try.prog 70 [.v (.a [.ob (.fp a), .ob (.fp b), .ob (.fp c), .ob (.fp d), .bool i])] (.v (.a (pt2Its (inG2 ⟨a, b, c, d, i⟩)))) [] := by
  cases i with
  | true => exact fn_sound qyD_ok Try.func70 (ig2A a b c d true) ⟨by decide, by decide, rfl, trivial⟩
  | false => exact fn_sound qyD_ok Try.func70 (ig2B a b c d false) ⟨by decide, by decide, rfl, trivial⟩

theorem outG2_fnd (a b c d e f : Fp) : FnD Try.prog 69 [.v (.a [.ob (.p a), .ob (.p b), .ob (.p c), .ob (.p d), .ob (.p e), .ob (.p f)])] (.v (.a (outG2 ((a, b), (c, d), (e, f))).its)) [] := by
  by_cases h : ((e, f) : F2) = 0
  · have e0 : outG2 ((a, b), (c, d), (e, f)) = ⟨0, 0, 0, 0, true⟩ := if_pos h
    rw [e0]
    exact (fn_sound qyD_ok Try.func69 (og2A a b c d e f) ⟨decide_eq_true h, trivial⟩).conv (fun _ _ h => h) fun y v hd => lit_fifth hd
  · unfold outG2
    rw [if_neg h]
    exact (fn_sound qyD_ok Try.func69 (og2B a b c d e f) ⟨decide_eq_false h, trivial⟩).conv (fun _ _ h => h) fun y v hd => lit_fifth hd

theorem onG2_fin (a b c d : U6) : onG2 ⟨a, b, c, d, false⟩ = ((decide (outP (inP a) = a) && decide (outP (inP b) = b)) && ((decide (outP (inP c) = c) && decide (outP (inP d) = d)) && decide (inP2 c d * inP2 c d = inP2 a b * inP2 a b * inP2 a b + fq4))) := if_neg (fun h => Bool.noConfusion h)
theorem onG2_inf (a b c d : U6) : onG2 ⟨a, b, c, d, true⟩ = (decide (a = 0) && (decide (b = 0) && (decide (c = 0) && (decide (d = 0) && (true == true))))) := by
  show (decide (a = 0) && (decide (b = 0) && (decide (c = 0) && decide (d = 0)))) = _
  simp

theorem onG2_fnd (a b c d : U6) (i : Bool) : FnD Try.prog 97 [.v (.a [.ob (.fp a), .ob (.fp b), .ob (.fp c), .ob (.fp d), .bool i])] (.v (.c (.bool (onG2 ⟨a, b, c, d, i⟩)))) [] := by
  cases i with
  | true =>
    have r := on2A a b c d true
    rw [if_pos rfl] at r
    rw [onG2_inf]
    exact fn_sound qyD_ok Try.func97 r ⟨rfl, trivial⟩
  | false =>
    rw [onG2_fin]
    cases h1 : (decide (outP (inP a) = a) && decide (outP (inP b) = b)) with
    | true =>
      rw [Bool.true_and]
      cases h2 : (decide (outP (inP c) = c) && decide (outP (inP d) = d)) with
      | true =>
        rw [Bool.true_and]
        have r := on2B a b c d false
        rw [if_pos rfl, if_pos rfl, if_pos rfl] at r
        have e : decide (inP2 c d * inP2 c d = inP2 a b * inP2 a b * inP2 a b + fq4) = _ := pair_dec (inP2 c d * inP2 c d).1 (inP2 a b * inP2 a b * inP2 a b + fq4).1 (inP2 c d * inP2 c d).2 (inP2 a b * inP2 a b * inP2 a b + fq4).2
        rw [e]
        exact fn_sound qyD_ok Try.func97 r ⟨rfl, by decide, by decide, by decide, by decide, h1, h2, trivial⟩
      | false =>
        rw [Bool.false_and]
        have r := on2C a b c d false
        rw [if_pos rfl, if_pos rfl] at r
        exact (fn_sound qyD_ok Try.func97 r ⟨rfl, by decide, by decide, by decide, by decide, h1, h2, trivial⟩).conv (fun _ _ h => h) fun y v hd => lit_bool rfl hd
    | false =>
      rw [Bool.false_and]
      have r := on2D a b c d false
      rw [if_pos rfl] at r
      exact (fn_sound qyD_ok Try.func97 r ⟨rfl, by decide, by decide, by decide, by decide, h1, trivial⟩).conv (fun _ _ h => h) fun y v hd => lit_bool rfl hd

/-! Pairs outside. -/
def u2I (x : U6 × U6) : List It := [.ob (.fp x.1), .ob (.fp x.2)]
def outP2 (x : F2) : U6 × U6 := (outP x.1, outP x.2)

section
variable {r : Nat} [NeZero r]
theorem add_neg_q (x y : Q2 r) : x + (0 - y) = x - y := by grind
end
theorem outP2_inj {x y : F2} (h : outP2 x = outP2 y) : x = y := by
  have h1 := congrArg Prod.fst h
  have h2 := congrArg Prod.snd h
  exact q2_ext (outP_inj h1) (outP_inj h2)

end Go.Proofs.Ytkfcphigoncgjaa

/- Points of the second curve outside, and the reference's, walked. No conditions. -/
namespace Go.Proofs.Ytkfcphigoncgjaa

def inG2Spec : FnSpec
  | [.v (.a [.ob (.fp a), .ob (.fp b), .ob (.fp c), .ob (.fp d), .bool i])] => some ([], .v (.a (pt2Its (inG2 ⟨a, b, c, d, i⟩))), [])
  | _ => none
noncomputable def qzA : Env := qyD.set (addT qyD.fn 70 inG2Spec)
theorem qzA_ok : EnvOk Try.prog qzA := env_add qyD_ok 70 inG2Spec (enters_of Try.func70 rfl rfl) fun args o r es h _ => by
  unfold inG2Spec at h
  split at h
  · cases h; exact inG2_fnd _ _ _ _ _
  · cases h
def outG2Spec : FnSpec
  | [.v (.a [.ob (.p a), .ob (.p b), .ob (.p c), .ob (.p d), .ob (.p e), .ob (.p f)])] => some ([], .v (.a (outG2 ((a, b), (c, d), (e, f))).its), [])
  | _ => none
noncomputable def qzB : Env := qzA.set (addT qzA.fn 69 outG2Spec)
theorem qzB_ok : EnvOk Try.prog qzB := env_add qzA_ok 69 outG2Spec (enters_of Try.func69 rfl rfl) fun args o r es h _ => by
  unfold outG2Spec at h
  split at h
  · cases h; exact outG2_fnd _ _ _ _ _ _
  · cases h
def onG2Spec : FnSpec
  | [.v (.a [.ob (.fp a), .ob (.fp b), .ob (.fp c), .ob (.fp d), .bool i])] => some ([], .v (.c (.bool (onG2 ⟨a, b, c, d, i⟩))), [])
  | _ => none
noncomputable def qzH : Env := qzB.set (addT qzB.fn 97 onG2Spec)
theorem qzH_ok : EnvOk Try.prog qzH := env_add qzB_ok 97 onG2Spec (enters_of Try.func97 rfl rfl) fun args o r es h _ => by
  unfold onG2Spec at h
  split at h
  · cases h; exact onG2_fnd _ _ _ _ _
  · cases h
--@env qzH qzH_ok
theorem ri2R (a b c d : U6) (i : Bool) : fnRes qzH Try.f49 3000 [.v (.a [.ob (.fp a),.ob (.fp b),.ob (.fp c),.ob (.fp d),.bool i])] [] [] [] = (some ([],((.v (.c (.bool (onG2 (G2D.mk a b c d i))))),[]))) := by kernel_rfl
theorem ge2R  : fnRes qzH Try.f76 3000 [] [] [] [] = (some ([((0:Int) ≤ (15312334153293348280:Int)),((15312334153293348280:Int) < (18446744073709551616:Int)),((0:Int) ≤ (841050694974028783:Int)),((841050694974028783:Int) < (18446744073709551616:Int)),((0:Int) ≤ (12993178926126977399:Int)),((12993178926126977399:Int) < (18446744073709551616:Int)),((0:Int) ≤ (14331714969349929730:Int)),((14331714969349929730:Int) < (18446744073709551616:Int)),((0:Int) ≤ (2740446039084699729:Int)),((2740446039084699729:Int) < (18446744073709551616:Int)),((0:Int) ≤ (165123225776229009:Int)),((165123225776229009:Int) < (18446744073709551616:Int)),((0:Int) ≤ (16549740192668593022:Int)),((16549740192668593022:Int) < (18446744073709551616:Int)),((0:Int) ≤ (3696594454104530263:Int)),((3696594454104530263:Int) < (18446744073709551616:Int)),((0:Int) ≤ (13103893525273989193:Int)),((13103893525273989193:Int) < (18446744073709551616:Int)),((0:Int) ≤ (6443473286224459290:Int)),((6443473286224459290:Int) < (18446744073709551616:Int)),((0:Int) ≤ (9055845637167730533:Int)),((9055845637167730533:Int) < (18446744073709551616:Int)),((0:Int) ≤ (1432192374203850592:Int)),((1432192374203850592:Int) < (18446744073709551616:Int)),((0:Int) ≤ (16254428414758889473:Int)),((16254428414758889473:Int) < (18446744073709551616:Int)),((0:Int) ≤ (10536956157198377609:Int)),((10536956157198377609:Int) < (18446744073709551616:Int)),((0:Int) ≤ (7873024875724591404:Int)),((7873024875724591404:Int) < (18446744073709551616:Int)),((0:Int) ≤ (12537348094477325223:Int)),((12537348094477325223:Int) < (18446744073709551616:Int)),((0:Int) ≤ (10144865889576432922:Int)),((10144865889576432922:Int) < (18446744073709551616:Int)),((0:Int) ≤ (929383263523139089:Int)),((929383263523139089:Int) < (18446744073709551616:Int)),((0:Int) ≤ (12297368366147926462:Int)),((12297368366147926462:Int) < (18446744073709551616:Int)),((0:Int) ≤ (4555124010822409633:Int)),((4555124010822409633:Int) < (18446744073709551616:Int)),((0:Int) ≤ (2771000935339432363:Int)),((2771000935339432363:Int) < (18446744073709551616:Int)),((0:Int) ≤ (14645187562128761775:Int)),((14645187562128761775:Int) < (18446744073709551616:Int)),((0:Int) ≤ (3651525051980876697:Int)),((3651525051980876697:Int) < (18446744073709551616:Int)),((0:Int) ≤ (434250606344352972:Int)),((434250606344352972:Int) < (18446744073709551616:Int))],((.v (.a [(.ob (.fp (Fin.ofNat B6 352701069587466618187139116011060144890029952792775240219908644239793785735715026873347600343865175952761926303160))),(.ob (.fp (Fin.ofNat B6 3059144344244213709971259814753781636986470325476647558659373206291635324768958432433509563104347017837885763365758))),(.ob (.fp (Fin.ofNat B6 1985150602287291935568054521177171638300868978215655730859378665066344726373823718423869104263333984641494340347905))),(.ob (.fp (Fin.ofNat B6 927553665492332455747201965776037880757740193453592970025027978793976877002675564980949289727957565575433344219582))),(.lit false)])),[]))) := by kernel_rfl
theorem ze2R  : fnRes qzH Try.f33 3000 [] [] [] [] = (some ([],((.v (.a [(.ob (.fp (0:U6))),(.ob (.fp (0:U6))),(.ob (.fp (0:U6))),(.ob (.fp (0:U6))),(.lit true)])),[]))) := by kernel_rfl
end Go.Proofs.Ytkfcphigoncgjaa

/- The reference's functions on points of the second curve: contracts. No conditions. -/
namespace Go.Proofs.Ytkfcphigoncgjaa

def genG2 : G2D := ⟨Fin.ofNat B6 352701069587466618187139116011060144890029952792775240219908644239793785735715026873347600343865175952761926303160, Fin.ofNat B6 3059144344244213709971259814753781636986470325476647558659373206291635324768958432433509563104347017837885763365758, Fin.ofNat B6 1985150602287291935568054521177171638300868978215655730859378665066344726373823718423869104263333984641494340347905, Fin.ofNat B6 927553665492332455747201965776037880757740193453592970025027978793976877002675564980949289727957565575433344219582, false⟩

theorem gen2_fnd : FnD Try.prog 76 [] (.v (.a genG2.its)) [] :=
  (fn_sound qzH_ok Try.func76 ge2R (by simp [AllP])).conv (fun _ _ h => h) fun y v hd => lit_fifth hd
theorem zeroG2_fnd : FnD Try.prog 33 [] (.v (.a (G2D.mk 0 0 0 0 true).its)) [] :=
  (fn_sound qzH_ok Try.func33 ze2R (by simp [AllP])).conv (fun _ _ h => h) fun y v hd => lit_fifth hd

end Go.Proofs.Ytkfcphigoncgjaa

/- Sums and negatives of points of the second curve outside, walked. No conditions. -/
namespace Go.Proofs.Ytkfcphigoncgjaa

def right2Spec : FnSpec
  | [.v (.a [.ob (.fp a), .ob (.fp b), .ob (.fp c), .ob (.fp d), .bool i])] => some ([], .v (.c (.bool (onG2 ⟨a, b, c, d, i⟩))), [])
  | _ => none
noncomputable def rtA : Env := qzH.set (addT qzH.fn 49 right2Spec)
theorem rtA_ok : EnvOk Try.prog rtA := env_add qzH_ok 49 right2Spec (enters_of Try.func49 rfl rfl) fun args o r es h _ => by
  unfold right2Spec at h
  split at h
  · cases h; exact fn_sound qzH_ok Try.func49 (ri2R _ _ _ _ _) trivial
  · cases h
def gen2Spec : FnSpec
  | [] => some ([], .v (.a genG2.its), [])
  | _ => none
noncomputable def rtC : Env := rtA.set (addT rtA.fn 76 gen2Spec)
theorem rtC_ok : EnvOk Try.prog rtC := env_add rtA_ok 76 gen2Spec (enters_of Try.func76 rfl rfl) fun args o r es h _ => by
  unfold gen2Spec at h
  split at h
  · cases h; exact gen2_fnd
  · cases h
def zeroG2Spec : FnSpec
  | [] => some ([], .v (.a (G2D.mk 0 0 0 0 true).its), [])
  | _ => none
noncomputable def rtG : Env := rtC.set (addT rtC.fn 33 zeroG2Spec)
theorem rtG_ok : EnvOk Try.prog rtG := env_add rtC_ok 33 zeroG2Spec (enters_of Try.func33 rfl rfl) fun args o r es h _ => by
  unfold zeroG2Spec at h
  split at h
  · cases h; exact zeroG2_fnd
  · cases h
--@env rtG rtG_ok
instance : Inhabited G2D := ⟨g20⟩
theorem ad2A (a b : G2D) : fnRes rtG Try.f26 3000 [.v (.a a.its),.v (.a b.its)] [true,true] [] [] = (some ([((Bool.not (onG2 a)) = true)],((.t [(.a [(.ob (.fp (0:U6))),(.ob (.fp (0:U6))),(.ob (.fp (0:U6))),(.ob (.fp (0:U6))),(.lit false)]),(.c (.int .i64 (30:Int)))]),[]))) := by kernel_rfl
theorem ad2B (a b : G2D) : fnRes rtG Try.f26 3000 [.v (.a a.its),.v (.a b.its)] [false,true] [] [] = (some ([((Bool.not (onG2 a)) = false),((Bool.not (onG2 b)) = true)],((.t [(.a [(.ob (.fp (0:U6))),(.ob (.fp (0:U6))),(.ob (.fp (0:U6))),(.ob (.fp (0:U6))),(.lit false)]),(.c (.int .i64 (30:Int)))]),[]))) := by kernel_rfl
theorem ad2C (a b : G2D) : fnRes rtG Try.f26 3000 [.v (.a a.its),.v (.a b.its)] [false,false] [] [] = (some ([((Bool.not (onG2 a)) = false),((Bool.not (onG2 b)) = false)],((.t [(.a [(.ob (.fp (G2D.xa (outG2 (jpl (inG2 a) (inG2 b)))))),(.ob (.fp (G2D.xb (outG2 (jpl (inG2 a) (inG2 b)))))),(.ob (.fp (G2D.ya (outG2 (jpl (inG2 a) (inG2 b)))))),(.ob (.fp (G2D.yb (outG2 (jpl (inG2 a) (inG2 b)))))),(.bool (G2D.inf (outG2 (jpl (inG2 a) (inG2 b)))))]),(.c (.int .i64 (0:Int)))]),[]))) := by kernel_rfl
theorem ne2A (a : G2D) : fnRes rtG Try.f27 3000 [.v (.a a.its)] [true] [] [] = (some ([((Bool.not (onG2 a)) = true)],((.t [(.a [(.ob (.fp (0:U6))),(.ob (.fp (0:U6))),(.ob (.fp (0:U6))),(.ob (.fp (0:U6))),(.lit false)]),(.c (.int .i64 (30:Int)))]),[]))) := by kernel_rfl
theorem ne2B (a : G2D) : fnRes rtG Try.f27 3000 [.v (.a a.its)] [false] [] [] = (some ([((Bool.not (onG2 a)) = false)],((.t [(.a [(.ob (.fp (G2D.xa (outG2 (jng (inG2 a)))))),(.ob (.fp (G2D.xb (outG2 (jng (inG2 a)))))),(.ob (.fp (G2D.ya (outG2 (jng (inG2 a)))))),(.ob (.fp (G2D.yb (outG2 (jng (inG2 a)))))),(.bool (G2D.inf (outG2 (jng (inG2 a)))))]),(.c (.int .i64 (0:Int)))]),[]))) := by kernel_rfl
end Go.Proofs.Ytkfcphigoncgjaa

/- The laws on sums of points of the first curve, walked. No conditions. -/
namespace Go.Proofs.Ytkfcphigoncgjaa
section
variable {w0 : World} {F0 : Nat → Prop} {K : Kp} {ac : List Act} {Q : Exit → Act → World → Prop} {cX : Ctx} {aX : Act}

noncomputable def ufA : Env := ueE.or rtG
theorem ufA_ok : EnvOk Try.prog ufA := env_or ueE_ok rtG_ok
theorem sum1_any (a b : SV) (h : (a = .v (.c (.val (.slice none 0 0))) ∧ b = .v (.c (.val (.slice none 0 0))))) : FnD Try.prog 45 [a, b] (.t [.a (G1D.mk 0 0 true).its, .c (.int .i64 0)]) [] := by
  obtain ⟨rfl, rfl⟩ := h
  exact sum1_nil
def sum1Spec : FnSpec
  | [.v (.c (.val (.slice none 0 0))), .v (.c (.val (.slice none 0 0)))] => some ([], .t [.a (G1D.mk 0 0 true).its, .c (.int .i64 0)], [])
  | [.v (.c (.sl (.g1 l))), .v (.c (.sl (.fr k)))] => some ([], .t [.a (sum1 l k).1.its, .c (.int .i64 (sum1 l k).2)], [])
  | _ => none
noncomputable def ufB : Env := ufA.set (addT ufA.fn 45 sum1Spec)
theorem ufB_ok : EnvOk Try.prog ufB := env_add ufA_ok 45 sum1Spec (enters_of Try.func45 rfl rfl) fun args o r es h _ => by
  unfold sum1Spec at h
  split at h
  · cases h; exact sum1_nil
  · cases h; exact sum1_fnd _ _
  · cases h
--@env ufB ufB_ok
theorem a11  : fnRes ufB Try.f47 3000 [] [true,true,true] [] [] = (some ([(((0:Int) == (0:Int)) = true),((ite (true = true) (Bool.and (decide ((G1D.x (G1D.mk (0:U6) (0:U6) true)) = (G1D.x (G1D.mk (0:U6) (0:U6) true)))) (Bool.and (decide ((G1D.y (G1D.mk (0:U6) (0:U6) true)) = (G1D.y (G1D.mk (0:U6) (0:U6) true)))) ((G1D.inf (G1D.mk (0:U6) (0:U6) true)) == (G1D.inf (G1D.mk (0:U6) (0:U6) true))))) (Bool.not (Bool.and (decide ((G1D.x (G1D.mk (0:U6) (0:U6) true)) = (G1D.x (G1D.mk (0:U6) (0:U6) true)))) (Bool.and (decide ((G1D.y (G1D.mk (0:U6) (0:U6) true)) = (G1D.y (G1D.mk (0:U6) (0:U6) true)))) ((G1D.inf (G1D.mk (0:U6) (0:U6) true)) == (G1D.inf (G1D.mk (0:U6) (0:U6) true))))))) = true),((onG genG) = true)],((.v (.c (.bool (onG2 genG2)))),[]))) := by kernel_rfl
theorem onGen : onG genG = true := by decide +kernel
theorem onGen2 : onG2 genG2 = true := by decide +kernel
theorem alive11_fnd : FnD Try.prog 47 [] (.v (.c (.bool true))) [] := by
  have r := a11
  rw [if_pos rfl, onGen2] at r
  exact fn_sound ufB_ok Try.func47 r ⟨rfl, eq_bits rfl, onGen, trivial⟩
def alive11Spec : FnSpec
  | [] => some ([], .v (.c (.bool true)), [])
  | _ => none
noncomputable def ufC : Env := ufB.set (addT ufB.fn 47 alive11Spec)
theorem ufC_ok : EnvOk Try.prog ufC := env_add ufB_ok 47 alive11Spec (enters_of Try.func47 rfl rfl) fun args o r es h _ => by
  unfold alive11Spec at h
  split at h
  · cases h; exact alive11_fnd
  · cases h
--@env ufC ufC_ok
theorem sjA (a : G1D) (k l : U4) : fnRes ufC Try.f14 3000 [.v (.a a.its),.v (.a [.ob (.fr k)]),.v (.a [.ob (.fr l)])] [true] [] [] = (some ([((Bool.not (grp a)) = true)],((.v (.c (.bool true))),[]))) := by kernel_rfl
theorem sjB (a : G1D) (k l : U4) : fnRes ufC Try.f14 3000 [.v (.a a.its),.v (.a [.ob (.fr k)]),.v (.a [.ob (.fr l)])] [false,true,true,true] [] [] = (some ([((Bool.not (grp a)) = false),(0 = 0),(2 = (List.length ([a] ++ [a]))),(13 = 13),(0 = 0),(2 = (List.length ([k] ++ [l]))),(4 = 4),(0 = 0),(1 = 1),(13 = 13),(0 = 0),(1 = 1),(4 = 4),(true = true),(((Prod.snd (sum1 ([a] ++ [a]) ([k] ++ [l]))) == (0:Int)) = true),(((Prod.snd (sum1 [a] [(S4.outF ((S4.inF k) + (S4.inF l)))])) == (0:Int)) = true)],((.v (.c (.bool (ite (true = true) (Bool.and (decide ((G1D.x (Prod.fst (sum1 ([a] ++ [a]) ([k] ++ [l])))) = (G1D.x (Prod.fst (sum1 [a] [(S4.outF ((S4.inF k) + (S4.inF l)))]))))) (Bool.and (decide ((G1D.y (Prod.fst (sum1 ([a] ++ [a]) ([k] ++ [l])))) = (G1D.y (Prod.fst (sum1 [a] [(S4.outF ((S4.inF k) + (S4.inF l)))]))))) ((G1D.inf (Prod.fst (sum1 ([a] ++ [a]) ([k] ++ [l])))) == (G1D.inf (Prod.fst (sum1 [a] [(S4.outF ((S4.inF k) + (S4.inF l)))])))))) (Bool.not (Bool.and (decide ((G1D.x (Prod.fst (sum1 ([a] ++ [a]) ([k] ++ [l])))) = (G1D.x (Prod.fst (sum1 [a] [(S4.outF ((S4.inF k) + (S4.inF l)))]))))) (Bool.and (decide ((G1D.y (Prod.fst (sum1 ([a] ++ [a]) ([k] ++ [l])))) = (G1D.y (Prod.fst (sum1 [a] [(S4.outF ((S4.inF k) + (S4.inF l)))]))))) ((G1D.inf (Prod.fst (sum1 ([a] ++ [a]) ([k] ++ [l])))) == (G1D.inf (Prod.fst (sum1 [a] [(S4.outF ((S4.inF k) + (S4.inF l)))]))))))))))),[]))) := by kernel_rfl
noncomputable def soA_k : List KI := (run ufC false 3000 ((fun (l : List G1D) (k : List U4) => (⟨[.code (bodyOf Try.f15)], .normal, initSt Try.f15.ntmps [.v (.c (.sl (.g1 l))), .v (.c (.sl (.fr k)))]⟩ : Cfg)) default default) [true, true]).cfg.k
theorem soA_hk (l : List G1D) (k : List U4) : (run ufC false 3000 ((⟨[.code (bodyOf Try.f15)], .normal, initSt Try.f15.ntmps [.v (.c (.sl (.g1 l))), .v (.c (.sl (.fr k)))]⟩ : Cfg)) [true, true]).cfg.k = soA_k := by kernel_rfl
theorem soA (l : List G1D) (k : List U4) (ho : AllP [((decide ((((List.length l) : Nat):Int) > (40:Int))) = true),((decide ((((List.length l) : Nat):Int) ≤ (4096:Int))) = true),((0:Int) ≤ (40:Int)),((40:Int) ≤ (((List.length l) : Nat):Int)),((0:Int) ≤ (ite ((4096:Int) < (((List.length (List.take 40 (List.drop 0 l))) : Nat):Int)) (4096:Int) (((List.length (List.take 40 (List.drop 0 l))) : Nat):Int))),((ite ((4096:Int) < (((List.length (List.take 40 (List.drop 0 l))) : Nat):Int)) (4096:Int) (((List.length (List.take 40 (List.drop 0 l))) : Nat):Int)) ≤ (((List.length (List.take 40 (List.drop 0 l))) : Nat):Int))]) (hs : Sim w0 F0 K ac (initSt Try.f15.ntmps [.v (.c (.sl (.g1 l))),.v (.c (.sl (.fr k)))]) cX aX) (hK : ∀ ac cY aY,Sim w0 F0 K ac (mkSt 111 [0,1,5,32,33,34] [(.v (.c (.sl (Sq.g1 (List.take 40 (List.drop 0 l)))))),(.v (.c (.sl (.fr k)))),(.v (.c (.lit false))),(.v (.c (.sl (Sq.g1 (List.take ((ite ((4096:Int) < (((List.length (List.take 40 (List.drop 0 l))) : Nat):Int)) (4096:Int) (((List.length (List.take 40 (List.drop 0 l))) : Nat):Int))).toNat (List.drop 0 (List.take 40 (List.drop 0 l)))))))),(.ii (((List.length (List.take ((ite ((4096:Int) < (((List.length (List.take 40 (List.drop 0 l))) : Nat):Int)) (4096:Int) (((List.length (List.take 40 (List.drop 0 l))) : Nat):Int))).toNat (List.drop 0 (List.take 40 (List.drop 0 l))))) : Nat):Int)),.ii (0:Int)] [] [] 336 [] []) cY aY → Wq Try.prog Q (soA_k) ac Exit.normal aY cY.w) : Wq Try.prog Q ([.code (bodyOf Try.f15)]) ac .normal aX cX.w :=
  run_at2 (o := ⟨_, _, _, _, _, _, _⟩) ufC_ok (by kernel_rfl) (soA_hk l k) ho hs hK
theorem soB_hk (l : List G1D) (k : List U4) : (run ufC false 3000 ((⟨[.code (bodyOf Try.f15)], .normal, initSt Try.f15.ntmps [.v (.c (.sl (.g1 l))), .v (.c (.sl (.fr k)))]⟩ : Cfg)) [true, false]).cfg.k = soA_k := by kernel_rfl
theorem soB (l : List G1D) (k : List U4) (ho : AllP [((decide ((((List.length l) : Nat):Int) > (40:Int))) = true),((decide ((((List.length l) : Nat):Int) ≤ (4096:Int))) = false),((0:Int) ≤ (ite ((4096:Int) < (((List.length l) : Nat):Int)) (4096:Int) (((List.length l) : Nat):Int))),((ite ((4096:Int) < (((List.length l) : Nat):Int)) (4096:Int) (((List.length l) : Nat):Int)) ≤ (((List.length l) : Nat):Int))]) (hs : Sim w0 F0 K ac (initSt Try.f15.ntmps [.v (.c (.sl (.g1 l))),.v (.c (.sl (.fr k)))]) cX aX) (hK : ∀ ac cY aY,Sim w0 F0 K ac (mkSt 111 [0,1,5,32,33,34] [(.v (.c (.sl (Sq.g1 l)))),(.v (.c (.sl (.fr k)))),(.v (.c (.lit false))),(.v (.c (.sl (Sq.g1 (List.take ((ite ((4096:Int) < (((List.length l) : Nat):Int)) (4096:Int) (((List.length l) : Nat):Int))).toNat (List.drop 0 l)))))),(.ii (((List.length (List.take ((ite ((4096:Int) < (((List.length l) : Nat):Int)) (4096:Int) (((List.length l) : Nat):Int))).toNat (List.drop 0 l))) : Nat):Int)),.ii (0:Int)] [] [] 288 [] []) cY aY → Wq Try.prog Q (soA_k) ac Exit.normal aY cY.w) : Wq Try.prog Q ([.code (bodyOf Try.f15)]) ac .normal aX cX.w :=
  run_at2 (o := ⟨_, _, _, _, _, _, _⟩) ufC_ok (by kernel_rfl) (soB_hk l k) ho hs hK
theorem soC_hk (l : List G1D) (k : List U4) : (run ufC false 3000 ((⟨[.code (bodyOf Try.f15)], .normal, initSt Try.f15.ntmps [.v (.c (.sl (.g1 l))), .v (.c (.sl (.fr k)))]⟩ : Cfg)) [false, false]).cfg.k = soA_k := by kernel_rfl
theorem soC (l : List G1D) (k : List U4) (ho : AllP [((decide ((((List.length l) : Nat):Int) > (40:Int))) = false),((0:Int) ≤ (ite ((4096:Int) < (((List.length l) : Nat):Int)) (4096:Int) (((List.length l) : Nat):Int))),((ite ((4096:Int) < (((List.length l) : Nat):Int)) (4096:Int) (((List.length l) : Nat):Int)) ≤ (((List.length l) : Nat):Int))]) (hs : Sim w0 F0 K ac (initSt Try.f15.ntmps [.v (.c (.sl (.g1 l))),.v (.c (.sl (.fr k)))]) cX aX) (hK : ∀ ac cY aY,Sim w0 F0 K ac (mkSt 111 [0,1,5,32,33,34] [(.v (.c (.sl (Sq.g1 l)))),(.v (.c (.sl (.fr k)))),(.v (.c (.lit false))),(.v (.c (.sl (Sq.g1 (List.take ((ite ((4096:Int) < (((List.length l) : Nat):Int)) (4096:Int) (((List.length l) : Nat):Int))).toNat (List.drop 0 l)))))),(.ii (((List.length (List.take ((ite ((4096:Int) < (((List.length l) : Nat):Int)) (4096:Int) (((List.length l) : Nat):Int))).toNat (List.drop 0 l))) : Nat):Int)),.ii (0:Int)] [] [] 288 [] []) cY aY → Wq Try.prog Q (soA_k) ac Exit.normal aY cY.w) : Wq Try.prog Q ([.code (bodyOf Try.f15)]) ac .normal aX cX.w :=
  run_at2 (o := ⟨_, _, _, _, _, _, _⟩) ufC_ok (by kernel_rfl) (soC_hk l k) ho hs hK
noncomputable def soS (l q : List G1D) (k : List U4) (w : Bool) (i:Int) : St := mkSt 111 [0,1,5,32,33,34] [.v (.c (.sl (.g1 l))),(.v (.c (.sl (.fr k)))),.v (.c (.bool w)),.v (.c (.sl (.g1 q))),.v (.c (.int .i64 ((q.length : Nat):Int))),.v (.c (.int .i64 i))] [] [] 336 [] []
theorem soD_hk (l q : List G1D) (k : List U4) (w : Bool) (i : Int) : (run ufC false 3000 ((⟨lpIn soA_k, .normal, soS l q k w i⟩ : Cfg)) [true, true]).cfg.k = lpBk soA_k := by kernel_rfl
theorem soD (l q : List G1D) (k : List U4) (w : Bool) (i:Int) (ho : AllP [((decide (i < (((List.length q) : Nat):Int))) = true),((0:Int) ≤ i),(i < (((List.length q) : Nat):Int)),(w = true)]) (hs : Sim w0 F0 K ac (soS l q k w i) cX aX) (hK : ∀ ac cY aY,Sim w0 F0 K ac (mkSt 111 [0,1,5,32,33,34] [(.v (.c (.sl (Sq.g1 l)))),(.v (.c (.sl (.fr k)))),(.v (.c (.lit true))),(.v (.c (.sl (Sq.g1 q)))),(.ii (((List.length q) : Nat):Int)),(.ii (IntKind.wrap .i64 (i + (1:Int))))] [] [] 560 [] []) cY aY → Wq Try.prog Q (lpBk soA_k) ac Exit.normal aY cY.w) : Wq Try.prog Q (lpIn soA_k) ac .normal aX cX.w :=
  run_at2 (o := ⟨_, _, _, _, _, _, _⟩) ufC_ok (by kernel_rfl) (soD_hk l q k w i) ho hs hK
theorem soE_hk (l q : List G1D) (k : List U4) (w : Bool) (i : Int) : (run ufC false 3000 ((⟨lpIn soA_k, .normal, soS l q k w i⟩ : Cfg)) [true, false]).cfg.k = lpBk soA_k := by kernel_rfl
theorem soE (l q : List G1D) (k : List U4) (w : Bool) (i:Int) (ho : AllP [((decide (i < (((List.length q) : Nat):Int))) = true),((0:Int) ≤ i),(i < (((List.length q) : Nat):Int)),(w = false)]) (hs : Sim w0 F0 K ac (soS l q k w i) cX aX) (hK : ∀ ac cY aY,Sim w0 F0 K ac (mkSt 111 [0,1,5,32,33,34] [(.v (.c (.sl (Sq.g1 l)))),(.v (.c (.sl (.fr k)))),(.v (.c (.bool (Bool.not (onG (List.getD q (i).toNat g10)))))),(.v (.c (.sl (Sq.g1 q)))),(.ii (((List.length q) : Nat):Int)),(.ii (IntKind.wrap .i64 (i + (1:Int))))] [] [] 560 [] []) cY aY → Wq Try.prog Q (lpBk soA_k) ac Exit.normal aY cY.w) : Wq Try.prog Q (lpIn soA_k) ac .normal aX cX.w :=
  run_at2 (o := ⟨_, _, _, _, _, _, _⟩) ufC_ok (by kernel_rfl) (soE_hk l q k w i) ho hs hK
theorem soF_end (l q : List G1D) (k : List U4) (w : Bool) (i:Int) : runEnd ufC Try.f15 false 3000 (⟨lpIn soA_k,.normal,soS l q k w i⟩) [false,true,true,true] [] [] = (some ([((decide (i < (((List.length q) : Nat):Int))) = false),(((chkE (((List.length l) : Nat):Int) (((List.length k) : Nat):Int) w) != (0:Int)) = true),(true = true),(((Prod.snd (sum1 l k)) == (chkE (((List.length l) : Nat):Int) (((List.length k) : Nat):Int) w)) = true)],((.v (.c (.bool (ite (true = true) (Bool.and (decide ((G1D.x (Prod.fst (sum1 l k))) = (0:U6))) (Bool.and (decide ((G1D.y (Prod.fst (sum1 l k))) = (0:U6))) ((G1D.inf (Prod.fst (sum1 l k))) == false))) (Bool.not (Bool.and (decide ((G1D.x (Prod.fst (sum1 l k))) = (0:U6))) (Bool.and (decide ((G1D.y (Prod.fst (sum1 l k))) = (0:U6))) ((G1D.inf (Prod.fst (sum1 l k))) == false)))))))),[]))) := by kernel_rfl
noncomputable def soG_k : List KI := (run ufC false 3000 ((fun (l q : List G1D) (k : List U4) (w : Bool) (i : Int) => (⟨lpIn soA_k, .normal, soS l q k w i⟩ : Cfg)) default default default default default) [false, false]).cfg.k
theorem soG_hk (l q : List G1D) (k : List U4) (w : Bool) (i : Int) : (run ufC false 3000 ((⟨lpIn soA_k, .normal, soS l q k w i⟩ : Cfg)) [false, false]).cfg.k = soG_k := by kernel_rfl
theorem soG (l q : List G1D) (k : List U4) (w : Bool) (i:Int) (ho : AllP [((decide (i < (((List.length q) : Nat):Int))) = false),(((chkE (((List.length l) : Nat):Int) (((List.length k) : Nat):Int) w) != (0:Int)) = false)]) (hs : Sim w0 F0 K ac (soS l q k w i) cX aX) (hK : ∀ ac cY aY,Sim w0 F0 K ac (mkSt 111 [1,8,9,11,71,72,73] [(.v (.c (.sl (.fr k)))),.pt 448 0,(.ii (Prod.snd (sum1 l k))),.pt 656 0,(.v (.c (.sl (Sq.g1 l)))),(.ii (((List.length l) : Nat):Int)),.ii (0:Int)] [448,656] [(some (.fl [(.ob (.fp (G1D.x (Prod.fst (sum1 l k))))),(.ob (.fp (G1D.y (Prod.fst (sum1 l k))))),(.bool (G1D.inf (Prod.fst (sum1 l k))))])),(some (.fl [(.ob (.fp (G1D.x (G1D.mk (0:U6) (0:U6) true)))),(.ob (.fp (G1D.y (G1D.mk (0:U6) (0:U6) true)))),(.bool (G1D.inf (G1D.mk (0:U6) (0:U6) true)))]))] 736 [] []) cY aY → Wq Try.prog Q (soG_k) ac Exit.normal aY cY.w) : Wq Try.prog Q (lpIn soA_k) ac .normal aX cX.w :=
  run_at2 (o := ⟨_, _, _, _, _, _, _⟩) ufC_ok (by kernel_rfl) (soG_hk l q k w i) ho hs hK
noncomputable def soT (l : List G1D) (k : List U4) (s o : G1D) (e i:Int) : St := mkSt 111 [1,8,9,11,71,72,73] [(.v (.c (.sl (.fr k)))),.pt 448 0,.v (.c (.int .i64 e)),.pt 656 0,(.v (.c (.sl (Sq.g1 l)))),(.ii (((List.length l) : Nat):Int)),.v (.c (.int .i64 i))] [448,656] [some (.fl [.ob (.fp s.x),.ob (.fp s.y),.bool s.inf]),some (.fl [.ob (.fp o.x),.ob (.fp o.y),.bool o.inf])] 736 [] []
theorem soH_hk (l : List G1D) (k : List U4) (s o : G1D) (e i : Int) : (run ufC false 3000 ((⟨lpIn soG_k, .normal, soT l k s o e i⟩ : Cfg)) [true, false, false]).cfg.k = lpBk soG_k := by kernel_rfl
theorem soH (l : List G1D) (k : List U4) (s o : G1D) (e i:Int) (ho : AllP [((decide (i < (((List.length l) : Nat):Int))) = true),((0:Int) ≤ i),(i < (((List.length l) : Nat):Int)),((0:Int) ≤ i),(i < (((List.length k) : Nat):Int)),(((Prod.snd (muR (List.getD l (i).toNat g10) (List.getD k (i).toNat (0:U4)))) != (0:Int)) = false),(((Prod.snd (adR o (Prod.fst (muR (List.getD l (i).toNat g10) (List.getD k (i).toNat (0:U4)))))) != (0:Int)) = false)]) (hs : Sim w0 F0 K ac (soT l k s o e i) cX aX) (hK : ∀ ac cY aY,Sim w0 F0 K ac (mkSt 111 [1,8,9,11,71,72,73] [(.v (.c (.sl (.fr k)))),.pt 448 0,.ii e,.pt 656 0,(.v (.c (.sl (Sq.g1 l)))),(.ii (((List.length l) : Nat):Int)),(.ii (IntKind.wrap .i64 (i + (1:Int))))] [448,656] [(some (.fl [(.ob (.fp (G1D.x s))),(.ob (.fp (G1D.y s))),(.bool (G1D.inf s))])),(some (.fl [(.ob (.fp (G1D.x (Prod.fst (adR o (Prod.fst (muR (List.getD l (i).toNat g10) (List.getD k (i).toNat (0:U4))))))))),(.ob (.fp (G1D.y (Prod.fst (adR o (Prod.fst (muR (List.getD l (i).toNat g10) (List.getD k (i).toNat (0:U4))))))))),(.bool (G1D.inf (Prod.fst (adR o (Prod.fst (muR (List.getD l (i).toNat g10) (List.getD k (i).toNat (0:U4))))))))]))] 1344 [] []) cY aY → Wq Try.prog Q (lpBk soG_k) ac Exit.normal aY cY.w) : Wq Try.prog Q (lpIn soG_k) ac .normal aX cX.w :=
  run_at2 (o := ⟨_, _, _, _, _, _, _⟩) ufC_ok (by kernel_rfl) (soH_hk l k s o e i) ho hs hK
theorem soX_end (l : List G1D) (k : List U4) (s o : G1D) (e i:Int) : runEnd ufC Try.f15 false 3000 (⟨lpIn soG_k,.normal,soT l k s o e i⟩) [false,true,true] [] [] = (some ([((decide (i < (((List.length l) : Nat):Int))) = false),(true = true),((e == (0:Int)) = true)],((.v (.c (.bool (ite (true = true) (Bool.and (decide ((G1D.x s) = (G1D.x o))) (Bool.and (decide ((G1D.y s) = (G1D.y o))) ((G1D.inf s) == (G1D.inf o)))) (Bool.not (Bool.and (decide ((G1D.x s) = (G1D.x o))) (Bool.and (decide ((G1D.y s) = (G1D.y o))) ((G1D.inf s) == (G1D.inf o))))))))),[]))) := by kernel_rfl
end
end Go.Proofs.Ytkfcphigoncgjaa

/- OneTimes' law returns true. No conditions. -/
namespace Go.Proofs.Ytkfcphigoncgjaa

theorem mul_of {a : G1D} (ha : onG a = true) {n : Nat} (h : n < 18446744073709551616) : (muR a (Fin.ofNat B4 n)).1 = gP (nmul (pG a) n) := by
  rw [congrArg Prod.fst (muR_on (Fin.ofNat B4 n) ha), mulG_is ha, ofN_val h]
theorem add_of {P Q : Pt Fp} (hP : OnC fp4 P) (hQ : OnC fp4 Q) : (adR (gP P) (gP Q)).1 = gP (gadd P Q) := by
  rw [congrArg Prod.fst (adR_on (onG_gP hP) (onG_gP hQ)), addG_is, pG_gP, pG_gP]

end Go.Proofs.Ytkfcphigoncgjaa

/- OneOrder's and OneNegs' laws return true. No conditions. -/
namespace Go.Proofs.Ytkfcphigoncgjaa

theorem bits_eq (a b : G1D) : (decide (a.x = b.x) && (decide (a.y = b.y) && (a.inf == b.inf))) = true ↔ a = b := by
  refine ⟨fun h => ?_, eq_bits⟩
  obtain ⟨ax, ay, ai⟩ := a
  obtain ⟨bx, bY, bi⟩ := b
  rw [Bool.and_eq_true, Bool.and_eq_true, decide_eq_true_eq, decide_eq_true_eq, beq_iff_eq] at h
  obtain ⟨h1, h2, h3⟩ := h
  have h1 : ax = bx := h1
  have h2 : ay = bY := h2
  have h3 : ai = bi := h3
  rw [h1, h2, h3]

theorem gP_none {P : Pt Fp} : gP P = ⟨0, 0, true⟩ ↔ P = none := by
  constructor
  · intro h
    cases P with
    | none => rfl
    | some p => exact absurd (congrArg G1D.inf h) Bool.false_ne_true
  · rintro rfl; rfl

theorem mul_any {P : Pt Fp} (hP : OnC fp4 P) (k : U4) : (muR (gP P) k).1 = gP (nmul P k.val) := by
  rw [congrArg Prod.fst (muR_on k (onG_gP hP)), mulG_is (onG_gP hP), pG_gP]

theorem grp_is {P : Pt Fp} (hP : OnC fp4 P) : grp (gP P) = decide (nmul P rN = none) := by
  unfold grp
  rw [onG_gP hP, Bool.true_and]
  have h := jmn_zero cv1 hP (pG_gP P ▸ inG_jc (gP P)) (dgT 52435875175126190479447740508185965837690552500527637822603658699938581184513 64)
  rw [dgV_lit] at h
  generalize (dgT 52435875175126190479447740508185965837690552500527637822603658699938581184513 64) = t at h ⊢
  exact h

theorem neg_any {P : Pt Fp} (hP : OnC fp4 P) : neR (gP P) = (gP (gneg P), 0) := by
  rw [neR_on (onG_gP hP), negG_is, pG_gP]

end Go.Proofs.Ytkfcphigoncgjaa

/- SumOnes' and SumJoins' laws return true. No conditions. -/
namespace Go.Proofs.Ytkfcphigoncgjaa

theorem sum1_val {l : List G1D} {k : List U4} (h : chkE (l.length : Int) (k.length : Int) (l.any offG) = 0) : sum1 l k = (gP (gsum (k.map (·.val)) (l.map pG)), 0) := by
  obtain ⟨h1, _, h3⟩ := chk_zero h
  rw [sum1_ok h, smJ_gP (Eq.refl 52) (by omega) h3]
theorem mul_at (a : G1D) (ha : onG a = true) (k : U4) : (muR a k) = (gP (nmul (pG a) k.val), 0) := by
  rw [muR_on k ha, mulG_is ha]

theorem so_rest (l : List G1D) (k : List U4) {x0 : Ctx} (hk : ∀ p, x0.k p = .no) (hF : ∀ b, x0.F b → b < x0.w.heap.size) {ac : List Act} {cX : Ctx} {aX : Act}
    (h0 : chkE (l.length : Int) (k.length : Int) (l.any offG) = 0) {s0 o0 : G1D} (ho : o0 = ⟨0, 0, true⟩) (hs0 : s0 = (sum1 l k).1) {e0 : Int} (he : e0 = (sum1 l k).2)
    (hs : Sim x0.w x0.F kAll ac (soT l k s0 o0 e0 0) cX aX) : Wq Try.prog (Post Try.prog Try.f15 x0 (.v (.c (.bool true))) []) soG_k ac .normal aX cX.w := by
  obtain ⟨h1, h2, h3⟩ := chk_zero h0
  have hon : ∀ a, a ∈ l → onG a = true := fun a ha => by
    rw [List.any_eq_false] at h3
    have := h3 a ha
    unfold offG at this
    simpa using this
  have hPs : ∀ P, P ∈ l.map pG → OnC fp4 P := fun P hP => by
    obtain ⟨a, ha, rfl⟩ := List.mem_map.1 hP
    exact (onG_is (hon a ha)).2
  have hlk : (k.map (·.val)).length = (l.map pG).length := by rw [List.length_map, List.length_map]; omega
  subst ho
  refine loop_rule (ι := { i : Nat // i ≤ l.length }) (fun i => soT l k s0 (gP (gsl (k.map (·.val)) (l.map pG) i.1)) e0 (i.1 : Int)) (fun i => l.length - i.1) (c := lpC soG_k) (k := lpR soG_k) (by kernel_rfl) (fun i ih ac cY aY hs => ?_) ⟨0, Nat.zero_le _⟩ hs
  obtain ⟨i, hi⟩ := i
  simp only at ih hs
  by_cases h : i < l.length
  · have hm : l.getD i g10 ∈ l := by
      rw [List.getD_eq_getElem?_getD, List.getElem?_eq_getElem h]
      exact List.getElem_mem _
    have ha := hon _ hm
    have hmul := mul_at (l.getD i g10) ha (k.getD i 0)
    have hnx : gsl (k.map (·.val)) (l.map pG) (i + 1) = gadd (gsl (k.map (·.val)) (l.map pG) i) (nmul (pG (l.getD i g10)) (k.getD i 0).val) := by
      show gadd _ (nmul ((l.map pG).getD i none) ((k.map (·.val)).getD i 0)) = _
      have hgk : (k.map (·.val)).getD i 0 = (k.getD i 0).val := by
        have hik : i < k.length := by omega
        simp [List.getD, hik]
      rw [map_getD pG l g10 none h, hgk]
    have hadd : adR (gP (gsl (k.map (·.val)) (l.map pG) i)) (gP (nmul (pG (l.getD i g10)) (k.getD i 0).val)) = (gP (gsl (k.map (·.val)) (l.map pG) (i + 1)), 0) := by
      have o1 := gsl_on (k.map (·.val)) (l.map pG) hPs i
      have o2 := nmul_on cv1 (onG_is ha).2 (k.getD i 0).val
      rw [adR_on (onG_gP o1) (onG_gP o2), addG_is, pG_gP, pG_gP, ← hnx]
    refine soH l k s0 _ e0 i ⟨decide_eq_true (by omega), by omega, by omega, by omega, by omega, by rw [Int.toNat_natCast, hmul]; rfl, by rw [Int.toNat_natCast, hmul, hadd]; rfl, trivial⟩ hs fun ac cU aU hs2 => ?_
    rw [Int.toNat_natCast, hmul, hadd, wrap_id (n := (i : Int) + 1) (by omega) (by omega)] at hs2
    exact ih ⟨i + 1, h⟩ (by show l.length - (i + 1) < l.length - i; omega) ac cU aU (hs2.nx _)
  · obtain rfl : i = l.length := by omega
    have r := soX_end l k s0 (gP (gsl (k.map (·.val)) (l.map pG) l.length)) e0 ((l.length : Nat) : Int)
    have hv := sum1_val h0
    have hg : gsl (k.map (·.val)) (l.map pG) l.length = gsum (k.map (·.val)) (l.map pG) := by
      have e := gsl_is (k.map (·.val)) (l.map pG) hlk hPs l.length (by rw [List.length_map]; exact Nat.le_refl _)
      have t1 : (k.map (·.val)).take l.length = k.map (·.val) := List.take_of_length_le (by rw [List.length_map]; omega)
      have t2 : (l.map pG).take l.length = l.map pG := List.take_of_length_le (by rw [List.length_map]; exact Nat.le_refl _)
      rw [t1, t2] at e
      exact e
    rw [hg] at hs
    rw [hg, if_pos rfl, eq_bits (a := s0) (b := gP (gsum (k.map (·.val)) (l.map pG))) (by rw [hs0, hv])] at r
    exact run_end2 ufC_ok hk hF r ⟨decide_eq_false (by omega), rfl, by rw [he, hv]; rfl, trivial⟩ (fun y v hd => hd) hs

theorem take_any (l : List G1D) {b : Int} : chkE (l.length : Int) b ((l.take 4096).any offG) = chkE (l.length : Int) b (l.any offG) := by
  by_cases h : l.length ≤ 4096
  · rw [List.take_of_length_le h]
  · by_cases h2 : (l.length : Int) = b
    · rw [chk_gt h2 (by omega), chk_gt h2 (by omega)]
    · rw [chk_ne h2, chk_ne h2]

/-- From the first loop on. -/
theorem so_loop (l q : List G1D) (k : List U4) (hq : q = l.take 4096) {x0 : Ctx} (hk : ∀ p, x0.k p = .no) (hF : ∀ b, x0.F b → b < x0.w.heap.size) {ac : List Act} {cX : Ctx} {aX : Act}
    (hs : Sim x0.w x0.F kAll ac (soS l q k false 0) cX aX) : Wq Try.prog (Post Try.prog Try.f15 x0 (.v (.c (.bool true))) []) soA_k ac .normal aX cX.w := by
  have hql : q.length ≤ 4096 := by rw [hq, List.length_take]; omega
  refine loop_rule (ι := { i : Nat // i ≤ q.length }) (fun i => soS l q k ((q.take i.1).any offG) (i.1 : Int)) (fun i => q.length - i.1) (c := lpC soA_k) (k := lpR soA_k) (by kernel_rfl) (fun i ih ac cY aY hs => ?_) ⟨0, Nat.zero_le _⟩ hs
  obtain ⟨i, hi⟩ := i
  simp only at ih hs
  by_cases h : i < q.length
  · have hsn := take_snoc q g10 h
    have hany : (q.take (i + 1)).any offG = ((q.take i).any offG || offG (q.getD i g10)) := by rw [← hsn, List.any_append]; simp
    have ei : IntKind.wrap IntKind.i64 ((i : Int) + 1) = ((i + 1 : Nat) : Int) := by rw [wrap_id (by omega) (by omega)]; rfl
    have ih2 := ih ⟨i + 1, h⟩ (by show q.length - (i + 1) < q.length - i; omega)
    dsimp only at ih2
    rw [hany] at ih2
    cases hw : (q.take i).any offG with
    | true =>
      rw [hw] at hs ih2
      refine soD l q k true i ⟨decide_eq_true (by omega), by omega, by omega, rfl, trivial⟩ hs fun ac cU aU hs2 => ?_
      rw [ei] at hs2
      have hs3 := hs2.slots (svs' := [.v (.c (.sl (.g1 l))), .v (.c (.sl (.fr k))), .v (.c (.bool true)), .v (.c (.sl (.g1 q))), .v (.c (.int .i64 ((q.length : Nat) : Int))), .v (.c (.int .i64 ((i + 1 : Nat) : Int)))]) ⟨fun _ h => h, fun _ h => h, fun _ h => lit_bool rfl h, fun _ h => h, fun _ h => h, fun _ h => h, trivial⟩
      exact ih2 ac cU aU (hs3.nx _)
    | false =>
      rw [hw] at hs ih2
      refine soE l q k false i ⟨decide_eq_true (by omega), by omega, by omega, rfl, trivial⟩ hs fun ac cU aU hs2 => ?_
      rw [ei, Int.toNat_natCast] at hs2
      exact ih2 ac cU aU (hs2.nx _)
  · obtain rfl : i = q.length := by omega
    rw [List.take_length] at hs
    have hc : chkE (l.length : Int) (k.length : Int) (q.any offG) = chkE (l.length : Int) (k.length : Int) (l.any offG) := by rw [hq]; exact take_any l
    by_cases h0 : chkE (l.length : Int) (k.length : Int) (l.any offG) = 0
    · refine soG l q k _ _ ⟨decide_eq_false (by omega), by rw [hc, h0]; rfl, trivial⟩ hs fun ac cU aU hs2 => ?_
      exact so_rest l k hk hF h0 rfl rfl rfl (hs2.nx _)
    · have r := soF_end l q k (q.any offG) ((q.length : Nat) : Int)
      have hn := sum1_no h0
      have hz : (decide ((sum1 l k).1.x = 0) && (decide ((sum1 l k).1.y = 0) && ((sum1 l k).1.inf == false))) = true := eq_bits (b := g10) (by rw [hn])
      rw [if_pos rfl, hz] at r
      exact run_end2 ufC_ok hk hF r ⟨decide_eq_false (by omega), by rw [hc]; simpa using h0, rfl, by rw [hc, hn]; simp, trivial⟩ (fun y v hd => hd) hs

theorem min_take (l : List G1D) : l.take (if (4096 : Int) < ((l.length : Nat) : Int) then (4096 : Int) else ((l.length : Nat) : Int)).toNat = l.take 4096 := by
  split
  · rfl
  · rw [Int.toNat_natCast, List.take_length, List.take_of_length_le (by omega)]

theorem sumOnes_fnd (l : List G1D) (k : List U4) : FnD Try.prog 15 [.v (.c (.sl (.g1 l))), .v (.c (.sl (.fr k)))] (.v (.c (.bool true))) [] := by
  refine fn_start (fn := Try.f15) (c := bodyOf Try.f15) Try.func15 rfl rfl fun x0 a0 hk hF hs => ?_
  by_cases h40 : l.length > 40
  · by_cases h4 : l.length ≤ 4096
    · refine soA l k ⟨decide_eq_true (by omega), decide_eq_true (by omega), by omega, by omega, by split <;> omega, by split <;> omega, trivial⟩ hs fun ac cY aY hs1 => ?_
      rw [List.drop_zero, List.drop_zero, min_take] at hs1
      have hs3 := hs1.slots (svs' := [.v (.c (.sl (.g1 (l.take 40)))), .v (.c (.sl (.fr k))), .v (.c (.bool false)), .v (.c (.sl (.g1 ((l.take 40).take 4096)))), .v (.c (.int .i64 ((((l.take 40).take 4096).length : Nat) : Int))), .v (.c (.int .i64 0))]) ⟨fun _ h => h, fun _ h => h, fun _ h => lit_bool rfl h, fun _ h => h, fun _ h => h, fun _ h => h, trivial⟩
      exact so_loop (l.take 40) _ k rfl hk hF (hs3.nx _)
    · refine soB l k ⟨decide_eq_true (by omega), decide_eq_false (by omega), by split <;> omega, by split <;> omega, trivial⟩ hs fun ac cY aY hs1 => ?_
      rw [List.drop_zero, min_take] at hs1
      have hs3 := hs1.slots (svs' := [.v (.c (.sl (.g1 l))), .v (.c (.sl (.fr k))), .v (.c (.bool false)), .v (.c (.sl (.g1 (l.take 4096)))), .v (.c (.int .i64 (((l.take 4096).length : Nat) : Int))), .v (.c (.int .i64 0))]) ⟨fun _ h => h, fun _ h => h, fun _ h => lit_bool rfl h, fun _ h => h, fun _ h => h, fun _ h => h, trivial⟩
      exact so_loop l _ k rfl hk hF (hs3.nx _)
  · refine soC l k ⟨decide_eq_false (by omega), by split <;> omega, by split <;> omega, trivial⟩ hs fun ac cY aY hs1 => ?_
    rw [List.drop_zero, min_take] at hs1
    have hs3 := hs1.slots (svs' := [.v (.c (.sl (.g1 l))), .v (.c (.sl (.fr k))), .v (.c (.bool false)), .v (.c (.sl (.g1 (l.take 4096)))), .v (.c (.int .i64 (((l.take 4096).length : Nat) : Int))), .v (.c (.int .i64 0))]) ⟨fun _ h => h, fun _ h => h, fun _ h => lit_bool rfl h, fun _ h => h, fun _ h => h, fun _ h => h, trivial⟩
    exact so_loop l _ k rfl hk hF (hs3.nx _)

theorem sumJoins_fnd (a : G1D) (k l : U4) : FnD Try.prog 14 [.v (.a a.its), .v (.a [.ob (.fr k)]), .v (.a [.ob (.fr l)])] (.v (.c (.bool true))) [] := by
  cases hg : grp a with
  | false => exact fn_sound ufC_ok Try.func14 (sjA a k l) ⟨by rw [hg]; rfl, trivial⟩
  | true =>
    have ha : onG a = true := by
      unfold grp at hg
      exact (Bool.and_eq_true _ _ ▸ hg).1
    have hoff : offG a = false := by unfold offG; rw [ha]; rfl
    obtain ⟨ea, hP⟩ := onG_is ha
    have hr : nmul (pG a) rN = none := by
      rw [← ea, grp_is hP, decide_eq_true_eq] at hg
      exact hg
    have hm := nmul_mod cv1 hP hr
    have c1 : chkE (([a] ++ [a]).length : Int) (([k] ++ [l]).length : Int) (([a] ++ [a]).any offG) = 0 := chk_ok rfl (by show ¬ ((2 : Nat) : Int) > 4096; decide) (by simp [hoff])
    have c2 : chkE (([a] : List G1D).length : Int) (([S4.outF (S4.inF k + S4.inF l)] : List U4).length : Int) (([a] : List G1D).any offG) = 0 := chk_ok rfl (by show ¬ ((1 : Nat) : Int) > 4096; decide) (by simp [hoff])
    have v1 := sum1_val c1
    have v2 := sum1_val c2
    have e : (sum1 ([a] ++ [a]) ([k] ++ [l])).1 = (sum1 [a] [S4.outF (S4.inF k + S4.inF l)]).1 := by
      rw [v1, v2]
      show gP (gadd (nmul (pG a) k.val) (gadd (nmul (pG a) l.val) none)) = gP (gadd (nmul (pG a) (S4.outF (S4.inF k + S4.inF l)).val) none)
      rw [gadd_none, gadd_none, ← nmul_add cv1 hP, cadd_val, ← hm]
    have r := sjB a k l
    rw [if_pos rfl, eq_bits e] at r
    exact fn_sound ufC_ok Try.func14 r ⟨by rw [hg]; rfl, rfl, rfl, rfl, rfl, rfl, rfl, rfl, rfl, rfl, rfl, rfl, rfl, rfl, by rw [v1]; rfl, by rw [v2]; rfl, trivial⟩

end Go.Proofs.Ytkfcphigoncgjaa

/- All that the claims of a group need. No conditions. -/
namespace Go.Proofs.Ytkfcphigoncgjaa
end Go.Proofs.Ytkfcphigoncgjaa
