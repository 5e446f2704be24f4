/- Parts of a proof, one behind the other: WCo3, PCo3, Ga, WOs, POs, WOa, POa, WMd, PMd, WMy, PMz, Nm, WTi, WOb, PTi, POb, Sall. No conditions. -/
import Derived.Test.YtkfcphigoncgjaaOnM
/- Points of the first curve outside, and the reference's: sums, walked. No conditions. -/
namespace Go.Proofs.Ytkfcphigoncgjaa

def rightSpec1 : FnSpec
  | [.v (.a [.ob (.fp x), .ob (.fp y), .bool i])] => some ([], .v (.c (.bool (onG ⟨x, y, i⟩))), [])
  | _ => none
noncomputable def qtA : Env := qsG.set (addT qsG.fn 46 rightSpec1)
theorem qtA_ok : EnvOk Try.prog qtA := env_add qsG_ok 46 rightSpec1 (enters_of Try.func46 rfl rfl) fun args o r es h _ => by
  unfold rightSpec1 at h
  split at h
  · cases h; exact fn_sound qsG_ok Try.func46 (riR _ _ _) trivial
  · cases h
def refRightSpec1 : FnSpec
  | [.v (.a [.ob (.fp x), .ob (.fp y), .bool i])] => some ([], .v (.c (.bool (onG ⟨x, y, i⟩))), [])
  | _ => none
noncomputable def qtB : Env := qtA.set (addT qtA.fn 20 refRightSpec1)
theorem qtB_ok : EnvOk Try.prog qtB := env_add qtA_ok 20 refRightSpec1 (enters_of Try.func20 rfl rfl) fun args o r es h _ => by
  unfold refRightSpec1 at h
  split at h
  · cases h; exact refRight_fnd _ _ _
  · cases h
def genSpec1 : FnSpec
  | [] => some ([], .v (.a genG.its), [])
  | _ => none
noncomputable def qtC : Env := qtB.set (addT qtB.fn 62 genSpec1)
theorem qtC_ok : EnvOk Try.prog qtC := env_add qtB_ok 62 genSpec1 (enters_of Try.func62 rfl rfl) fun args o r es h _ => by
  unfold genSpec1 at h
  split at h
  · cases h; exact gen_fnd
  · cases h
def someSpec1 : FnSpec
  | [.v (.c (.int .i64 n))] => some ([n = 0], .v (.a genG.its), [])
  | _ => none
noncomputable def qtD : Env := qtC.set (addT qtC.fn 63 someSpec1)
theorem qtD_ok : EnvOk Try.prog qtD := env_add qtC_ok 63 someSpec1 (enters_of Try.func63 rfl rfl) fun args o r es h ho => by
  unfold someSpec1 at h
  split at h
  · cases h; exact some_fnd _ ho.1
  · cases h
def zeroSpec1 : FnSpec
  | [] => some ([], .v (.a (G1D.mk 0 0 true).its), [])
  | _ => none
noncomputable def qtE : Env := qtD.set (addT qtD.fn 25 zeroSpec1)
theorem qtE_ok : EnvOk Try.prog qtE := env_add qtD_ok 25 zeroSpec1 (enters_of Try.func25 rfl rfl) fun args o r es h _ => by
  unfold zeroSpec1 at h
  split at h
  · cases h; exact zero_fnd
  · cases h
def refNegSpec1 : FnSpec
  | [.v (.a [.ob (.fp x), .ob (.fp y), .bool i])] => some ([y.val < pN], .v (.a [.ob (.fp x), .ob (.fp (negU y)), .bool i]), [])
  | _ => none
noncomputable def qtF : Env := qtE.set (addT qtE.fn 21 refNegSpec1)
theorem qtF_ok : EnvOk Try.prog qtF := env_add qtE_ok 21 refNegSpec1 (enters_of Try.func21 rfl rfl) fun args o r es h ho => by
  unfold refNegSpec1 at h
  split at h
  · cases h; exact fn_sound qsG_ok Try.func21 (rnR _ _ _) ⟨ho.1, trivial⟩
  · cases h
def threeSpec1 : FnSpec
  | [.v (.a [.ob (.fp x)])] => some ([], .v (.a [.ob (.fp (cleanP (x + cleanP (x + x))))]), [])
  | _ => none
noncomputable def qtG : Env := qtF.set (addT qtF.fn 65 threeSpec1)
theorem qtG_ok : EnvOk Try.prog qtG := env_add qtF_ok 65 threeSpec1 (enters_of Try.func65 rfl rfl) fun args o r es h _ => by
  unfold threeSpec1 at h
  split at h
  · cases h; exact fn_sound qsG_ok Try.func65 (r3R _) trivial
  · cases h
--@env qtG qtG_ok
theorem adA (a b c d : U6) (i j : Bool) : fnRes qtG Try.f18 3000 [.v (.a [.ob (.fp a),.ob (.fp b),.bool i]),.v (.a [.ob (.fp c),.ob (.fp d),.bool j])] [true,true] [] [] = (some ([((Bool.not (onG (G1D.mk a b i))) = true)],((.t [(.a [(.ob (.fp (0:U6))),(.ob (.fp (0:U6))),(.lit false)]),(.c (.int .i64 (30:Int)))]),[]))) := by kernel_rfl
theorem adB (a b c d : U6) (i j : Bool) : fnRes qtG Try.f18 3000 [.v (.a [.ob (.fp a),.ob (.fp b),.bool i]),.v (.a [.ob (.fp c),.ob (.fp d),.bool j])] [false,true] [] [] = (some ([((Bool.not (onG (G1D.mk a b i))) = false),((Bool.not (onG (G1D.mk c d j))) = true)],((.t [(.a [(.ob (.fp (0:U6))),(.ob (.fp (0:U6))),(.lit false)]),(.c (.int .i64 (30:Int)))]),[]))) := by kernel_rfl
theorem adC (a b c d : U6) (i j : Bool) : fnRes qtG Try.f18 3000 [.v (.a [.ob (.fp a),.ob (.fp b),.bool i]),.v (.a [.ob (.fp c),.ob (.fp d),.bool j])] [false,false] [] [] = (some ([((Bool.not (onG (G1D.mk a b i))) = false),((Bool.not (onG (G1D.mk c d j))) = false)],((.t [(.a [(.ob (.fp (G1D.x (outG (jpl (inG (G1D.mk a b i)) (inG (G1D.mk c d j))))))),(.ob (.fp (G1D.y (outG (jpl (inG (G1D.mk a b i)) (inG (G1D.mk c d j))))))),(.bool (G1D.inf (outG (jpl (inG (G1D.mk a b i)) (inG (G1D.mk c d j))))))]),(.c (.int .i64 (0:Int)))]),[]))) := by kernel_rfl
theorem neA (a b : U6) (i : Bool) : fnRes qtG Try.f19 3000 [.v (.a [.ob (.fp a),.ob (.fp b),.bool i])] [true] [] [] = (some ([((Bool.not (onG (G1D.mk a b i))) = true)],((.t [(.a [(.ob (.fp (0:U6))),(.ob (.fp (0:U6))),(.lit false)]),(.c (.int .i64 (30:Int)))]),[]))) := by kernel_rfl
theorem neB (a b : U6) (i : Bool) : fnRes qtG Try.f19 3000 [.v (.a [.ob (.fp a),.ob (.fp b),.bool i])] [false] [] [] = (some ([((Bool.not (onG (G1D.mk a b i))) = false)],((.t [(.a [(.ob (.fp (G1D.x (outG (jng (inG (G1D.mk a b i))))))),(.ob (.fp (G1D.y (outG (jng (inG (G1D.mk a b i))))))),(.bool (G1D.inf (outG (jng (inG (G1D.mk a b i))))))]),(.c (.int .i64 (0:Int)))]),[]))) := by kernel_rfl
theorem alR  : fnRes qtG Try.f22 3000 [] [true] [] [] = (some ([((0:Int) = (0:Int)),((ite (true = true) (Bool.and (decide ((G1D.x genG) = (G1D.x genG))) (Bool.and (decide ((G1D.y genG) = (G1D.y genG))) ((G1D.inf genG) == (G1D.inf genG)))) (Bool.not (Bool.and (decide ((G1D.x genG) = (G1D.x genG))) (Bool.and (decide ((G1D.y genG) = (G1D.y genG))) ((G1D.inf genG) == (G1D.inf genG)))))) = true)],((.v (.c (.bool (ite (true = true) (Bool.and (decide ((G1D.x (G1D.mk (0:U6) (0:U6) true)) = (0:U6))) (Bool.and (decide ((G1D.y (G1D.mk (0:U6) (0:U6) true)) = (0:U6))) ((G1D.inf (G1D.mk (0:U6) (0:U6) true)) == true))) (Bool.not (Bool.and (decide ((G1D.x (G1D.mk (0:U6) (0:U6) true)) = (0:U6))) (Bool.and (decide ((G1D.y (G1D.mk (0:U6) (0:U6) true)) = (0:U6))) ((G1D.inf (G1D.mk (0:U6) (0:U6) true)) == true)))))))),[]))) := by kernel_rfl
theorem chR (a b c d e f g h : U6) (i j k : Bool) : fnRes qtG Try.f64 3000 [.v (.a [.ob (.fp a),.ob (.fp b),.bool i]),.v (.a [.ob (.fp c),.ob (.fp d),.bool j]),.v (.a [.ob (.fp e),.ob (.fp f),.bool k]),.v (.a [.ob (.fp g)]),.v (.a [.ob (.fp h)])] [false] [] [] = (some ([((Fin.val g) < pN),((Fin.val g) < pN),((Fin.val (cleanP (e + (cleanP (a + c))))) < pN),((Fin.val (mulP g g)) < pN),((Fin.val h) < pN),((Fin.val h) < pN),((ite (false = true) (decide ((mulP (cleanP (e + (cleanP (a + c)))) (mulP g g)) = (mulP h h))) (Bool.not (decide ((mulP (cleanP (e + (cleanP (a + c)))) (mulP g g)) = (mulP h h))))) = false),((Fin.val (cleanP (f + b))) < pN),((Fin.val g) < pN),((Fin.val e) < pN),((Fin.val h) < pN),((Fin.val (subP a e)) < pN)],((.v (.c (.bool (ite (true = true) (decide ((mulP (cleanP (f + b)) g) = (mulP h (subP a e)))) (Bool.not (decide ((mulP (cleanP (f + b)) g) = (mulP h (subP a e))))))))),[]))) := by kernel_rfl
end Go.Proofs.Ytkfcphigoncgjaa

/- Sums and negatives of points of the first curve outside: contracts. No conditions. -/
namespace Go.Proofs.Ytkfcphigoncgjaa

def addG (a b : G1D) : G1D := outG (jpl (inG a) (inG b))
def negG (a : G1D) : G1D := outG (jng (inG a))
/-- What Add and Neg tell. -/
def adR (a b : G1D) : G1D × Int := if onG a && onG b then (addG a b, 0) else (g10, 30)
def neR (a : G1D) : G1D × Int := if onG a then (negG a, 0) else (g10, 30)

theorem lit_third_t {x : Ctx} {i j k : It} {b : Bool} {v : Value} (h : denS x (.t [.a [i, j, .lit b], .c k]) v) : denS x (.t [.a [i, j, .bool b], .c k]) v := by
  obtain ⟨vs, e, h1⟩ := h
  cases h1 with | cons d1 ds =>
  exact ⟨_, e, .cons (lit_third d1) ds⟩

theorem add_fnd1 (a b c d : U6) (i j : Bool) : FnD Try.prog 18 [.v (.a [.ob (.fp a), .ob (.fp b), .bool i]), .v (.a [.ob (.fp c), .ob (.fp d), .bool j])] (.t [.a (adR ⟨a, b, i⟩ ⟨c, d, j⟩).1.its, .c (.int .i64 (adR ⟨a, b, i⟩ ⟨c, d, j⟩).2)]) [] := by
  by_cases h1 : onG ⟨a, b, i⟩ = true
  · by_cases h2 : onG ⟨c, d, j⟩ = true
    · have e : adR ⟨a, b, i⟩ ⟨c, d, j⟩ = (addG ⟨a, b, i⟩ ⟨c, d, j⟩, 0) := by unfold adR; rw [h1, h2]; rfl
      rw [e]
      exact fn_sound qtG_ok Try.func18 (adC a b c d i j) ⟨by rw [h1]; rfl, by rw [h2]; rfl, trivial⟩
    · have h2 : onG ⟨c, d, j⟩ = false := Bool.eq_false_iff.2 h2
      have e : adR ⟨a, b, i⟩ ⟨c, d, j⟩ = (g10, 30) := by unfold adR; rw [h1, h2]; rfl
      rw [e]
      exact (fn_sound qtG_ok Try.func18 (adB a b c d i j) ⟨by rw [h1]; rfl, by rw [h2]; rfl, trivial⟩).conv (fun _ _ h => h) fun y v hd => lit_third_t hd
  · have h1 : onG ⟨a, b, i⟩ = false := Bool.eq_false_iff.2 h1
    have e : adR ⟨a, b, i⟩ ⟨c, d, j⟩ = (g10, 30) := by unfold adR; rw [h1]; rfl
    rw [e]
    exact (fn_sound qtG_ok Try.func18 (adA a b c d i j) ⟨by rw [h1]; rfl, trivial⟩).conv (fun _ _ h => h) fun y v hd => lit_third_t hd

theorem neg_fnd1 (a b : U6) (i : Bool) : FnD Try.prog 19 [.v (.a [.ob (.fp a), .ob (.fp b), .bool i])] (.t [.a (neR ⟨a, b, i⟩).1.its, .c (.int .i64 (neR ⟨a, b, i⟩).2)]) [] := by
  by_cases h1 : onG ⟨a, b, i⟩ = true
  · have e : neR ⟨a, b, i⟩ = (negG ⟨a, b, i⟩, 0) := by unfold neR; rw [h1]; rfl
    rw [e]
    exact fn_sound qtG_ok Try.func19 (neB a b i) ⟨by rw [h1]; rfl, trivial⟩
  · have h1 : onG ⟨a, b, i⟩ = false := Bool.eq_false_iff.2 h1
    have e : neR ⟨a, b, i⟩ = (g10, 30) := by unfold neR; rw [h1]; rfl
    rw [e]
    exact (fn_sound qtG_ok Try.func19 (neA a b i) ⟨by rw [h1]; rfl, trivial⟩).conv (fun _ _ h => h) fun y v hd => lit_third_t hd

theorem alive_fnd1 : FnD Try.prog 22 [] (.v (.c (.bool true))) [] := by
  have r := alR
  rw [if_pos rfl, if_pos rfl] at r
  refine (fn_sound qtG_ok Try.func22 r ⟨rfl, by simp, trivial⟩).conv (fun _ _ h => h) fun y v hd => ?_
  have e : (decide ((G1D.x (G1D.mk (0 : U6) (0 : U6) true)) = (0 : U6)) && (decide ((G1D.y (G1D.mk (0 : U6) (0 : U6) true)) = (0 : U6)) && ((G1D.inf (G1D.mk (0 : U6) (0 : U6) true)) == true))) = true := by simp
  rw [e] at hd
  exact hd

/-- The third point of a line that goes up by h at g, as the document says. -/
def chP (a b c e f g h : U6) : Bool := decide (mulP (cleanP (e + cleanP (a + c))) (mulP g g) = mulP h h) && decide (mulP (cleanP (f + b)) g = mulP h (subP a e))
theorem chord_fnd1 (a b c d e f g h : U6) (i j k : Bool) (hg : g.val < pN) (hh : h.val < pN) (he : e.val < pN) (hc : chP a b c e f g h = true) :
    FnD Try.prog 64 [.v (.a [.ob (.fp a), .ob (.fp b), .bool i]), .v (.a [.ob (.fp c), .ob (.fp d), .bool j]), .v (.a [.ob (.fp e), .ob (.fp f), .bool k]), .v (.a [.ob (.fp g)]), .v (.a [.ob (.fp h)])] (.v (.c (.bool true))) [] := by
  unfold chP at hc
  rw [Bool.and_eq_true] at hc
  have r := chR a b c d e f g h i j k
  rw [if_neg (by decide), if_pos rfl, hc.1, hc.2] at r
  have hcl : ∀ x : U6, (cleanP x).val < pN := fun x => by rw [cleanP_val]; exact Nat.mod_lt _ (by decide)
  have hml : ∀ x y : U6, (mulP x y).val < pN := fun x y => by rw [mulP_val]; exact Nat.mod_lt _ (by decide)
  exact fn_sound qtG_ok Try.func64 r ⟨hg, hg, hcl _, hml _ _, hh, hh, rfl, hcl _, hg, he, hh, hcl _, trivial⟩

end Go.Proofs.Ytkfcphigoncgjaa

/- The first curve is a group: points inside and outside; the plain law. No conditions. -/
namespace Go.Proofs.Ytkfcphigoncgjaa

theorem no2_p (x : Fp) : x * x * x + fp4 ≠ 0 := by
  intro h
  have h := neg_of_sum h
  rw [neg4] at h
  refine cube_ne _ (fun e => ?_) (fun e => ?_) x h
  · have := congrArg Fin.val e
    rw [pw_mpow _ 384 _ third_lt, neg4_val, one_val_p] at this
    exact neg4_pow this
  · have := congrArg Fin.val e
    rw [neg4_val] at this
    revert this
    decide +kernel

theorem cv1 : Cv fp4 := ⟨two_ne_p, no2_p⟩

/-- A point outside, as a point; and back. -/
def pG (a : G1D) : Pt Fp := if a.inf then none else some (inP a.x, inP a.y)
def gP : Pt Fp → G1D
  | none => ⟨0, 0, true⟩
  | some p => ⟨outP p.1, outP p.2, false⟩

theorem pG_gP : ∀ P : Pt Fp, pG (gP P) = P
  | none => rfl
  | some p => by
    show some (inP (outP p.1), inP (outP p.2)) = some p
    rw [in_out, in_out]

theorem onG_is {a : G1D} (h : onG a = true) : gP (pG a) = a ∧ OnC fp4 (pG a) := by
  obtain ⟨x, y, i⟩ := a
  cases i with
  | true =>
    have h : (decide (x = 0) && decide (y = 0)) = true := h
    rw [Bool.and_eq_true, decide_eq_true_eq, decide_eq_true_eq] at h
    obtain ⟨rfl, rfl⟩ := h
    exact ⟨rfl, True.intro⟩
  | false =>
    have h : (decide (outP (inP x) = x) && (decide (outP (inP y) = y) && decide (inP y * inP y = inP x * inP x * inP x + fp4))) = true := h
    rw [Bool.and_eq_true, Bool.and_eq_true, decide_eq_true_eq, decide_eq_true_eq, decide_eq_true_eq] at h
    obtain ⟨h1, h2, h3⟩ := h
    refine ⟨?_, h3⟩
    show (⟨outP (inP x), outP (inP y), false⟩ : G1D) = ⟨x, y, false⟩
    rw [h1, h2]

theorem onG_gP : ∀ {P : Pt Fp}, OnC fp4 P → onG (gP P) = true
  | none, _ => by
    show (decide ((0 : U6) = 0) && decide ((0 : U6) = 0)) = true
    rw [decide_eq_true rfl]; rfl
  | some p, h => by
    have h : p.2 * p.2 = p.1 * p.1 * p.1 + fp4 := h
    show (decide (outP (inP (outP p.1)) = outP p.1) && (decide (outP (inP (outP p.2)) = outP p.2) && decide (inP (outP p.2) * inP (outP p.2) = inP (outP p.1) * inP (outP p.1) * inP (outP p.1) + fp4))) = true
    rw [in_out, in_out, decide_eq_true rfl, decide_eq_true rfl, decide_eq_true h]
    rfl

theorem one_sq : (1 : Fp) * 1 = 1 := by decide +kernel
theorem inG_jc (a : G1D) : Jc (pG a) (inG a) := by
  obtain ⟨x, y, i⟩ := a
  cases i with
  | true => exact (rfl : (0 : Fp) = 0)
  | false =>
    show Jc (some (inP x, inP y)) (inP x, inP y, fp1)
    rw [fp1_one]
    refine ⟨one_ne_p, ?_, ?_⟩
    · show inP x = inP x * (1 * 1)
      rw [one_sq]
      exact (mul_one_g _).symm
    · show inP y = inP y * (1 * 1 * 1)
      rw [one_sq, one_sq]
      exact (mul_one_g _).symm

theorem outG_jc {P : Pt Fp} {t : Fp × Fp × Fp} (h : Jc P t) : outG t = gP P := by
  rw [← jpt_of P t h]
  unfold outG jpt
  by_cases hz : t.2.2 = 0
  · rw [if_pos hz, if_pos hz]; rfl
  · rw [if_neg hz, if_neg hz]; rfl

theorem addG_is (a b : G1D) : addG a b = gP (gadd (pG a) (pG b)) := outG_jc (jpl_ok two_ne_p _ _ _ _ (inG_jc a) (inG_jc b))
theorem negG_is (a : G1D) : negG a = gP (gneg (pG a)) := outG_jc (jng_ok _ _ (inG_jc a))

theorem pG_add (a b : G1D) : pG (addG a b) = gadd (pG a) (pG b) := by rw [addG_is, pG_gP]
theorem pG_neg (a : G1D) : pG (negG a) = gneg (pG a) := by rw [negG_is, pG_gP]
theorem on_add {a b : G1D} (ha : onG a = true) (hb : onG b = true) : onG (addG a b) = true := by
  rw [addG_is]
  exact onG_gP (gadd_on cv1 _ _ (onG_is ha).2 (onG_is hb).2)
theorem on_neg {a : G1D} (ha : onG a = true) : onG (negG a) = true := by
  rw [negG_is]
  exact onG_gP (gneg_on _ (onG_is ha).2)
theorem addG_comm {a b : G1D} (ha : onG a = true) (hb : onG b = true) : addG a b = addG b a := by
  rw [addG_is, addG_is, gadd_comm cv1 _ _ (onG_is ha).2 (onG_is hb).2]
theorem addG_assoc {a b c : G1D} (ha : onG a = true) (hb : onG b = true) (hc : onG c = true) : addG (addG a b) c = addG a (addG b c) := by
  rw [addG_is (addG a b), pG_add, addG_is a (addG b c), pG_add, gadd_assoc cv1 _ _ _ (onG_is ha).2 (onG_is hb).2 (onG_is hc).2]
theorem addG_zero {a : G1D} (ha : onG a = true) : addG a ⟨0, 0, true⟩ = a := by
  rw [addG_is]
  show gP (gadd (pG a) none) = a
  rw [gadd_none, (onG_is ha).1]
theorem addG_neg {a : G1D} (ha : onG a = true) : addG a (negG a) = ⟨0, 0, true⟩ := by
  rw [addG_is, pG_neg, gadd_gneg cv1 _ (onG_is ha).2]
  rfl
theorem on_zero : onG ⟨0, 0, true⟩ = true := onG_gP (P := none) True.intro

theorem chP_out (x1 y1 x2 x3 y3 d e : Fp) (h1 : (x3 + (x1 + x2)) * (d * d) = e * e) (h2 : (y3 + y1) * d = e * (x1 - x3)) :
    chP (outP x1) (outP y1) (outP x2) (outP x3) (outP y3) (outP d) (outP e) = true := by
  unfold chP
  rw [addP_out, addP_out, mulP_out, mulP_out, mulP_out, h1, addP_out, mulP_out, h2, subP_out, mulP_out]
  simp
end Go.Proofs.Ytkfcphigoncgjaa

/- The reference's Sum, walked. No conditions. -/
namespace Go.Proofs.Ytkfcphigoncgjaa

def addSpec1 : FnSpec
  | [.v (.a [.ob (.fp a), .ob (.fp b), .bool i]), .v (.a [.ob (.fp c), .ob (.fp d), .bool j])] => some ([], .t [.a (adR ⟨a, b, i⟩ ⟨c, d, j⟩).1.its, .c (.int .i64 (adR ⟨a, b, i⟩ ⟨c, d, j⟩).2)], [])
  | _ => none
noncomputable def qvA : Env := qtG.set (addT qtG.fn 18 addSpec1)
theorem qvA_ok : EnvOk Try.prog qvA := env_add qtG_ok 18 addSpec1 (enters_of Try.func18 rfl rfl) fun args o r es h _ => by
  unfold addSpec1 at h
  split at h
  · cases h; exact add_fnd1 _ _ _ _ _ _
  · cases h
def negSpec1 : FnSpec
  | [.v (.a [.ob (.fp a), .ob (.fp b), .bool i])] => some ([], .t [.a (neR ⟨a, b, i⟩).1.its, .c (.int .i64 (neR ⟨a, b, i⟩).2)], [])
  | _ => none
noncomputable def qvB : Env := qvA.set (addT qvA.fn 19 negSpec1)
theorem qvB_ok : EnvOk Try.prog qvB := env_add qvA_ok 19 negSpec1 (enters_of Try.func19 rfl rfl) fun args o r es h _ => by
  unfold negSpec1 at h
  split at h
  · cases h; exact neg_fnd1 _ _ _
  · cases h
def aliveSpec1 : FnSpec
  | [] => some ([], .v (.c (.bool true)), [])
  | _ => none
noncomputable def qvC : Env := qvB.set (addT qvB.fn 22 aliveSpec1)
theorem qvC_ok : EnvOk Try.prog qvC := env_add qvB_ok 22 aliveSpec1 (enters_of Try.func22 rfl rfl) fun args o r es h _ => by
  unfold aliveSpec1 at h
  split at h
  · cases h; exact alive_fnd1
  · cases h
def chordSpec1 : FnSpec
  | [.v (.a [.ob (.fp a), .ob (.fp b), .bool _]), .v (.a [.ob (.fp c), .ob (.fp _), .bool _]), .v (.a [.ob (.fp e), .ob (.fp f), .bool _]), .v (.a [.ob (.fp g)]), .v (.a [.ob (.fp h)])] => some ([g.val < pN, h.val < pN, e.val < pN, chP a b c e f g h = true], .v (.c (.bool true)), [])
  | _ => none
noncomputable def qvD : Env := qvC.set (addT qvC.fn 64 chordSpec1)
theorem qvD_ok : EnvOk Try.prog qvD := env_add qvC_ok 64 chordSpec1 (enters_of Try.func64 rfl rfl) fun args o r es h ho => by
  unfold chordSpec1 at h
  split at h
  · cases h; exact chord_fnd1 _ _ _ _ _ _ _ _ _ _ _ ho.1 ho.2.1 ho.2.2.1 ho.2.2.2.1
  · cases h
--@env qvD qvD_ok
theorem suA (a b c : G1D) : fnRes qvD Try.f23 3000 [.v (.a a.its),.v (.a b.its),.v (.a c.its)] [true] [] [] = (some ([((G1D.inf a) = true)],((.v (.c (.bool (ite (true = true) (Bool.and (decide ((G1D.x c) = (G1D.x b))) (Bool.and (decide ((G1D.y c) = (G1D.y b))) ((G1D.inf c) == (G1D.inf b)))) (Bool.not (Bool.and (decide ((G1D.x c) = (G1D.x b))) (Bool.and (decide ((G1D.y c) = (G1D.y b))) ((G1D.inf c) == (G1D.inf b))))))))),[]))) := by kernel_rfl
theorem suB (a b c : G1D) : fnRes qvD Try.f23 3000 [.v (.a a.its),.v (.a b.its),.v (.a c.its)] [false,true] [] [] = (some ([((G1D.inf a) = false),((G1D.inf b) = true)],((.v (.c (.bool (ite (true = true) (Bool.and (decide ((G1D.x c) = (G1D.x a))) (Bool.and (decide ((G1D.y c) = (G1D.y a))) ((G1D.inf c) == (G1D.inf a)))) (Bool.not (Bool.and (decide ((G1D.x c) = (G1D.x a))) (Bool.and (decide ((G1D.y c) = (G1D.y a))) ((G1D.inf c) == (G1D.inf a))))))))),[]))) := by kernel_rfl
theorem suC (a b c : G1D) : fnRes qvD Try.f23 3000 [.v (.a a.its),.v (.a b.its),.v (.a c.its)] [false,false,true,true] [] [] = (some ([((G1D.inf a) = false),((G1D.inf b) = false),((ite (true = true) (decide ((G1D.x a) = (G1D.x b))) (Bool.not (decide ((G1D.x a) = (G1D.x b))))) = true),((Fin.val (G1D.y b)) < pN),((ite (true = true) (decide ((G1D.y a) = (negU (G1D.y b)))) (Bool.not (decide ((G1D.y a) = (negU (G1D.y b)))))) = true)],((.v (.c (.bool (ite (true = true) (Bool.and (decide ((G1D.x c) = (0:U6))) (Bool.and (decide ((G1D.y c) = (0:U6))) ((G1D.inf c) == true))) (Bool.not (Bool.and (decide ((G1D.x c) = (0:U6))) (Bool.and (decide ((G1D.y c) = (0:U6))) ((G1D.inf c) == true)))))))),[]))) := by kernel_rfl
theorem suD (a b c : G1D) : fnRes qvD Try.f23 3000 [.v (.a a.its),.v (.a b.its),.v (.a c.its)] [false,false,true,false,false,false,true] [] [] = (some ([((G1D.inf a) = false),((G1D.inf b) = false),((ite (true = true) (decide ((G1D.x a) = (G1D.x b))) (Bool.not (decide ((G1D.x a) = (G1D.x b))))) = true),((Fin.val (G1D.y b)) < pN),((ite (true = true) (decide ((G1D.y a) = (negU (G1D.y b)))) (Bool.not (decide ((G1D.y a) = (negU (G1D.y b)))))) = false),((Bool.not (onG c)) = false),((G1D.inf c) = false),((ite (true = true) (decide ((G1D.x a) = (G1D.x b))) (Bool.not (decide ((G1D.x a) = (G1D.x b))))) = true),((Fin.val (G1D.x a)) < pN),((Fin.val (G1D.x a)) < pN),((Fin.val (cleanP ((G1D.y a) + (G1D.y a)))) < pN),((Fin.val (cleanP ((mulP (G1D.x a) (G1D.x a)) + (cleanP ((mulP (G1D.x a) (G1D.x a)) + (mulP (G1D.x a) (G1D.x a))))))) < pN),((Fin.val (G1D.x c)) < pN),((chP (G1D.x a) (G1D.y a) (G1D.x a) (G1D.x c) (G1D.y c) (cleanP ((G1D.y a) + (G1D.y a))) (cleanP ((mulP (G1D.x a) (G1D.x a)) + (cleanP ((mulP (G1D.x a) (G1D.x a)) + (mulP (G1D.x a) (G1D.x a))))))) = true)],((.v (.c (.bool true))),[]))) := by kernel_rfl
theorem suE (a b c : G1D) : fnRes qvD Try.f23 3000 [.v (.a a.its),.v (.a b.its),.v (.a c.its)] [false,false,false,false,false,false,false] [] [] = (some ([((G1D.inf a) = false),((G1D.inf b) = false),((ite (true = true) (decide ((G1D.x a) = (G1D.x b))) (Bool.not (decide ((G1D.x a) = (G1D.x b))))) = false),((Bool.not (onG c)) = false),((G1D.inf c) = false),((ite (true = true) (decide ((G1D.x a) = (G1D.x b))) (Bool.not (decide ((G1D.x a) = (G1D.x b))))) = false),((Fin.val (G1D.x a)) < pN),((Fin.val (G1D.y a)) < pN),((Fin.val (subP (G1D.x b) (G1D.x a))) < pN),((Fin.val (subP (G1D.y b) (G1D.y a))) < pN),((Fin.val (G1D.x c)) < pN),((chP (G1D.x a) (G1D.y a) (G1D.x b) (G1D.x c) (G1D.y c) (subP (G1D.x b) (G1D.x a)) (subP (G1D.y b) (G1D.y a))) = true)],((.v (.c (.bool true))),[]))) := by kernel_rfl
end Go.Proofs.Ytkfcphigoncgjaa

/- The reference's Sum tells of the sum that it is one. No conditions. -/
namespace Go.Proofs.Ytkfcphigoncgjaa

theorem eq_bits {a b : G1D} (h : a = b) : (decide (a.x = b.x) && (decide (a.y = b.y) && (a.inf == b.inf))) = true := by
  subst h
  simp

theorem out_lts (x y : Fp) : (subP (outP x) (outP y)).val < pN := by rw [subP_out]; exact outP_lt _
theorem clean_lts (x : U6) : (cleanP x).val < pN := by rw [cleanP_val]; exact Nat.mod_lt _ (by decide)
theorem outP_eq {x y : Fp} : (outP x = outP y) = (x = y) := propext ⟨outP_inj, fun h => by rw [h]⟩

theorem three_out (x : Fp) : cleanP (outP x + cleanP (outP x + outP x)) = outP (thrice x) := by
  rw [addP_out, addP_out]
  congr 1
  exact three_g x
where three_g {r : Nat} [NeZero r] (x : Fin r) : x + (x + x) = x + x + x := by grind

theorem sub_zero_g {r : Nat} [NeZero r] {x y : Fin r} (h : y - x = 0) : x = y := by grind

theorem sum_fnd1 (a b c : G1D) (ha : onG a = true) (hb : onG b = true) (hc : c = addG a b) : FnD Try.prog 23 [.v (.a a.its), .v (.a b.its), .v (.a c.its)] (.v (.c (.bool true))) [] := by
  obtain ⟨ea, oa⟩ := onG_is ha
  obtain ⟨eb, ob⟩ := onG_is hb
  have hon := on_add ha hb
  rw [← hc] at hon
  rw [addG_is] at hc
  generalize pG a = P at *
  generalize pG b = Q at *
  subst ea eb
  cases P with
  | none =>
    have e : c = gP Q := hc
    have r := suA (gP none) (gP Q) c
    rw [if_pos rfl, eq_bits e] at r
    exact fn_sound qvD_ok Try.func23 r ⟨rfl, trivial⟩
  | some p =>
    cases Q with
    | none =>
      have e : c = gP (some p) := hc
      have r := suB (gP (some p)) (gP none) c
      rw [if_pos rfl, eq_bits e] at r
      exact fn_sound qvD_ok Try.func23 r ⟨rfl, rfl, trivial⟩
    | some q =>
      obtain ⟨x1, y1⟩ := p
      obtain ⟨x2, y2⟩ := q
      have oa : y1 * y1 = x1 * x1 * x1 + fp4 := oa
      have ob : y2 * y2 = x2 * x2 * x2 + fp4 := ob
      by_cases hx : x1 = x2
      · subst hx
        by_cases hy : y1 = 0 - y2
        · have e0 : gadd (some (x1, y1)) (some (x1, y2)) = none := by
            show (if x1 = x1 then if y1 = y2 ∧ y1 ≠ 0 then _ else none else _) = _
            rw [if_pos rfl, if_neg]
            intro h
            rw [← h.1] at hy
            exact h.2 (opp_none two_ne_p hy)
          rw [e0] at hc
          have r := suC (gP (some (x1, y1))) (gP (some (x1, y2))) c
          have e1 : (decide (c.x = 0) && (decide (c.y = 0) && (c.inf == true))) = true := eq_bits (b := ⟨0, 0, true⟩) hc
          rw [if_pos rfl, if_pos rfl, if_pos rfl, e1] at r
          refine fn_sound qvD_ok Try.func23 r ⟨rfl, rfl, decide_eq_true rfl, outP_lt _, ?_, trivial⟩
          show decide (outP y1 = negU (outP y2)) = true
          rw [negU_out, ← hy, decide_eq_true rfl]
        · obtain ⟨he, h0⟩ := opp_y (oa.trans ob.symm) hy
          have e0 : gadd (some (x1, y1)) (some (x1, y2)) = some (thr (thrice (x1 * x1)) (y1 + y1) x1 x1 y1) := by
            show (if x1 = x1 then if y1 = y2 ∧ y1 ≠ 0 then _ else none else _) = _
            rw [if_pos rfl, if_pos ⟨he, h0⟩]
          rw [e0] at hc
          have hd : y1 + y1 ≠ 0 := (twiceOn cv1 oa _ rfl).1
          have l1 := line1 (thrice (x1 * x1)) (y1 + y1) x1 x1 y1 hd
          have l2 := line2 (thrice (x1 * x1)) (y1 + y1) x1 x1 y1 hd
          generalize thr (thrice (x1 * x1)) (y1 + y1) x1 x1 y1 = R at hc l1 l2
          subst hc
          have r := suD (gP (some (x1, y1))) (gP (some (x1, y2))) (gP (some R))
          rw [if_pos rfl, if_pos rfl] at r
          have hch := chP_out x1 y1 x1 R.1 R.2 (y1 + y1) (thrice (x1 * x1)) l1 l2
          rw [← addP_out, ← three_out, ← mulP_out] at hch
          refine fn_sound qvD_ok Try.func23 r ⟨rfl, rfl, decide_eq_true rfl, outP_lt _, ?_, by rw [hon]; rfl, rfl, decide_eq_true rfl, outP_lt _, outP_lt _, clean_lts _, clean_lts _, outP_lt _, hch, trivial⟩
          show decide (outP y1 = negU (outP y2)) = false
          rw [negU_out]
          exact decide_eq_false fun h => hy (outP_inj h)
      · have e0 : gadd (some (x1, y1)) (some (x2, y2)) = some (thr (y2 - y1) (x2 - x1) x1 x2 y1) := by
          show (if x1 = x2 then if y1 = y2 ∧ y1 ≠ 0 then _ else none else _) = _
          rw [if_neg hx]
        rw [e0] at hc
        have hd : x2 - x1 ≠ 0 := fun e => hx (sub_zero_g e)
        have l1 := line1 (y2 - y1) (x2 - x1) x1 x2 y1 hd
        have l2 := line2 (y2 - y1) (x2 - x1) x1 x2 y1 hd
        generalize thr (y2 - y1) (x2 - x1) x1 x2 y1 = R at hc l1 l2
        subst hc
        have r := suE (gP (some (x1, y1))) (gP (some (x2, y2))) (gP (some R))
        rw [if_pos rfl] at r
        have hch := chP_out x1 y1 x2 R.1 R.2 (x2 - x1) (y2 - y1) l1 l2
        rw [← subP_out, ← subP_out] at hch
        have hne : decide (outP x1 = outP x2) = false := decide_eq_false fun h => hx (outP_inj h)
        exact fn_sound qvD_ok Try.func23 r ⟨rfl, rfl, hne, by rw [hon]; rfl, rfl, hne, outP_lt _, outP_lt _, out_lts _ _, out_lts _ _, outP_lt _, hch, trivial⟩

end Go.Proofs.Ytkfcphigoncgjaa

/- OneSums' and OneGroup's laws, walked. No conditions. -/
namespace Go.Proofs.Ytkfcphigoncgjaa

def sumSpec1 : FnSpec
  | [.v (.a [.ob (.fp a), .ob (.fp b), .bool i]), .v (.a [.ob (.fp c), .ob (.fp d), .bool j]), .v (.a [.ob (.fp e), .ob (.fp f), .bool k])] => some ([onG ⟨a, b, i⟩ = true, onG ⟨c, d, j⟩ = true, (⟨e, f, k⟩ : G1D) = addG ⟨a, b, i⟩ ⟨c, d, j⟩], .v (.c (.bool true)), [])
  | _ => none
noncomputable def qvE : Env := qvD.set (addT qvD.fn 23 sumSpec1)
theorem qvE_ok : EnvOk Try.prog qvE := env_add qvD_ok 23 sumSpec1 (enters_of Try.func23 rfl rfl) fun args o r es h ho => by
  unfold sumSpec1 at h
  split at h
  · cases h; exact sum_fnd1 ⟨_, _, _⟩ ⟨_, _, _⟩ ⟨_, _, _⟩ ho.1 ho.2.1 ho.2.2.1
  · cases h
--@env qvE qvE_ok
theorem osA (a b : G1D) : fnRes qvE Try.f3 3000 [.v (.a a.its),.v (.a b.its)] [true,false,false,false,false,false,false,true,true] [] [] = (some ([((ite (false = true) ((onG a) == ((Prod.snd (neR a)) == (0:Int))) (Bool.not ((onG a) == ((Prod.snd (neR a)) == (0:Int))))) = false),((onG a) = true),((Fin.val (G1D.y a)) < pN),((ite (false = true) (Bool.and (decide ((G1D.x (Prod.fst (neR a))) = (G1D.x a))) (Bool.and (decide ((G1D.y (Prod.fst (neR a))) = (negU (G1D.y a)))) ((G1D.inf (Prod.fst (neR a))) == (G1D.inf a)))) (Bool.not (Bool.and (decide ((G1D.x (Prod.fst (neR a))) = (G1D.x a))) (Bool.and (decide ((G1D.y (Prod.fst (neR a))) = (negU (G1D.y a)))) ((G1D.inf (Prod.fst (neR a))) == (G1D.inf a)))))) = false),((Bool.not (onG a)) = false),((Bool.not (onG a)) = false),((Bool.not (onG b)) = false),(true = true),(((Prod.snd (adR a b)) == (0:Int)) = true),((onG a) = true),((onG b) = true),((Prod.fst (adR a b)) = (addG a b))],((.v (.c (.bool true))),[]))) := by kernel_rfl
theorem osB (a b : G1D) : fnRes qvE Try.f3 3000 [.v (.a a.its),.v (.a b.its)] [true,false,false,false,false,false,true,true,true] [] [] = (some ([((ite (false = true) ((onG a) == ((Prod.snd (neR a)) == (0:Int))) (Bool.not ((onG a) == ((Prod.snd (neR a)) == (0:Int))))) = false),((onG a) = true),((Fin.val (G1D.y a)) < pN),((ite (false = true) (Bool.and (decide ((G1D.x (Prod.fst (neR a))) = (G1D.x a))) (Bool.and (decide ((G1D.y (Prod.fst (neR a))) = (negU (G1D.y a)))) ((G1D.inf (Prod.fst (neR a))) == (G1D.inf a)))) (Bool.not (Bool.and (decide ((G1D.x (Prod.fst (neR a))) = (G1D.x a))) (Bool.and (decide ((G1D.y (Prod.fst (neR a))) = (negU (G1D.y a)))) ((G1D.inf (Prod.fst (neR a))) == (G1D.inf a)))))) = false),((Bool.not (onG a)) = false),((Bool.not (onG a)) = false),((Bool.not (onG b)) = true),(true = true),(((Prod.snd (adR a b)) == (30:Int)) = true)],((.v (.c (.bool (ite (true = true) (Bool.and (decide ((G1D.x (Prod.fst (adR a b))) = (0:U6))) (Bool.and (decide ((G1D.y (Prod.fst (adR a b))) = (0:U6))) ((G1D.inf (Prod.fst (adR a b))) == false))) (Bool.not (Bool.and (decide ((G1D.x (Prod.fst (adR a b))) = (0:U6))) (Bool.and (decide ((G1D.y (Prod.fst (adR a b))) = (0:U6))) ((G1D.inf (Prod.fst (adR a b))) == false)))))))),[]))) := by kernel_rfl
theorem osC (a b : G1D) : fnRes qvE Try.f3 3000 [.v (.a a.its),.v (.a b.its)] [false,false,false,true,false,false,true,true,true] [] [] = (some ([((ite (false = true) ((onG a) == ((Prod.snd (neR a)) == (0:Int))) (Bool.not ((onG a) == ((Prod.snd (neR a)) == (0:Int))))) = false),((onG a) = false),((Bool.not (onG a)) = true),(((Prod.snd (neR a)) != (30:Int)) = false),((ite (false = true) (Bool.and (decide ((G1D.x (Prod.fst (neR a))) = (0:U6))) (Bool.and (decide ((G1D.y (Prod.fst (neR a))) = (0:U6))) ((G1D.inf (Prod.fst (neR a))) == false))) (Bool.not (Bool.and (decide ((G1D.x (Prod.fst (neR a))) = (0:U6))) (Bool.and (decide ((G1D.y (Prod.fst (neR a))) = (0:U6))) ((G1D.inf (Prod.fst (neR a))) == false))))) = false),((Bool.not (onG a)) = true),(true = true),(((Prod.snd (adR a b)) == (30:Int)) = true)],((.v (.c (.bool (ite (true = true) (Bool.and (decide ((G1D.x (Prod.fst (adR a b))) = (0:U6))) (Bool.and (decide ((G1D.y (Prod.fst (adR a b))) = (0:U6))) ((G1D.inf (Prod.fst (adR a b))) == false))) (Bool.not (Bool.and (decide ((G1D.x (Prod.fst (adR a b))) = (0:U6))) (Bool.and (decide ((G1D.y (Prod.fst (adR a b))) = (0:U6))) ((G1D.inf (Prod.fst (adR a b))) == false)))))))),[]))) := by kernel_rfl
theorem aoR (a b c d : U6) (i j : Bool) : fnRes qvE Try.f24 3000 [.v (.a [.ob (.fp a),.ob (.fp b),.bool i]),.v (.a [.ob (.fp c),.ob (.fp d),.bool j])] [] [] [] = (some ([],((.v (.a [(.ob (.fp (G1D.x (Prod.fst (adR (G1D.mk a b i) (G1D.mk c d j)))))),(.ob (.fp (G1D.y (Prod.fst (adR (G1D.mk a b i) (G1D.mk c d j)))))),(.bool (G1D.inf (Prod.fst (adR (G1D.mk a b i) (G1D.mk c d j)))))])),[]))) := by kernel_rfl
def addoSpec1 : FnSpec
  | [.v (.a [.ob (.fp a), .ob (.fp b), .bool i]), .v (.a [.ob (.fp c), .ob (.fp d), .bool j])] => some ([], .v (.a (adR ⟨a, b, i⟩ ⟨c, d, j⟩).1.its), [])
  | _ => none
noncomputable def qvF : Env := qvE.set (addT qvE.fn 24 addoSpec1)
theorem qvF_ok : EnvOk Try.prog qvF := env_add qvE_ok 24 addoSpec1 (enters_of Try.func24 rfl rfl) fun args o r es h _ => by
  unfold addoSpec1 at h
  split at h
  · cases h; exact fn_sound qvE_ok Try.func24 (aoR _ _ _ _ _ _) trivial
  · cases h
--@env qvF qvF_ok
theorem oqA (a b c : G1D) : fnRes qvF Try.f4 3000 [.v (.a a.its),.v (.a b.its),.v (.a c.its)] [false,false,false,true,true,true,true,true,true,true] [] [] = (some ([((Bool.not (onG a)) = false),((Bool.not (onG b)) = false),((Bool.not (onG c)) = false),(true = true),(((Prod.snd (neR a)) == (0:Int)) = true),((ite (true = true) (Bool.and (decide ((G1D.x (Prod.fst (adR a b))) = (G1D.x (Prod.fst (adR b a))))) (Bool.and (decide ((G1D.y (Prod.fst (adR a b))) = (G1D.y (Prod.fst (adR b a))))) ((G1D.inf (Prod.fst (adR a b))) == (G1D.inf (Prod.fst (adR b a)))))) (Bool.not (Bool.and (decide ((G1D.x (Prod.fst (adR a b))) = (G1D.x (Prod.fst (adR b a))))) (Bool.and (decide ((G1D.y (Prod.fst (adR a b))) = (G1D.y (Prod.fst (adR b a))))) ((G1D.inf (Prod.fst (adR a b))) == (G1D.inf (Prod.fst (adR b a)))))))) = true),((ite (true = true) (Bool.and (decide ((G1D.x (Prod.fst (adR (Prod.fst (adR a b)) c))) = (G1D.x (Prod.fst (adR a (Prod.fst (adR b c))))))) (Bool.and (decide ((G1D.y (Prod.fst (adR (Prod.fst (adR a b)) c))) = (G1D.y (Prod.fst (adR a (Prod.fst (adR b c))))))) ((G1D.inf (Prod.fst (adR (Prod.fst (adR a b)) c))) == (G1D.inf (Prod.fst (adR a (Prod.fst (adR b c)))))))) (Bool.not (Bool.and (decide ((G1D.x (Prod.fst (adR (Prod.fst (adR a b)) c))) = (G1D.x (Prod.fst (adR a (Prod.fst (adR b c))))))) (Bool.and (decide ((G1D.y (Prod.fst (adR (Prod.fst (adR a b)) c))) = (G1D.y (Prod.fst (adR a (Prod.fst (adR b c))))))) ((G1D.inf (Prod.fst (adR (Prod.fst (adR a b)) c))) == (G1D.inf (Prod.fst (adR a (Prod.fst (adR b c)))))))))) = true),((ite (true = true) (Bool.and (decide ((G1D.x (Prod.fst (adR a (G1D.mk (0:U6) (0:U6) true)))) = (G1D.x a))) (Bool.and (decide ((G1D.y (Prod.fst (adR a (G1D.mk (0:U6) (0:U6) true)))) = (G1D.y a))) ((G1D.inf (Prod.fst (adR a (G1D.mk (0:U6) (0:U6) true)))) == (G1D.inf a)))) (Bool.not (Bool.and (decide ((G1D.x (Prod.fst (adR a (G1D.mk (0:U6) (0:U6) true)))) = (G1D.x a))) (Bool.and (decide ((G1D.y (Prod.fst (adR a (G1D.mk (0:U6) (0:U6) true)))) = (G1D.y a))) ((G1D.inf (Prod.fst (adR a (G1D.mk (0:U6) (0:U6) true)))) == (G1D.inf a)))))) = true),((ite (true = true) (Bool.and (decide ((G1D.x (Prod.fst (adR a (Prod.fst (neR a))))) = (G1D.x (G1D.mk (0:U6) (0:U6) true)))) (Bool.and (decide ((G1D.y (Prod.fst (adR a (Prod.fst (neR a))))) = (G1D.y (G1D.mk (0:U6) (0:U6) true)))) ((G1D.inf (Prod.fst (adR a (Prod.fst (neR a))))) == (G1D.inf (G1D.mk (0:U6) (0:U6) true))))) (Bool.not (Bool.and (decide ((G1D.x (Prod.fst (adR a (Prod.fst (neR a))))) = (G1D.x (G1D.mk (0:U6) (0:U6) true)))) (Bool.and (decide ((G1D.y (Prod.fst (adR a (Prod.fst (neR a))))) = (G1D.y (G1D.mk (0:U6) (0:U6) true)))) ((G1D.inf (Prod.fst (adR a (Prod.fst (neR a))))) == (G1D.inf (G1D.mk (0:U6) (0:U6) true))))))) = true),((ite (true = true) (Bool.and (decide ((G1D.x (Prod.fst (adR (Prod.fst (adR a b)) (Prod.fst (neR a))))) = (G1D.x b))) (Bool.and (decide ((G1D.y (Prod.fst (adR (Prod.fst (adR a b)) (Prod.fst (neR a))))) = (G1D.y b))) ((G1D.inf (Prod.fst (adR (Prod.fst (adR a b)) (Prod.fst (neR a))))) == (G1D.inf b)))) (Bool.not (Bool.and (decide ((G1D.x (Prod.fst (adR (Prod.fst (adR a b)) (Prod.fst (neR a))))) = (G1D.x b))) (Bool.and (decide ((G1D.y (Prod.fst (adR (Prod.fst (adR a b)) (Prod.fst (neR a))))) = (G1D.y b))) ((G1D.inf (Prod.fst (adR (Prod.fst (adR a b)) (Prod.fst (neR a))))) == (G1D.inf b)))))) = true)],((.v (.c (.bool (onG (Prod.fst (adR a b)))))),[]))) := by kernel_rfl
theorem oqB (a b c : G1D) : fnRes qvF Try.f4 3000 [.v (.a a.its),.v (.a b.its),.v (.a c.its)] [true,true] [] [] = (some ([((Bool.not (onG a)) = true)],((.v (.c (.bool true))),[]))) := by kernel_rfl
theorem oqC (a b c : G1D) : fnRes qvF Try.f4 3000 [.v (.a a.its),.v (.a b.its),.v (.a c.its)] [false,true] [] [] = (some ([((Bool.not (onG a)) = false),((Bool.not (onG b)) = true)],((.v (.c (.bool true))),[]))) := by kernel_rfl
theorem oqD (a b c : G1D) : fnRes qvF Try.f4 3000 [.v (.a a.its),.v (.a b.its),.v (.a c.its)] [false,false,true] [] [] = (some ([((Bool.not (onG a)) = false),((Bool.not (onG b)) = false),((Bool.not (onG c)) = true)],((.v (.c (.bool true))),[]))) := by kernel_rfl
end Go.Proofs.Ytkfcphigoncgjaa

/- OneSums' and OneGroup's laws return true. No conditions. -/
namespace Go.Proofs.Ytkfcphigoncgjaa

theorem adR_on {a b : G1D} (ha : onG a = true) (hb : onG b = true) : adR a b = (addG a b, 0) := by unfold adR; rw [ha, hb]; rfl
theorem adR_off1 {a b : G1D} (ha : onG a = false) : adR a b = (g10, 30) := by unfold adR; rw [ha]; rfl
theorem adR_off2 {a b : G1D} (hb : onG b = false) : adR a b = (g10, 30) := by unfold adR; rw [hb, Bool.and_false]; rfl
theorem neR_on {a : G1D} (ha : onG a = true) : neR a = (negG a, 0) := by unfold neR; rw [ha]; rfl
theorem neR_off {a : G1D} (ha : onG a = false) : neR a = (g10, 30) := by unfold neR; rw [ha]; rfl

theorem on_y {a : G1D} (ha : onG a = true) : a.y.val < pN := by
  rw [← (onG_is ha).1]
  cases pG a with
  | none => decide
  | some p => exact outP_lt _
theorem neg_ref {a : G1D} (ha : onG a = true) : negG a = ⟨a.x, negU a.y, a.inf⟩ := by
  obtain ⟨e, -⟩ := onG_is ha
  rw [negG_is]
  generalize pG a = P at *
  subst e
  cases P with
  | none =>
    show (⟨0, 0, true⟩ : G1D) = ⟨0, negU 0, true⟩
    rw [negU_zero]
  | some p =>
    show (⟨outP p.1, outP (0 - p.2), false⟩ : G1D) = ⟨outP p.1, negU (outP p.2), false⟩
    rw [negU_out]

theorem oneSums_fnd (a b : G1D) : FnD Try.prog 3 [.v (.a a.its), .v (.a b.its)] (.v (.c (.bool true))) [] := by
  by_cases ha : onG a = true
  · have hn := neR_on ha
    have hb0 : (decide ((neR a).1.x = a.x) && (decide ((neR a).1.y = negU a.y) && ((neR a).1.inf == a.inf))) = true := eq_bits (b := ⟨a.x, negU a.y, a.inf⟩) (by rw [hn]; exact neg_ref ha)
    by_cases hb : onG b = true
    · have hd := adR_on ha hb
      refine fn_sound qvE_ok Try.func3 (osA a b) ⟨by rw [ha, hn]; rfl, ha, on_y ha, by rw [hb0]; rfl, by rw [ha]; rfl, by rw [ha]; rfl, by rw [hb]; rfl, rfl, by rw [hd]; rfl, ha, hb, by rw [hd], trivial⟩
    · have hb : onG b = false := Bool.eq_false_iff.2 hb
      have hd := adR_off2 (a := a) hb
      have r := osB a b
      have hz : (decide ((adR a b).1.x = 0) && (decide ((adR a b).1.y = 0) && ((adR a b).1.inf == false))) = true := eq_bits (b := g10) (by rw [hd])
      rw [if_pos rfl, hz] at r
      exact fn_sound qvE_ok Try.func3 r ⟨by rw [ha, hn]; rfl, ha, on_y ha, by rw [hb0]; rfl, by rw [ha]; rfl, by rw [ha]; rfl, by rw [hb]; rfl, rfl, by rw [hd]; rfl, trivial⟩
  · have ha : onG a = false := Bool.eq_false_iff.2 ha
    have hn := neR_off ha
    have hd := adR_off1 (b := b) ha
    have r := osC a b
    have hz : (decide ((adR a b).1.x = 0) && (decide ((adR a b).1.y = 0) && ((adR a b).1.inf == false))) = true := eq_bits (b := g10) (by rw [hd])
    have hb0 : (decide ((neR a).1.x = 0) && (decide ((neR a).1.y = 0) && ((neR a).1.inf == false))) = true := eq_bits (b := g10) (by rw [hn])
    rw [if_pos rfl, hz] at r
    exact fn_sound qvE_ok Try.func3 r ⟨by rw [ha, hn]; rfl, ha, by rw [ha]; rfl, by rw [hn]; rfl, by rw [hb0]; rfl, by rw [ha]; rfl, rfl, by rw [hd]; rfl, trivial⟩

theorem addG_back {a b : G1D} (ha : onG a = true) (hb : onG b = true) : addG (addG a b) (negG a) = b := by
  rw [addG_comm ha hb, addG_assoc hb ha (on_neg ha), addG_neg ha, addG_zero hb]

theorem oneGroup_fnd (a b c : G1D) : FnD Try.prog 4 [.v (.a a.its), .v (.a b.its), .v (.a c.its)] (.v (.c (.bool true))) [] := by
  by_cases ha : onG a = true
  · by_cases hb : onG b = true
    · by_cases hc : onG c = true
      · have hab := on_add ha hb
        have hbc := on_add hb hc
        have hna := on_neg ha
        have r := oqA a b c
        rw [adR_on ha hb, adR_on hb ha, adR_on hb hc, neR_on ha, adR_on hab hc, adR_on ha hbc, adR_on ha on_zero, adR_on ha hna, adR_on hab hna, hab] at r
        exact fn_sound qvF_ok Try.func4 r ⟨by rw [ha]; rfl, by rw [hb]; rfl, by rw [hc]; rfl, rfl, rfl, by rw [if_pos rfl]; exact eq_bits (addG_comm ha hb), by rw [if_pos rfl]; exact eq_bits (addG_assoc ha hb hc),
          by rw [if_pos rfl]; exact eq_bits (addG_zero ha), by rw [if_pos rfl]; exact eq_bits (addG_neg ha), by rw [if_pos rfl]; exact eq_bits (addG_back ha hb), trivial⟩
      · have hc : onG c = false := Bool.eq_false_iff.2 hc
        exact fn_sound qvF_ok Try.func4 (oqD a b c) ⟨by rw [ha]; rfl, by rw [hb]; rfl, by rw [hc]; rfl, trivial⟩
    · have hb : onG b = false := Bool.eq_false_iff.2 hb
      exact fn_sound qvF_ok Try.func4 (oqC a b c) ⟨by rw [ha]; rfl, by rw [hb]; rfl, trivial⟩
  · have ha : onG a = false := Bool.eq_false_iff.2 ha
    exact fn_sound qvF_ok Try.func4 (oqB a b c) ⟨by rw [ha]; rfl, trivial⟩

end Go.Proofs.Ytkfcphigoncgjaa

/- Digits of a number, handed on: walked. No conditions. -/
namespace Go.Proofs.Ytkfcphigoncgjaa
section
variable {w0 : World} {F0 : Nat → Prop} {K : Kp} {ac : List Act} {Q : Exit → Act → World → Prop} {cX : Ctx} {aX : Act}

--@env qrJ qrJ_ok
noncomputable def dg_k : List KI := (run qrJ false 3000 ((fun (l : Nat) (k : U4) => (⟨[.code (bodyOf Try.f138)], .normal, ⟨argT [.v (.c (.val (.func (.yield l) #[] #[]))), .v (.c (.ptr 0 0))], one (.fl [.ob (.fr k)]), Try.f138.ntmps, 16, []⟩⟩ : Cfg)) default default) []).cfg.k
theorem dg_hk (l : Nat) (k : U4) : (run qrJ false 3000 ((⟨[.code (bodyOf Try.f138)], .normal, ⟨argT [.v (.c (.val (.func (.yield l) #[] #[]))), .v (.c (.ptr 0 0))], one (.fl [.ob (.fr k)]), Try.f138.ntmps, 16, []⟩⟩ : Cfg)) []).cfg.k = dg_k := by kernel_rfl
theorem dg (l : Nat) (k : U4) (ho : AllP []) (hs : Sim w0 F0 K ac (⟨argT [.v (.c (.val (.func (.yield l) #[] #[]))),.v (.c (.ptr 0 0))],one (.fl [.ob (.fr k)]),Try.f138.ntmps,16,[]⟩) cX aX) (hK : ∀ ac cY aY,Sim w0 F0 K ac (mkSt 32 [0,1,3,4] [(.v (.c (.val (Value.func (Fn.yield l) (Array.mk ([] : List Value)) (Array.mk ([] : List Value)))))),.pt 0 0,(.v (.c (.lit false))),.ii (63:Int)] [0] [(some (.fl [.ob (.fr k)]))] 48 [] []) cY aY → Wq Try.prog Q (dg_k) ac Exit.normal aY cY.w) : Wq Try.prog Q ([.code (bodyOf Try.f138)]) ac .normal aX cX.w :=
  run_at2 (o := ⟨_, _, _, _, _, _, _⟩) qrJ_ok (by kernel_rfl) (dg_hk l k) ho hs hK
noncomputable def dgS (l : Nat) (k : U4) (g : Bool) (i:Int) : St := mkSt 32 [0,1,3,4] [(.v (.c (.val (Value.func (Fn.yield l) (Array.mk ([] : List Value)) (Array.mk ([] : List Value)))))),.pt 0 0,.v (.c (.bool g)),.v (.c (.int .i64 i))] [0] [(some (.fl [.ob (.fr k)]))] 48 [] []
noncomputable def dgY_k : List KI := (run qrJ false 3000 ((fun (l : Nat) (k : U4) (g : Bool) (i : Int) => (⟨lpIn dg_k, .normal, dgS l k g i⟩ : Cfg)) default default default default) [true, true, true]).cfg.k
theorem dgY_hk (l : Nat) (k : U4) (g : Bool) (i : Int) : (run qrJ false 3000 ((⟨lpIn dg_k, .normal, dgS l k g i⟩ : Cfg)) [true, true, true]).cfg.k = dgY_k := by kernel_rfl
theorem dgY (l : Nat) (k : U4) (g : Bool) (i:Int) (ho : AllP [((decide (i ≥ (0:Int))) = true),((16:Int) ≠ (0:Int)),((0:Int) ≤ (IntKind.wrap .i64 (Int.tdiv i (16:Int)))),((IntKind.wrap .i64 (Int.tdiv i (16:Int))) < (4:Int)),((0 + (((IntKind.wrap .i64 (Int.tdiv i (16:Int)))).toNat * 1)) < (Ob.k (.fr k))),((16:Int) ≠ (0:Int)),((0:Int) ≤ (IntKind.wrap .i64 ((4:Int) * (Int.tmod i (16:Int))))),(g = true)]) (hs : Sim w0 F0 K ac (dgS l k g i) cX aX) (hK : ∀ ac cY aY,Sim w0 F0 K ac (mkSt 32 [0,1,3,4,26,27,28] [(.v (.c (.val (Value.func (Fn.yield l) (Array.mk ([] : List Value)) (Array.mk ([] : List Value)))))),.pt 0 0,(.v (.c (.lit true))),.ii i,(.v (.c (.lit true))),(.v (.c (.val (Value.func (Fn.yield l) (Array.mk ([] : List Value)) (Array.mk ([] : List Value)))))),(.ii (IntKind.wrap .i64 (bitsOp BinOp.and IntKind.u64 (Int.fdiv (limb (Ob.n (.fr k)) (0 + (((IntKind.wrap .i64 (Int.tdiv i (16:Int)))).toNat * 1))) ((2:Int) ^ (Min.min ((IntKind.wrap .i64 ((4:Int) * (Int.tmod i (16:Int))))).toNat 64))) (15:Int))))] [0] [(some (.fl [.ob (.fr k)]))] 416 [] []) cY aY → Wq Try.prog Q (dgY_k) ac Exit.normal aY cY.w) : Wq Try.prog Q (lpIn dg_k) ac .normal aX cX.w :=
  run_at2 (o := ⟨_, _, _, _, _, _, _⟩) qrJ_ok (by kernel_rfl) (dgY_hk l k g i) ho hs hK
theorem dgZ_hk (l : Nat) (k : U4) (g : Bool) (i : Int) : (run qrJ false 3000 ((⟨lpIn dg_k, .normal, dgS l k g i⟩ : Cfg)) [true, false, true]).cfg.k = dgY_k := by kernel_rfl
theorem dgZ (l : Nat) (k : U4) (g : Bool) (i:Int) (ho : AllP [((decide (i ≥ (0:Int))) = true),((16:Int) ≠ (0:Int)),((0:Int) ≤ (IntKind.wrap .i64 (Int.tdiv i (16:Int)))),((IntKind.wrap .i64 (Int.tdiv i (16:Int))) < (4:Int)),((0 + (((IntKind.wrap .i64 (Int.tdiv i (16:Int)))).toNat * 1)) < (Ob.k (.fr k))),((16:Int) ≠ (0:Int)),((0:Int) ≤ (IntKind.wrap .i64 ((4:Int) * (Int.tmod i (16:Int))))),(g = false),((decide ((IntKind.wrap .i64 (bitsOp BinOp.and IntKind.u64 (Int.fdiv (limb (Ob.n (.fr k)) (0 + (((IntKind.wrap .i64 (Int.tdiv i (16:Int)))).toNat * 1))) ((2:Int) ^ (Min.min ((IntKind.wrap .i64 ((4:Int) * (Int.tmod i (16:Int))))).toNat 64))) (15:Int))) > (0:Int))) = true)]) (hs : Sim w0 F0 K ac (dgS l k g i) cX aX) (hK : ∀ ac cY aY,Sim w0 F0 K ac (mkSt 32 [0,1,3,4,26,27,28] [(.v (.c (.val (Value.func (Fn.yield l) (Array.mk ([] : List Value)) (Array.mk ([] : List Value)))))),.pt 0 0,(.v (.c (.bool (decide ((IntKind.wrap .i64 (bitsOp BinOp.and IntKind.u64 (Int.fdiv (limb (Ob.n (.fr k)) (0 + (((IntKind.wrap .i64 (Int.tdiv i (16:Int)))).toNat * 1))) ((2:Int) ^ (Min.min ((IntKind.wrap .i64 ((4:Int) * (Int.tmod i (16:Int))))).toNat 64))) (15:Int))) > (0:Int)))))),.ii i,(.v (.c (.lit true))),(.v (.c (.val (Value.func (Fn.yield l) (Array.mk ([] : List Value)) (Array.mk ([] : List Value)))))),(.ii (IntKind.wrap .i64 (bitsOp BinOp.and IntKind.u64 (Int.fdiv (limb (Ob.n (.fr k)) (0 + (((IntKind.wrap .i64 (Int.tdiv i (16:Int)))).toNat * 1))) ((2:Int) ^ (Min.min ((IntKind.wrap .i64 ((4:Int) * (Int.tmod i (16:Int))))).toNat 64))) (15:Int))))] [0] [(some (.fl [.ob (.fr k)]))] 416 [] []) cY aY → Wq Try.prog Q (dgY_k) ac Exit.normal aY cY.w) : Wq Try.prog Q (lpIn dg_k) ac .normal aX cX.w :=
  run_at2 (o := ⟨_, _, _, _, _, _, _⟩) qrJ_ok (by kernel_rfl) (dgZ_hk l k g i) ho hs hK
theorem dgN_hk (l : Nat) (k : U4) (g : Bool) (i : Int) : (run qrJ false 3000 ((⟨lpIn dg_k, .normal, dgS l k g i⟩ : Cfg)) [true, false, false]).cfg.k = lpBk dg_k := by kernel_rfl
theorem dgN (l : Nat) (k : U4) (g : Bool) (i:Int) (ho : AllP [((decide (i ≥ (0:Int))) = true),((16:Int) ≠ (0:Int)),((0:Int) ≤ (IntKind.wrap .i64 (Int.tdiv i (16:Int)))),((IntKind.wrap .i64 (Int.tdiv i (16:Int))) < (4:Int)),((0 + (((IntKind.wrap .i64 (Int.tdiv i (16:Int)))).toNat * 1)) < (Ob.k (.fr k))),((16:Int) ≠ (0:Int)),((0:Int) ≤ (IntKind.wrap .i64 ((4:Int) * (Int.tmod i (16:Int))))),(g = false),((decide ((IntKind.wrap .i64 (bitsOp BinOp.and IntKind.u64 (Int.fdiv (limb (Ob.n (.fr k)) (0 + (((IntKind.wrap .i64 (Int.tdiv i (16:Int)))).toNat * 1))) ((2:Int) ^ (Min.min ((IntKind.wrap .i64 ((4:Int) * (Int.tmod i (16:Int))))).toNat 64))) (15:Int))) > (0:Int))) = false)]) (hs : Sim w0 F0 K ac (dgS l k g i) cX aX) (hK : ∀ ac cY aY,Sim w0 F0 K ac (mkSt 32 [0,1,3,4] [(.v (.c (.val (Value.func (Fn.yield l) (Array.mk ([] : List Value)) (Array.mk ([] : List Value)))))),.pt 0 0,(.v (.c (.bool (decide ((IntKind.wrap .i64 (bitsOp BinOp.and IntKind.u64 (Int.fdiv (limb (Ob.n (.fr k)) (0 + (((IntKind.wrap .i64 (Int.tdiv i (16:Int)))).toNat * 1))) ((2:Int) ^ (Min.min ((IntKind.wrap .i64 ((4:Int) * (Int.tmod i (16:Int))))).toNat 64))) (15:Int))) > (0:Int)))))),(.ii (IntKind.wrap .i64 (i - (1:Int))))] [0] [(some (.fl [.ob (.fr k)]))] 512 [] []) cY aY → Wq Try.prog Q (lpBk dg_k) ac Exit.normal aY cY.w) : Wq Try.prog Q (lpIn dg_k) ac .normal aX cX.w :=
  run_at2 (o := ⟨_, _, _, _, _, _, _⟩) qrJ_ok (by kernel_rfl) (dgN_hk l k g i) ho hs hK
theorem dgX_hk (l : Nat) (k : U4) (g : Bool) (i : Int) : (run qrJ false 3000 ((⟨lpIn dg_k, .normal, dgS l k g i⟩ : Cfg)) [false]).cfg.k = [] := by kernel_rfl
theorem dgX (l : Nat) (k : U4) (g : Bool) (i:Int) (ho : AllP [((decide (i ≥ (0:Int))) = false)]) (hs : Sim w0 F0 K ac (dgS l k g i) cX aX) (hK : ∀ ac cY aY,Sim w0 F0 K ac (mkSt 32 [] [] [0] [(some (.fl [.ob (.fr k)]))] 80 [] []) cY aY → Wq Try.prog Q ([]) ac Exit.normal aY cY.w) : Wq Try.prog Q (lpIn dg_k) ac .normal aX cX.w :=
  run_at2 (o := ⟨_, _, _, _, _, _, _⟩) qrJ_ok (by kernel_rfl) (dgX_hk l k g i) ho hs hK
theorem dgB_hk (l : Nat) (k : U4) (i d : Int) : (run qrJ false 3000 ((⟨opsNext dgY_k, .normal, ⟨setT (look .top [0, 1, 3, 4, 26, 27, 28] [(.v (.c (.val (.func (.yield l) #[] #[])))), (.v (.c (.ptr 0 0))), (.v (.c (.bool true))), (.v (.c (.int .i64 i))), (.v (.c (.lit true))), (.v (.c (.val (.func (.yield l) #[] #[])))), (.v (.c (.int .i64 d)))]) 29 (.v (.c (.lit true))), one (.fl [.ob (.fr k)]), 32, 400, []⟩⟩ : Cfg)) []).cfg.k = lpBk dg_k := by kernel_rfl
theorem dgB (l : Nat) (k : U4) (i d:Int) (ho : AllP []) (hs : Sim w0 F0 K ac (⟨setT (look .top [0,1,3,4,26,27,28] [(.v (.c (.val (.func (.yield l) #[] #[])))),.pt 0 0,(.v (.c (.bool true))),.ii i,(.v (.c (.lit true))),(.v (.c (.val (.func (.yield l) #[] #[])))),.ii d]) 29 (.v (.c (.lit true))),one (.fl [.ob (.fr k)]),32,400,[]⟩) cX aX) (hK : ∀ ac cY aY,Sim w0 F0 K ac (mkSt 32 [0,1,3,4] [(.v (.c (.val (Value.func (Fn.yield l) (Array.mk ([] : List Value)) (Array.mk ([] : List Value)))))),.pt 0 0,(.v (.c (.bool true))),(.ii (IntKind.wrap .i64 (i - (1:Int))))] [0] [(some (.fl [.ob (.fr k)]))] 480 [] []) cY aY → Wq Try.prog Q (lpBk dg_k) ac Exit.normal aY cY.w) : Wq Try.prog Q (opsNext dgY_k) ac .normal aX cX.w :=
  run_at2 (o := ⟨_, _, _, _, _, _, _⟩) qrJ_ok (by kernel_rfl) (dgB_hk l k i d) ho hs hK
end
end Go.Proofs.Ytkfcphigoncgjaa

/- Digits handed on: contract. No conditions. -/
namespace Go.Proofs.Ytkfcphigoncgjaa

def dgEnc (d : Nat) : List Value := [.int .i64 (d : Int)]
def dgVals (d : Nat) : List SV := [.v (.c (.int .i64 (d : Int)))]

theorem digits_iter {x : Ctx} {p : Nat} {k : U4} {M : List Nat → Nat → Option En} (hM : ∀ s, M s p = some (.fl [.ob (.fr k)])) :
    IterC Try.prog x 138 [(p, 0)] dgEnc (dgT k.val 64) M := by
  intro l J W hgrow hread hyield hJ
  have key : Wq Try.prog (bodyPost Try.prog Try.f138 fun e' W' => (∃ v, e' = Ending.returned v) ∧ J (dgT k.val 64) W') [.code (bodyOf Try.f138)] [] .normal { tmps := [Value.func (.yield l) #[] #[], .pointer (some ⟨x.β p, 0, none⟩)].toArray ++ Array.replicate 30 undef, defers := [] } W := ?_
  · exact calls_of_wp (c := bodyOf Try.f138) Try.func138 rfl ((wpIn_wide (n := 0)).1 key.wp)
  obtain ⟨y, rfl, hm, hcp⟩ := hread [] W hJ
  obtain ⟨hr, hβ⟩ := hcp (p, 0) List.mem_cons_self
  have hr : y.k p = .real := hr
  have hβ : y.β p = x.β p := hβ
  have hargs : denSs (itCtx y p) [.v (.c (.val (.func (.yield l) #[] #[]))), .v (.c (.ptr 0 0))] [.func (.yield l) #[] #[], .pointer (some ⟨x.β p, 0, none⟩)] :=
    .cons ⟨rfl, 0, rfl, rfl⟩ (.cons ⟨rfl, 0, rfl, by show _ = [Value.pointer (some ⟨y.β p, 0, none⟩)]; rw [hβ]⟩ .nil)
  have hpure : ∀ y : Ctx, ∀ (cs : Array Value) ty, y.w.heap[y.β p]? = some (.cells cs ty (0, 0)) → denEn y (.fl [.ob (.fr k)]) cs.toList → denEn (itCtx y p) (.fl [.ob (.fr k)]) cs.toList := fun y cs ty _ h => pure_En rfl h
  have hs := it_sim (nx := 16) (nt := 32) (a := { tmps := [Value.func (.yield l) #[] #[], .pointer (some ⟨x.β p, 0, none⟩)].toArray ++ Array.replicate 30 undef, defers := [] }) hm (hM []) hr (hpure y) rfl (by simp) (argT_den hargs 30)
  change Wq Try.prog _ _ _ _ _ (itCtx y p).w
  refine dg l k trivial hs fun ac cY aY hs1 => ?_
  have hmb : Mem (itCtx y p) (one (.fl [.ob (.fr k)])) := it_mem hm (hM _) hr (hpure y)
  have hs2 := hs1.slots (svs' := [.v (.c (.val (.func (.yield l) #[] #[]))), .v (.c (.ptr 0 0)), .v (.c (.bool false)), .v (.c (.int .i64 63))]) ⟨fun _ h => h, fun _ h => h, fun _ h => lit_bool rfl h, fun _ h => h, trivial⟩
  let I : { t : Nat // t ≤ 64 } → List Act → Act → World → Prop := fun t ac a w => ∃ y z, z.w = w ∧ y.k p = .real ∧ y.β p = x.β p ∧ Mem y (M (dgT k.val t.1)) ∧ J (dgT k.val t.1) y.w ∧ Mem (itCtx y p) (one (.fl [.ob (.fr k)])) ∧ Sim y.w y.F (kPin (itCtx y p)) ac (dgS l k (!(dgT k.val t.1).isEmpty) ((63 : Int) - (t.1 : Int))) z a
  refine loop_inv I (fun t => 64 - t) (c := lpC dg_k) (k := lpR dg_k) (by kernel_rfl) (fun t ih ac b w hI => ?_) ⟨0, Nat.zero_le _⟩ ⟨y, cY, rfl, hr, hβ, hm, hJ, hmb, hs2.nx _⟩
  obtain ⟨t, ht⟩ := t
  obtain ⟨y, z, rfl, hr, hβ, hm, hJ, hmb, hs⟩ := hI
  simp only at hm hJ hs ih
  by_cases h : t < 64
  · obtain ⟨i, hi⟩ : ∃ i : Nat, i = 63 - t := ⟨_, rfl⟩
    have ei : (63 : Int) - (t : Int) = (i : Int) := by omega
    have hi64 : i < 64 := by omega
    rw [ei] at hs
    have hdig := dig_expr k hi64
    have hpl := dig_place hi64
    have ho1 : decide ((i : Int) ≥ 0) = true := decide_eq_true (by omega)
    have ho2 : (0 : Int) ≤ IntKind.wrap IntKind.i64 (Int.tdiv (i : Int) 16) := by rw [hpl]; omega
    have ho3 : IntKind.wrap IntKind.i64 (Int.tdiv (i : Int) 16) < 4 := by rw [hpl]; omega
    have ho4 : 0 + (IntKind.wrap IntKind.i64 (Int.tdiv (i : Int) 16)).toNat * 1 < Ob.k (Ob.fr k) := by rw [hpl]; show _ < 4; omega
    have ho5 := dig_shift i
    have e4 : IntKind.wrap IntKind.i64 ((i : Int) - 1) = (63 : Int) - ((t + 1 : Nat) : Int) := by rw [wrap_id (by omega) (by omega)]; omega
    obtain ⟨d, hd⟩ : ∃ d, k.val / 16 ^ i % 16 = d := ⟨_, rfl⟩
    rw [hd] at hdig
    have hd' : k.val / 16 ^ (63 - t) % 16 = d := by rw [← hi]; exact hd
    -- what is handed on
    have give : ∀ (ac : List Act) (cU : Ctx) (aU : Act), dgT k.val (t + 1) = dgT k.val t ++ [d] → Sim y.w y.F (kPin (itCtx y p)) ac (mkSt 32 [0, 1, 3, 4, 26, 27, 28] [.v (.c (.val (.func (.yield l) #[] #[]))), .v (.c (.ptr 0 0)), .v (.c (.bool true)), .v (.c (.int .i64 (i : Int))), .v (.c (.lit true)), .v (.c (.val (.func (.yield l) #[] #[]))), .v (.c (.int .i64 (d : Int)))] [0] [some (.fl [.ob (.fr k)])] 416 [] []) cU aU →
        Wq Try.prog (bodyPost Try.prog Try.f138 fun e' W' => (∃ v, e' = Ending.returned v) ∧ J (dgT k.val 64) W') dgY_k ac .normal aU cU.w := by
      intro ac cU aU e3 hs6
      obtain ⟨hg, hk2, hβ2⟩ := it_back hmb rfl hs6 rfl
      have hJ2 := hgrow _ _ _ hJ hg
      obtain ⟨r, hr1⟩ := dgT_pre k.val (m := 64) (t := t + 1) h
      refine yield_at (R := fun W' => J (dgT k.val (t + 1)) W') (dst := some 29) (f := .tmp 27) (args := [.tmp 28]) (by kernel_rfl) hs6 (l := l) rfl (vs := dgEnc d) ?_ ?_ fun W' hJ3 => ?_
      · have h21 := D_int (hs6.t 28)
        show [aU.tmps.getD 28 undef] = _
        rw [h21]
        rfl
      · have := hyield (dgT k.val t) d _ hJ2 ⟨r, by rw [hr1, e3, List.append_assoc]; rfl⟩
        rw [← e3] at this
        exact this
      · obtain ⟨y3, rfl, hm3, hc3⟩ := hread _ _ hJ3
        obtain ⟨hr3, hβ3⟩ := hc3 (p, 0) List.mem_cons_self
        have hr3 : y3.k p = .real := hr3
        have hβ3 : y3.β p = x.β p := hβ3
        have hmb3 : Mem (itCtx y3 p) (one (.fl [.ob (.fr k)])) := it_mem hm3 (hM _) hr3 (hpure y3)
        have hs7 := it_again (nx' := 400) (dst := 29) (b := true) hs6 (by kernel_rfl) rfl hm3 (hM _) hr3 (hpure y3) (by rw [hβ2, hβ]; exact hβ3.symm) (by decide)
        change Wq Try.prog _ _ _ _ _ (itCtx y3 p).w
        refine dgB l k _ _ trivial hs7 fun ac cT aT hs8 => ?_
        rw [e4] at hs8
        have hne : (!(dgT k.val (t + 1)).isEmpty) = true := by rw [e3]; simp
        refine ih ⟨t + 1, by omega⟩ (by show 64 - (t + 1) < 64 - t; omega) ac aT _ ⟨y3, cT, rfl, hr3, hβ3, hm3, hJ3, hmb3, ?_⟩
        show Sim _ _ _ _ (dgS l k (!(dgT k.val (t + 1)).isEmpty) _) _ _
        rw [hne]
        exact hs8.nx _
    by_cases hg : (dgT k.val t).isEmpty = true
    · rw [hg] at hs
      by_cases hz : d = 0
      · have e3 : dgT k.val (t + 1) = [] := dgT_stay hg (by rw [hd', hz])
        refine dgN l k _ _ ⟨ho1, by decide, ho2, ho3, ho4, by decide, ho5, rfl, by rw [hdig, hz]; rfl, trivial⟩ hs fun ac cT aT hs8 => ?_
        rw [e4, hdig, hz] at hs8
        have e5 : dgT k.val (t + 1) = dgT k.val t := by rw [e3, List.isEmpty_iff.1 hg]
        refine ih ⟨t + 1, by omega⟩ (by show 64 - (t + 1) < 64 - t; omega) ac aT _ ⟨y, cT, rfl, hr, hβ, ?_, ?_, hmb, ?_⟩
        · show Mem y (M (dgT k.val (t + 1)))
          rw [e5]; exact hm
        · show J (dgT k.val (t + 1)) y.w
          rw [e5]; exact hJ
        · show Sim _ _ _ _ (dgS l k (!(dgT k.val (t + 1)).isEmpty) _) _ _
          rw [e3]
          exact hs8.nx _
      · have e3 : dgT k.val (t + 1) = dgT k.val t ++ [d] := by
          rw [← hd']
          exact dgT_go fun hc => hz (by rw [← hd']; exact hc.2)
        have hp0 : decide ((d : Int) > 0) = true := decide_eq_true (by omega)
        refine dgZ l k _ _ ⟨ho1, by decide, ho2, ho3, ho4, by decide, ho5, rfl, by rw [hdig]; exact hp0, trivial⟩ hs fun ac cU aU hs6 => ?_
        rw [hdig, hp0] at hs6
        exact give ac cU aU e3 (hs6.nx _)
    · have hg : (dgT k.val t).isEmpty = false := Bool.eq_false_iff.2 hg
      rw [hg] at hs
      have e3 : dgT k.val (t + 1) = dgT k.val t ++ [d] := by
        rw [← hd']
        exact dgT_go fun hc => by rw [hg] at hc; exact absurd hc.1 (by decide)
      refine dgY l k _ _ ⟨ho1, by decide, ho2, ho3, ho4, by decide, ho5, rfl, trivial⟩ hs fun ac cU aU hs6 => ?_
      rw [hdig] at hs6
      have hs6' := hs6.slots (svs' := [.v (.c (.val (.func (.yield l) #[] #[]))), .v (.c (.ptr 0 0)), .v (.c (.bool true)), .v (.c (.int .i64 (i : Int))), .v (.c (.lit true)), .v (.c (.val (.func (.yield l) #[] #[]))), .v (.c (.int .i64 (d : Int)))])
        ⟨fun _ h => h, fun _ h => h, fun _ h => lit_bool rfl h, fun _ h => h, fun _ h => h, fun _ h => h, fun _ h => h, trivial⟩
      exact give ac cU aU e3 (hs6'.nx _)
  · have e5 : t = 64 := by omega
    subst e5
    refine dgX l k _ _ ⟨by decide, trivial⟩ hs fun ac cV aV hs4 => ?_
    obtain ⟨hg, _, _⟩ := it_back hmb rfl hs4 rfl
    exact ⟨it_end qrJ_ok hs4 rfl rfl rfl (fun v => ⟨⟨v, rfl⟩, hgrow _ _ _ hJ hg⟩) (.inr rfl)⟩

end Go.Proofs.Ytkfcphigoncgjaa

/- Digits of a number, handed on; a point as often as a number says: the functions, walked. No conditions. -/
namespace Go.Proofs.Ytkfcphigoncgjaa
section
variable {w0 : World} {F0 : Nat → Prop} {K : Kp} {ac : List Act} {Q : Exit → Act → World → Prop} {cX : Ctx} {aX : Act}

--@env qvF qvF_ok
noncomputable def my_k : List KI := (run qvF false 3000 ((fun (x y z : Fp) (k : U4) => (⟨[.code (bodyOf Try.f81)], .normal, initSt Try.f81.ntmps [.v (.a [.ob (.p x), .ob (.p y), .ob (.p z)]), .v (.a [.ob (.fr k)])]⟩ : Cfg)) default default default default) []).cfg.k
theorem my_hk (x y z : Fp) (k : U4) : (run qvF false 3000 ((⟨[.code (bodyOf Try.f81)], .normal, initSt Try.f81.ntmps [.v (.a [.ob (.p x), .ob (.p y), .ob (.p z)]), .v (.a [.ob (.fr k)])]⟩ : Cfg)) []).cfg.k = my_k := by kernel_rfl
theorem my (x y z : Fp) (k : U4) (ho : AllP [((0:Int) ≤ (0:Int)),((0:Int) < (16:Int))]) (hs : Sim w0 F0 K ac (initSt Try.f81.ntmps [.v (.a [.ob (.p x),.ob (.p y),.ob (.p z)]),.v (.a [.ob (.fr k)])]) cX aX) (hK : ∀ ac cY aY,Sim w0 F0 K ac (mkSt 43 [2,3,4,5,6] [.pt 16 0,.pt 32 0,.pt 48 0,.pt 64 0,.ii (1:Int)] [16,32,48,64] [(some (.fl [.ob (.p x),.ob (.p y),.ob (.p z)])),(some (.fl [.ob (.fr k)])),(some (.fl [(.ob (.p (0:Fp))),(.ob (.p (0:Fp))),(.ob (.p (0:Fp)))])),(some (.fl [.ob (.p x),.ob (.p y),(.ob (.p (0:Fp))),(.ob (.p (0:Fp))),(.ob (.p (0:Fp))),(.ob (.p (0:Fp))),(.ob (.p (0:Fp))),(.ob (.p (0:Fp))),(.ob (.p (0:Fp))),(.ob (.p (0:Fp))),(.ob (.p (0:Fp))),(.ob (.p (0:Fp))),(.ob (.p (0:Fp))),(.ob (.p (0:Fp))),(.ob (.p (0:Fp))),(.ob (.p (0:Fp))),(.ob (.p (0:Fp))),(.ob (.p (0:Fp))),(.ob (.p (0:Fp))),(.ob (.p (0:Fp))),(.ob (.p (0:Fp))),(.ob (.p (0:Fp))),(.ob (.p (0:Fp))),(.ob (.p (0:Fp))),(.ob (.p (0:Fp))),(.ob (.p (0:Fp))),(.ob (.p (0:Fp))),(.ob (.p (0:Fp))),(.ob (.p (0:Fp))),(.ob (.p (0:Fp))),(.ob (.p (0:Fp))),(.ob (.p (0:Fp))),(.ob (.p (0:Fp))),(.ob (.p (0:Fp))),(.ob (.p (0:Fp))),(.ob (.p (0:Fp))),(.ob (.p (0:Fp))),(.ob (.p (0:Fp))),(.ob (.p (0:Fp))),(.ob (.p (0:Fp))),(.ob (.p (0:Fp))),(.ob (.p (0:Fp))),(.ob (.p (0:Fp))),(.ob (.p (0:Fp))),(.ob (.p (0:Fp))),(.ob (.p (0:Fp))),(.ob (.p (0:Fp))),(.ob (.p (0:Fp)))]))] 208 [] []) cY aY → Wq Try.prog Q (my_k) ac Exit.normal aY cY.w) : Wq Try.prog Q ([.code (bodyOf Try.f81)]) ac .normal aX cX.w :=
  run_at2 (o := ⟨_, _, _, _, _, _, _⟩) qvF_ok (by kernel_rfl) (my_hk x y z k) ho hs hK
noncomputable def myS (x y z : Fp) (k : U4) (L : List (Fp × Fp × Fp)) (i:Int) : St := mkSt 43 [2,3,4,5,6] [.pt 16 0,.pt 32 0,.pt 48 0,.pt 64 0,.v (.c (.int .i64 i))] [16,32,48,64] [(some (.fl [.ob (.p x),.ob (.p y),.ob (.p z)])),(some (.fl [.ob (.fr k)])),(some (.fl [(.ob (.p (0:Fp))),(.ob (.p (0:Fp))),(.ob (.p (0:Fp)))])),some (.sq (.pt L))] 208 [] []
theorem myA_hk (x y z : Fp) (k : U4) (L : List (Fp × Fp × Fp)) (i : Int) : (run qvF false 3000 ((⟨lpIn my_k, .normal, myS x y z k L i⟩ : Cfg)) [true]).cfg.k = lpBk my_k := by kernel_rfl
theorem myA (x y z : Fp) (k : U4) (L : List (Fp × Fp × Fp)) (i:Int) (ho : AllP [((decide (i < (16:Int))) = true),((0:Int) ≤ (IntKind.wrap .i64 (i - (1:Int)))),((IntKind.wrap .i64 (i - (1:Int))) < (16:Int)),(0 = 0),(((IntKind.wrap .i64 (i - (1:Int)))).toNat < (List.length L)),((0:Int) ≤ i),(i < (16:Int)),(0 = 0),((i).toNat < (List.length L))]) (hs : Sim w0 F0 K ac (myS x y z k L i) cX aX) (hK : ∀ ac cY aY,Sim w0 F0 K ac (mkSt 43 [2,3,4,5,6] [.pt 16 0,.pt 32 0,.pt 48 0,.pt 64 0,(.ii (IntKind.wrap .i64 (i + (1:Int))))] [16,32,48,64] [(some (.fl [.ob (.p x),.ob (.p y),.ob (.p z)])),(some (.fl [.ob (.fr k)])),(some (.fl [(.ob (.p (0:Fp))),(.ob (.p (0:Fp))),(.ob (.p (0:Fp)))])),(some (.sq (Sq.pt (List.set L (i).toNat (jpl (List.getD L ((IntKind.wrap .i64 (i - (1:Int)))).toNat pt0) (x,(y,z)))))))] 432 [] []) cY aY → Wq Try.prog Q (lpBk my_k) ac Exit.normal aY cY.w) : Wq Try.prog Q (lpIn my_k) ac .normal aX cX.w :=
  run_at2 (o := ⟨_, _, _, _, _, _, _⟩) qvF_ok (by kernel_rfl) (myA_hk x y z k L i) ho hs hK
noncomputable def myB_k : List KI := (run qvF false 3000 ((fun (x y z : Fp) (k : U4) (L : List (Fp × Fp × Fp)) (i : Int) => (⟨lpIn my_k, .normal, myS x y z k L i⟩ : Cfg)) default default default default default default) [false]).cfg.k
theorem myB_hk (x y z : Fp) (k : U4) (L : List (Fp × Fp × Fp)) (i : Int) : (run qvF false 3000 ((⟨lpIn my_k, .normal, myS x y z k L i⟩ : Cfg)) [false]).cfg.k = myB_k := by kernel_rfl
theorem myB (x y z : Fp) (k : U4) (L : List (Fp × Fp × Fp)) (i:Int) (ho : AllP [((decide (i < (16:Int))) = false),((0:Int) ≤ (0:Int)),((0:Int) < (16:Int)),(0 = 0),(0 < (List.length L))]) (hs : Sim w0 F0 K ac (myS x y z k L i) cX aX) (hK : ∀ ac cY aY,Sim w0 F0 K ac (mkSt 43 [4,5,7,30] [.pt 48 0,.pt 64 0,.pt 272 0,(.v (.c (.clo 138 [(320,0)])))] [48,64,272,320] [(some (.fl [(.ob (.p (0:Fp))),(.ob (.p (0:Fp))),(.ob (.p (0:Fp)))])),(some (.sq (Sq.pt L))),(some (.fl [(.ob (.p (Prod.fst (List.getD L 0 pt0)))),(.ob (.p (Prod.fst (Prod.snd (List.getD L 0 pt0))))),(.ob (.p (Prod.snd (Prod.snd (List.getD L 0 pt0)))))])),(some (.fl [.ob (.fr k)]))] 384 [] []) cY aY → Wq Try.prog Q (myB_k) ac Exit.normal aY cY.w) : Wq Try.prog Q (lpIn my_k) ac .normal aX cX.w :=
  run_at2 (o := ⟨_, _, _, _, _, _, _⟩) qvF_ok (by kernel_rfl) (myB_hk x y z k L i) ho hs hK
noncomputable def myR (k : U4) (L : List (Fp × Fp × Fp)) (o : Fp × Fp × Fp) : St := mkSt 43 [4,5,7,30] [.pt 48 0,.pt 64 0,.pt 272 0,(.v (.c (.clo 138 [(320,0)])))] [48,64,272,320] [(some (.fl [(.ob (.p (0:Fp))),(.ob (.p (0:Fp))),(.ob (.p (0:Fp)))])),(some (.sq (Sq.pt L))),some (.fl [.ob (.p o.1),.ob (.p o.2.1),.ob (.p o.2.2)]),(some (.fl [.ob (.fr k)]))] 384 [] []
theorem mrA_hk (k : U4) (L : List (Fp × Fp × Fp)) (o : Fp × Fp × Fp) (d : Int) : (run qvF false 3000 ((⟨[.code (rfA myB_k)], .normal, roundSt (myR k L o) [(31, .v (.c (.int .i64 d)))]⟩ : Cfg)) []).cfg.k = [] := by kernel_rfl
theorem mrA (k : U4) (L : List (Fp × Fp × Fp)) (o : Fp × Fp × Fp) (d:Int) {ρ : Option Nat} (ho : AllP []) (hs : Sim w0 F0 K ac (roundSt (myR k L o) [(31,.v (.c (.int .i64 d)))]) cX aX) (hK : ∀ cY aY,Sim w0 F0 K ac (mkSt 43 [4,5,7,8] [.pt 48 0,.pt 64 0,.pt 272 0,.ii d] [48,64,272,320] [(some (.fl [(.ob (.p (0:Fp))),(.ob (.p (0:Fp))),(.ob (.p (0:Fp)))])),(some (.sq (Sq.pt L))),(some (.fl [(.ob (.p (Prod.fst o))),(.ob (.p (Prod.fst (Prod.snd o)))),(.ob (.p (Prod.snd (Prod.snd o))))])),(some (.fl [.ob (.fr k)]))] 400 [[4,5,7,30]] [([.pt 48 0,.pt 64 0,.pt 272 0,(.v (.c (.clo 138 [(320,0)])))],43)]) cY aY → Wq Try.prog Q ([]) ac Exit.normal aY cY.w ρ) : Wq Try.prog Q ([.code (rfA myB_k)]) ac .normal aX cX.w ρ :=
  run_atT (o := ⟨_, _, _, _, _, _, _⟩) qvF_ok (by kernel_rfl) (mrA_hk k L o d) ho (by kernel_rfl) (by kernel_rfl) hs hK
noncomputable def mrB (k : U4) (L : List (Fp × Fp × Fp)) (o : Fp × Fp × Fp) (d:Int) : St := mkSt 43 [4,5,7,8] [.pt 48 0,.pt 64 0,.pt 272 0,.ii d] [48,64,272,320] [(some (.fl [(.ob (.p (0:Fp))),(.ob (.p (0:Fp))),(.ob (.p (0:Fp)))])),(some (.sq (Sq.pt L))),some (.fl [.ob (.p o.1),.ob (.p o.2.1),.ob (.p o.2.2)]),(some (.fl [.ob (.fr k)]))] 400 [[4,5,7,30]] [([.pt 48 0,.pt 64 0,.pt 272 0,(.v (.c (.clo 138 [(320,0)])))],43)]
noncomputable def mrC_k : List KI := (run qvF false 3000 ((fun (k : U4) (L : List (Fp × Fp × Fp)) (o : Fp × Fp × Fp) (d : Int) => (⟨[.code (rfB myB_k)], .normal, mrB k L o d⟩ : Cfg)) default default default default) []).cfg.k
theorem mrC_hk (k : U4) (L : List (Fp × Fp × Fp)) (o : Fp × Fp × Fp) (d : Int) : (run qvF false 3000 ((⟨[.code (rfB myB_k)], .normal, mrB k L o d⟩ : Cfg)) []).cfg.k = mrC_k := by kernel_rfl
theorem mrC (k : U4) (L : List (Fp × Fp × Fp)) (o : Fp × Fp × Fp) (d:Int) {ρ : Option Nat} (ho : AllP []) (hs : Sim w0 F0 K ac (mrB k L o d) cX aX) (hK : ∀ cY aY,Sim w0 F0 K ac (mkSt 43 [4,5,7,8,32] [.pt 48 0,.pt 64 0,.pt 272 0,.ii d,.ii (0:Int)] [48,64,272,320] [(some (.fl [(.ob (.p (0:Fp))),(.ob (.p (0:Fp))),(.ob (.p (0:Fp)))])),(some (.sq (Sq.pt L))),(some (.fl [(.ob (.p (Prod.fst o))),(.ob (.p (Prod.fst (Prod.snd o)))),(.ob (.p (Prod.snd (Prod.snd o))))])),(some (.fl [.ob (.fr k)]))] 416 [[4,5,7,30]] [([.pt 48 0,.pt 64 0,.pt 272 0,(.v (.c (.clo 138 [(320,0)])))],43)]) cY aY → Wq Try.prog Q (mrC_k) ac Exit.normal aY cY.w ρ) : Wq Try.prog Q ([.code (rfB myB_k)]) ac .normal aX cX.w ρ :=
  run_atT (o := ⟨_, _, _, _, _, _, _⟩) qvF_ok (by kernel_rfl) (mrC_hk k L o d) ho (by kernel_rfl) (by kernel_rfl) hs hK
noncomputable def mrS (k : U4) (L : List (Fp × Fp × Fp)) (o : Fp × Fp × Fp) (d j:Int) : St := mkSt 43 [4,5,7,8,32] [.pt 48 0,.pt 64 0,.pt 272 0,.ii d,.v (.c (.int .i64 j))] [48,64,272,320] [(some (.fl [(.ob (.p (0:Fp))),(.ob (.p (0:Fp))),(.ob (.p (0:Fp)))])),(some (.sq (Sq.pt L))),some (.fl [.ob (.p o.1),.ob (.p o.2.1),.ob (.p o.2.2)]),(some (.fl [.ob (.fr k)]))] 416 [[4,5,7,30]] [([.pt 48 0,.pt 64 0,.pt 272 0,(.v (.c (.clo 138 [(320,0)])))],43)]
theorem mrD_hk (k : U4) (L : List (Fp × Fp × Fp)) (o : Fp × Fp × Fp) (d j : Int) : (run qvF false 3000 ((⟨lpIn mrC_k, .normal, mrS k L o d j⟩ : Cfg)) [true]).cfg.k = lpBk mrC_k := by kernel_rfl
theorem mrD (k : U4) (L : List (Fp × Fp × Fp)) (o : Fp × Fp × Fp) (d j:Int) {ρ : Option Nat} (ho : AllP [((decide (j < (4:Int))) = true)]) (hs : Sim w0 F0 K ac (mrS k L o d j) cX aX) (hK : ∀ cY aY,Sim w0 F0 K ac (mkSt 43 [4,5,7,8,32] [.pt 48 0,.pt 64 0,.pt 272 0,.ii d,(.ii (IntKind.wrap .i64 (j + (1:Int))))] [48,64,272,320] [(some (.fl [(.ob (.p (0:Fp))),(.ob (.p (0:Fp))),(.ob (.p (0:Fp)))])),(some (.sq (Sq.pt L))),(some (.fl [(.ob (.p (Prod.fst (jtw o)))),(.ob (.p (Prod.fst (Prod.snd (jtw o))))),(.ob (.p (Prod.snd (Prod.snd (jtw o)))))])),(some (.fl [.ob (.fr k)]))] 512 [[4,5,7,30]] [([.pt 48 0,.pt 64 0,.pt 272 0,(.v (.c (.clo 138 [(320,0)])))],43)]) cY aY → Wq Try.prog Q (lpBk mrC_k) ac Exit.normal aY cY.w ρ) : Wq Try.prog Q (lpIn mrC_k) ac .normal aX cX.w ρ :=
  run_atT (o := ⟨_, _, _, _, _, _, _⟩) qvF_ok (by kernel_rfl) (mrD_hk k L o d j) ho (by kernel_rfl) (by kernel_rfl) hs hK
theorem mrE_hk (k : U4) (L : List (Fp × Fp × Fp)) (o : Fp × Fp × Fp) (d j : Int) : (run qvF false 3000 ((⟨lpIn mrC_k, .normal, mrS k L o d j⟩ : Cfg)) [false]).cfg.k = [] := by kernel_rfl
theorem mrE (k : U4) (L : List (Fp × Fp × Fp)) (o : Fp × Fp × Fp) (d j:Int) {ρ : Option Nat} (ho : AllP [((decide (j < (4:Int))) = false),((0:Int) ≤ d),(d < (16:Int)),(0 = 0),((d).toNat < (List.length L))]) (hs : Sim w0 F0 K ac (mrS k L o d j) cX aX) (hK : ∀ cY aY,Sim w0 F0 K ac (mkSt 43 [4] [.pt 48 0] [48,64,272,320] [(some (.fl [(.ob (.p (0:Fp))),(.ob (.p (0:Fp))),(.ob (.p (0:Fp)))])),(some (.sq (Sq.pt L))),(some (.fl [(.ob (.p (Prod.fst (jpl o (List.getD L (d).toNat pt0))))),(.ob (.p (Prod.fst (Prod.snd (jpl o (List.getD L (d).toNat pt0)))))),(.ob (.p (Prod.snd (Prod.snd (jpl o (List.getD L (d).toNat pt0))))))])),(some (.fl [.ob (.fr k)]))] 528 [[4,5,7,30]] [([.pt 48 0,.pt 64 0,.pt 272 0,(.v (.c (.clo 138 [(320,0)])))],43)]) cY aY → Wq Try.prog Q ([]) ac Exit.normal aY cY.w ρ) : Wq Try.prog Q (lpIn mrC_k) ac .normal aX cX.w ρ :=
  run_atT (o := ⟨_, _, _, _, _, _, _⟩) qvF_ok (by kernel_rfl) (mrE_hk k L o d j) ho (by kernel_rfl) (by kernel_rfl) hs hK
noncomputable def mrF (k : U4) (L : List (Fp × Fp × Fp)) (o : Fp × Fp × Fp) : St := mkSt 43 [4] [.pt 48 0] [48,64,272,320] [(some (.fl [(.ob (.p (0:Fp))),(.ob (.p (0:Fp))),(.ob (.p (0:Fp)))])),(some (.sq (Sq.pt L))),some (.fl [.ob (.p o.1),.ob (.p o.2.1),.ob (.p o.2.2)]),(some (.fl [.ob (.fr k)]))] 528 [[4,5,7,30]] [([.pt 48 0,.pt 64 0,.pt 272 0,(.v (.c (.clo 138 [(320,0)])))],43)]
theorem mrX_hk (k : U4) (L : List (Fp × Fp × Fp)) (o : Fp × Fp × Fp) : (run qvF false 3000 ((⟨rfR myB_k, .normal, myR k L o⟩ : Cfg)) []).cfg.k = [] := by kernel_rfl
theorem mrX (k : U4) (L : List (Fp × Fp × Fp)) (o : Fp × Fp × Fp) (ho : AllP []) (hs : Sim w0 F0 K ac (myR k L o) cX aX) (hK : ∀ ac cY aY,Sim w0 F0 K ac (mkSt 43 [4] [.pt 48 0] [48] [(some (.fl [(.ob (.p (Prod.fst o))),(.ob (.p (Prod.fst (Prod.snd o)))),(.ob (.p (Prod.snd (Prod.snd o))))]))] 416 [] []) cY aY → Wq Try.prog Q ([]) ac Exit.ret aY cY.w) : Wq Try.prog Q (rfR myB_k) ac .normal aX cX.w :=
  run_at2 (o := ⟨_, _, _, _, _, _, _⟩) qvF_ok (by kernel_rfl) (mrX_hk k L o) ho hs hK
noncomputable def mrZ (o : Fp × Fp × Fp) : St := mkSt 43 [4] [.pt 48 0] [48] [some (.fl [.ob (.p o.1),.ob (.p o.2.1),.ob (.p o.2.2)])] 416 [] []
theorem mrR_end (o : Fp × Fp × Fp) : runEnd qvF Try.f81 false 3000 (⟨[],.ret,mrZ o⟩) [] [] [] = (some ([],((.v (.a [(.ob (.p (Prod.fst o))),(.ob (.p (Prod.fst (Prod.snd o)))),(.ob (.p (Prod.snd (Prod.snd o))))])),[]))) := by kernel_rfl
end
end Go.Proofs.Ytkfcphigoncgjaa

/- A point as often as a number says: contract. No conditions. -/
namespace Go.Proofs.Ytkfcphigoncgjaa

theorem cat_flat {x : Ctx} (L : List (Fp × Fp × Fp)) : ∀ (n i : Nat) (cs : List Value), catL x.D (flatPt L i n) cs → cs.length = n * 18 ∧ ∀ j, j < n → ∃ c, catL x.D (ptIts (L.getD (i + j) pt0)) c ∧ ∀ (q : Nat) (v : Value), c[q]? = some v → cs[j * 18 + q]? = some v
  | 0, i, cs, h => by
    have h : cs = [] := h
    subst h
    exact ⟨rfl, fun j hj => absurd hj (Nat.not_lt_zero _)⟩
  | n + 1, i, cs, h => by
    obtain ⟨c1, r1, e1, h1, c2, r2, e2, h2, c3, r3, e3, h3, h4⟩ := h
    obtain ⟨hl, hj⟩ := cat_flat L n (i + 1) r3 h4
    have l1 : c1.length = 6 := D_len h1
    have l2 : c2.length = 6 := D_len h2
    have l3 : c3.length = 6 := D_len h3
    subst e1 e2 e3
    refine ⟨by simp only [List.length_append]; omega, fun j hjn => ?_⟩
    cases j with
    | zero =>
      refine ⟨c1 ++ (c2 ++ (c3 ++ [])), ⟨c1, _, rfl, h1, c2, _, rfl, h2, c3, _, rfl, h3, rfl⟩, fun q v hq => ?_⟩
      rw [List.append_nil] at hq
      have hlt : q < (c1 ++ (c2 ++ c3)).length := by
        rcases Nat.lt_or_ge q (c1 ++ (c2 ++ c3)).length with h | h
        · exact h
        · rw [List.getElem?_eq_none h] at hq; cases hq
      rw [Nat.zero_mul, Nat.zero_add, ← hq]
      have e : c1 ++ (c2 ++ (c3 ++ r3)) = (c1 ++ (c2 ++ c3)) ++ r3 := by simp
      rw [e, List.getElem?_append_left hlt]
    | succ j =>
      obtain ⟨c, hc, hv⟩ := hj j (by omega)
      rw [show i + 1 + j = i + (j + 1) from by omega] at hc
      refine ⟨c, hc, fun q v hq => ?_⟩
      have e : c1 ++ (c2 ++ (c3 ++ r3)) = (c1 ++ (c2 ++ c3)) ++ r3 := by simp
      have hl18 : (c1 ++ (c2 ++ c3)).length = 18 := by simp only [List.length_append]; omega
      rw [e, List.getElem?_append_right (by rw [hl18]; omega), hl18, show (j + 1) * 18 + q - 18 = j * 18 + q from by omega]
      exact hv q v hq

theorem tab_conv {x : Ctx} (L : List (Fp × Fp × Fp)) (h : L.length = 16) (cs : List Value) (hc : denEn x (.fl (flatPt L 0 16)) cs) : denEn x (.sq (.pt L)) cs := by
  obtain ⟨hl, hj⟩ := cat_flat L 16 0 cs hc
  refine ⟨?_, fun i hi => ?_⟩
  · show L.length * 18 ≤ cs.length
    rw [h, hl]
    exact Nat.le_refl _
  · have hi : i < L.length := hi
    rw [h] at hi
    obtain ⟨c, h1, h2⟩ := hj i hi
    rw [Nat.zero_add] at h1
    exact ⟨c, h1, h2⟩

def tab0 (x y : Fp) : List (Fp × Fp × Fp) := (x, y, 0) :: List.replicate 15 pt0

theorem many_fnd (x y z : Fp) (k : U4) : FnD Try.prog 81 [.v (.a [.ob (.p x), .ob (.p y), .ob (.p z)]), .v (.a [.ob (.fr k)])] (.v (.a (ptIts (jmn (x, y, z) (dgT k.val 64))))) [] := by
  refine fn_start_m (fn := Try.f81) (c := bodyOf Try.f81) Try.func81 rfl rfl fun x0 a0 hk hF hs => ?_
  refine my x y z k ⟨by decide, by decide, trivial⟩ hs fun ac cY aY hs1 => ?_
  have hs2 := hs1.blocks (ens' := [some (.fl [.ob (.p x), .ob (.p y), .ob (.p z)]), some (.fl [.ob (.fr k)]), some (.fl [.ob (.p 0), .ob (.p 0), .ob (.p 0)]), some (.sq (.pt (tab0 x y)))])
    ⟨.inl rfl, .inl rfl, .inl rfl, .inr ⟨_, _, _, rfl, rfl, rfl, fun cs h => tab_conv _ rfl cs h⟩, trivial⟩
  refine loop_rule (ι := { p : Nat × List (Fp × Fp × Fp) // 1 ≤ p.1 ∧ p.1 ≤ 16 ∧ p.2.length = 16 ∧ ∀ j, j < p.1 → p.2.getD j pt0 = jtab (x, y, z) j }) (fun p => myS x y z k p.1.2 (p.1.1 : Int)) (fun p => 16 - p.1.1) (c := lpC my_k) (k := lpR my_k) (by kernel_rfl) (fun p ih ac cY aY hs => ?_)
    ⟨(1, tab0 x y), Nat.le_refl 1, by show (1 : Nat) ≤ 16; omega, rfl, fun j hj => by
      have : j = 0 := by have hj : j < 1 := hj; omega
      subst this; rfl⟩ (hs2.nx _)
  obtain ⟨⟨i, L⟩, h1, h16, hL, htab⟩ := p
  simp only at ih hs h1 h16 hL htab
  by_cases hi : i < 16
  · have e1 : IntKind.wrap IntKind.i64 ((i : Int) - 1) = ((i - 1 : Nat) : Int) := by rw [wrap_id (by omega) (by omega)]; omega
    have e2 : IntKind.wrap IntKind.i64 ((i : Int) + 1) = ((i + 1 : Nat) : Int) := by rw [wrap_id (by omega) (by omega)]; omega
    refine myA x y z k L i ⟨decide_eq_true (by omega), by rw [e1]; omega, by rw [e1]; omega, rfl, by rw [e1, Int.toNat_natCast, hL]; omega, by omega, by omega, rfl, by rw [Int.toNat_natCast, hL]; exact hi, trivial⟩ hs fun ac cZ aZ hs3 => ?_
    rw [e1, e2, Int.toNat_natCast, Int.toNat_natCast, htab (i - 1) (by omega)] at hs3
    have e3 : jpl (jtab (x, y, z) (i - 1)) (x, y, z) = jtab (x, y, z) i := by
      obtain ⟨m, rfl⟩ : ∃ m, i = m + 1 := ⟨i - 1, by omega⟩
      rfl
    rw [e3] at hs3
    refine ih ⟨(i + 1, L.set i (jtab (x, y, z) i)), by show 1 ≤ i + 1; omega, hi, by show (L.set i _).length = 16; rw [List.length_set]; exact hL, fun j hj => ?_⟩ (by show 16 - (i + 1) < 16 - i; omega) ac cZ aZ (hs3.nx _)
    have hj : j < i + 1 := hj
    show (L.set i (jtab (x, y, z) i)).getD j pt0 = _
    by_cases e : j = i
    · subst e
      simp [List.getD, hL, hi]
    · have : (L.set i (jtab (x, y, z) i)).getD j pt0 = L.getD j pt0 := by
        simp [List.getD, List.getElem?_set_ne (Ne.symm e)]
      rw [this]
      exact htab j (by omega)
  · have : i = 16 := by omega
    subst this
    refine myB x y z k L _ ⟨by decide, by decide, by decide, rfl, by rw [hL]; decide, trivial⟩ hs fun ac cZ aZ hs3 => ?_
    rw [htab 0 (by decide)] at hs3
    obtain ⟨e1, e2⟩ := isRf_eq (k := myB_k) (by kernel_rfl)
    rw [e1]
    have eP : (rfP myB_k).toList = [31] := by kernel_rfl
    have eG : rfG myB_k = .tmp 30 := by kernel_rfl
    refine range_rule (ps := rfP myB_k) e2 hs3 (gf := 138) (caps := [(320, 0)]) (enters_of Try.func138 rfl rfl) (fun pre => myR k L (pre.foldl (jst (x, y, z)) (jtab (x, y, z) 0))) (fun s => by rw [eG]; rfl) ⟨_, rfl⟩ (dgT k.val 64) dgVals dgEnc
      (fun y z => .cons ⟨rfl, 0, rfl⟩ .nil) (fun z => by rw [← Array.length_toList, eP]; rfl) (fun pre p hp => ?_) (digits_iter fun s => rfl) (fun pre d => mrB k L (pre.foldl (jst (x, y, z)) (jtab (x, y, z) 0)) d)
      (fun pre d => mrF k L ((pre ++ [d]).foldl (jst (x, y, z)) (jtab (x, y, z) 0))) (fun pre d => ⟨_, rfl⟩) (fun pre d hd w1 F1 K1 as1 Q1 l y1 b hs4 hQ => ?_) (fun pre d hd w1 F1 K1 as1 Q1 l y1 b hs4 hQ => ?_) fun D y1 hs4 hD hFD hd => ?_
    · rw [eP] at hp
      have h43 : (myR k L (pre.foldl (jst (x, y, z)) (jtab (x, y, z) 0))).nt = 43 := rfl
      rw [h43]
      simp only [List.mem_cons, List.not_mem_nil, or_false] at hp
      subst hp
      decide
    · rw [eP] at hs4
      exact mrA k L _ d trivial hs4 fun cZ aZ hs5 => ⟨hQ _ _ (hs5.nx _)⟩
    · have hd16 : d < 16 := by
        obtain ⟨r, hr⟩ := hd
        exact dgT_lt (n := k.val) 64 d (by rw [hr]; simp)
      rw [List.foldl_append] at hQ
      generalize pre.foldl (jst (x, y, z)) (jtab (x, y, z) 0) = o at hs4 hQ
      have hst : List.foldl (jst (x, y, z)) o [d] = jpl (jtws 4 o) (L.getD d pt0) := by
        rw [htab d hd16]
        rfl
      rw [hst] at hQ
      refine mrC k L o d trivial hs4 fun cV aV hs5 => ?_
      let I : { j : Nat // j ≤ 4 } → List Act → Act → World → Prop := fun j ac a w => ac = as1 ∧ ∃ z, z.w = w ∧ Sim w1 F1 K1 as1 (mrS k L (jtws j.1 o) d (j.1 : Int)) z a
      refine loop_inv (ρ := some l) I (fun j => 4 - j.1) (c := lpC mrC_k) (k := lpR mrC_k) (by kernel_rfl) (fun j ih ac aV w hI => ?_) ⟨0, Nat.zero_le _⟩ ⟨rfl, cV, rfl, hs5.nx _⟩
      obtain ⟨j, hj⟩ := j
      obtain ⟨rfl, cV, rfl, hs6⟩ := hI
      simp only at ih hs6
      by_cases hj4 : j < 4
      · refine mrD k L _ d j ⟨decide_eq_true (by omega), trivial⟩ hs6 fun cU aU hs7 => ?_
        rw [wrap_id (n := (j : Int) + 1) (by omega) (by omega)] at hs7
        exact ih ⟨j + 1, hj4⟩ (by show 4 - (j + 1) < 4 - j; omega) _ aU _ ⟨rfl, cU, rfl, hs7.nx _⟩
      · have : j = 4 := by omega
        subst this
        refine mrE k L _ d _ ⟨by decide, by omega, by omega, rfl, by rw [Int.toNat_natCast, hL]; exact hd16, trivial⟩ hs6 fun cU aU hs7 => ?_
        rw [Int.toNat_natCast] at hs7
        exact ⟨hQ _ _ (hs7.nx _)⟩
    · have hs5 := hs4.marked rfl rfl D
      show Wq _ _ _ _ _ _ _ _
      have ej : (dgT k.val 64).foldl (jst (x, y, z)) (jtab (x, y, z) 0) = jmn (x, y, z) (dgT k.val 64) := rfl
      rw [ej] at hs4 hs5
      generalize jmn (x, y, z) (dgT k.val 64) = o at hs4 hs5 ⊢
      refine mrX k L o trivial hs5 fun ac cV aV hs6 => ⟨?_⟩
      have hs7 : Sim y1.w y1.F (kOwn y1 kAll (markOf D)) ac (mrZ o) cV aV := hs6
      exact fn_finish qvF_ok hk hF (mrR_end o) trivial (fun y v hd => hd) hs4 hD hFD hd rfl hs7

end Go.Proofs.Ytkfcphigoncgjaa

/- A point as often as a number says: the plain law. No conditions. -/
namespace Go.Proofs.Ytkfcphigoncgjaa

/-- A point outside as often as a number says. -/
def mulG (a : G1D) (k : U4) : G1D := outG (jmn (inG a) (dgT k.val 64))
theorem mulG_is {a : G1D} (ha : onG a = true) (k : U4) : mulG a k = gP (nmul (pG a) k.val) := by
  unfold mulG
  generalize hl : dgT k.val 64 = l
  have h := jmn_ok cv1 (onG_is ha).2 (inG_jc a) l
  have e : dgV l = k.val := by rw [← hl]; exact dgV_is k
  rw [e] at h
  exact outG_jc h
theorem pG_mul {a : G1D} (ha : onG a = true) (k : U4) : pG (mulG a k) = nmul (pG a) k.val := by rw [mulG_is ha, pG_gP]
theorem on_mul {a : G1D} (ha : onG a = true) (k : U4) : onG (mulG a k) = true := by
  rw [mulG_is ha]
  exact onG_gP (nmul_on cv1 (onG_is ha).2 _)

end Go.Proofs.Ytkfcphigoncgjaa

/- one.Mul, and OneTimes' law, walked. No conditions. -/
namespace Go.Proofs.Ytkfcphigoncgjaa
section
variable {w0 : World} {F0 : Nat → Prop} {K : Kp} {ac : List Act} {Q : Exit → Act → World → Prop} {cX : Ctx} {aX : Act}

instance : Inhabited G1D := ⟨g10⟩
def manySpec1 : FnSpec
  | [.v (.a [.ob (.p x), .ob (.p y), .ob (.p z)]), .v (.a [.ob (.fr k)])] => some ([], .v (.a (ptIts (jmn (x, y, z) (dgT k.val 64)))), [])
  | _ => none
noncomputable def qwA : Env := qvF.set (addT qvF.fn 81 manySpec1)
theorem qwA_ok : EnvOk Try.prog qwA := env_add qvF_ok 81 manySpec1 (enters_of Try.func81 rfl rfl) fun args o r es h _ => by
  unfold manySpec1 at h
  split at h
  · cases h; exact many_fnd _ _ _ _
  · cases h
--@env qwA qwA_ok
theorem muA (a b : U6) (i : Bool) (k : U4) : fnRes qwA Try.f34 3000 [.v (.a [.ob (.fp a),.ob (.fp b),.bool i]),.v (.a [.ob (.fr k)])] [true] [] [] = (some ([((Bool.not (onG (G1D.mk a b i))) = true)],((.t [(.a [(.ob (.fp (0:U6))),(.ob (.fp (0:U6))),(.lit false)]),(.c (.int .i64 (30:Int)))]),[]))) := by kernel_rfl
theorem muB (a b : U6) (i : Bool) (k : U4) : fnRes qwA Try.f34 3000 [.v (.a [.ob (.fp a),.ob (.fp b),.bool i]),.v (.a [.ob (.fr k)])] [false] [] [] = (some ([((Bool.not (onG (G1D.mk a b i))) = false)],((.t [(.a [(.ob (.fp (G1D.x (outG (jmn (inG (G1D.mk a b i)) (dgT (Fin.val k) 64)))))),(.ob (.fp (G1D.y (outG (jmn (inG (G1D.mk a b i)) (dgT (Fin.val k) 64)))))),(.bool (G1D.inf (outG (jmn (inG (G1D.mk a b i)) (dgT (Fin.val k) 64)))))]),(.c (.int .i64 (0:Int)))]),[]))) := by kernel_rfl
/-- What Mul tells. -/
def muR (a : G1D) (k : U4) : G1D × Int := if onG a then (mulG a k, 0) else (g10, 30)
theorem muR_on {a : G1D} (k : U4) (ha : onG a = true) : muR a k = (mulG a k, 0) := by unfold muR; rw [ha]; rfl
theorem muR_off {a : G1D} (k : U4) (ha : onG a = false) : muR a k = (g10, 30) := by unfold muR; rw [ha]; rfl
theorem mul_fnd1 (a b : U6) (i : Bool) (k : U4) : FnD Try.prog 34 [.v (.a [.ob (.fp a), .ob (.fp b), .bool i]), .v (.a [.ob (.fr k)])] (.t [.a (muR ⟨a, b, i⟩ k).1.its, .c (.int .i64 (muR ⟨a, b, i⟩ k).2)]) [] := by
  by_cases h1 : onG ⟨a, b, i⟩ = true
  · rw [muR_on k h1]
    exact fn_sound qwA_ok Try.func34 (muB a b i k) ⟨by rw [h1]; rfl, trivial⟩
  · have h1 : onG ⟨a, b, i⟩ = false := Bool.eq_false_iff.2 h1
    rw [muR_off k h1]
    exact (fn_sound qwA_ok Try.func34 (muA a b i k) ⟨by rw [h1]; rfl, trivial⟩).conv (fun _ _ h => h) fun y v hd => lit_third_t hd
def mulSpec1 : FnSpec
  | [.v (.a [.ob (.fp a), .ob (.fp b), .bool i]), .v (.a [.ob (.fr k)])] => some ([], .t [.a (muR ⟨a, b, i⟩ k).1.its, .c (.int .i64 (muR ⟨a, b, i⟩ k).2)], [])
  | _ => none
noncomputable def qwB : Env := qwA.set (addT qwA.fn 34 mulSpec1)
theorem qwB_ok : EnvOk Try.prog qwB := env_add qwA_ok 34 mulSpec1 (enters_of Try.func34 rfl rfl) fun args o r es h _ => by
  unfold mulSpec1 at h
  split at h
  · cases h; exact mul_fnd1 _ _ _ _
  · cases h
--@env qwB qwB_ok
theorem moR (a b : U6) (i : Bool) (k : U4) : fnRes qwB Try.f35 3000 [.v (.a [.ob (.fp a),.ob (.fp b),.bool i]),.v (.a [.ob (.fr k)])] [] [] [] = (some ([],((.v (.a [(.ob (.fp (G1D.x (Prod.fst (muR (G1D.mk a b i) k))))),(.ob (.fp (G1D.y (Prod.fst (muR (G1D.mk a b i) k))))),(.bool (G1D.inf (Prod.fst (muR (G1D.mk a b i) k))))])),[]))) := by kernel_rfl
theorem mulo_fnd1 (a b : U6) (i : Bool) (k : U4) : FnD Try.prog 35 [.v (.a [.ob (.fp a), .ob (.fp b), .bool i]), .v (.a [.ob (.fr k)])] (.v (.a (muR ⟨a, b, i⟩ k).1.its)) [] := fn_sound qwB_ok Try.func35 (moR a b i k) trivial
def mulSpec2 : FnSpec
  | [.v (.a [.ob (.fp a), .ob (.fp b), .bool i]), .v (.a [.ob (.fr k)])] => some ([], .v (.a (muR ⟨a, b, i⟩ k).1.its), [])
  | _ => none
noncomputable def qwC : Env := qwB.set (addT qwB.fn 35 mulSpec2)
theorem qwC_ok : EnvOk Try.prog qwC := env_add qwB_ok 35 mulSpec2 (enters_of Try.func35 rfl rfl) fun args o r es h _ => by
  unfold mulSpec2 at h
  split at h
  · cases h; exact mulo_fnd1 _ _ _ _
  · cases h
--@env qwC qwC_ok
theorem tiA (a : G1D) (n s t:Int) : fnRes qwC Try.f7 3000 [.v (.a a.its),.v (.c (.int .i64 n)),.v (.c (.int .u32 s)),.v (.c (.int .u32 t))] [true,true,true] [] [] = (some ([((Bool.not (onG a)) = true),((0:Int) ≤ (1:Int)),((1:Int) < (18446744073709551616:Int)),((0:Int) ≤ (0:Int)),((0:Int) < (18446744073709551616:Int)),((0:Int) ≤ (0:Int)),((0:Int) < (18446744073709551616:Int)),((0:Int) ≤ (0:Int)),((0:Int) < (18446744073709551616:Int)),(true = true),(((Prod.snd (muR a (Fin.ofNat B4 1))) == (30:Int)) = true)],((.v (.c (.bool (ite (true = true) (Bool.and (decide ((G1D.x (Prod.fst (muR a (Fin.ofNat B4 1)))) = (0:U6))) (Bool.and (decide ((G1D.y (Prod.fst (muR a (Fin.ofNat B4 1)))) = (0:U6))) ((G1D.inf (Prod.fst (muR a (Fin.ofNat B4 1)))) == false))) (Bool.not (Bool.and (decide ((G1D.x (Prod.fst (muR a (Fin.ofNat B4 1)))) = (0:U6))) (Bool.and (decide ((G1D.y (Prod.fst (muR a (Fin.ofNat B4 1)))) = (0:U6))) ((G1D.inf (Prod.fst (muR a (Fin.ofNat B4 1)))) == false)))))))),[]))) := by kernel_rfl
noncomputable def ti_k : List KI := (run qwC false 3000 ((fun (a : G1D) (n s t : Int) => (⟨[.code (bodyOf Try.f7)], .normal, initSt Try.f7.ntmps [.v (.a a.its), .v (.c (.int .i64 n)), .v (.c (.int .u32 s)), .v (.c (.int .u32 t))]⟩ : Cfg)) default default default default) [false]).cfg.k
theorem ti_hk (a : G1D) (n s t : Int) : (run qwC false 3000 ((⟨[.code (bodyOf Try.f7)], .normal, initSt Try.f7.ntmps [.v (.a a.its), .v (.c (.int .i64 n)), .v (.c (.int .u32 s)), .v (.c (.int .u32 t))]⟩ : Cfg)) [false]).cfg.k = ti_k := by kernel_rfl
theorem ti (a : G1D) (n s t:Int) (ho : AllP [((Bool.not (onG a)) = false)]) (hs : Sim w0 F0 K ac (initSt Try.f7.ntmps [.v (.a a.its),.v (.c (.int .i64 n)),.v (.c (.int .u32 s)),.v (.c (.int .u32 t))]) cX aX) (hK : ∀ ac cY aY,Sim w0 F0 K ac (mkSt 94 [1,2,3,4,11,37,38] [(.ii (ite ((40:Int) < (ite ((0:Int) > n) (0:Int) n)) (40:Int) (ite ((0:Int) > n) (0:Int) n))),(.v (.c (.int .u32 s))),(.v (.c (.int .u32 t))),.pt 16 0,.pt 176 0,(.ii (ite ((40:Int) < (ite ((0:Int) > n) (0:Int) n)) (40:Int) (ite ((0:Int) > n) (0:Int) n))),.ii (0:Int)] [16,176] [(some (.fl [(.ob (.fp (G1D.x a))),(.ob (.fp (G1D.y a))),(.bool (G1D.inf a))])),(some (.fl [(.ob (.fp (G1D.x (G1D.mk (0:U6) (0:U6) true)))),(.ob (.fp (G1D.y (G1D.mk (0:U6) (0:U6) true)))),(.bool (G1D.inf (G1D.mk (0:U6) (0:U6) true)))]))] 240 [] []) cY aY → Wq Try.prog Q (ti_k) ac Exit.normal aY cY.w) : Wq Try.prog Q ([.code (bodyOf Try.f7)]) ac .normal aX cX.w :=
  run_at2 (o := ⟨_, _, _, _, _, _, _⟩) qwC_ok (by kernel_rfl) (ti_hk a n s t) ho hs hK
noncomputable def tiS (a : G1D) (m s t:Int) (o : G1D) (j:Int) : St := mkSt 94 [1,2,3,4,11,37,38] [.v (.c (.int .i64 m)),(.v (.c (.int .u32 s))),(.v (.c (.int .u32 t))),.pt 16 0,.pt 176 0,.v (.c (.int .i64 m)),.v (.c (.int .i64 j))] [16,176] [(some (.fl [(.ob (.fp (G1D.x a))),(.ob (.fp (G1D.y a))),(.bool (G1D.inf a))])),some (.fl [.ob (.fp o.x),.ob (.fp o.y),.bool o.inf])] 240 [] []
theorem tiB_hk (a : G1D) (m s t : Int) (o : G1D) (j : Int) : (run qwC false 3000 ((⟨lpIn ti_k, .normal, tiS a m s t o j⟩ : Cfg)) [true]).cfg.k = lpBk ti_k := by kernel_rfl
theorem tiB (a : G1D) (m s t:Int) (o : G1D) (j:Int) (ho : AllP [((decide (j < m)) = true)]) (hs : Sim w0 F0 K ac (tiS a m s t o j) cX aX) (hK : ∀ ac cY aY,Sim w0 F0 K ac (mkSt 94 [1,2,3,4,11,37,38] [.ii m,(.v (.c (.int .u32 s))),(.v (.c (.int .u32 t))),.pt 16 0,.pt 176 0,.ii m,(.ii (IntKind.wrap .i64 (j + (1:Int))))] [16,176] [(some (.fl [(.ob (.fp (G1D.x a))),(.ob (.fp (G1D.y a))),(.bool (G1D.inf a))])),(some (.fl [(.ob (.fp (G1D.x (Prod.fst (adR o a))))),(.ob (.fp (G1D.y (Prod.fst (adR o a))))),(.bool (G1D.inf (Prod.fst (adR o a))))]))] 352 [] []) cY aY → Wq Try.prog Q (lpBk ti_k) ac Exit.normal aY cY.w) : Wq Try.prog Q (lpIn ti_k) ac .normal aX cX.w :=
  run_at2 (o := ⟨_, _, _, _, _, _, _⟩) qwC_ok (by kernel_rfl) (tiB_hk a m s t o j) ho hs hK
theorem tiX_end (a : G1D) (m s t:Int) (o : G1D) (j:Int) : runEnd qwC Try.f7 false 3000 (⟨lpIn ti_k,.normal,tiS a m s t o j⟩) [false,true,true,true] [] [] = (some ([((decide (j < m)) = false),((0:Int) ≤ (IntKind.wrap .u64 s)),((IntKind.wrap .u64 s) < (18446744073709551616:Int)),((0:Int) ≤ (0:Int)),((0:Int) < (18446744073709551616:Int)),((0:Int) ≤ (0:Int)),((0:Int) < (18446744073709551616:Int)),((0:Int) ≤ (0:Int)),((0:Int) < (18446744073709551616:Int)),((0:Int) ≤ (IntKind.wrap .u64 t)),((IntKind.wrap .u64 t) < (18446744073709551616:Int)),((0:Int) ≤ (0:Int)),((0:Int) < (18446744073709551616:Int)),((0:Int) ≤ (0:Int)),((0:Int) < (18446744073709551616:Int)),((0:Int) ≤ (0:Int)),((0:Int) < (18446744073709551616:Int)),(true = true),((0:Int) ≤ (IntKind.wrap .u64 m)),((IntKind.wrap .u64 m) < (18446744073709551616:Int)),((0:Int) ≤ (0:Int)),((0:Int) < (18446744073709551616:Int)),((0:Int) ≤ (0:Int)),((0:Int) < (18446744073709551616:Int)),((0:Int) ≤ (0:Int)),((0:Int) < (18446744073709551616:Int)),((ite (true = true) (Bool.and (decide ((G1D.x (Prod.fst (muR a (Fin.ofNat B4 (((IntKind.wrap .u64 m)).toNat + 0))))) = (G1D.x o))) (Bool.and (decide ((G1D.y (Prod.fst (muR a (Fin.ofNat B4 (((IntKind.wrap .u64 m)).toNat + 0))))) = (G1D.y o))) ((G1D.inf (Prod.fst (muR a (Fin.ofNat B4 (((IntKind.wrap .u64 m)).toNat + 0))))) == (G1D.inf o)))) (Bool.not (Bool.and (decide ((G1D.x (Prod.fst (muR a (Fin.ofNat B4 (((IntKind.wrap .u64 m)).toNat + 0))))) = (G1D.x o))) (Bool.and (decide ((G1D.y (Prod.fst (muR a (Fin.ofNat B4 (((IntKind.wrap .u64 m)).toNat + 0))))) = (G1D.y o))) ((G1D.inf (Prod.fst (muR a (Fin.ofNat B4 (((IntKind.wrap .u64 m)).toNat + 0))))) == (G1D.inf o)))))) = true),((0:Int) ≤ (IntKind.wrap .u64 ((IntKind.wrap .u64 s) + (IntKind.wrap .u64 t)))),((IntKind.wrap .u64 ((IntKind.wrap .u64 s) + (IntKind.wrap .u64 t))) < (18446744073709551616:Int)),((0:Int) ≤ (0:Int)),((0:Int) < (18446744073709551616:Int)),((0:Int) ≤ (0:Int)),((0:Int) < (18446744073709551616:Int)),((0:Int) ≤ (0:Int)),((0:Int) < (18446744073709551616:Int)),((ite (true = true) (Bool.and (decide ((G1D.x (Prod.fst (adR (Prod.fst (muR a (Fin.ofNat B4 (((IntKind.wrap .u64 s)).toNat + 0)))) (Prod.fst (muR a (Fin.ofNat B4 (((IntKind.wrap .u64 t)).toNat + 0))))))) = (G1D.x (Prod.fst (muR a (Fin.ofNat B4 (((IntKind.wrap .u64 ((IntKind.wrap .u64 s) + (IntKind.wrap .u64 t)))).toNat + 0))))))) (Bool.and (decide ((G1D.y (Prod.fst (adR (Prod.fst (muR a (Fin.ofNat B4 (((IntKind.wrap .u64 s)).toNat + 0)))) (Prod.fst (muR a (Fin.ofNat B4 (((IntKind.wrap .u64 t)).toNat + 0))))))) = (G1D.y (Prod.fst (muR a (Fin.ofNat B4 (((IntKind.wrap .u64 ((IntKind.wrap .u64 s) + (IntKind.wrap .u64 t)))).toNat + 0))))))) ((G1D.inf (Prod.fst (adR (Prod.fst (muR a (Fin.ofNat B4 (((IntKind.wrap .u64 s)).toNat + 0)))) (Prod.fst (muR a (Fin.ofNat B4 (((IntKind.wrap .u64 t)).toNat + 0))))))) == (G1D.inf (Prod.fst (muR a (Fin.ofNat B4 (((IntKind.wrap .u64 ((IntKind.wrap .u64 s) + (IntKind.wrap .u64 t)))).toNat + 0)))))))) (Bool.not (Bool.and (decide ((G1D.x (Prod.fst (adR (Prod.fst (muR a (Fin.ofNat B4 (((IntKind.wrap .u64 s)).toNat + 0)))) (Prod.fst (muR a (Fin.ofNat B4 (((IntKind.wrap .u64 t)).toNat + 0))))))) = (G1D.x (Prod.fst (muR a (Fin.ofNat B4 (((IntKind.wrap .u64 ((IntKind.wrap .u64 s) + (IntKind.wrap .u64 t)))).toNat + 0))))))) (Bool.and (decide ((G1D.y (Prod.fst (adR (Prod.fst (muR a (Fin.ofNat B4 (((IntKind.wrap .u64 s)).toNat + 0)))) (Prod.fst (muR a (Fin.ofNat B4 (((IntKind.wrap .u64 t)).toNat + 0))))))) = (G1D.y (Prod.fst (muR a (Fin.ofNat B4 (((IntKind.wrap .u64 ((IntKind.wrap .u64 s) + (IntKind.wrap .u64 t)))).toNat + 0))))))) ((G1D.inf (Prod.fst (adR (Prod.fst (muR a (Fin.ofNat B4 (((IntKind.wrap .u64 s)).toNat + 0)))) (Prod.fst (muR a (Fin.ofNat B4 (((IntKind.wrap .u64 t)).toNat + 0))))))) == (G1D.inf (Prod.fst (muR a (Fin.ofNat B4 (((IntKind.wrap .u64 ((IntKind.wrap .u64 s) + (IntKind.wrap .u64 t)))).toNat + 0)))))))))) = true),((0:Int) ≤ (IntKind.wrap .u64 t)),((IntKind.wrap .u64 t) < (18446744073709551616:Int)),((0:Int) ≤ (0:Int)),((0:Int) < (18446744073709551616:Int)),((0:Int) ≤ (0:Int)),((0:Int) < (18446744073709551616:Int)),((0:Int) ≤ (0:Int)),((0:Int) < (18446744073709551616:Int)),((0:Int) ≤ (IntKind.wrap .u64 ((IntKind.wrap .u64 s) * (IntKind.wrap .u64 t)))),((IntKind.wrap .u64 ((IntKind.wrap .u64 s) * (IntKind.wrap .u64 t))) < (18446744073709551616:Int)),((0:Int) ≤ (0:Int)),((0:Int) < (18446744073709551616:Int)),((0:Int) ≤ (0:Int)),((0:Int) < (18446744073709551616:Int)),((0:Int) ≤ (0:Int)),((0:Int) < (18446744073709551616:Int))],((.v (.c (.bool (ite (true = true) (Bool.and (decide ((G1D.x (Prod.fst (muR (Prod.fst (muR a (Fin.ofNat B4 (((IntKind.wrap .u64 s)).toNat + 0)))) (Fin.ofNat B4 (((IntKind.wrap .u64 t)).toNat + 0))))) = (G1D.x (Prod.fst (muR a (Fin.ofNat B4 (((IntKind.wrap .u64 ((IntKind.wrap .u64 s) * (IntKind.wrap .u64 t)))).toNat + 0))))))) (Bool.and (decide ((G1D.y (Prod.fst (muR (Prod.fst (muR a (Fin.ofNat B4 (((IntKind.wrap .u64 s)).toNat + 0)))) (Fin.ofNat B4 (((IntKind.wrap .u64 t)).toNat + 0))))) = (G1D.y (Prod.fst (muR a (Fin.ofNat B4 (((IntKind.wrap .u64 ((IntKind.wrap .u64 s) * (IntKind.wrap .u64 t)))).toNat + 0))))))) ((G1D.inf (Prod.fst (muR (Prod.fst (muR a (Fin.ofNat B4 (((IntKind.wrap .u64 s)).toNat + 0)))) (Fin.ofNat B4 (((IntKind.wrap .u64 t)).toNat + 0))))) == (G1D.inf (Prod.fst (muR a (Fin.ofNat B4 (((IntKind.wrap .u64 ((IntKind.wrap .u64 s) * (IntKind.wrap .u64 t)))).toNat + 0)))))))) (Bool.not (Bool.and (decide ((G1D.x (Prod.fst (muR (Prod.fst (muR a (Fin.ofNat B4 (((IntKind.wrap .u64 s)).toNat + 0)))) (Fin.ofNat B4 (((IntKind.wrap .u64 t)).toNat + 0))))) = (G1D.x (Prod.fst (muR a (Fin.ofNat B4 (((IntKind.wrap .u64 ((IntKind.wrap .u64 s) * (IntKind.wrap .u64 t)))).toNat + 0))))))) (Bool.and (decide ((G1D.y (Prod.fst (muR (Prod.fst (muR a (Fin.ofNat B4 (((IntKind.wrap .u64 s)).toNat + 0)))) (Fin.ofNat B4 (((IntKind.wrap .u64 t)).toNat + 0))))) = (G1D.y (Prod.fst (muR a (Fin.ofNat B4 (((IntKind.wrap .u64 ((IntKind.wrap .u64 s) * (IntKind.wrap .u64 t)))).toNat + 0))))))) ((G1D.inf (Prod.fst (muR (Prod.fst (muR a (Fin.ofNat B4 (((IntKind.wrap .u64 s)).toNat + 0)))) (Fin.ofNat B4 (((IntKind.wrap .u64 t)).toNat + 0))))) == (G1D.inf (Prod.fst (muR a (Fin.ofNat B4 (((IntKind.wrap .u64 ((IntKind.wrap .u64 s) * (IntKind.wrap .u64 t)))).toNat + 0))))))))))))),[]))) := by kernel_rfl
end
end Go.Proofs.Ytkfcphigoncgjaa

/- OneOrder's and OneNegs' laws, walked. No conditions. -/
namespace Go.Proofs.Ytkfcphigoncgjaa

noncomputable def uaA : Env := qwC.or S4.gK
theorem uaA_ok : EnvOk Try.prog uaA := env_or qwC_ok S4.gK_ok
--@env uaA uaA_ok
theorem grA (a b : U6) (i : Bool) : fnRes uaA Try.f38 3000 [.v (.a [.ob (.fp a),.ob (.fp b),.bool i])] [true] [] [] = (some ([((onG (G1D.mk a b i)) = true)],((.v (.c (.bool (decide ((Prod.snd (Prod.snd (jmn (inG (G1D.mk a b i)) (dgT 52435875175126190479447740508185965837690552500527637822603658699938581184513 64)))) = (0:Fp)))))),[]))) := by kernel_rfl
theorem grB (a b : U6) (i : Bool) : fnRes uaA Try.f38 3000 [.v (.a [.ob (.fp a),.ob (.fp b),.bool i])] [false] [] [] = (some ([((onG (G1D.mk a b i)) = false)],((.v (.c (.lit false))),[]))) := by kernel_rfl
/-- Whether a point is of the group. -/
def grp (a : G1D) : Bool := onG a && decide ((jmn (inG a) (dgT 52435875175126190479447740508185965837690552500527637822603658699938581184513 64)).2.2 = 0)
theorem grp_fnd (a b : U6) (i : Bool) : FnD Try.prog 38 [.v (.a [.ob (.fp a), .ob (.fp b), .bool i])] (.v (.c (.bool (grp ⟨a, b, i⟩)))) [] := by
  by_cases h1 : onG ⟨a, b, i⟩ = true
  · have e : grp ⟨a, b, i⟩ = decide ((jmn (inG ⟨a, b, i⟩) (dgT 52435875175126190479447740508185965837690552500527637822603658699938581184513 64)).2.2 = 0) := by unfold grp; rw [h1, Bool.true_and]
    rw [e]
    exact fn_sound uaA_ok Try.func38 (grA a b i) ⟨h1, trivial⟩
  · have h1 : onG ⟨a, b, i⟩ = false := Bool.eq_false_iff.2 h1
    have e : grp ⟨a, b, i⟩ = false := by unfold grp; rw [h1, Bool.false_and]
    rw [e]
    exact (fn_sound uaA_ok Try.func38 (grB a b i) ⟨h1, trivial⟩).conv (fun _ _ h => h) fun y v hd => lit_bool rfl hd
def grpSpec : FnSpec
  | [.v (.a [.ob (.fp a), .ob (.fp b), .bool i])] => some ([], .v (.c (.bool (grp ⟨a, b, i⟩))), [])
  | _ => none
noncomputable def uaB : Env := uaA.set (addT uaA.fn 38 grpSpec)
theorem uaB_ok : EnvOk Try.prog uaB := env_add uaA_ok 38 grpSpec (enters_of Try.func38 rfl rfl) fun args o r es h _ => by
  unfold grpSpec at h
  split at h
  · cases h; exact grp_fnd _ _ _
  · cases h
--@env uaB uaB_ok
theorem oorA (a : G1D) (k l : U4) : fnRes uaB Try.f9 3000 [.v (.a a.its),.v (.a [.ob (.fr k)]),.v (.a [.ob (.fr l)])] [true,true] [] [] = (some ([((Bool.not (onG a)) = true),(true = true)],((.v (.c (.bool (Bool.not (grp a))))),[]))) := by kernel_rfl
theorem oorB (a : G1D) (k l : U4) : fnRes uaB Try.f9 3000 [.v (.a a.its),.v (.a [.ob (.fr k)]),.v (.a [.ob (.fr l)])] [false,false,false,true] [] [] = (some ([((Bool.not (onG a)) = false),((ite (false = true) ((ite (true = true) (Bool.and (decide ((G1D.x (Prod.fst (muR a S4.rU))) = (G1D.x (G1D.mk (0:U6) (0:U6) true)))) (Bool.and (decide ((G1D.y (Prod.fst (muR a S4.rU))) = (G1D.y (G1D.mk (0:U6) (0:U6) true)))) ((G1D.inf (Prod.fst (muR a S4.rU))) == (G1D.inf (G1D.mk (0:U6) (0:U6) true))))) (Bool.not (Bool.and (decide ((G1D.x (Prod.fst (muR a S4.rU))) = (G1D.x (G1D.mk (0:U6) (0:U6) true)))) (Bool.and (decide ((G1D.y (Prod.fst (muR a S4.rU))) = (G1D.y (G1D.mk (0:U6) (0:U6) true)))) ((G1D.inf (Prod.fst (muR a S4.rU))) == (G1D.inf (G1D.mk (0:U6) (0:U6) true))))))) == (grp a)) (Bool.not ((ite (true = true) (Bool.and (decide ((G1D.x (Prod.fst (muR a S4.rU))) = (G1D.x (G1D.mk (0:U6) (0:U6) true)))) (Bool.and (decide ((G1D.y (Prod.fst (muR a S4.rU))) = (G1D.y (G1D.mk (0:U6) (0:U6) true)))) ((G1D.inf (Prod.fst (muR a S4.rU))) == (G1D.inf (G1D.mk (0:U6) (0:U6) true))))) (Bool.not (Bool.and (decide ((G1D.x (Prod.fst (muR a S4.rU))) = (G1D.x (G1D.mk (0:U6) (0:U6) true)))) (Bool.and (decide ((G1D.y (Prod.fst (muR a S4.rU))) = (G1D.y (G1D.mk (0:U6) (0:U6) true)))) ((G1D.inf (Prod.fst (muR a S4.rU))) == (G1D.inf (G1D.mk (0:U6) (0:U6) true))))))) == (grp a)))) = false),((Bool.not true) = false),((Bool.not (ite (true = true) (Bool.and (decide ((G1D.x (Prod.fst (muR a S4.rU))) = (G1D.x (G1D.mk (0:U6) (0:U6) true)))) (Bool.and (decide ((G1D.y (Prod.fst (muR a S4.rU))) = (G1D.y (G1D.mk (0:U6) (0:U6) true)))) ((G1D.inf (Prod.fst (muR a S4.rU))) == (G1D.inf (G1D.mk (0:U6) (0:U6) true))))) (Bool.not (Bool.and (decide ((G1D.x (Prod.fst (muR a S4.rU))) = (G1D.x (G1D.mk (0:U6) (0:U6) true)))) (Bool.and (decide ((G1D.y (Prod.fst (muR a S4.rU))) = (G1D.y (G1D.mk (0:U6) (0:U6) true)))) ((G1D.inf (Prod.fst (muR a S4.rU))) == (G1D.inf (G1D.mk (0:U6) (0:U6) true)))))))) = true)],((.v (.c (.lit true))),[]))) := by kernel_rfl
theorem oorC (a : G1D) (k l : U4) : fnRes uaB Try.f9 3000 [.v (.a a.its),.v (.a [.ob (.fr k)]),.v (.a [.ob (.fr l)])] [false,false,false,false,true,true,true] [] [] = (some ([((Bool.not (onG a)) = false),((ite (false = true) ((ite (true = true) (Bool.and (decide ((G1D.x (Prod.fst (muR a S4.rU))) = (G1D.x (G1D.mk (0:U6) (0:U6) true)))) (Bool.and (decide ((G1D.y (Prod.fst (muR a S4.rU))) = (G1D.y (G1D.mk (0:U6) (0:U6) true)))) ((G1D.inf (Prod.fst (muR a S4.rU))) == (G1D.inf (G1D.mk (0:U6) (0:U6) true))))) (Bool.not (Bool.and (decide ((G1D.x (Prod.fst (muR a S4.rU))) = (G1D.x (G1D.mk (0:U6) (0:U6) true)))) (Bool.and (decide ((G1D.y (Prod.fst (muR a S4.rU))) = (G1D.y (G1D.mk (0:U6) (0:U6) true)))) ((G1D.inf (Prod.fst (muR a S4.rU))) == (G1D.inf (G1D.mk (0:U6) (0:U6) true))))))) == (grp a)) (Bool.not ((ite (true = true) (Bool.and (decide ((G1D.x (Prod.fst (muR a S4.rU))) = (G1D.x (G1D.mk (0:U6) (0:U6) true)))) (Bool.and (decide ((G1D.y (Prod.fst (muR a S4.rU))) = (G1D.y (G1D.mk (0:U6) (0:U6) true)))) ((G1D.inf (Prod.fst (muR a S4.rU))) == (G1D.inf (G1D.mk (0:U6) (0:U6) true))))) (Bool.not (Bool.and (decide ((G1D.x (Prod.fst (muR a S4.rU))) = (G1D.x (G1D.mk (0:U6) (0:U6) true)))) (Bool.and (decide ((G1D.y (Prod.fst (muR a S4.rU))) = (G1D.y (G1D.mk (0:U6) (0:U6) true)))) ((G1D.inf (Prod.fst (muR a S4.rU))) == (G1D.inf (G1D.mk (0:U6) (0:U6) true))))))) == (grp a)))) = false),((Bool.not true) = false),((Bool.not (ite (true = true) (Bool.and (decide ((G1D.x (Prod.fst (muR a S4.rU))) = (G1D.x (G1D.mk (0:U6) (0:U6) true)))) (Bool.and (decide ((G1D.y (Prod.fst (muR a S4.rU))) = (G1D.y (G1D.mk (0:U6) (0:U6) true)))) ((G1D.inf (Prod.fst (muR a S4.rU))) == (G1D.inf (G1D.mk (0:U6) (0:U6) true))))) (Bool.not (Bool.and (decide ((G1D.x (Prod.fst (muR a S4.rU))) = (G1D.x (G1D.mk (0:U6) (0:U6) true)))) (Bool.and (decide ((G1D.y (Prod.fst (muR a S4.rU))) = (G1D.y (G1D.mk (0:U6) (0:U6) true)))) ((G1D.inf (Prod.fst (muR a S4.rU))) == (G1D.inf (G1D.mk (0:U6) (0:U6) true)))))))) = false),((ite (true = true) (Bool.and (decide ((G1D.x (Prod.fst (muR a k))) = (G1D.x (Prod.fst (muR a (S4.outF (S4.inF k))))))) (Bool.and (decide ((G1D.y (Prod.fst (muR a k))) = (G1D.y (Prod.fst (muR a (S4.outF (S4.inF k))))))) ((G1D.inf (Prod.fst (muR a k))) == (G1D.inf (Prod.fst (muR a (S4.outF (S4.inF k)))))))) (Bool.not (Bool.and (decide ((G1D.x (Prod.fst (muR a k))) = (G1D.x (Prod.fst (muR a (S4.outF (S4.inF k))))))) (Bool.and (decide ((G1D.y (Prod.fst (muR a k))) = (G1D.y (Prod.fst (muR a (S4.outF (S4.inF k))))))) ((G1D.inf (Prod.fst (muR a k))) == (G1D.inf (Prod.fst (muR a (S4.outF (S4.inF k)))))))))) = true),((ite (true = true) (Bool.and (decide ((G1D.x (Prod.fst (adR (Prod.fst (muR a k)) (Prod.fst (muR a l))))) = (G1D.x (Prod.fst (muR a (S4.outF ((S4.inF k) + (S4.inF l)))))))) (Bool.and (decide ((G1D.y (Prod.fst (adR (Prod.fst (muR a k)) (Prod.fst (muR a l))))) = (G1D.y (Prod.fst (muR a (S4.outF ((S4.inF k) + (S4.inF l)))))))) ((G1D.inf (Prod.fst (adR (Prod.fst (muR a k)) (Prod.fst (muR a l))))) == (G1D.inf (Prod.fst (muR a (S4.outF ((S4.inF k) + (S4.inF l))))))))) (Bool.not (Bool.and (decide ((G1D.x (Prod.fst (adR (Prod.fst (muR a k)) (Prod.fst (muR a l))))) = (G1D.x (Prod.fst (muR a (S4.outF ((S4.inF k) + (S4.inF l)))))))) (Bool.and (decide ((G1D.y (Prod.fst (adR (Prod.fst (muR a k)) (Prod.fst (muR a l))))) = (G1D.y (Prod.fst (muR a (S4.outF ((S4.inF k) + (S4.inF l)))))))) ((G1D.inf (Prod.fst (adR (Prod.fst (muR a k)) (Prod.fst (muR a l))))) == (G1D.inf (Prod.fst (muR a (S4.outF ((S4.inF k) + (S4.inF l))))))))))) = true),((ite (true = true) (Bool.and (decide ((G1D.x (Prod.fst (muR (Prod.fst (muR a k)) l))) = (G1D.x (Prod.fst (muR a (S4.outF ((S4.inF k) * (S4.inF l)))))))) (Bool.and (decide ((G1D.y (Prod.fst (muR (Prod.fst (muR a k)) l))) = (G1D.y (Prod.fst (muR a (S4.outF ((S4.inF k) * (S4.inF l)))))))) ((G1D.inf (Prod.fst (muR (Prod.fst (muR a k)) l))) == (G1D.inf (Prod.fst (muR a (S4.outF ((S4.inF k) * (S4.inF l))))))))) (Bool.not (Bool.and (decide ((G1D.x (Prod.fst (muR (Prod.fst (muR a k)) l))) = (G1D.x (Prod.fst (muR a (S4.outF ((S4.inF k) * (S4.inF l)))))))) (Bool.and (decide ((G1D.y (Prod.fst (muR (Prod.fst (muR a k)) l))) = (G1D.y (Prod.fst (muR a (S4.outF ((S4.inF k) * (S4.inF l)))))))) ((G1D.inf (Prod.fst (muR (Prod.fst (muR a k)) l))) == (G1D.inf (Prod.fst (muR a (S4.outF ((S4.inF k) * (S4.inF l))))))))))) = true)],((.v (.c (.bool (grp (Prod.fst (muR a k)))))),[]))) := by kernel_rfl
theorem onsA (a : G1D) (k : U4) : fnRes uaB Try.f11 3000 [.v (.a a.its),.v (.a [.ob (.fr k)])] [true] [] [] = (some ([((Bool.not (onG a)) = true)],((.v (.c (.bool true))),[]))) := by kernel_rfl
theorem onsB (a : G1D) (k : U4) : fnRes uaB Try.f11 3000 [.v (.a a.its),.v (.a [.ob (.fr k)])] [false,false,false,false,false,false] [] [] = (some ([((Bool.not (onG a)) = false),(((Prod.snd (neR a)) != (0:Int)) = false),(((Prod.snd (neR (Prod.fst (muR a k)))) != (0:Int)) = false),((ite (false = true) (Bool.and (decide ((G1D.x (Prod.fst (muR (Prod.fst (neR a)) k))) = (G1D.x (Prod.fst (neR (Prod.fst (muR a k))))))) (Bool.and (decide ((G1D.y (Prod.fst (muR (Prod.fst (neR a)) k))) = (G1D.y (Prod.fst (neR (Prod.fst (muR a k))))))) ((G1D.inf (Prod.fst (muR (Prod.fst (neR a)) k))) == (G1D.inf (Prod.fst (neR (Prod.fst (muR a k)))))))) (Bool.not (Bool.and (decide ((G1D.x (Prod.fst (muR (Prod.fst (neR a)) k))) = (G1D.x (Prod.fst (neR (Prod.fst (muR a k))))))) (Bool.and (decide ((G1D.y (Prod.fst (muR (Prod.fst (neR a)) k))) = (G1D.y (Prod.fst (neR (Prod.fst (muR a k))))))) ((G1D.inf (Prod.fst (muR (Prod.fst (neR a)) k))) == (G1D.inf (Prod.fst (neR (Prod.fst (muR a k)))))))))) = false),((Bool.not true) = false),((Bool.not (grp a)) = false)],((.v (.c (.bool (ite (true = true) (Bool.and (decide ((G1D.x (Prod.fst (adR (Prod.fst (muR a k)) (Prod.fst (muR a (S4.outF ((0:Fr) - (S4.inF k)))))))) = (G1D.x (G1D.mk (0:U6) (0:U6) true)))) (Bool.and (decide ((G1D.y (Prod.fst (adR (Prod.fst (muR a k)) (Prod.fst (muR a (S4.outF ((0:Fr) - (S4.inF k)))))))) = (G1D.y (G1D.mk (0:U6) (0:U6) true)))) ((G1D.inf (Prod.fst (adR (Prod.fst (muR a k)) (Prod.fst (muR a (S4.outF ((0:Fr) - (S4.inF k)))))))) == (G1D.inf (G1D.mk (0:U6) (0:U6) true))))) (Bool.not (Bool.and (decide ((G1D.x (Prod.fst (adR (Prod.fst (muR a k)) (Prod.fst (muR a (S4.outF ((0:Fr) - (S4.inF k)))))))) = (G1D.x (G1D.mk (0:U6) (0:U6) true)))) (Bool.and (decide ((G1D.y (Prod.fst (adR (Prod.fst (muR a k)) (Prod.fst (muR a (S4.outF ((0:Fr) - (S4.inF k)))))))) = (G1D.y (G1D.mk (0:U6) (0:U6) true)))) ((G1D.inf (Prod.fst (adR (Prod.fst (muR a k)) (Prod.fst (muR a (S4.outF ((0:Fr) - (S4.inF k)))))))) == (G1D.inf (G1D.mk (0:U6) (0:U6) true)))))))))),[]))) := by kernel_rfl
theorem onsC (a : G1D) (k : U4) : fnRes uaB Try.f11 3000 [.v (.a a.its),.v (.a [.ob (.fr k)])] [false,false,false,false,false,true] [] [] = (some ([((Bool.not (onG a)) = false),(((Prod.snd (neR a)) != (0:Int)) = false),(((Prod.snd (neR (Prod.fst (muR a k)))) != (0:Int)) = false),((ite (false = true) (Bool.and (decide ((G1D.x (Prod.fst (muR (Prod.fst (neR a)) k))) = (G1D.x (Prod.fst (neR (Prod.fst (muR a k))))))) (Bool.and (decide ((G1D.y (Prod.fst (muR (Prod.fst (neR a)) k))) = (G1D.y (Prod.fst (neR (Prod.fst (muR a k))))))) ((G1D.inf (Prod.fst (muR (Prod.fst (neR a)) k))) == (G1D.inf (Prod.fst (neR (Prod.fst (muR a k)))))))) (Bool.not (Bool.and (decide ((G1D.x (Prod.fst (muR (Prod.fst (neR a)) k))) = (G1D.x (Prod.fst (neR (Prod.fst (muR a k))))))) (Bool.and (decide ((G1D.y (Prod.fst (muR (Prod.fst (neR a)) k))) = (G1D.y (Prod.fst (neR (Prod.fst (muR a k))))))) ((G1D.inf (Prod.fst (muR (Prod.fst (neR a)) k))) == (G1D.inf (Prod.fst (neR (Prod.fst (muR a k)))))))))) = false),((Bool.not true) = false),((Bool.not (grp a)) = true)],((.v (.c (.lit true))),[]))) := by kernel_rfl
end Go.Proofs.Ytkfcphigoncgjaa

/- OneTimes' law returns true. No conditions. -/
namespace Go.Proofs.Ytkfcphigoncgjaa

theorem mul_of {a : G1D} (ha : onG a = true) {n : Nat} (h : n < 18446744073709551616) : (muR a (Fin.ofNat B4 n)).1 = gP (nmul (pG a) n) := by
  rw [congrArg Prod.fst (muR_on (Fin.ofNat B4 n) ha), mulG_is ha, ofN_val h]
theorem add_of {P Q : Pt Fp} (hP : OnC fp4 P) (hQ : OnC fp4 Q) : (adR (gP P) (gP Q)).1 = gP (gadd P Q) := by
  rw [congrArg Prod.fst (adR_on (onG_gP hP) (onG_gP hQ)), addG_is, pG_gP, pG_gP]

theorem oneTimes_fnd (a : G1D) (n s t : Int) (hs0 : 0 ≤ s) (hs1 : s < 4294967296) (ht0 : 0 ≤ t) (ht1 : t < 4294967296) :
    FnD Try.prog 7 [.v (.a a.its), .v (.c (.int .i64 n)), .v (.c (.int .u32 s)), .v (.c (.int .u32 t))] (.v (.c (.bool true))) [] := by
  by_cases ha : onG a = true
  · obtain ⟨S, rfl⟩ := Int.eq_ofNat_of_zero_le hs0
    obtain ⟨T, rfl⟩ := Int.eq_ofNat_of_zero_le ht0
    have hS : S < 4294967296 := by omega
    have hT : T < 4294967296 := by omega
    have hST : S * T < 18446744073709551616 := by
      have : S * T ≤ 4294967295 * 4294967295 := Nat.mul_le_mul (by omega) (by omega)
      omega
    refine fn_start (fn := Try.f7) (c := bodyOf Try.f7) Try.func7 rfl rfl fun cx ca hk hF hs => ?_
    refine ti a n S T ⟨by rw [ha]; rfl, trivial⟩ hs fun ac cY aY hs1 => ?_
    obtain ⟨m, hm, hm40⟩ : ∃ m : Nat, (ite ((40 : Int) < (ite ((0 : Int) > n) (0 : Int) n)) (40 : Int) (ite ((0 : Int) > n) (0 : Int) n)) = (m : Int) ∧ m ≤ 40 := by
      refine ⟨((ite ((40 : Int) < (ite ((0 : Int) > n) (0 : Int) n)) (40 : Int) (ite ((0 : Int) > n) (0 : Int) n))).toNat, ?_, ?_⟩ <;> (split <;> split <;> omega)
    rw [hm] at hs1
    obtain ⟨ea, oa⟩ := onG_is ha
    have hon := fun k => nmul_on cv1 oa k
    have e0 : (⟨0, 0, true⟩ : G1D) = gP (nmul (pG a) 0) := rfl
    rw [e0] at hs1
    refine loop_rule (ι := { j : Nat // j ≤ m }) (fun j => tiS a m S T (gP (nmul (pG a) j.1)) (j.1 : Int)) (fun j => m - j.1) (c := lpC ti_k) (k := lpR ti_k) (by kernel_rfl) (fun j ih ac cY aY hs => ?_) ⟨0, Nat.zero_le _⟩ (hs1.nx _)
    obtain ⟨j, hj⟩ := j
    simp only at ih hs
    by_cases hjm : j < m
    · refine tiB a m S T _ j ⟨decide_eq_true (by omega), trivial⟩ hs fun ac cZ aZ hs2 => ?_
      have e1 : (adR (gP (nmul (pG a) j)) a).1 = gP (nmul (pG a) (j + 1)) := by
        have := add_of (hon j) oa
        rw [ea] at this
        exact this
      rw [wrap_id (n := (j : Int) + 1) (by omega) (by omega), e1] at hs2
      exact ih ⟨j + 1, hjm⟩ (by show m - (j + 1) < m - j; omega) ac cZ aZ (hs2.nx _)
    · have hjm : j = m := by omega
      subst hjm
      have r := tiX_end a j S T (gP (nmul (pG a) j)) j
      have eS : IntKind.wrap IntKind.u64 (S : Int) = (S : Int) := wrap_u (by omega) (by omega)
      have eT : IntKind.wrap IntKind.u64 (T : Int) = (T : Int) := wrap_u (by omega) (by omega)
      have eJ : IntKind.wrap IntKind.u64 (j : Int) = (j : Int) := wrap_u (by omega) (by omega)
      have eA : IntKind.wrap IntKind.u64 ((S : Int) + (T : Int)) = ((S + T : Nat) : Int) := wrap_u (by omega) (by omega)
      have eM : IntKind.wrap IntKind.u64 ((S : Int) * (T : Int)) = ((S * T : Nat) : Int) := by
        rw [← Int.natCast_mul]
        exact wrap_u (by omega) (by omega)
      rw [eS, eT, eJ, eA, eM] at r
      rw [Int.toNat_natCast S, Int.toNat_natCast T, Int.toNat_natCast j, Int.toNat_natCast (S + T), Int.toNat_natCast (S * T), Nat.add_zero S, Nat.add_zero T, Nat.add_zero j, Nat.add_zero (S + T), Nat.add_zero (S * T)] at r
      have fS := mul_of ha (n := S) (by omega)
      have fT := mul_of ha (n := T) (by omega)
      have fJ := mul_of ha (n := j) (by omega)
      have fA := mul_of ha (n := S + T) (by omega)
      have fM := mul_of ha (n := S * T) hST
      have fG := add_of (hon S) (hon T)
      rw [← nmul_add cv1 oa] at fG
      have fX : (muR (gP (nmul (pG a) S)) (Fin.ofNat B4 T)).1 = gP (nmul (pG a) (S * T)) := by
        rw [mul_of (onG_gP (hon S)) (by omega), pG_gP, nmul_mul cv1 oa]
      rw [fS, fT, fJ, fA, fM, fG, fX] at r
      have b := eq_bits (a := gP (nmul (pG a) (S * T))) rfl
      rw [if_pos rfl, if_pos rfl, if_pos rfl, b, eq_bits (a := gP (nmul (pG a) j)) rfl, eq_bits (a := gP (nmul (pG a) (S + T))) rfl] at r
      refine run_end qwC_ok hk hF r ?_ (fun z w hd => hd) hs
      refine ⟨by simp, ?_⟩
      simp only [AllP, and_true, true_and]
      and_intros <;> first | rfl | omega
  · have ha : onG a = false := Bool.eq_false_iff.2 ha
    have hd := muR_off (Fin.ofNat B4 1) ha
    have r := tiA a n s t
    have hz : (decide ((muR a (Fin.ofNat B4 1)).1.x = 0) && (decide ((muR a (Fin.ofNat B4 1)).1.y = 0) && ((muR a (Fin.ofNat B4 1)).1.inf == false))) = true := eq_bits (b := g10) (by rw [hd])
    rw [if_pos rfl, hz] at r
    exact fn_sound qwC_ok Try.func7 r ⟨by rw [ha]; rfl, by decide, by decide, by decide, by decide, by decide, by decide, by decide, by decide, rfl, by rw [hd]; rfl, trivial⟩

end Go.Proofs.Ytkfcphigoncgjaa

/- OneOrder's and OneNegs' laws return true. No conditions. -/
namespace Go.Proofs.Ytkfcphigoncgjaa

theorem bits_eq (a b : G1D) : (decide (a.x = b.x) && (decide (a.y = b.y) && (a.inf == b.inf))) = true ↔ a = b := by
  refine ⟨fun h => ?_, eq_bits⟩
  obtain ⟨ax, ay, ai⟩ := a
  obtain ⟨bx, bY, bi⟩ := b
  rw [Bool.and_eq_true, Bool.and_eq_true, decide_eq_true_eq, decide_eq_true_eq, beq_iff_eq] at h
  obtain ⟨h1, h2, h3⟩ := h
  have h1 : ax = bx := h1
  have h2 : ay = bY := h2
  have h3 : ai = bi := h3
  rw [h1, h2, h3]

theorem gP_none {P : Pt Fp} : gP P = ⟨0, 0, true⟩ ↔ P = none := by
  constructor
  · intro h
    cases P with
    | none => rfl
    | some p => exact absurd (congrArg G1D.inf h) Bool.false_ne_true
  · rintro rfl; rfl

theorem mul_any {P : Pt Fp} (hP : OnC fp4 P) (k : U4) : (muR (gP P) k).1 = gP (nmul P k.val) := by
  rw [congrArg Prod.fst (muR_on k (onG_gP hP)), mulG_is (onG_gP hP), pG_gP]

theorem grp_is {P : Pt Fp} (hP : OnC fp4 P) : grp (gP P) = decide (nmul P rN = none) := by
  unfold grp
  rw [onG_gP hP, Bool.true_and]
  have h := jmn_zero cv1 hP (pG_gP P ▸ inG_jc (gP P)) (dgT 52435875175126190479447740508185965837690552500527637822603658699938581184513 64)
  rw [dgV_lit] at h
  generalize (dgT 52435875175126190479447740508185965837690552500527637822603658699938581184513 64) = t at h ⊢
  exact h

theorem zero_bits {P : Pt Fp} (hP : OnC fp4 P) : (decide ((muR (gP P) S4.rU).1.x = (G1D.mk 0 0 true).x) && (decide ((muR (gP P) S4.rU).1.y = (G1D.mk 0 0 true).y) && ((muR (gP P) S4.rU).1.inf == (G1D.mk 0 0 true).inf))) = grp (gP P) := by
  rw [grp_is hP]
  apply Bool.eq_iff_iff.2
  rw [bits_eq, mul_any hP, gP_none, decide_eq_true_eq, rU_val]
  exact Iff.rfl

theorem oneOrder_fnd (a : G1D) (k l : U4) : FnD Try.prog 9 [.v (.a a.its), .v (.a [.ob (.fr k)]), .v (.a [.ob (.fr l)])] (.v (.c (.bool true))) [] := by
  by_cases ha : onG a = true
  · obtain ⟨ea, hP⟩ := onG_is ha
    generalize pG a = P at ea hP
    subst ea
    have hZ := zero_bits hP
    have hg := grp_is hP
    by_cases hr : nmul P rN = none
    · rw [decide_eq_true hr] at hg
      have hm := nmul_mod cv1 hP hr
      have on := nmul_on cv1 hP
      have m1 := mul_any hP k
      have m2 := mul_any hP l
      have r := oorC (gP P) k l
      have g2 : grp (muR (gP P) k).1 = true := by
        rw [m1, grp_is (on _)]
        exact decide_eq_true (by rw [← nmul_mul cv1 hP, hm, Nat.mul_mod_left]; rfl)
      rw [g2] at r
      refine fn_sound uaB_ok Try.func9 r ⟨by rw [ha]; rfl, ?_, rfl, ?_, ?_, ?_, ?_, trivial⟩
      · rw [if_neg Bool.false_ne_true, if_pos rfl, hZ, hg]; rfl
      · rw [if_pos rfl, hZ, hg]; rfl
      · rw [if_pos rfl]
        exact eq_bits (by rw [m1, mul_any hP, clean_val, ← hm])
      · rw [if_pos rfl]
        exact eq_bits (by rw [m1, m2, mul_any hP, cadd_val, add_of (on _) (on _), ← nmul_add cv1 hP, ← hm])
      · rw [if_pos rfl]
        exact eq_bits (by rw [m1, mul_any (on _), mul_any hP, cmul_val, ← nmul_mul cv1 hP, ← hm])
    · rw [decide_eq_false hr] at hg
      refine (fn_sound uaB_ok Try.func9 (oorB (gP P) k l) ⟨by rw [ha]; rfl, ?_, rfl, ?_, trivial⟩).conv (fun _ _ h => h) fun y v hd => lit_bool rfl hd
      · rw [if_neg Bool.false_ne_true, if_pos rfl, hZ, hg]; rfl
      · rw [if_pos rfl, hZ, hg]; rfl
  · have ha : onG a = false := Bool.eq_false_iff.2 ha
    have r := oorA a k l
    have g : grp a = false := by unfold grp; rw [ha, Bool.false_and]
    rw [g] at r
    exact fn_sound uaB_ok Try.func9 r ⟨by rw [ha]; rfl, rfl, trivial⟩

theorem neg_any {P : Pt Fp} (hP : OnC fp4 P) : neR (gP P) = (gP (gneg P), 0) := by
  rw [neR_on (onG_gP hP), negG_is, pG_gP]

theorem oneNegs_fnd (a : G1D) (k : U4) : FnD Try.prog 11 [.v (.a a.its), .v (.a [.ob (.fr k)])] (.v (.c (.bool true))) [] := by
  by_cases ha : onG a = true
  · obtain ⟨ea, hP⟩ := onG_is ha
    generalize pG a = P at ea hP
    subst ea
    have on := nmul_on cv1 hP
    have m1 := mul_any hP k
    have n1 := neg_any hP
    have n2 := neg_any (on k.val)
    have m2 := mul_any (gneg_on _ hP) k
    rw [nmul_gneg cv1 hP] at m2
    have hg := grp_is hP
    have hb : (decide ((muR (neR (gP P)).1 k).1.x = (neR (muR (gP P) k).1).1.x) && (decide ((muR (neR (gP P)).1 k).1.y = (neR (muR (gP P) k).1).1.y) && ((muR (neR (gP P)).1 k).1.inf == (neR (muR (gP P) k).1).1.inf))) = true :=
      eq_bits (by rw [n1, m1, m2, n2])
    by_cases hr : nmul P rN = none
    · rw [decide_eq_true hr] at hg
      have hm := nmul_mod cv1 hP hr
      have r := onsB (gP P) k
      have hc : (decide ((adR (muR (gP P) k).1 (muR (gP P) (S4.outF (0 - S4.inF k))).1).1.x = (G1D.mk 0 0 true).x) && (decide ((adR (muR (gP P) k).1 (muR (gP P) (S4.outF (0 - S4.inF k))).1).1.y = (G1D.mk 0 0 true).y) && ((adR (muR (gP P) k).1 (muR (gP P) (S4.outF (0 - S4.inF k))).1).1.inf == (G1D.mk 0 0 true).inf))) = true :=
        eq_bits (by rw [m1, mul_any hP, add_of (on _) (on _), ← nmul_add cv1 hP, hm, cneg_val]; rfl)
      rw [if_pos rfl, hc] at r
      refine fn_sound uaB_ok Try.func11 r ⟨by rw [ha]; rfl, by rw [n1]; rfl, by rw [m1, n2]; rfl, ?_, rfl, by rw [hg]; rfl, trivial⟩
      rw [if_neg Bool.false_ne_true, hb]; rfl
    · rw [decide_eq_false hr] at hg
      refine (fn_sound uaB_ok Try.func11 (onsC (gP P) k) ⟨by rw [ha]; rfl, by rw [n1]; rfl, by rw [m1, n2]; rfl, ?_, rfl, by rw [hg]; rfl, trivial⟩).conv (fun _ _ h => h) fun y v hd => lit_bool rfl hd
      rw [if_neg Bool.false_ne_true, hb]; rfl
  · have ha : onG a = false := Bool.eq_false_iff.2 ha
    exact fn_sound uaB_ok Try.func11 (onsA a k) ⟨by rw [ha]; rfl, trivial⟩

end Go.Proofs.Ytkfcphigoncgjaa

/- All that the claims of a group need. No conditions. -/
namespace Go.Proofs.Ytkfcphigoncgjaa
end Go.Proofs.Ytkfcphigoncgjaa
