/- Parts of a proof, one behind the other: Gb, WEa, PEa, WMw, PMw, WTj, PTj, WKm, PKm, WKn, PKn, Kall. No conditions. -/
import Derived.Test.YtdeohachoeopdaaKzN
/- The second curve is a group: the plain law. No conditions. -/
namespace Go.Proofs.Ytdeohachoeopdaa

theorem neg1_p : (-1 : Fp) = Fin.ofNat pN (pN - 1) := by decide +kernel
theorem neg1_val : (Fin.ofNat pN (pN - 1)).val = pN - 1 := by decide +kernel
theorem halves_p : pN - 1 = (pN - 1) / 2 + (pN - 1) / 2 := by decide +kernel
theorem neg1_pow : mpow pN (pN - 1) 384 ((pN - 1) / 2) ≠ 1 := by decide +kernel
theorem half_lt : (pN - 1) / 2 < 2 ^ 384 := by decide +kernel
theorem neg1_ne : (0 : Fp) * 0 ≠ -1 := by decide +kernel
theorem no_root (t : Fp) : t * t ≠ -1 := by
  intro h
  by_cases ht : t = 0
  · rw [ht] at h
    exact neg1_ne h
  · have e := two_pw t ((pN - 1) / 2)
    rw [← halves_p, fermat_p t ht, h, neg1_p] at e
    have := congrArg Fin.val e
    rw [pw_mpow _ 384 _ half_lt, neg1_val, one_val_p] at this
    exact neg1_pow this

theorem one_ne_2 : (1 : F2) ≠ 0 := by decide +kernel
theorem two_ne_2 : (1 : F2) + 1 ≠ 0 := by decide +kernel
theorem norm_b : nQ2 ((0 : F2) - fq4) = Fin.ofNat pN 32 := by decide +kernel
theorem val32 : (Fin.ofNat pN 32).val = 32 := by decide +kernel
theorem pow32 : mpow pN 32 384 ((pN - 1) / 3) ≠ 1 := by decide +kernel

theorem neg_of_sum2 {a b : F2} (h : a + b = 0) : a = 0 - b := neg_of_sumR h
where neg_of_sumR {r : Nat} [NeZero r] {a b : Q2 r} (h : a + b = 0) : a = 0 - b := by grind

theorem no2_q (x : F2) : x * x * x + fq4 ≠ 0 := by
  intro h
  have h := congrArg nQ2 (neg_of_sum2 h)
  rw [norm_b, nQ2_mul, nQ2_mul] at h
  refine cube_ne _ (fun e => ?_) (fun e => ?_) (nQ2 x) h
  · have := congrArg Fin.val e
    rw [pw_mpow _ 384 _ third_lt, val32, one_val_p] at this
    exact pow32 this
  · have := congrArg Fin.val e
    rw [val32] at this
    revert this
    decide +kernel

instance fldQ : Fld F2 :=
  { (ringQ2 : CRing (Q2 pN)) with
    inv := ivQ2 ivP
    mul_inv := ivQ2_mul ivP ivP_mul (nQ2_zero ivP ivP_mul no_root)
    one_ne := one_ne_2 }

theorem cv2 : Cv fq4 := ⟨two_ne_2, no2_q⟩

/-- A point outside, as a point; and back. -/
def pG2 (a : G2D) : Pt F2 := if a.inf then none else some (inP2 a.xa a.xb, inP2 a.ya a.yb)
def gP2 : Pt F2 → G2D
  | none => ⟨0, 0, 0, 0, true⟩
  | some p => ⟨outP p.1.1, outP p.1.2, outP p.2.1, outP p.2.2, false⟩

theorem in_out2 (x : F2) : inP2 (outP x.1) (outP x.2) = x := by
  unfold inP2
  rw [in_out, in_out]

theorem pG_gP2 : ∀ P : Pt F2, pG2 (gP2 P) = P
  | none => rfl
  | some p => by
    show some (inP2 (outP p.1.1) (outP p.1.2), inP2 (outP p.2.1) (outP p.2.2)) = some p
    rw [in_out2, in_out2]

theorem onG2_is {a : G2D} (h : onG2 a = true) : gP2 (pG2 a) = a ∧ OnC fq4 (pG2 a) := by
  obtain ⟨xa, xb, ya, yb, i⟩ := a
  cases i with
  | true =>
    have h : (decide (xa = 0) && (decide (xb = 0) && (decide (ya = 0) && decide (yb = 0)))) = true := h
    simp only [Bool.and_eq_true, decide_eq_true_eq] at h
    obtain ⟨rfl, rfl, rfl, rfl⟩ := h
    exact ⟨rfl, True.intro⟩
  | false =>
    have h : ((decide (outP (inP xa) = xa) && decide (outP (inP xb) = xb)) && ((decide (outP (inP ya) = ya) && decide (outP (inP yb) = yb)) && decide (inP2 ya yb * inP2 ya yb = inP2 xa xb * inP2 xa xb * inP2 xa xb + fq4))) = true := h
    simp only [Bool.and_eq_true, decide_eq_true_eq] at h
    obtain ⟨⟨h1, h2⟩, ⟨h3, h4⟩, h5⟩ := h
    refine ⟨?_, h5⟩
    show (⟨outP (inP xa), outP (inP xb), outP (inP ya), outP (inP yb), false⟩ : G2D) = ⟨xa, xb, ya, yb, false⟩
    rw [h1, h2, h3, h4]

theorem onG2_gP : ∀ {P : Pt F2}, OnC fq4 P → onG2 (gP2 P) = true
  | none, _ => by
    show (decide ((0 : U6) = 0) && (decide ((0 : U6) = 0) && (decide ((0 : U6) = 0) && decide ((0 : U6) = 0)))) = true
    rw [decide_eq_true rfl]; rfl
  | some p, h => by
    have h : p.2 * p.2 = p.1 * p.1 * p.1 + fq4 := h
    show ((decide (outP (inP (outP p.1.1)) = outP p.1.1) && decide (outP (inP (outP p.1.2)) = outP p.1.2)) && ((decide (outP (inP (outP p.2.1)) = outP p.2.1) && decide (outP (inP (outP p.2.2)) = outP p.2.2)) && decide (inP2 (outP p.2.1) (outP p.2.2) * inP2 (outP p.2.1) (outP p.2.2) = inP2 (outP p.1.1) (outP p.1.2) * inP2 (outP p.1.1) (outP p.1.2) * inP2 (outP p.1.1) (outP p.1.2) + fq4))) = true
    rw [in_out2, in_out2, in_out, in_out, in_out, in_out, decide_eq_true rfl, decide_eq_true rfl, decide_eq_true rfl, decide_eq_true rfl, decide_eq_true h]
    rfl

theorem one_sq2 : (1 : F2) * 1 = 1 := by decide +kernel
theorem fq1_one : ((fp1, 0) : F2) = 1 := by decide +kernel
theorem mul_one_q {r : Nat} [NeZero r] (x : Q2 r) : x * 1 = x := by grind
theorem mul_one2 (x : F2) : x * 1 = x := mul_one_q x
theorem inG2_jc (a : G2D) : Jc (pG2 a) (inG2 a) := by
  obtain ⟨xa, xb, ya, yb, i⟩ := a
  cases i with
  | true => exact (rfl : (0 : F2) = 0)
  | false =>
    show Jc (some (inP2 xa xb, inP2 ya yb)) (inP2 xa xb, inP2 ya yb, (fp1, 0))
    rw [fq1_one]
    refine ⟨one_ne_2, ?_, ?_⟩
    · show inP2 xa xb = inP2 xa xb * (1 * 1)
      rw [one_sq2, mul_one2]
    · show inP2 ya yb = inP2 ya yb * (1 * 1 * 1)
      rw [one_sq2, one_sq2, mul_one2]

theorem outG2_jc {P : Pt F2} {t : F2 × F2 × F2} (h : Jc P t) : outG2 t = gP2 P := by
  rw [← jpt_of P t h]
  unfold outG2 jpt
  by_cases hz : t.2.2 = 0
  · rw [if_pos hz, if_pos hz]; rfl
  · rw [if_neg hz, if_neg hz]; rfl

theorem addG2_is (a b : G2D) : addG2 a b = gP2 (gadd (pG2 a) (pG2 b)) := outG2_jc (jpl_ok two_ne_2 _ _ _ _ (inG2_jc a) (inG2_jc b))
theorem negG2_is (a : G2D) : negG2 a = gP2 (gneg (pG2 a)) := outG2_jc (jng_ok _ _ (inG2_jc a))
theorem pG2_add (a b : G2D) : pG2 (addG2 a b) = gadd (pG2 a) (pG2 b) := by rw [addG2_is, pG_gP2]
theorem pG2_neg (a : G2D) : pG2 (negG2 a) = gneg (pG2 a) := by rw [negG2_is, pG_gP2]
theorem on_add2 {a b : G2D} (ha : onG2 a = true) (hb : onG2 b = true) : onG2 (addG2 a b) = true := by
  rw [addG2_is]
  exact onG2_gP (gadd_on cv2 _ _ (onG2_is ha).2 (onG2_is hb).2)
theorem on_neg2 {a : G2D} (ha : onG2 a = true) : onG2 (negG2 a) = true := by
  rw [negG2_is]
  exact onG2_gP (gneg_on _ (onG2_is ha).2)
theorem addG2_comm {a b : G2D} (ha : onG2 a = true) (hb : onG2 b = true) : addG2 a b = addG2 b a := by
  rw [addG2_is, addG2_is, gadd_comm cv2 _ _ (onG2_is ha).2 (onG2_is hb).2]
theorem addG2_assoc {a b c : G2D} (ha : onG2 a = true) (hb : onG2 b = true) (hc : onG2 c = true) : addG2 (addG2 a b) c = addG2 a (addG2 b c) := by
  rw [addG2_is (addG2 a b), pG2_add, addG2_is a (addG2 b c), pG2_add, gadd_assoc cv2 _ _ _ (onG2_is ha).2 (onG2_is hb).2 (onG2_is hc).2]
theorem addG2_zero {a : G2D} (ha : onG2 a = true) : addG2 a ⟨0, 0, 0, 0, true⟩ = a := by
  rw [addG2_is]
  show gP2 (gadd (pG2 a) none) = a
  rw [gadd_none, (onG2_is ha).1]
theorem addG2_neg {a : G2D} (ha : onG2 a = true) : addG2 a (negG2 a) = ⟨0, 0, 0, 0, true⟩ := by
  rw [addG2_is, pG2_neg, gadd_gneg cv2 _ (onG2_is ha).2]
  rfl
theorem on_zero2 : onG2 ⟨0, 0, 0, 0, true⟩ = true := onG2_gP (P := none) True.intro
end Go.Proofs.Ytdeohachoeopdaa

/- Sums and negatives of points of the second curve: contracts. No conditions. -/
namespace Go.Proofs.Ytdeohachoeopdaa

noncomputable def rtL : Env := rtG
theorem rtL_ok : EnvOk Try.prog rtL := rtG_ok
noncomputable def rtM : Env := rtL
theorem rtM_ok : EnvOk Try.prog rtM := rtL_ok
end Go.Proofs.Ytdeohachoeopdaa

/- The second curve: all so far. No conditions. -/
namespace Go.Proofs.Ytdeohachoeopdaa
end Go.Proofs.Ytdeohachoeopdaa

/- A point of the second curve as often as a number says: walked. No conditions. -/
namespace Go.Proofs.Ytdeohachoeopdaa
section
variable {w0 : World} {F0 : Nat → Prop} {K : Kp} {ac : List Act} {Q : Exit → Act → World → Prop} {cX : Ctx} {aX : Act}

--@env rtM rtM_ok
noncomputable def ny_k : List KI := (run rtM false 3000 ((fun (a b c d e f : Fp) (k : U4) => (⟨[.code (bodyOf Try.f27)], .normal, initSt Try.f27.ntmps [.v (.a [.ob (.p a), .ob (.p b), .ob (.p c), .ob (.p d), .ob (.p e), .ob (.p f)]), .v (.a [.ob (.fr k)])]⟩ : Cfg)) default default default default default default default) []).cfg.k
theorem ny_hk (a b c d e f : Fp) (k : U4) : (run rtM false 3000 ((⟨[.code (bodyOf Try.f27)], .normal, initSt Try.f27.ntmps [.v (.a [.ob (.p a), .ob (.p b), .ob (.p c), .ob (.p d), .ob (.p e), .ob (.p f)]), .v (.a [.ob (.fr k)])]⟩ : Cfg)) []).cfg.k = ny_k := by kernel_rfl
theorem ny (a b c d e f : Fp) (k : U4) (ho : AllP [((0:Int) ≤ (0:Int)),((0:Int) < (16:Int))]) (hs : Sim w0 F0 K ac (initSt Try.f27.ntmps [.v (.a [.ob (.p a),.ob (.p b),.ob (.p c),.ob (.p d),.ob (.p e),.ob (.p f)]),.v (.a [.ob (.fr k)])]) cX aX) (hK : ∀ ac cY aY,Sim w0 F0 K ac (mkSt 43 [2,3,4,5,6] [.pt 16 0,.pt 32 0,.pt 48 0,.pt 64 0,.ii (1:Int)] [16,32,48,64] [(some (.fl [.ob (.p a),.ob (.p b),.ob (.p c),.ob (.p d),.ob (.p e),.ob (.p f)])),(some (.fl [.ob (.fr k)])),(some (.fl [(.ob (.p (0:Fp))),(.ob (.p (0:Fp))),(.ob (.p (0:Fp))),(.ob (.p (0:Fp))),(.ob (.p (0:Fp))),(.ob (.p (0:Fp)))])),(some (.fl [.ob (.p a),.ob (.p b),.ob (.p c),.ob (.p d),(.ob (.p (0:Fp))),(.ob (.p (0:Fp))),(.ob (.p (0:Fp))),(.ob (.p (0:Fp))),(.ob (.p (0:Fp))),(.ob (.p (0:Fp))),(.ob (.p (0:Fp))),(.ob (.p (0:Fp))),(.ob (.p (0:Fp))),(.ob (.p (0:Fp))),(.ob (.p (0:Fp))),(.ob (.p (0:Fp))),(.ob (.p (0:Fp))),(.ob (.p (0:Fp))),(.ob (.p (0:Fp))),(.ob (.p (0:Fp))),(.ob (.p (0:Fp))),(.ob (.p (0:Fp))),(.ob (.p (0:Fp))),(.ob (.p (0:Fp))),(.ob (.p (0:Fp))),(.ob (.p (0:Fp))),(.ob (.p (0:Fp))),(.ob (.p (0:Fp))),(.ob (.p (0:Fp))),(.ob (.p (0:Fp))),(.ob (.p (0:Fp))),(.ob (.p (0:Fp))),(.ob (.p (0:Fp))),(.ob (.p (0:Fp))),(.ob (.p (0:Fp))),(.ob (.p (0:Fp))),(.ob (.p (0:Fp))),(.ob (.p (0:Fp))),(.ob (.p (0:Fp))),(.ob (.p (0:Fp))),(.ob (.p (0:Fp))),(.ob (.p (0:Fp))),(.ob (.p (0:Fp))),(.ob (.p (0:Fp))),(.ob (.p (0:Fp))),(.ob (.p (0:Fp))),(.ob (.p (0:Fp))),(.ob (.p (0:Fp))),(.ob (.p (0:Fp))),(.ob (.p (0:Fp))),(.ob (.p (0:Fp))),(.ob (.p (0:Fp))),(.ob (.p (0:Fp))),(.ob (.p (0:Fp))),(.ob (.p (0:Fp))),(.ob (.p (0:Fp))),(.ob (.p (0:Fp))),(.ob (.p (0:Fp))),(.ob (.p (0:Fp))),(.ob (.p (0:Fp))),(.ob (.p (0:Fp))),(.ob (.p (0:Fp))),(.ob (.p (0:Fp))),(.ob (.p (0:Fp))),(.ob (.p (0:Fp))),(.ob (.p (0:Fp))),(.ob (.p (0:Fp))),(.ob (.p (0:Fp))),(.ob (.p (0:Fp))),(.ob (.p (0:Fp))),(.ob (.p (0:Fp))),(.ob (.p (0:Fp))),(.ob (.p (0:Fp))),(.ob (.p (0:Fp))),(.ob (.p (0:Fp))),(.ob (.p (0:Fp))),(.ob (.p (0:Fp))),(.ob (.p (0:Fp))),(.ob (.p (0:Fp))),(.ob (.p (0:Fp))),(.ob (.p (0:Fp))),(.ob (.p (0:Fp))),(.ob (.p (0:Fp))),(.ob (.p (0:Fp))),(.ob (.p (0:Fp))),(.ob (.p (0:Fp))),(.ob (.p (0:Fp))),(.ob (.p (0:Fp))),(.ob (.p (0:Fp))),(.ob (.p (0:Fp))),(.ob (.p (0:Fp))),(.ob (.p (0:Fp))),(.ob (.p (0:Fp))),(.ob (.p (0:Fp))),(.ob (.p (0:Fp))),(.ob (.p (0:Fp)))]))] 208 [] []) cY aY → Wq Try.prog Q (ny_k) ac Exit.normal aY cY.w) : Wq Try.prog Q ([.code (bodyOf Try.f27)]) ac .normal aX cX.w :=
  run_at2 (o := ⟨_, _, _, _, _, _, _⟩) rtM_ok (by kernel_rfl) (ny_hk a b c d e f k) ho hs hK
noncomputable def nyS (a b c d e f : Fp) (k : U4) (L : List (F2 × F2 × F2)) (i:Int) : St := mkSt 43 [2,3,4,5,6] [.pt 16 0,.pt 32 0,.pt 48 0,.pt 64 0,.v (.c (.int .i64 i))] [16,32,48,64] [(some (.fl [.ob (.p a),.ob (.p b),.ob (.p c),.ob (.p d),.ob (.p e),.ob (.p f)])),(some (.fl [.ob (.fr k)])),(some (.fl [(.ob (.p (0:Fp))),(.ob (.p (0:Fp))),(.ob (.p (0:Fp))),(.ob (.p (0:Fp))),(.ob (.p (0:Fp))),(.ob (.p (0:Fp)))])),some (.sq (.pt2 L))] 208 [] []
theorem nyA_hk (a b c d e f : Fp) (k : U4) (L : List (F2 × F2 × F2)) (i : Int) : (run rtM false 3000 ((⟨lpIn ny_k, .normal, nyS a b c d e f k L i⟩ : Cfg)) [true]).cfg.k = lpBk ny_k := by kernel_rfl
theorem nyA (a b c d e f : Fp) (k : U4) (L : List (F2 × F2 × F2)) (i:Int) (ho : AllP [((decide (i < (16:Int))) = true),((0:Int) ≤ (IntKind.wrap .i64 (i - (1:Int)))),((IntKind.wrap .i64 (i - (1:Int))) < (16:Int)),(0 = 0),(((IntKind.wrap .i64 (i - (1:Int)))).toNat < (List.length L)),((0:Int) ≤ i),(i < (16:Int)),(0 = 0),((i).toNat < (List.length L))]) (hs : Sim w0 F0 K ac (nyS a b c d e f k L i) cX aX) (hK : ∀ ac cY aY,Sim w0 F0 K ac (mkSt 43 [2,3,4,5,6] [.pt 16 0,.pt 32 0,.pt 48 0,.pt 64 0,(.ii (IntKind.wrap .i64 (i + (1:Int))))] [16,32,48,64] [(some (.fl [.ob (.p a),.ob (.p b),.ob (.p c),.ob (.p d),.ob (.p e),.ob (.p f)])),(some (.fl [.ob (.fr k)])),(some (.fl [(.ob (.p (0:Fp))),(.ob (.p (0:Fp))),(.ob (.p (0:Fp))),(.ob (.p (0:Fp))),(.ob (.p (0:Fp))),(.ob (.p (0:Fp)))])),(some (.sq (Sq.pt2 (List.set L (i).toNat (jpl (List.getD L ((IntKind.wrap .i64 (i - (1:Int)))).toNat pt20) ((a,b),((c,d),(e,f))))))))] 432 [] []) cY aY → Wq Try.prog Q (lpBk ny_k) ac Exit.normal aY cY.w) : Wq Try.prog Q (lpIn ny_k) ac .normal aX cX.w :=
  run_at2 (o := ⟨_, _, _, _, _, _, _⟩) rtM_ok (by kernel_rfl) (nyA_hk a b c d e f k L i) ho hs hK
noncomputable def nyB_k : List KI := (run rtM false 3000 ((fun (a b c d e f : Fp) (k : U4) (L : List (F2 × F2 × F2)) (i : Int) => (⟨lpIn ny_k, .normal, nyS a b c d e f k L i⟩ : Cfg)) default default default default default default default default default) [false]).cfg.k
theorem nyB_hk (a b c d e f : Fp) (k : U4) (L : List (F2 × F2 × F2)) (i : Int) : (run rtM false 3000 ((⟨lpIn ny_k, .normal, nyS a b c d e f k L i⟩ : Cfg)) [false]).cfg.k = nyB_k := by kernel_rfl
theorem nyB (a b c d e f : Fp) (k : U4) (L : List (F2 × F2 × F2)) (i:Int) (ho : AllP [((decide (i < (16:Int))) = false),((0:Int) ≤ (0:Int)),((0:Int) < (16:Int)),(0 = 0),(0 < (List.length L))]) (hs : Sim w0 F0 K ac (nyS a b c d e f k L i) cX aX) (hK : ∀ ac cY aY,Sim w0 F0 K ac (mkSt 43 [4,5,7,30] [.pt 48 0,.pt 64 0,.pt 272 0,(.v (.c (.clo 73 [(320,0)])))] [48,64,272,320] [(some (.fl [(.ob (.p (0:Fp))),(.ob (.p (0:Fp))),(.ob (.p (0:Fp))),(.ob (.p (0:Fp))),(.ob (.p (0:Fp))),(.ob (.p (0:Fp)))])),(some (.sq (Sq.pt2 L))),(some (.fl [(.ob (.p (Prod.fst (Prod.fst (List.getD L 0 pt20))))),(.ob (.p (Prod.snd (Prod.fst (List.getD L 0 pt20))))),(.ob (.p (Prod.fst (Prod.fst (Prod.snd (List.getD L 0 pt20)))))),(.ob (.p (Prod.snd (Prod.fst (Prod.snd (List.getD L 0 pt20)))))),(.ob (.p (Prod.fst (Prod.snd (Prod.snd (List.getD L 0 pt20)))))),(.ob (.p (Prod.snd (Prod.snd (Prod.snd (List.getD L 0 pt20))))))])),(some (.fl [.ob (.fr k)]))] 384 [] []) cY aY → Wq Try.prog Q (nyB_k) ac Exit.normal aY cY.w) : Wq Try.prog Q (lpIn ny_k) ac .normal aX cX.w :=
  run_at2 (o := ⟨_, _, _, _, _, _, _⟩) rtM_ok (by kernel_rfl) (nyB_hk a b c d e f k L i) ho hs hK
noncomputable def nyR (k : U4) (L : List (F2 × F2 × F2)) (o : F2 × F2 × F2) : St := mkSt 43 [4,5,7,30] [.pt 48 0,.pt 64 0,.pt 272 0,(.v (.c (.clo 73 [(320,0)])))] [48,64,272,320] [(some (.fl [(.ob (.p (0:Fp))),(.ob (.p (0:Fp))),(.ob (.p (0:Fp))),(.ob (.p (0:Fp))),(.ob (.p (0:Fp))),(.ob (.p (0:Fp)))])),(some (.sq (Sq.pt2 L))),some (.fl [.ob (.p o.1.1),.ob (.p o.1.2),.ob (.p o.2.1.1),.ob (.p o.2.1.2),.ob (.p o.2.2.1),.ob (.p o.2.2.2)]),(some (.fl [.ob (.fr k)]))] 384 [] []
theorem nrA_hk (k : U4) (L : List (F2 × F2 × F2)) (o : F2 × F2 × F2) (d : Int) : (run rtM false 3000 ((⟨[.code (rfA nyB_k)], .normal, roundSt (nyR k L o) [(31, .v (.c (.int .i64 d)))]⟩ : Cfg)) []).cfg.k = [] := by kernel_rfl
theorem nrA (k : U4) (L : List (F2 × F2 × F2)) (o : F2 × F2 × F2) (d:Int) {ρ : Option Nat} (ho : AllP []) (hs : Sim w0 F0 K ac (roundSt (nyR k L o) [(31,.v (.c (.int .i64 d)))]) cX aX) (hK : ∀ cY aY,Sim w0 F0 K ac (mkSt 43 [4,5,7,8] [.pt 48 0,.pt 64 0,.pt 272 0,.ii d] [48,64,272,320] [(some (.fl [(.ob (.p (0:Fp))),(.ob (.p (0:Fp))),(.ob (.p (0:Fp))),(.ob (.p (0:Fp))),(.ob (.p (0:Fp))),(.ob (.p (0:Fp)))])),(some (.sq (Sq.pt2 L))),(some (.fl [(.ob (.p (Prod.fst (Prod.fst o)))),(.ob (.p (Prod.snd (Prod.fst o)))),(.ob (.p (Prod.fst (Prod.fst (Prod.snd o))))),(.ob (.p (Prod.snd (Prod.fst (Prod.snd o))))),(.ob (.p (Prod.fst (Prod.snd (Prod.snd o))))),(.ob (.p (Prod.snd (Prod.snd (Prod.snd o)))))])),(some (.fl [.ob (.fr k)]))] 400 [[4,5,7,30]] [([.pt 48 0,.pt 64 0,.pt 272 0,(.v (.c (.clo 73 [(320,0)])))],43)]) cY aY → Wq Try.prog Q ([]) ac Exit.normal aY cY.w ρ) : Wq Try.prog Q ([.code (rfA nyB_k)]) ac .normal aX cX.w ρ :=
  run_atT (o := ⟨_, _, _, _, _, _, _⟩) rtM_ok (by kernel_rfl) (nrA_hk k L o d) ho (by kernel_rfl) (by kernel_rfl) hs hK
noncomputable def nrB (k : U4) (L : List (F2 × F2 × F2)) (o : F2 × F2 × F2) (d:Int) : St := mkSt 43 [4,5,7,8] [.pt 48 0,.pt 64 0,.pt 272 0,.ii d] [48,64,272,320] [(some (.fl [(.ob (.p (0:Fp))),(.ob (.p (0:Fp))),(.ob (.p (0:Fp))),(.ob (.p (0:Fp))),(.ob (.p (0:Fp))),(.ob (.p (0:Fp)))])),(some (.sq (Sq.pt2 L))),some (.fl [.ob (.p o.1.1),.ob (.p o.1.2),.ob (.p o.2.1.1),.ob (.p o.2.1.2),.ob (.p o.2.2.1),.ob (.p o.2.2.2)]),(some (.fl [.ob (.fr k)]))] 400 [[4,5,7,30]] [([.pt 48 0,.pt 64 0,.pt 272 0,(.v (.c (.clo 73 [(320,0)])))],43)]
noncomputable def nrC_k : List KI := (run rtM false 3000 ((fun (k : U4) (L : List (F2 × F2 × F2)) (o : F2 × F2 × F2) (d : Int) => (⟨[.code (rfB nyB_k)], .normal, nrB k L o d⟩ : Cfg)) default default default default) []).cfg.k
theorem nrC_hk (k : U4) (L : List (F2 × F2 × F2)) (o : F2 × F2 × F2) (d : Int) : (run rtM false 3000 ((⟨[.code (rfB nyB_k)], .normal, nrB k L o d⟩ : Cfg)) []).cfg.k = nrC_k := by kernel_rfl
theorem nrC (k : U4) (L : List (F2 × F2 × F2)) (o : F2 × F2 × F2) (d:Int) {ρ : Option Nat} (ho : AllP []) (hs : Sim w0 F0 K ac (nrB k L o d) cX aX) (hK : ∀ cY aY,Sim w0 F0 K ac (mkSt 43 [4,5,7,8,32] [.pt 48 0,.pt 64 0,.pt 272 0,.ii d,.ii (0:Int)] [48,64,272,320] [(some (.fl [(.ob (.p (0:Fp))),(.ob (.p (0:Fp))),(.ob (.p (0:Fp))),(.ob (.p (0:Fp))),(.ob (.p (0:Fp))),(.ob (.p (0:Fp)))])),(some (.sq (Sq.pt2 L))),(some (.fl [(.ob (.p (Prod.fst (Prod.fst o)))),(.ob (.p (Prod.snd (Prod.fst o)))),(.ob (.p (Prod.fst (Prod.fst (Prod.snd o))))),(.ob (.p (Prod.snd (Prod.fst (Prod.snd o))))),(.ob (.p (Prod.fst (Prod.snd (Prod.snd o))))),(.ob (.p (Prod.snd (Prod.snd (Prod.snd o)))))])),(some (.fl [.ob (.fr k)]))] 416 [[4,5,7,30]] [([.pt 48 0,.pt 64 0,.pt 272 0,(.v (.c (.clo 73 [(320,0)])))],43)]) cY aY → Wq Try.prog Q (nrC_k) ac Exit.normal aY cY.w ρ) : Wq Try.prog Q ([.code (rfB nyB_k)]) ac .normal aX cX.w ρ :=
  run_atT (o := ⟨_, _, _, _, _, _, _⟩) rtM_ok (by kernel_rfl) (nrC_hk k L o d) ho (by kernel_rfl) (by kernel_rfl) hs hK
noncomputable def nrS (k : U4) (L : List (F2 × F2 × F2)) (o : F2 × F2 × F2) (d j:Int) : St := mkSt 43 [4,5,7,8,32] [.pt 48 0,.pt 64 0,.pt 272 0,.ii d,.v (.c (.int .i64 j))] [48,64,272,320] [(some (.fl [(.ob (.p (0:Fp))),(.ob (.p (0:Fp))),(.ob (.p (0:Fp))),(.ob (.p (0:Fp))),(.ob (.p (0:Fp))),(.ob (.p (0:Fp)))])),(some (.sq (Sq.pt2 L))),some (.fl [.ob (.p o.1.1),.ob (.p o.1.2),.ob (.p o.2.1.1),.ob (.p o.2.1.2),.ob (.p o.2.2.1),.ob (.p o.2.2.2)]),(some (.fl [.ob (.fr k)]))] 416 [[4,5,7,30]] [([.pt 48 0,.pt 64 0,.pt 272 0,(.v (.c (.clo 73 [(320,0)])))],43)]
theorem nrD_hk (k : U4) (L : List (F2 × F2 × F2)) (o : F2 × F2 × F2) (d j : Int) : (run rtM false 3000 ((⟨lpIn nrC_k, .normal, nrS k L o d j⟩ : Cfg)) [true]).cfg.k = lpBk nrC_k := by kernel_rfl
theorem nrD (k : U4) (L : List (F2 × F2 × F2)) (o : F2 × F2 × F2) (d j:Int) {ρ : Option Nat} (ho : AllP [((decide (j < (4:Int))) = true)]) (hs : Sim w0 F0 K ac (nrS k L o d j) cX aX) (hK : ∀ cY aY,Sim w0 F0 K ac (mkSt 43 [4,5,7,8,32] [.pt 48 0,.pt 64 0,.pt 272 0,.ii d,(.ii (IntKind.wrap .i64 (j + (1:Int))))] [48,64,272,320] [(some (.fl [(.ob (.p (0:Fp))),(.ob (.p (0:Fp))),(.ob (.p (0:Fp))),(.ob (.p (0:Fp))),(.ob (.p (0:Fp))),(.ob (.p (0:Fp)))])),(some (.sq (Sq.pt2 L))),(some (.fl [(.ob (.p (Prod.fst (Prod.fst (jtw o))))),(.ob (.p (Prod.snd (Prod.fst (jtw o))))),(.ob (.p (Prod.fst (Prod.fst (Prod.snd (jtw o)))))),(.ob (.p (Prod.snd (Prod.fst (Prod.snd (jtw o)))))),(.ob (.p (Prod.fst (Prod.snd (Prod.snd (jtw o)))))),(.ob (.p (Prod.snd (Prod.snd (Prod.snd (jtw o))))))])),(some (.fl [.ob (.fr k)]))] 512 [[4,5,7,30]] [([.pt 48 0,.pt 64 0,.pt 272 0,(.v (.c (.clo 73 [(320,0)])))],43)]) cY aY → Wq Try.prog Q (lpBk nrC_k) ac Exit.normal aY cY.w ρ) : Wq Try.prog Q (lpIn nrC_k) ac .normal aX cX.w ρ :=
  run_atT (o := ⟨_, _, _, _, _, _, _⟩) rtM_ok (by kernel_rfl) (nrD_hk k L o d j) ho (by kernel_rfl) (by kernel_rfl) hs hK
theorem nrE_hk (k : U4) (L : List (F2 × F2 × F2)) (o : F2 × F2 × F2) (d j : Int) : (run rtM false 3000 ((⟨lpIn nrC_k, .normal, nrS k L o d j⟩ : Cfg)) [false]).cfg.k = [] := by kernel_rfl
theorem nrE (k : U4) (L : List (F2 × F2 × F2)) (o : F2 × F2 × F2) (d j:Int) {ρ : Option Nat} (ho : AllP [((decide (j < (4:Int))) = false),((0:Int) ≤ d),(d < (16:Int)),(0 = 0),((d).toNat < (List.length L))]) (hs : Sim w0 F0 K ac (nrS k L o d j) cX aX) (hK : ∀ cY aY,Sim w0 F0 K ac (mkSt 43 [4] [.pt 48 0] [48,64,272,320] [(some (.fl [(.ob (.p (0:Fp))),(.ob (.p (0:Fp))),(.ob (.p (0:Fp))),(.ob (.p (0:Fp))),(.ob (.p (0:Fp))),(.ob (.p (0:Fp)))])),(some (.sq (Sq.pt2 L))),(some (.fl [(.ob (.p (Prod.fst (Prod.fst (jpl o (List.getD L (d).toNat pt20)))))),(.ob (.p (Prod.snd (Prod.fst (jpl o (List.getD L (d).toNat pt20)))))),(.ob (.p (Prod.fst (Prod.fst (Prod.snd (jpl o (List.getD L (d).toNat pt20))))))),(.ob (.p (Prod.snd (Prod.fst (Prod.snd (jpl o (List.getD L (d).toNat pt20))))))),(.ob (.p (Prod.fst (Prod.snd (Prod.snd (jpl o (List.getD L (d).toNat pt20))))))),(.ob (.p (Prod.snd (Prod.snd (Prod.snd (jpl o (List.getD L (d).toNat pt20)))))))])),(some (.fl [.ob (.fr k)]))] 528 [[4,5,7,30]] [([.pt 48 0,.pt 64 0,.pt 272 0,(.v (.c (.clo 73 [(320,0)])))],43)]) cY aY → Wq Try.prog Q ([]) ac Exit.normal aY cY.w ρ) : Wq Try.prog Q (lpIn nrC_k) ac .normal aX cX.w ρ :=
  run_atT (o := ⟨_, _, _, _, _, _, _⟩) rtM_ok (by kernel_rfl) (nrE_hk k L o d j) ho (by kernel_rfl) (by kernel_rfl) hs hK
noncomputable def nrF (k : U4) (L : List (F2 × F2 × F2)) (o : F2 × F2 × F2) : St := mkSt 43 [4] [.pt 48 0] [48,64,272,320] [(some (.fl [(.ob (.p (0:Fp))),(.ob (.p (0:Fp))),(.ob (.p (0:Fp))),(.ob (.p (0:Fp))),(.ob (.p (0:Fp))),(.ob (.p (0:Fp)))])),(some (.sq (Sq.pt2 L))),some (.fl [.ob (.p o.1.1),.ob (.p o.1.2),.ob (.p o.2.1.1),.ob (.p o.2.1.2),.ob (.p o.2.2.1),.ob (.p o.2.2.2)]),(some (.fl [.ob (.fr k)]))] 528 [[4,5,7,30]] [([.pt 48 0,.pt 64 0,.pt 272 0,(.v (.c (.clo 73 [(320,0)])))],43)]
theorem nrX_hk (k : U4) (L : List (F2 × F2 × F2)) (o : F2 × F2 × F2) : (run rtM false 3000 ((⟨rfR nyB_k, .normal, nyR k L o⟩ : Cfg)) []).cfg.k = [] := by kernel_rfl
theorem nrX (k : U4) (L : List (F2 × F2 × F2)) (o : F2 × F2 × F2) (ho : AllP []) (hs : Sim w0 F0 K ac (nyR k L o) cX aX) (hK : ∀ ac cY aY,Sim w0 F0 K ac (mkSt 43 [4] [.pt 48 0] [48] [(some (.fl [(.ob (.p (Prod.fst (Prod.fst o)))),(.ob (.p (Prod.snd (Prod.fst o)))),(.ob (.p (Prod.fst (Prod.fst (Prod.snd o))))),(.ob (.p (Prod.snd (Prod.fst (Prod.snd o))))),(.ob (.p (Prod.fst (Prod.snd (Prod.snd o))))),(.ob (.p (Prod.snd (Prod.snd (Prod.snd o)))))]))] 416 [] []) cY aY → Wq Try.prog Q ([]) ac Exit.ret aY cY.w) : Wq Try.prog Q (rfR nyB_k) ac .normal aX cX.w :=
  run_at2 (o := ⟨_, _, _, _, _, _, _⟩) rtM_ok (by kernel_rfl) (nrX_hk k L o) ho hs hK
noncomputable def nrZ (o : F2 × F2 × F2) : St := mkSt 43 [4] [.pt 48 0] [48] [some (.fl [.ob (.p o.1.1),.ob (.p o.1.2),.ob (.p o.2.1.1),.ob (.p o.2.1.2),.ob (.p o.2.2.1),.ob (.p o.2.2.2)])] 416 [] []
theorem nrR_end (o : F2 × F2 × F2) : runEnd rtM Try.f27 false 3000 (⟨[],.ret,nrZ o⟩) [] [] [] = (some ([],((.v (.a [(.ob (.p (Prod.fst (Prod.fst o)))),(.ob (.p (Prod.snd (Prod.fst o)))),(.ob (.p (Prod.fst (Prod.fst (Prod.snd o))))),(.ob (.p (Prod.snd (Prod.fst (Prod.snd o))))),(.ob (.p (Prod.fst (Prod.snd (Prod.snd o))))),(.ob (.p (Prod.snd (Prod.snd (Prod.snd o)))))])),[]))) := by kernel_rfl
end
end Go.Proofs.Ytdeohachoeopdaa

/- A point of the second curve as often as a number says: contract. No conditions. -/
namespace Go.Proofs.Ytdeohachoeopdaa

/-- Sixteen points of the second curve, one behind the other. -/
def flatPt2 (l : List (F2 × F2 × F2)) : Nat → Nat → List It
  | _, 0 => []
  | i, n + 1 => .ob (.p (l.getD i pt20).1.1) :: .ob (.p (l.getD i pt20).1.2) :: .ob (.p (l.getD i pt20).2.1.1) :: .ob (.p (l.getD i pt20).2.1.2) :: .ob (.p (l.getD i pt20).2.2.1) :: .ob (.p (l.getD i pt20).2.2.2) :: flatPt2 l (i + 1) n

theorem cat_flat2 {x : Ctx} (L : List (F2 × F2 × F2)) : ∀ (n i : Nat) (cs : List Value), catL x.D (flatPt2 L i n) cs → cs.length = n * 36 ∧ ∀ j, j < n → ∃ c, catL x.D (pt2Its (L.getD (i + j) pt20)) c ∧ ∀ (q : Nat) (v : Value), c[q]? = some v → cs[j * 36 + q]? = some v
  | 0, i, cs, h => by
    have h : cs = [] := h
    subst h
    exact ⟨rfl, fun j hj => absurd hj (Nat.not_lt_zero _)⟩
  | n + 1, i, cs, h => by
    obtain ⟨c1, r1, e1, h1, c2, r2, e2, h2, c3, r3, e3, h3, c4, r4, e4, h4, c5, r5, e5, h5, c6, r6, e6, h6, h7⟩ := h
    obtain ⟨hl, hj⟩ := cat_flat2 L n (i + 1) r6 h7
    have l1 : c1.length = 6 := D_len h1
    have l2 : c2.length = 6 := D_len h2
    have l3 : c3.length = 6 := D_len h3
    have l4 : c4.length = 6 := D_len h4
    have l5 : c5.length = 6 := D_len h5
    have l6 : c6.length = 6 := D_len h6
    subst e1 e2 e3 e4 e5 e6
    refine ⟨by simp only [List.length_append]; omega, fun j hjn => ?_⟩
    have e : c1 ++ (c2 ++ (c3 ++ (c4 ++ (c5 ++ (c6 ++ r6))))) = (c1 ++ (c2 ++ (c3 ++ (c4 ++ (c5 ++ c6))))) ++ r6 := by simp
    have hl36 : (c1 ++ (c2 ++ (c3 ++ (c4 ++ (c5 ++ c6))))).length = 36 := by simp only [List.length_append]; omega
    cases j with
    | zero =>
      refine ⟨c1 ++ (c2 ++ (c3 ++ (c4 ++ (c5 ++ (c6 ++ []))))), ⟨c1, _, rfl, h1, c2, _, rfl, h2, c3, _, rfl, h3, c4, _, rfl, h4, c5, _, rfl, h5, c6, _, rfl, h6, rfl⟩, fun q v hq => ?_⟩
      rw [List.append_nil] at hq
      have hlt : q < (c1 ++ (c2 ++ (c3 ++ (c4 ++ (c5 ++ c6))))).length := by
        rcases Nat.lt_or_ge q (c1 ++ (c2 ++ (c3 ++ (c4 ++ (c5 ++ c6))))).length with h | h
        · exact h
        · rw [List.getElem?_eq_none h] at hq; cases hq
      rw [Nat.zero_mul, Nat.zero_add, ← hq, e, List.getElem?_append_left hlt]
    | succ j =>
      obtain ⟨c, hc, hv⟩ := hj j (by omega)
      rw [show i + 1 + j = i + (j + 1) from by omega] at hc
      refine ⟨c, hc, fun q v hq => ?_⟩
      rw [e, List.getElem?_append_right (by rw [hl36]; omega), hl36, show (j + 1) * 36 + q - 36 = j * 36 + q from by omega]
      exact hv q v hq

theorem tab_conv2 {x : Ctx} (L : List (F2 × F2 × F2)) (h : L.length = 16) (cs : List Value) (hc : denEn x (.fl (flatPt2 L 0 16)) cs) : denEn x (.sq (.pt2 L)) cs := by
  obtain ⟨hl, hj⟩ := cat_flat2 L 16 0 cs hc
  refine ⟨?_, fun i hi => ?_⟩
  · show L.length * 36 ≤ cs.length
    rw [h, hl]
    exact Nat.le_refl _
  · have hi : i < L.length := hi
    rw [h] at hi
    obtain ⟨c, h1, h2⟩ := hj i hi
    rw [Nat.zero_add] at h1
    exact ⟨c, h1, h2⟩

def tab02 (x y : F2) : List (F2 × F2 × F2) := (x, y, 0) :: List.replicate 15 pt20

theorem many2_fnd (a b c d e f : Fp) (k : U4) : FnD Try.prog 27 [.v (.a [.ob (.p a), .ob (.p b), .ob (.p c), .ob (.p d), .ob (.p e), .ob (.p f)]), .v (.a [.ob (.fr k)])] (.v (.a (pt2Its (jmn (F := F2) ((a, b), (c, d), (e, f)) (dgT k.val 64))))) [] := by
  generalize hpa : (((a, b), (c, d), (e, f)) : F2 × F2 × F2) = pa
  refine fn_start_m (fn := Try.f27) (c := bodyOf Try.f27) Try.func27 rfl rfl fun x0 a0 hk hF hs => ?_
  refine ny a b c d e f k ⟨by decide, by decide, trivial⟩ hs fun ac cY aY hs1 => ?_
  have hs2 := hs1.blocks (ens' := [some (.fl [.ob (.p a), .ob (.p b), .ob (.p c), .ob (.p d), .ob (.p e), .ob (.p f)]), some (.fl [.ob (.fr k)]), some (.fl [.ob (.p 0), .ob (.p 0), .ob (.p 0), .ob (.p 0), .ob (.p 0), .ob (.p 0)]), some (.sq (.pt2 (tab02 (a, b) (c, d))))])
    ⟨.inl rfl, .inl rfl, .inl rfl, .inr ⟨_, _, _, rfl, rfl, rfl, fun cs h => tab_conv2 _ rfl cs h⟩, trivial⟩
  refine loop_rule (ι := { p : Nat × List (F2 × F2 × F2) // 1 ≤ p.1 ∧ p.1 ≤ 16 ∧ p.2.length = 16 ∧ ∀ j, j < p.1 → p.2.getD j pt20 = jtab pa j }) (fun p => nyS a b c d e f k p.1.2 (p.1.1 : Int)) (fun p => 16 - p.1.1) (c := lpC ny_k) (k := lpR ny_k) (by kernel_rfl) (fun p ih ac cY aY hs => ?_)
    ⟨(1, tab02 (a, b) (c, d)), Nat.le_refl 1, by show (1 : Nat) ≤ 16; omega, rfl, fun j hj => by
      have : j = 0 := by have hj : j < 1 := hj; omega
      subst this; rw [← hpa]; rfl⟩ (hs2.nx _)
  obtain ⟨⟨i, L⟩, h1, h16, hL, htab⟩ := p
  simp only at ih hs h1 h16 hL htab
  by_cases hi : i < 16
  · have e1 : IntKind.wrap IntKind.i64 ((i : Int) - 1) = ((i - 1 : Nat) : Int) := by rw [wrap_id (by omega) (by omega)]; omega
    have e2 : IntKind.wrap IntKind.i64 ((i : Int) + 1) = ((i + 1 : Nat) : Int) := by rw [wrap_id (by omega) (by omega)]; omega
    refine nyA a b c d e f k L i ⟨decide_eq_true (by omega), by rw [e1]; omega, by rw [e1]; omega, rfl, by rw [e1, Int.toNat_natCast, hL]; omega, by omega, by omega, rfl, by rw [Int.toNat_natCast, hL]; exact hi, trivial⟩ hs fun ac cZ aZ hs3 => ?_
    rw [e1, e2, Int.toNat_natCast, Int.toNat_natCast, htab (i - 1) (by omega), hpa] at hs3
    have e3 : jpl (jtab pa (i - 1)) pa = jtab pa i := by
      obtain ⟨m, rfl⟩ : ∃ m, i = m + 1 := ⟨i - 1, by omega⟩
      rfl
    rw [e3] at hs3
    refine ih ⟨(i + 1, L.set i (jtab pa i)), by show 1 ≤ i + 1; omega, hi, by show (L.set i _).length = 16; rw [List.length_set]; exact hL, fun j hj => ?_⟩ (by show 16 - (i + 1) < 16 - i; omega) ac cZ aZ (hs3.nx _)
    have hj : j < i + 1 := hj
    show (L.set i (jtab pa i)).getD j pt20 = _
    by_cases e : j = i
    · subst e
      simp [List.getD, hL, hi]
    · have : (L.set i (jtab pa i)).getD j pt20 = L.getD j pt20 := by
        simp [List.getD, List.getElem?_set_ne (Ne.symm e)]
      rw [this]
      exact htab j (by omega)
  · have : i = 16 := by omega
    subst this
    refine nyB a b c d e f k L _ ⟨by decide, by decide, by decide, rfl, by rw [hL]; decide, trivial⟩ hs fun ac cZ aZ hs3 => ?_
    rw [htab 0 (by decide)] at hs3
    obtain ⟨e1, e2⟩ := isRf_eq (k := nyB_k) (by kernel_rfl)
    rw [e1]
    have eP : (rfP nyB_k).toList = [31] := by kernel_rfl
    have eG : rfG nyB_k = .tmp 30 := by kernel_rfl
    refine range_rule (ps := rfP nyB_k) e2 hs3 (gf := 73) (caps := [(320, 0)]) (enters_of Try.func73 rfl rfl) (fun pre => nyR k L (pre.foldl (jst pa) (jtab pa 0))) (fun s => by rw [eG]; rfl) ⟨_, rfl⟩ (dgT k.val 64) dgVals dgEnc
      (fun y z => .cons ⟨rfl, 0, rfl⟩ .nil) (fun z => by rw [← Array.length_toList, eP]; rfl) (fun pre p hp => ?_) (digits_iter fun s => rfl) (fun pre d => nrB k L (pre.foldl (jst pa) (jtab pa 0)) d)
      (fun pre d => nrF k L ((pre ++ [d]).foldl (jst pa) (jtab pa 0))) (fun pre d => ⟨_, rfl⟩) (fun pre d hd w1 F1 K1 as1 Q1 l y1 b hs4 hQ => ?_) (fun pre d hd w1 F1 K1 as1 Q1 l y1 b hs4 hQ => ?_) fun D y1 hs4 hD hFD hd => ?_
    · rw [eP] at hp
      have h43 : (nyR k L (pre.foldl (jst pa) (jtab pa 0))).nt = 43 := rfl
      rw [h43]
      simp only [List.mem_cons, List.not_mem_nil, or_false] at hp
      subst hp
      decide
    · rw [eP] at hs4
      exact nrA k L _ d trivial hs4 fun cZ aZ hs5 => ⟨hQ _ _ (hs5.nx _)⟩
    · have hd16 : d < 16 := by
        obtain ⟨r, hr⟩ := hd
        exact dgT_lt (n := k.val) 64 d (by rw [hr]; simp)
      rw [List.foldl_append] at hQ
      generalize pre.foldl (jst pa) (jtab pa 0) = o at hs4 hQ
      have hst : List.foldl (jst pa) o [d] = jpl (jtws 4 o) (L.getD d pt20) := by
        rw [htab d hd16, List.foldl_cons, List.foldl_nil]
        exact jst_tws pa o d
      rw [hst] at hQ
      refine nrC k L o d trivial hs4 fun cV aV hs5 => ?_
      let I : { j : Nat // j ≤ 4 } → List Act → Act → World → Prop := fun j ac a w => ac = as1 ∧ ∃ z, z.w = w ∧ Sim w1 F1 K1 as1 (nrS k L (jtws j.1 o) d (j.1 : Int)) z a
      refine loop_inv (ρ := some l) I (fun j => 4 - j.1) (c := lpC nrC_k) (k := lpR nrC_k) (by kernel_rfl) (fun j ih ac aV w hI => ?_) ⟨0, Nat.zero_le _⟩ ⟨rfl, cV, rfl, hs5.nx _⟩
      obtain ⟨j, hj⟩ := j
      obtain ⟨rfl, cV, rfl, hs6⟩ := hI
      simp only at ih hs6
      by_cases hj4 : j < 4
      · have ej : jtw (jtws j o) = jtws (j + 1) o := (jtws_succ j o).symm
        generalize jtws j o = o1 at hs6 ej
        refine nrD k L _ d j ⟨decide_eq_true (by omega), trivial⟩ hs6 fun cU aU hs7 => ?_
        rw [wrap_id (n := (j : Int) + 1) (by omega) (by omega), ej] at hs7
        exact ih ⟨j + 1, hj4⟩ (by show 4 - (j + 1) < 4 - j; omega) _ aU _ ⟨rfl, cU, rfl, hs7.nx _⟩
      · have : j = 4 := by omega
        subst this
        refine nrE k L _ d _ ⟨by decide, by omega, by omega, rfl, by rw [Int.toNat_natCast, hL]; exact hd16, trivial⟩ hs6 fun cU aU hs7 => ?_
        rw [Int.toNat_natCast] at hs7
        generalize jpl (jtws 4 o) (L.getD d pt20) = q at hQ hs7
        exact ⟨hQ _ _ (hs7.nx _)⟩
    · have hs5 := hs4.marked rfl rfl D
      show Wq _ _ _ _ _ _ _ _
      have ej : (dgT k.val 64).foldl (jst pa) (jtab pa 0) = jmn pa (dgT k.val 64) := rfl
      rw [ej] at hs4 hs5
      generalize jmn pa (dgT k.val 64) = o at hs4 hs5 ⊢
      refine nrX k L o trivial hs5 fun ac cV aV hs6 => ⟨?_⟩
      have hs7 : Sim y1.w y1.F (kOwn y1 kAll (markOf D)) ac (nrZ o) cV aV := hs6
      exact fn_finish rtM_ok hk hF (nrR_end o) trivial (fun y v hd => hd) hs4 hD hFD hd rfl hs7

end Go.Proofs.Ytdeohachoeopdaa

/- two.Mul, and TwoTimes' law, walked. No conditions. -/
namespace Go.Proofs.Ytdeohachoeopdaa

/-- A point outside as often as a number says. -/
def mulG2 (a : G2D) (k : U4) : G2D := outG2 (jmn (inG2 a) (dgT k.val 64))
theorem mulG2_is {a : G2D} (ha : onG2 a = true) (k : U4) : mulG2 a k = gP2 (nmul (pG2 a) k.val) := by
  unfold mulG2
  generalize hl : dgT k.val 64 = l
  have h := jmn_ok cv2 (onG2_is ha).2 (inG2_jc a) l
  have e : dgV l = k.val := by rw [← hl]; exact dgV_is k
  rw [e] at h
  exact outG2_jc h
theorem pG2_mul {a : G2D} (ha : onG2 a = true) (k : U4) : pG2 (mulG2 a k) = nmul (pG2 a) k.val := by rw [mulG2_is ha, pG_gP2]
theorem on_mul2 {a : G2D} (ha : onG2 a = true) (k : U4) : onG2 (mulG2 a k) = true := by
  rw [mulG2_is ha]
  exact onG2_gP (nmul_on cv2 (onG2_is ha).2 _)


def many2Spec1 : FnSpec
  | [.v (.a [.ob (.p a), .ob (.p b), .ob (.p c), .ob (.p d), .ob (.p e), .ob (.p f)]), .v (.a [.ob (.fr k)])] => some ([], .v (.a (pt2Its (jmn (F := F2) ((a, b), (c, d), (e, f)) (dgT k.val 64)))), [])
  | _ => none
noncomputable def ruA : Env := rtM.set (addT rtM.fn 27 many2Spec1)
theorem ruA_ok : EnvOk Try.prog ruA := env_add rtM_ok 27 many2Spec1 (enters_of Try.func27 rfl rfl) fun args o r es h _ => by
  unfold many2Spec1 at h
  split at h
  · cases h; exact many2_fnd _ _ _ _ _ _ _
  · cases h
--@env ruA ruA_ok
theorem mu2A (a b c d : U6) (i : Bool) (k : U4) : fnRes ruA Try.f9 3000 [.v (.a [.ob (.fp a),.ob (.fp b),.ob (.fp c),.ob (.fp d),.bool i]),.v (.a [.ob (.fr k)])] [true] [] [] = (some ([((Bool.not (onG2 (G2D.mk a b c d i))) = true)],((.t [(.a [(.ob (.fp (0:U6))),(.ob (.fp (0:U6))),(.ob (.fp (0:U6))),(.ob (.fp (0:U6))),(.lit false)]),(.c (.int .i64 (30:Int)))]),[]))) := by kernel_rfl
theorem mu2B (a b c d : U6) (i : Bool) (k : U4) : fnRes ruA Try.f9 3000 [.v (.a [.ob (.fp a),.ob (.fp b),.ob (.fp c),.ob (.fp d),.bool i]),.v (.a [.ob (.fr k)])] [false] [] [] = (some ([((Bool.not (onG2 (G2D.mk a b c d i))) = false)],((.t [(.a [(.ob (.fp (G2D.xa (outG2 (jmn (inG2 (G2D.mk a b c d i)) (dgT (Fin.val k) 64)))))),(.ob (.fp (G2D.xb (outG2 (jmn (inG2 (G2D.mk a b c d i)) (dgT (Fin.val k) 64)))))),(.ob (.fp (G2D.ya (outG2 (jmn (inG2 (G2D.mk a b c d i)) (dgT (Fin.val k) 64)))))),(.ob (.fp (G2D.yb (outG2 (jmn (inG2 (G2D.mk a b c d i)) (dgT (Fin.val k) 64)))))),(.bool (G2D.inf (outG2 (jmn (inG2 (G2D.mk a b c d i)) (dgT (Fin.val k) 64)))))]),(.c (.int .i64 (0:Int)))]),[]))) := by kernel_rfl
/-- What Mul tells. -/
def muR2 (a : G2D) (k : U4) : G2D × Int := if onG2 a then (mulG2 a k, 0) else (g20, 30)
theorem muR2_on {a : G2D} (k : U4) (ha : onG2 a = true) : muR2 a k = (mulG2 a k, 0) := by unfold muR2; rw [ha]; rfl
theorem muR2_off {a : G2D} (k : U4) (ha : onG2 a = false) : muR2 a k = (g20, 30) := by unfold muR2; rw [ha]; rfl
theorem mul2_fnd (a b c d : U6) (i : Bool) (k : U4) : FnD Try.prog 9 [.v (.a [.ob (.fp a), .ob (.fp b), .ob (.fp c), .ob (.fp d), .bool i]), .v (.a [.ob (.fr k)])] (.t [.a (muR2 ⟨a, b, c, d, i⟩ k).1.its, .c (.int .i64 (muR2 ⟨a, b, c, d, i⟩ k).2)]) [] := by
  by_cases h1 : onG2 ⟨a, b, c, d, i⟩ = true
  · rw [muR2_on k h1]
    exact fn_sound ruA_ok Try.func9 (mu2B a b c d i k) ⟨by rw [h1]; rfl, trivial⟩
  · have h1 : onG2 ⟨a, b, c, d, i⟩ = false := Bool.eq_false_iff.2 h1
    rw [muR2_off k h1]
    exact (fn_sound ruA_ok Try.func9 (mu2A a b c d i k) ⟨by rw [h1]; rfl, trivial⟩).conv (fun _ _ h => h) fun y v hd => lit_fifth_t hd
def mulSpec3 : FnSpec
  | [.v (.a [.ob (.fp a), .ob (.fp b), .ob (.fp c), .ob (.fp d), .bool i]), .v (.a [.ob (.fr k)])] => some ([], .t [.a (muR2 ⟨a, b, c, d, i⟩ k).1.its, .c (.int .i64 (muR2 ⟨a, b, c, d, i⟩ k).2)], [])
  | _ => none
noncomputable def ruC : Env := ruA.set (addT ruA.fn 9 mulSpec3)
theorem ruC_ok : EnvOk Try.prog ruC := env_add ruA_ok 9 mulSpec3 (enters_of Try.func9 rfl rfl) fun args o r es h _ => by
  unfold mulSpec3 at h
  split at h
  · cases h; exact mul2_fnd _ _ _ _ _ _
  · cases h
--@env ruC ruC_ok
end Go.Proofs.Ytdeohachoeopdaa

/- TwoTimes' law returns true. No conditions. -/
namespace Go.Proofs.Ytdeohachoeopdaa

theorem mul_of2 {a : G2D} (ha : onG2 a = true) {n : Nat} (h : n < 18446744073709551616) : (muR2 a (Fin.ofNat B4 n)).1 = gP2 (nmul (pG2 a) n) := by
  rw [congrArg Prod.fst (muR2_on (Fin.ofNat B4 n) ha), mulG2_is ha, ofN_val h]
theorem add_of2 {P Q : Pt F2} (hP : OnC fq4 P) (hQ : OnC fq4 Q) : (adR2 (gP2 P) (gP2 Q)).1 = gP2 (gadd P Q) := by
  rw [congrArg Prod.fst (adR2_on (onG2_gP hP) (onG2_gP hQ)), addG2_is, pG_gP2, pG_gP2]

end Go.Proofs.Ytdeohachoeopdaa

/- kzg.Make, walked. No conditions. -/
namespace Go.Proofs.Ytdeohachoeopdaa

noncomputable def kmA : Env := peE.or ruC
theorem kmA_ok : EnvOk Try.prog kmA := env_or peE_ok ruC_ok
noncomputable def powersSpec : FnSpec
  | [.v (.a [.ob (.fp x), .ob (.fp y), .bool j]), .v (.a [.ob (.fr k)]), .v (.c (.int .i64 n))] => some ([], .t [.c (.sl (.g1 (pwR ⟨x, y, j⟩ k n).1)), .c (.int .i64 (pwR ⟨x, y, j⟩ k n).2)], [])
  | _ => none
noncomputable def kmB : Env := kmA.set (addT kmA.fn 7 powersSpec)
theorem kmB_ok : EnvOk Try.prog kmB := env_add kmA_ok 7 powersSpec (enters_of Try.func7 rfl rfl) fun args o r es h _ => by
  unfold powersSpec at h
  split at h
  · cases h; exact powers_fnd ⟨_, _, _⟩ _ _
  · cases h
--@env kmB kmB_ok
theorem mkA (k : U4) (n:Int) : fnRes kmB Try.f5 3000 [.v (.a [.ob (.fr k)]),.v (.c (.int .i64 n))] [true] [] [] = (some ([((decide (n < (1:Int))) = true)],((.t [(.a [(.sl (Sq.g1 ([] : List G1D))),(.ob (.fp (0:U6))),(.ob (.fp (0:U6))),(.ob (.fp (0:U6))),(.ob (.fp (0:U6))),(.lit false)]),(.c (.int .i64 (1:Int)))]),[]))) := by kernel_rfl
theorem mkB (k : U4) (n:Int) : fnRes kmB Try.f5 3000 [.v (.a [.ob (.fr k)]),.v (.c (.int .i64 n))] [false,true] [] [] = (some ([((decide (n < (1:Int))) = false),((decide (n > (4096:Int))) = true)],((.t [(.a [(.sl (Sq.g1 ([] : List G1D))),(.ob (.fp (0:U6))),(.ob (.fp (0:U6))),(.ob (.fp (0:U6))),(.ob (.fp (0:U6))),(.lit false)]),(.c (.int .i64 (1:Int)))]),[]))) := by kernel_rfl
theorem mkC (k : U4) (n:Int) : fnRes kmB Try.f5 3000 [.v (.a [.ob (.fr k)]),.v (.c (.int .i64 n))] [false,false,false,false] [] [] = (some ([((decide (n < (1:Int))) = false),((decide (n > (4096:Int))) = false),(((Prod.snd (pwR genG k n)) != (0:Int)) = false),(((Prod.snd (muR2 genG2 (S4.outF (S4.inF k)))) != (0:Int)) = false)],((.t [(.a [(.sl (Sq.g1 (Prod.fst (pwR genG k n)))),(.ob (.fp (G2D.xa (Prod.fst (muR2 genG2 (S4.outF (S4.inF k))))))),(.ob (.fp (G2D.xb (Prod.fst (muR2 genG2 (S4.outF (S4.inF k))))))),(.ob (.fp (G2D.ya (Prod.fst (muR2 genG2 (S4.outF (S4.inF k))))))),(.ob (.fp (G2D.yb (Prod.fst (muR2 genG2 (S4.outF (S4.inF k))))))),(.bool (G2D.inf (Prod.fst (muR2 genG2 (S4.outF (S4.inF k))))))]),(.c (.int .i64 (0:Int)))]),[]))) := by kernel_rfl
end Go.Proofs.Ytdeohachoeopdaa

/- kzg.Make: contract. No conditions. -/
namespace Go.Proofs.Ytdeohachoeopdaa

theorem onGen : onG genG = true := by decide +kernel
theorem onGen2 : onG2 genG2 = true := by decide +kernel
/-- The parts of a key. -/
def keyIts (l : List G1D) (s : G2D) : List It := [.sl (.g1 l), .ob (.fp s.xa), .ob (.fp s.xb), .ob (.fp s.ya), .ob (.fp s.yb), .bool s.inf]
theorem lit_key {x : Ctx} {i1 i2 i3 i4 i5 k : It} {b : Bool} {v : Value} (h : denS x (.t [.a [i1, i2, i3, i4, i5, .lit b], .c k]) v) : denS x (.t [.a [i1, i2, i3, i4, i5, .bool b], .c k]) v := by
  obtain ⟨vs, e, hc⟩ := h
  cases hc with
  | cons h1 h2 =>
    refine ⟨_, e, .cons ?_ h2⟩
    obtain ⟨cs, e0, c1, r1, e1, h1, c2, r2, e2, h2, c3, r3, e3, h3, c4, r4, e4, h4, c5, r5, e5, h5, c6, r6, e6, ⟨d, h6⟩, h7⟩ := h1
    exact ⟨cs, e0, c1, r1, e1, h1, c2, r2, e2, h2, c3, r3, e3, h3, c4, r4, e4, h4, c5, r5, e5, h5, c6, r6, e6, ⟨d, by cases d <;> exact h6⟩, h7⟩

/-- What Make tells. -/
theorem kzL_ex (k : U4) (n : Int) : ∃ L, L = if n < 1 ∨ n > 4096 then [] else (pwR genG k n).1 := ⟨_, rfl⟩
noncomputable def kzL (k : U4) (n : Int) : List G1D := Classical.choose (kzL_ex k n)
theorem kzL_is (k : U4) (n : Int) : kzL k n = if n < 1 ∨ n > 4096 then [] else (pwR genG k n).1 := Classical.choose_spec (kzL_ex k n)
theorem kzS_ex (k : U4) (n : Int) : ∃ s, s = if n < 1 ∨ n > 4096 then g20 else (muR2 genG2 (S4.outF (S4.inF k))).1 := ⟨_, rfl⟩
noncomputable def kzS (k : U4) (n : Int) : G2D := Classical.choose (kzS_ex k n)
theorem kzS_is (k : U4) (n : Int) : kzS k n = if n < 1 ∨ n > 4096 then g20 else (muR2 genG2 (S4.outF (S4.inF k))).1 := Classical.choose_spec (kzS_ex k n)
/-- What Powers tells, by name alone. -/
theorem pwZ_ex (a : G1D) (k : U4) (n : Int) : ∃ r, r = pwR a k n := ⟨_, rfl⟩
noncomputable def pwZ (a : G1D) (k : U4) (n : Int) : List G1D × Int := Classical.choose (pwZ_ex a k n)
theorem pwZ_is (a : G1D) (k : U4) (n : Int) : pwZ a k n = pwR a k n := Classical.choose_spec (pwZ_ex a k n)
theorem powersZ_fnd (a : G1D) (k : U4) (n : Int) : FnD Try.prog 7 [.v (.a a.its), .v (.a [.ob (.fr k)]), .v (.c (.int .i64 n))] (.t [.c (.sl (.g1 (pwZ a k n).1)), .c (.int .i64 (pwZ a k n).2)]) [] := by
  rw [pwZ_is]
  exact powers_fnd a k n
def kzE (n : Int) : Int := if n < 1 ∨ n > 4096 then 1 else 0
theorem make_fnd (k : U4) (n : Int) : FnD Try.prog 5 [.v (.a [.ob (.fr k)]), .v (.c (.int .i64 n))] (.t [.a (keyIts (kzL k n) (kzS k n)), .c (.int .i64 (kzE n))]) [] := by
  by_cases h : n < 1 ∨ n > 4096
  · have e1 : kzL k n = [] := (kzL_is k n).trans (if_pos h)
    have e2 : kzS k n = g20 := (kzS_is k n).trans (if_pos h)
    have e3 : kzE n = 1 := if_pos h
    rw [e1, e2, e3]
    by_cases h1 : n < 1
    · exact (fn_sound kmB_ok Try.func5 (mkA k n) ⟨decide_eq_true h1, trivial⟩).conv (fun _ _ h => h) fun y v hd => lit_key hd
    · exact (fn_sound kmB_ok Try.func5 (mkB k n) ⟨decide_eq_false h1, decide_eq_true (by omega), trivial⟩).conv (fun _ _ h => h) fun y v hd => lit_key hd
  · have e1 : kzL k n = (pwR genG k n).1 := (kzL_is k n).trans (if_neg h)
    have e2 : kzS k n = (muR2 genG2 (S4.outF (S4.inF k))).1 := (kzS_is k n).trans (if_neg h)
    have e3 : kzE n = 0 := if_neg h
    have f1 : (pwR genG k n).2 = 0 := by rw [pwR_on (by omega) onGen]
    have f2 : (muR2 genG2 (S4.outF (S4.inF k))).2 = 0 := by rw [muR2_on _ onGen2]
    rw [e1, e2, e3]
    exact fn_sound kmB_ok Try.func5 (mkC k n) ⟨decide_eq_false (by omega), decide_eq_false (by omega), by rw [f1]; rfl, by rw [f2]; rfl, trivial⟩

end Go.Proofs.Ytdeohachoeopdaa

/- KzgMakes' law, walked. No conditions. -/
namespace Go.Proofs.Ytdeohachoeopdaa
section
variable {w0 : World} {F0 : Nat → Prop} {K : Kp} {ac : List Act} {Q : Exit → Act → World → Prop} {cX : Ctx} {aX : Act}

noncomputable def powersZSpec : FnSpec
  | [.v (.a [.ob (.fp x), .ob (.fp y), .bool j]), .v (.a [.ob (.fr k)]), .v (.c (.int .i64 n))] => some ([], .t [.c (.sl (.g1 (pwZ ⟨x, y, j⟩ k n).1)), .c (.int .i64 (pwZ ⟨x, y, j⟩ k n).2)], [])
  | _ => none
noncomputable def knA : Env := kmA.set (addT kmA.fn 7 powersZSpec)
theorem knA_ok : EnvOk Try.prog knA := env_add kmA_ok 7 powersZSpec (enters_of Try.func7 rfl rfl) fun args o r es h _ => by
  unfold powersZSpec at h
  split at h
  · cases h; exact powersZ_fnd ⟨_, _, _⟩ _ _
  · cases h
noncomputable def makeSpec : FnSpec
  | [.v (.a [.ob (.fr k)]), .v (.c (.int .i64 n))] => some ([], .t [.a (keyIts (kzL k n) (kzS k n)), .c (.int .i64 (kzE n))], [])
  | _ => none
noncomputable def knB : Env := knA.set (addT knA.fn 5 makeSpec)
theorem knB_ok : EnvOk Try.prog knB := env_add knA_ok 5 makeSpec (enters_of Try.func5 rfl rfl) fun args o r es h _ => by
  unfold makeSpec at h
  split at h
  · cases h; exact make_fnd _ _
  · cases h
--@env knB knB_ok
theorem al17  : fnRes knB Try.f6 3000 [] [true,true] [] [] = (some ([((0:Int) ≤ (5:Int)),((5:Int) < (18446744073709551616:Int)),((0:Int) ≤ (0:Int)),((0:Int) < (18446744073709551616:Int)),((0:Int) ≤ (0:Int)),((0:Int) < (18446744073709551616:Int)),((0:Int) ≤ (0:Int)),((0:Int) < (18446744073709551616:Int)),(((0:Int) == (0:Int)) = true),(((((List.length (kzL (Fin.ofNat B4 5) (1:Int))) : Nat):Int) == (1:Int)) = true),((0:Int) ≤ (0:Int)),((0:Int) < (((List.length (kzL (Fin.ofNat B4 5) (1:Int))) : Nat):Int))],((.v (.c (.bool (ite (true = true) (Bool.and (decide ((G1D.x (List.getD (kzL (Fin.ofNat B4 5) (1:Int)) 0 g10)) = (G1D.x genG))) (Bool.and (decide ((G1D.y (List.getD (kzL (Fin.ofNat B4 5) (1:Int)) 0 g10)) = (G1D.y genG))) ((G1D.inf (List.getD (kzL (Fin.ofNat B4 5) (1:Int)) 0 g10)) == (G1D.inf genG)))) (Bool.not (Bool.and (decide ((G1D.x (List.getD (kzL (Fin.ofNat B4 5) (1:Int)) 0 g10)) = (G1D.x genG))) (Bool.and (decide ((G1D.y (List.getD (kzL (Fin.ofNat B4 5) (1:Int)) 0 g10)) = (G1D.y genG))) ((G1D.inf (List.getD (kzL (Fin.ofNat B4 5) (1:Int)) 0 g10)) == (G1D.inf genG))))))))),[]))) := by kernel_rfl
theorem u4_lim (k : U4) : k.val < 2 ^ 256 := by
  have h : B4 = 2 ^ 256 := by decide +kernel
  rw [← h]
  exact k.isLt
theorem pwE_of (a : Fp × Fp × Fp) (q : U4) {n : Nat} (hn : n = 64) : pwE (tb64 a) q = outG (pkT pt0 a q.val n) := by
  unfold pwE
  rw [tb64_is, pkL_is a q.val 64 64 (Nat.le_refl _), hn]
theorem pwE_is {a : G1D} (ha : onG a = true) (q : U4) : pwE (tb64 (inG a)) q = gP (nmul (pG a) q.val) := by
  obtain ⟨n, hn⟩ : ∃ n : Nat, n = 64 := ⟨_, rfl⟩
  rw [pwE_of (inG a) q hn]
  exact outG_jc (pkT_all cv1 (z := pt0) rfl (onG_is ha).2 (inG_jc a) hn (u4_lim q))
theorem kzL_in (k : U4) {n : Int} (h : ¬ (n < 1 ∨ n > 4096)) : kzL k n = pwL (tb64 (inG genG)) k n.toNat := by
  rw [kzL_is, if_neg h, pwR_on (by omega) onGen]
theorem one_val : (S4.outF (1 : Fr)).val = 1 := by rw [S4.outF_val]; decide
theorem first_gen (k : U4) {n : Nat} (h : 0 < n) : (pwL (tb64 (inG genG)) k n).getD 0 g10 = genG := by
  rw [pwL_get _ _ h]
  show pwE (tb64 (inG genG)) (S4.outF 1) = genG
  rw [pwE_is onGen, one_val, nmul_one]
  exact (onG_is onGen).1
theorem eq_bits0 {a b : G1D} (h : a = b) : (decide (a.x = b.x) && (decide (a.y = b.y) && (a.inf == b.inf))) = true := by
  subst h
  simp
theorem alive17_fnd : FnD Try.prog 6 [] (.v (.c (.bool true))) [] := by
  have hL := kzL_in (Fin.ofNat B4 5) (n := 1) (by decide)
  have hlen := pwL_len (tb64 (inG genG)) (Fin.ofNat B4 5) (1 : Int).toNat
  have h0 := first_gen (Fin.ofNat B4 5) (n := (1 : Int).toNat) (by decide)
  rw [← hL] at hlen h0
  have r := al17
  generalize kzL (Fin.ofNat B4 5) 1 = L at hlen h0 r
  rw [if_pos rfl, eq_bits0 h0] at r
  have hlen : L.length = 1 := hlen
  exact fn_sound knB_ok Try.func6 r ⟨by decide, by decide, by decide, by decide, by decide, by decide, by decide, by decide, rfl, by rw [hlen]; rfl, by decide, by rw [hlen]; decide, trivial⟩
noncomputable def alive17Spec : FnSpec
  | [] => some ([], .v (.c (.bool true)), [])
  | _ => none
noncomputable def knC : Env := knB.set (addT knB.fn 6 alive17Spec)
theorem knC_ok : EnvOk Try.prog knC := env_add knB_ok 6 alive17Spec (enters_of Try.func6 rfl rfl) fun args o r es h _ => by
  unfold alive17Spec at h
  split at h
  · cases h; exact alive17_fnd
  · cases h
--@env knC knC_ok
theorem lkA (k : U4) (n:Int) : fnRes knC Try.f3 3000 [.v (.a [.ob (.fr k)]),.v (.c (.int .i64 n))] [false,true,true,true,true] [] [] = (some ([((decide (n > (8:Int))) = false),((decide (n < (1:Int))) = true),(true = true),(((kzE n) == (1:Int)) = true),(((((List.length (kzL k n)) : Nat):Int) == (0:Int)) = true)],((.v (.c (.bool (ite (true = true) (Bool.and (decide ((G2D.xa (kzS k n)) = (0:U6))) (Bool.and (decide ((G2D.xb (kzS k n)) = (0:U6))) (Bool.and (decide ((G2D.ya (kzS k n)) = (0:U6))) (Bool.and (decide ((G2D.yb (kzS k n)) = (0:U6))) ((G2D.inf (kzS k n)) == false))))) (Bool.not (Bool.and (decide ((G2D.xa (kzS k n)) = (0:U6))) (Bool.and (decide ((G2D.xb (kzS k n)) = (0:U6))) (Bool.and (decide ((G2D.ya (kzS k n)) = (0:U6))) (Bool.and (decide ((G2D.yb (kzS k n)) = (0:U6))) ((G2D.inf (kzS k n)) == false)))))))))),[]))) := by kernel_rfl
theorem lkB (k : U4) (n:Int) : fnRes knC Try.f3 3000 [.v (.a [.ob (.fr k)]),.v (.c (.int .i64 n))] [true,false,false,true,true,true,true] [] [] = (some ([((decide (n > (8:Int))) = true),((decide (n ≤ (4096:Int))) = false),((decide (n < (1:Int))) = false),((decide (n > (4096:Int))) = true),(true = true),(((kzE n) == (1:Int)) = true),(((((List.length (kzL k n)) : Nat):Int) == (0:Int)) = true)],((.v (.c (.bool (ite (true = true) (Bool.and (decide ((G2D.xa (kzS k n)) = (0:U6))) (Bool.and (decide ((G2D.xb (kzS k n)) = (0:U6))) (Bool.and (decide ((G2D.ya (kzS k n)) = (0:U6))) (Bool.and (decide ((G2D.yb (kzS k n)) = (0:U6))) ((G2D.inf (kzS k n)) == false))))) (Bool.not (Bool.and (decide ((G2D.xa (kzS k n)) = (0:U6))) (Bool.and (decide ((G2D.xb (kzS k n)) = (0:U6))) (Bool.and (decide ((G2D.ya (kzS k n)) = (0:U6))) (Bool.and (decide ((G2D.yb (kzS k n)) = (0:U6))) ((G2D.inf (kzS k n)) == false)))))))))),[]))) := by kernel_rfl
noncomputable def lkG_k : List KI := (run knC false 3000 ((fun (k : U4) (n : Int) => (⟨[.code (bodyOf Try.f3)], .normal, initSt Try.f3.ntmps [.v (.a [.ob (.fr k)]), .v (.c (.int .i64 n))]⟩ : Cfg)) default default) [true, true, false, false, false, false, false, false, false, false]).cfg.k
theorem lkG_hk (k : U4) (n : Int) : (run knC false 3000 ((⟨[.code (bodyOf Try.f3)], .normal, initSt Try.f3.ntmps [.v (.a [.ob (.fr k)]), .v (.c (.int .i64 n))]⟩ : Cfg)) [true, true, false, false, false, false, false, false, false, false]).cfg.k = lkG_k := by kernel_rfl
theorem lkG (k : U4) (n:Int) (ho : AllP [((decide (n > (8:Int))) = true),((decide (n ≤ (4096:Int))) = true),((decide ((8:Int) < (1:Int))) = false),((decide ((8:Int) > (4096:Int))) = false),(((0:Int) != (0:Int)) = false),(((Prod.snd (pwZ genG k (8:Int))) != (0:Int)) = false),(((Prod.snd (muR2 genG2 (S4.outF (S4.inF k)))) != (0:Int)) = false),((ite (false = true) (Bool.and (decide ((G2D.xa (kzS k (8:Int))) = (G2D.xa (Prod.fst (muR2 genG2 (S4.outF (S4.inF k))))))) (Bool.and (decide ((G2D.xb (kzS k (8:Int))) = (G2D.xb (Prod.fst (muR2 genG2 (S4.outF (S4.inF k))))))) (Bool.and (decide ((G2D.ya (kzS k (8:Int))) = (G2D.ya (Prod.fst (muR2 genG2 (S4.outF (S4.inF k))))))) (Bool.and (decide ((G2D.yb (kzS k (8:Int))) = (G2D.yb (Prod.fst (muR2 genG2 (S4.outF (S4.inF k))))))) ((G2D.inf (kzS k (8:Int))) == (G2D.inf (Prod.fst (muR2 genG2 (S4.outF (S4.inF k)))))))))) (Bool.not (Bool.and (decide ((G2D.xa (kzS k (8:Int))) = (G2D.xa (Prod.fst (muR2 genG2 (S4.outF (S4.inF k))))))) (Bool.and (decide ((G2D.xb (kzS k (8:Int))) = (G2D.xb (Prod.fst (muR2 genG2 (S4.outF (S4.inF k))))))) (Bool.and (decide ((G2D.ya (kzS k (8:Int))) = (G2D.ya (Prod.fst (muR2 genG2 (S4.outF (S4.inF k))))))) (Bool.and (decide ((G2D.yb (kzS k (8:Int))) = (G2D.yb (Prod.fst (muR2 genG2 (S4.outF (S4.inF k))))))) ((G2D.inf (kzS k (8:Int))) == (G2D.inf (Prod.fst (muR2 genG2 (S4.outF (S4.inF k)))))))))))) = false),(((((List.length (kzL k (8:Int))) : Nat):Int) != (8:Int)) = false),(((((List.length (Prod.fst (pwZ genG k (8:Int)))) : Nat):Int) != (8:Int)) = false)]) (hs : Sim w0 F0 K ac (initSt Try.f3.ntmps [.v (.a [.ob (.fr k)]),.v (.c (.int .i64 n))]) cX aX) (hK : ∀ ac cY aY,Sim w0 F0 K ac (mkSt 107 [5,7,91,92] [.pt 256 0,(.v (.c (.sl (Sq.g1 (Prod.fst (pwZ genG k (8:Int))))))),(.ii (((List.length (Prod.fst (pwZ genG k (8:Int)))) : Nat):Int)),.ii (0:Int)] [256] [(some (.fl [(.sl (Sq.g1 (kzL k (8:Int)))),(.ob (.fp (G2D.xa (kzS k (8:Int))))),(.ob (.fp (G2D.xb (kzS k (8:Int))))),(.ob (.fp (G2D.ya (kzS k (8:Int))))),(.ob (.fp (G2D.yb (kzS k (8:Int))))),(.bool (G2D.inf (kzS k (8:Int))))]))] 1216 [] []) cY aY → Wq Try.prog Q (lkG_k) ac Exit.normal aY cY.w) : Wq Try.prog Q ([.code (bodyOf Try.f3)]) ac .normal aX cX.w :=
  run_at2 (o := ⟨_, _, _, _, _, _, _⟩) knC_ok (by kernel_rfl) (lkG_hk k n) ho hs hK
theorem lkH_hk (k : U4) (n : Int) : (run knC false 3000 ((⟨[.code (bodyOf Try.f3)], .normal, initSt Try.f3.ntmps [.v (.a [.ob (.fr k)]), .v (.c (.int .i64 n))]⟩ : Cfg)) [false, false, false, false, false, false, false, false, false]).cfg.k = lkG_k := by kernel_rfl
theorem lkH (k : U4) (n:Int) (ho : AllP [((decide (n > (8:Int))) = false),((decide (n < (1:Int))) = false),((decide (n > (4096:Int))) = false),(((kzE n) != (0:Int)) = false),(((Prod.snd (pwZ genG k n)) != (0:Int)) = false),(((Prod.snd (muR2 genG2 (S4.outF (S4.inF k)))) != (0:Int)) = false),((ite (false = true) (Bool.and (decide ((G2D.xa (kzS k n)) = (G2D.xa (Prod.fst (muR2 genG2 (S4.outF (S4.inF k))))))) (Bool.and (decide ((G2D.xb (kzS k n)) = (G2D.xb (Prod.fst (muR2 genG2 (S4.outF (S4.inF k))))))) (Bool.and (decide ((G2D.ya (kzS k n)) = (G2D.ya (Prod.fst (muR2 genG2 (S4.outF (S4.inF k))))))) (Bool.and (decide ((G2D.yb (kzS k n)) = (G2D.yb (Prod.fst (muR2 genG2 (S4.outF (S4.inF k))))))) ((G2D.inf (kzS k n)) == (G2D.inf (Prod.fst (muR2 genG2 (S4.outF (S4.inF k)))))))))) (Bool.not (Bool.and (decide ((G2D.xa (kzS k n)) = (G2D.xa (Prod.fst (muR2 genG2 (S4.outF (S4.inF k))))))) (Bool.and (decide ((G2D.xb (kzS k n)) = (G2D.xb (Prod.fst (muR2 genG2 (S4.outF (S4.inF k))))))) (Bool.and (decide ((G2D.ya (kzS k n)) = (G2D.ya (Prod.fst (muR2 genG2 (S4.outF (S4.inF k))))))) (Bool.and (decide ((G2D.yb (kzS k n)) = (G2D.yb (Prod.fst (muR2 genG2 (S4.outF (S4.inF k))))))) ((G2D.inf (kzS k n)) == (G2D.inf (Prod.fst (muR2 genG2 (S4.outF (S4.inF k)))))))))))) = false),(((((List.length (kzL k n)) : Nat):Int) != n) = false),(((((List.length (Prod.fst (pwZ genG k n))) : Nat):Int) != n) = false)]) (hs : Sim w0 F0 K ac (initSt Try.f3.ntmps [.v (.a [.ob (.fr k)]),.v (.c (.int .i64 n))]) cX aX) (hK : ∀ ac cY aY,Sim w0 F0 K ac (mkSt 107 [5,7,91,92] [.pt 240 0,(.v (.c (.sl (Sq.g1 (Prod.fst (pwZ genG k n)))))),(.ii (((List.length (Prod.fst (pwZ genG k n))) : Nat):Int)),.ii (0:Int)] [240] [(some (.fl [(.sl (Sq.g1 (kzL k n))),(.ob (.fp (G2D.xa (kzS k n)))),(.ob (.fp (G2D.xb (kzS k n)))),(.ob (.fp (G2D.ya (kzS k n)))),(.ob (.fp (G2D.yb (kzS k n)))),(.bool (G2D.inf (kzS k n)))]))] 1200 [] []) cY aY → Wq Try.prog Q (lkG_k) ac Exit.normal aY cY.w) : Wq Try.prog Q ([.code (bodyOf Try.f3)]) ac .normal aX cX.w :=
  run_at2 (o := ⟨_, _, _, _, _, _, _⟩) knC_ok (by kernel_rfl) (lkH_hk k n) ho hs hK
noncomputable def lkS (M L : List G1D) (s : G2D) (i:Int) : St := mkSt 107 [5,7,91,92] [.pt 256 0,.v (.c (.sl (.g1 L))),.v (.c (.int .i64 ((L.length : Nat):Int))),.v (.c (.int .i64 i))] [256] [some (.fl [.sl (.g1 M),.ob (.fp s.xa),.ob (.fp s.xb),.ob (.fp s.ya),.ob (.fp s.yb),.bool s.inf])] 1216 [] []
theorem lkI_hk (M L : List G1D) (s : G2D) (i : Int) : (run knC false 3000 ((⟨lpIn lkG_k, .normal, lkS M L s i⟩ : Cfg)) [true, false]).cfg.k = lpBk lkG_k := by kernel_rfl
theorem lkI (M L : List G1D) (s : G2D) (i:Int) (ho : AllP [((decide (i < (((List.length L) : Nat):Int))) = true),((0:Int) ≤ i),(i < (((List.length L) : Nat):Int)),((0:Int) ≤ i),(i < (((List.length M) : Nat):Int)),((ite (false = true) (Bool.and (decide ((G1D.x (List.getD L (i).toNat g10)) = (G1D.x (List.getD M (i).toNat g10)))) (Bool.and (decide ((G1D.y (List.getD L (i).toNat g10)) = (G1D.y (List.getD M (i).toNat g10)))) ((G1D.inf (List.getD L (i).toNat g10)) == (G1D.inf (List.getD M (i).toNat g10))))) (Bool.not (Bool.and (decide ((G1D.x (List.getD L (i).toNat g10)) = (G1D.x (List.getD M (i).toNat g10)))) (Bool.and (decide ((G1D.y (List.getD L (i).toNat g10)) = (G1D.y (List.getD M (i).toNat g10)))) ((G1D.inf (List.getD L (i).toNat g10)) == (G1D.inf (List.getD M (i).toNat g10))))))) = false)]) (hs : Sim w0 F0 K ac (lkS M L s i) cX aX) (hK : ∀ ac cY aY,Sim w0 F0 K ac (mkSt 107 [5,7,91,92] [.pt 256 0,(.v (.c (.sl (Sq.g1 L)))),(.ii (((List.length L) : Nat):Int)),(.ii (IntKind.wrap .i64 (i + (1:Int))))] [256] [(some (.fl [(.sl (Sq.g1 M)),(.ob (.fp (G2D.xa s))),(.ob (.fp (G2D.xb s))),(.ob (.fp (G2D.ya s))),(.ob (.fp (G2D.yb s))),(.bool (G2D.inf s))]))] 1456 [] []) cY aY → Wq Try.prog Q (lpBk lkG_k) ac Exit.normal aY cY.w) : Wq Try.prog Q (lpIn lkG_k) ac .normal aX cX.w :=
  run_at2 (o := ⟨_, _, _, _, _, _, _⟩) knC_ok (by kernel_rfl) (lkI_hk M L s i) ho hs hK
theorem lkX_end (M L : List G1D) (s : G2D) (i:Int) : runEnd knC Try.f3 false 3000 (⟨lpIn lkG_k,.normal,lkS M L s i⟩) [false] [] [] = (some ([((decide (i < (((List.length L) : Nat):Int))) = false)],((.v (.c (.bool true))),[]))) := by kernel_rfl
end
end Go.Proofs.Ytdeohachoeopdaa

/- KzgMakes' law returns true. No conditions. -/
namespace Go.Proofs.Ytdeohachoeopdaa

theorem eq_bits02 {a b : G2D} (h : a = b) : (decide (a.xa = b.xa) && (decide (a.xb = b.xb) && (decide (a.ya = b.ya) && (decide (a.yb = b.yb) && (a.inf == b.inf))))) = true := by
  subst h
  simp
theorem lk_loop (L : List G1D) (s : G2D) (hL : L.length ≤ 4096) {x0 : Ctx} (hk : ∀ p, x0.k p = .no) (hF : ∀ b, x0.F b → b < x0.w.heap.size) {ac : List Act} {cX : Ctx} {aX : Act}
    (hs : Sim x0.w x0.F kAll ac (lkS L L s 0) cX aX) : Wq Try.prog (Post Try.prog Try.f3 x0 (.v (.c (.bool true))) []) lkG_k ac .normal aX cX.w := by
  refine loop_rule (ι := { i : Nat // i ≤ L.length }) (fun i => lkS L L s (i.1 : Int)) (fun i => L.length - i.1) (c := lpC lkG_k) (k := lpR lkG_k) (by kernel_rfl) (fun i ih ac cY aY hs => ?_) ⟨0, Nat.zero_le _⟩ hs
  obtain ⟨i, hi⟩ := i
  simp only at ih hs
  by_cases hin : i < L.length
  · refine lkI L L s i ⟨decide_eq_true (by omega), by omega, by omega, by omega, by omega, by rw [if_neg Bool.false_ne_true, eq_bits0 rfl]; rfl, trivial⟩ hs fun ac cU aU hs2 => ?_
    rw [wrap_id (n := (i : Int) + 1) (by omega) (by omega)] at hs2
    exact ih ⟨i + 1, hin⟩ (by show L.length - (i + 1) < L.length - i; omega) ac cU aU (hs2.nx _)
  · obtain rfl : i = L.length := by omega
    exact run_end2 knC_ok hk hF (lkX_end L L s _) ⟨decide_eq_false (by omega), trivial⟩ (fun y v hd => hd) hs

theorem kzgMakes_fnd (k : U4) (n : Int) : FnD Try.prog 3 [.v (.a [.ob (.fr k)]), .v (.c (.int .i64 n))] (.v (.c (.bool true))) [] := by
  by_cases h : n < 1 ∨ n > 4096
  · have e1 : kzL k n = [] := (kzL_is k n).trans (if_pos h)
    have e2 : kzS k n = g20 := (kzS_is k n).trans (if_pos h)
    have e3 : kzE n = 1 := if_pos h
    have hz : (decide ((kzS k n).xa = 0) && (decide ((kzS k n).xb = 0) && (decide ((kzS k n).ya = 0) && (decide ((kzS k n).yb = 0) && ((kzS k n).inf == false))))) = true := eq_bits02 (b := g20) e2
    by_cases h1 : n < 1
    · have r := lkA k n
      rw [if_pos rfl, hz] at r
      exact fn_sound knC_ok Try.func3 r ⟨decide_eq_false (by omega), decide_eq_true h1, rfl, by rw [e3]; rfl, by rw [e1]; rfl, trivial⟩
    · have r := lkB k n
      rw [if_pos rfl, hz] at r
      exact fn_sound knC_ok Try.func3 r ⟨decide_eq_true (by omega), decide_eq_false (by omega), decide_eq_false h1, decide_eq_true (by omega), rfl, by rw [e3]; rfl, by rw [e1]; rfl, trivial⟩
  · have f2 : (muR2 genG2 (S4.outF (S4.inF k))).2 = 0 := by rw [muR2_on _ onGen2]
    have key : ∀ m : Int, ¬ (m < 1 ∨ m > 4096) → ∃ L : List G1D, (L.length : Int) = m ∧ kzL k m = L ∧ (pwZ genG k m).1 = L ∧ (pwZ genG k m).2 = 0 ∧ kzS k m = (muR2 genG2 (S4.outF (S4.inF k))).1 := fun m hm => by
      have hp := pwR_on (a := genG) (k := k) (n := m) (by omega) onGen
      refine ⟨pwL (tb64 (inG genG)) k m.toNat, by rw [pwL_len]; omega, kzL_in k hm, by rw [pwZ_is, hp], by rw [pwZ_is, hp], (kzS_is k m).trans (if_neg hm)⟩
    refine fn_start (fn := Try.f3) (c := bodyOf Try.f3) Try.func3 rfl rfl fun x0 a0 hk hF hs => ?_
    by_cases h8 : n > 8
    · obtain ⟨L, hl, g1, g2, g3, g4⟩ := key 8 (by omega)
      refine lkG k n ⟨decide_eq_true h8, decide_eq_true (by omega), rfl, rfl, rfl, by rw [g3]; rfl, by rw [f2]; rfl, by rw [if_neg Bool.false_ne_true, eq_bits02 g4]; rfl, by rw [g1, hl]; rfl, by rw [g2, hl]; rfl, trivial⟩ hs fun ac cY aY hs1 => ?_
      rw [g1, g2] at hs1
      exact lk_loop L (kzS k 8) (by omega) hk hF (hs1.nx _)
    · obtain ⟨L, hl, g1, g2, g3, g4⟩ := key n h
      have e3 : kzE n = 0 := if_neg h
      refine lkH k n ⟨decide_eq_false h8, decide_eq_false (by omega), decide_eq_false (by omega), by rw [e3]; rfl, by rw [g3]; rfl, by rw [f2]; rfl, by rw [if_neg Bool.false_ne_true, eq_bits02 g4]; rfl, by rw [g1, hl]; simp, by rw [g2, hl]; simp, trivial⟩ hs fun ac cY aY hs1 => ?_
      rw [g1, g2] at hs1
      generalize kzS k n = s at hs1
      have hs2 := hs1.move [] 240 256 rfl ⟨_, rfl⟩ rfl rfl rfl rfl rfl (svs' := [.v (.c (.ptr 256 0)), .v (.c (.sl (.g1 L))), .v (.c (.int .i64 ((L.length : Nat) : Int))), .v (.c (.int .i64 0))])
        ⟨.inr ⟨0, rfl, rfl⟩, .inl ⟨rfl, rfl⟩, .inl ⟨rfl, rfl⟩, .inl ⟨rfl, rfl⟩, trivial⟩ (ml' := [256]) (ens' := [some (.fl [.sl (.g1 L), .ob (.fp s.xa), .ob (.fp s.xb), .ob (.fp s.ya), .ob (.fp s.yb), .bool s.inf])]) (fun q => by
          simp only [look]
          by_cases h1 : q = 256 <;> by_cases h2 : q = 240 <;> simp_all)
      change Wq Try.prog _ _ _ _ _ (mvCtx cY [] 240 256).w
      exact lk_loop L s (by omega) hk hF (hs2.nx _)

end Go.Proofs.Ytdeohachoeopdaa

/- All that the claim of keys needs. No conditions. -/
namespace Go.Proofs.Ytdeohachoeopdaa
end Go.Proofs.Ytdeohachoeopdaa
