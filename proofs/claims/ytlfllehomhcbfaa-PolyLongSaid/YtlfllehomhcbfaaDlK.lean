/- Parts of a proof, one behind the other: WPf, WPg, PPg, WPh. No conditions. -/
import Derived.Test.YtlfllehomhcbfaaDlJ
/- Multiples of polynomials; sums and differences joined, walked. No conditions. -/
namespace Go.Proofs.Ytlfllehomhcbfaa

/-- Stepped into besides: join, and what Scale hands it. -/
noncomputable def inlJ (T : Nat → Option Func) (f : Nat) : Option Func := if f = 82 then some Try.f82 else if f = 84 then some Try.f84 else T f
noncomputable def envJn : Env := { envS1 with inl := inlJ envS1.inl }
theorem envJn_ok : EnvOk Try.prog envJn := by
  refine ⟨envS1_ok.ty, envS1_ok.mixed, envS1_ok.fn, envS1_ok.mu, fun f fn h => ?_, envS1_ok.ex⟩
  have h : inlJ envS1.inl f = some fn := h
  unfold inlJ at h
  split at h
  · rename_i hf; cases h; subst hf; exact ⟨Try.func82, enters_of Try.func82 rfl rfl⟩
  split at h
  · rename_i hf; cases h; subst hf; exact ⟨Try.func84, enters_of Try.func84 rfl rfl⟩
  exact envS1_ok.inl f fn h

--@env envJn envJn_ok
noncomputable def scIn_k : List KI := (run envJn false 3000 ((fun (a : List U4) (k : U4) => (⟨[.code (bodyOf Try.f43)], .normal, initSt Try.f43.ntmps [.v (.c (.sl (.fr a))), .v (.a [.ob (.fr k)])]⟩ : Cfg)) default default) [false]).cfg.k
theorem scIn_at (a : List U4) (k : U4) : runAt envJn false 3000 ((⟨[.code (bodyOf Try.f43)], .normal, initSt Try.f43.ntmps [.v (.c (.sl (.fr a))), .v (.a [.ob (.fr k)])]⟩ : Cfg)) [false] [2, 8, 9, 10, 29, 30] [96, 272, 304, 432] [[]] = some ⟨[(0 = 0), (2 = (List.length ([a] ++ [[]]))), (1 = 1), ((longB ([a] ++ [[]])) = false), ((List.length a) ≤ 8796093022208), ((0 : Int) ≤ (ite ((0 : Int) > (((List.length a) : Nat) : Int)) (0 : Int) (((List.length a) : Nat) : Int))), ((ite ((0 : Int) > (((List.length a) : Nat) : Int)) (0 : Int) (((List.length a) : Nat) : Int)) = (ite ((0 : Int) > (((List.length a) : Nat) : Int)) (0 : Int) (((List.length a) : Nat) : Int))), (((32 : Int) * (ite ((0 : Int) > (((List.length a) : Nat) : Int)) (0 : Int) (((List.length a) : Nat) : Int))) ≤ (281474976710656 : Int)), ((ite ((0 : Int) > (((List.length a) : Nat) : Int)) (0 : Int) (((List.length a) : Nat) : Int)) ≤ (9223372036854775807 : Int))], Exit.normal, [(SV.v (V1.c (It.clo 84 [(96, 0)]))), (SV.v (V1.c (It.slc 272 0 (List.length a) 4))), (SV.v (V1.c (It.slc 304 0 0 4))), (SV.v (V1.c (It.slc 432 0 ((ite ((0 : Int) > (((List.length a) : Nat) : Int)) (0 : Int) (((List.length a) : Nat) : Int))).toNat 4))), (SV.v (V1.c (It.int IntKind.i64 ((((ite ((0 : Int) > (((List.length a) : Nat) : Int)) (0 : Int) (((List.length a) : Nat) : Int))).toNat : Nat) : Int)))), (SV.v (V1.c (It.int IntKind.i64 (0 : Int))))], [(Option.some (En.fl [(It.ob (Ob.s (inF k)))])), (Option.some (En.sq (Sq.s (List.map inF a)))), (Option.some (En.sq (Sq.s ([] : List Fr)))), (Option.some (En.sq (Sq.s (List.replicate ((ite ((0 : Int) > (((List.length a) : Nat) : Int)) (0 : Int) (((List.length a) : Nat) : Int))).toNat (0 : Fr)))))], 59, 512, [([], 14)]⟩ := by kernel_rfl
theorem scIn_hk (a : List U4) (k : U4) : (run envJn false 3000 ((⟨[.code (bodyOf Try.f43)], .normal, initSt Try.f43.ntmps [.v (.c (.sl (.fr a))), .v (.a [.ob (.fr k)])]⟩ : Cfg)) [false]).cfg.k = scIn_k := by kernel_rfl
theorem scIn (a : List U4) (k : U4) {w0 : World} {F0 : Nat → Prop} {K : Kp} {ac : List Act} {Q : Exit → Act → World → Prop} {cX : Ctx} {aX : Act} (ho : AllP [(0 = 0), (2 = (List.length ([a] ++ [[]]))), (1 = 1), ((longB ([a] ++ [[]])) = false), ((List.length a) ≤ 8796093022208), ((0 : Int) ≤ (ite ((0 : Int) > (((List.length a) : Nat) : Int)) (0 : Int) (((List.length a) : Nat) : Int))), ((ite ((0 : Int) > (((List.length a) : Nat) : Int)) (0 : Int) (((List.length a) : Nat) : Int)) = (ite ((0 : Int) > (((List.length a) : Nat) : Int)) (0 : Int) (((List.length a) : Nat) : Int))), (((32 : Int) * (ite ((0 : Int) > (((List.length a) : Nat) : Int)) (0 : Int) (((List.length a) : Nat) : Int))) ≤ (281474976710656 : Int)), ((ite ((0 : Int) > (((List.length a) : Nat) : Int)) (0 : Int) (((List.length a) : Nat) : Int)) ≤ (9223372036854775807 : Int))]) (hs : Sim w0 F0 K ac (initSt Try.f43.ntmps [.v (.c (.sl (.fr a))), .v (.a [.ob (.fr k)])]) cX aX) (hK : ∀ ac cY aY, Sim w0 F0 K ac (mkSt 59 [2, 8, 9, 10, 29, 30] [(SV.v (V1.c (It.clo 84 [(96, 0)]))), (SV.v (V1.c (It.slc 272 0 (List.length a) 4))), (SV.v (V1.c (It.slc 304 0 0 4))), (SV.v (V1.c (It.slc 432 0 ((ite ((0 : Int) > (((List.length a) : Nat) : Int)) (0 : Int) (((List.length a) : Nat) : Int))).toNat 4))), (SV.v (V1.c (It.int IntKind.i64 ((((ite ((0 : Int) > (((List.length a) : Nat) : Int)) (0 : Int) (((List.length a) : Nat) : Int))).toNat : Nat) : Int)))), (SV.v (V1.c (It.int IntKind.i64 (0 : Int))))] [96, 272, 304, 432] [(Option.some (En.fl [(It.ob (Ob.s (inF k)))])), (Option.some (En.sq (Sq.s (List.map inF a)))), (Option.some (En.sq (Sq.s ([] : List Fr)))), (Option.some (En.sq (Sq.s (List.replicate ((ite ((0 : Int) > (((List.length a) : Nat) : Int)) (0 : Int) (((List.length a) : Nat) : Int))).toNat (0 : Fr)))))] 512 [[]] [([], 14)]) cY aY → Wq Try.prog Q (scIn_k) ac Exit.normal aY cY.w) : Wq Try.prog Q ([.code (bodyOf Try.f43)]) ac .normal aX cX.w :=
  run_at2 envJn_ok (scIn_at a k) (scIn_hk a k) ho hs hK
noncomputable def scS (A : List Fr) (kk : Fr) (la M : Nat) (L : List Fr) (i : Nat) : St := mkSt 59 [2, 8, 9, 10, 29, 30] [(SV.v (V1.c (It.clo 84 [(96, 0)]))), .v (.c (.slc 272 0 la 4)), (SV.v (V1.c (It.slc 304 0 0 4))), .v (.c (.slc 432 0 M 4)), .v (.c (.int .i64 (M : Int))), .v (.c (.int .i64 (i : Int)))] [96, 272, 304, 432] [some (.fl [.ob (.s kk)]), some (.sq (.s A)), (Option.some (En.sq (Sq.s ([] : List Fr)))), some (.sq (.s L))] 512 [[]] [([], 14)]
theorem scN_at (A : List Fr) (kk : Fr) (la M : Nat) (L : List Fr) (i : Nat) : runAt envJn false 3000 ((⟨lpIn scIn_k, .normal, scS A kk la M L i⟩ : Cfg)) [true, true, false] [2, 8, 9, 10, 29, 30] [96, 272, 304, 432] [[]] = some ⟨[((decide (((i : Nat) : Int) < ((M : Nat) : Int))) = true), ((decide (((i : Nat) : Int) < ((la : Nat) : Int))) = true), ((0 : Int) ≤ ((i : Nat) : Int)), (((i : Nat) : Int) < ((la : Nat) : Int)), (0 = 0), ((((i : Nat) : Int)).toNat < (List.length A)), ((decide (((i : Nat) : Int) < (0 : Int))) = false), ((0 : Int) ≤ ((i : Nat) : Int)), (((i : Nat) : Int) < ((M : Nat) : Int)), (0 = 0), ((((i : Nat) : Int)).toNat < (List.length L))], Exit.normal, [(SV.v (V1.c (It.clo 84 [(96, 0)]))), (SV.v (V1.c (It.slc 272 0 la 4))), (SV.v (V1.c (It.slc 304 0 0 4))), (SV.v (V1.c (It.slc 432 0 M 4))), (SV.v (V1.c (It.int IntKind.i64 ((M : Nat) : Int)))), (SV.v (V1.c (It.int IntKind.i64 (IntKind.wrap IntKind.i64 (((i : Nat) : Int) + (1 : Int))))))], [(Option.some (En.fl [(It.ob (Ob.s kk))])), (Option.some (En.sq (Sq.s A))), (Option.some (En.sq (Sq.s ([] : List Fr)))), (Option.some (En.sq (Sq.s (List.set L (((i : Nat) : Int)).toNat ((List.getD A (((i : Nat) : Int)).toNat (0 : Fr)) * kk)))))], 59, 1056, [([], 14)]⟩ := by kernel_rfl
theorem scN_hk (A : List Fr) (kk : Fr) (la M : Nat) (L : List Fr) (i : Nat) : (run envJn false 3000 ((⟨lpIn scIn_k, .normal, scS A kk la M L i⟩ : Cfg)) [true, true, false]).cfg.k = lpBk scIn_k := by kernel_rfl
theorem scN (A : List Fr) (kk : Fr) (la M : Nat) (L : List Fr) (i : Nat) {w0 : World} {F0 : Nat → Prop} {K : Kp} {ac : List Act} {Q : Exit → Act → World → Prop} {cX : Ctx} {aX : Act} (ho : AllP [((decide (((i : Nat) : Int) < ((M : Nat) : Int))) = true), ((decide (((i : Nat) : Int) < ((la : Nat) : Int))) = true), ((0 : Int) ≤ ((i : Nat) : Int)), (((i : Nat) : Int) < ((la : Nat) : Int)), (0 = 0), ((((i : Nat) : Int)).toNat < (List.length A)), ((decide (((i : Nat) : Int) < (0 : Int))) = false), ((0 : Int) ≤ ((i : Nat) : Int)), (((i : Nat) : Int) < ((M : Nat) : Int)), (0 = 0), ((((i : Nat) : Int)).toNat < (List.length L))]) (hs : Sim w0 F0 K ac (scS A kk la M L i) cX aX) (hK : ∀ ac cY aY, Sim w0 F0 K ac (mkSt 59 [2, 8, 9, 10, 29, 30] [(SV.v (V1.c (It.clo 84 [(96, 0)]))), (SV.v (V1.c (It.slc 272 0 la 4))), (SV.v (V1.c (It.slc 304 0 0 4))), (SV.v (V1.c (It.slc 432 0 M 4))), (SV.v (V1.c (It.int IntKind.i64 ((M : Nat) : Int)))), (SV.v (V1.c (It.int IntKind.i64 (IntKind.wrap IntKind.i64 (((i : Nat) : Int) + (1 : Int))))))] [96, 272, 304, 432] [(Option.some (En.fl [(It.ob (Ob.s kk))])), (Option.some (En.sq (Sq.s A))), (Option.some (En.sq (Sq.s ([] : List Fr)))), (Option.some (En.sq (Sq.s (List.set L (((i : Nat) : Int)).toNat ((List.getD A (((i : Nat) : Int)).toNat (0 : Fr)) * kk)))))] 1056 [[]] [([], 14)]) cY aY → Wq Try.prog Q (lpBk scIn_k) ac Exit.normal aY cY.w) : Wq Try.prog Q (lpIn scIn_k) ac .normal aX cX.w :=
  run_at2 envJn_ok (scN_at A kk la M L i) (scN_hk A kk la M L i) ho hs hK
theorem scX_end (A : List Fr) (kk : Fr) (la M : Nat) (L : List Fr) (i : Nat) : runEnd envJn Try.f43 false 3000 (⟨lpIn scIn_k, .normal, scS A kk la M L i⟩) [false] [544] [] = (Option.some ([((decide (((i : Nat) : Int) < ((M : Nat) : Int))) = false), (0 = 0), (M = (List.length L)), (4 = 4), ((List.length L) ≤ 8796093022208)], ((SV.t [(V1.c (It.slc 0 0 (List.length (trimF L)) 4)), (V1.c (It.int IntKind.i64 (0 : Int)))]), [(En.sq (Sq.fr (List.map outF (trimF L))))]))) := by kernel_rfl

theorem max_zero (m : Nat) : (if (0 : Int) > (m : Int) then (0 : Int) else (m : Int)) = (m : Int) := if_neg (by omega)

theorem scale_fnd (a : List U4) (k : U4) (ha : a.length ≤ 262144) : FnD Try.prog 43 [.v (.c (.sl (.fr a))), .v (.a [.ob (.fr k)])]
    (.t [.c (.slc 0 0 (trimF (scaleL (a.map inF) (inF k))).length 4), .c (.int .i64 0)]) [.sq (.fr ((trimF (scaleL (a.map inF) (inF k))).map outF))] := by
  refine fn_start (fn := Try.f43) (c := bodyOf Try.f43) Try.func43 rfl rfl fun x a0 hk hF hs => ?_
  have hM := max_zero a.length
  refine scIn a k (by rw [hM]; exact ⟨rfl, rfl, rfl, long_two ha (Nat.zero_le _), by omega, by omega, rfl, by omega, by omega, trivial⟩) hs fun ac cY aY hs1 => ?_
  rw [hM, Int.toNat_natCast] at hs1
  have hR : scaleL (a.map inF) (inF k) = (List.range a.length).map fun i => cf (a.map inF) i * inF k := by
    unfold scaleL
    rw [List.length_map]
  have hAl : (a.map inF).length = a.length := List.length_map ..
  generalize a.map inF = A at *
  generalize inF k = K at *
  generalize a.length = M at *
  clear hM hs
  refine loop_rule (ι := { i : Nat // i ≤ M }) (fun i => scS A K M M ((List.range i.1).map (fun i => cf A i * K) ++ List.replicate (M - i.1) 0) i.1) (fun i => M - i.1) (c := lpC scIn_k) (k := lpR scIn_k) (by kernel_rfl) (fun i ih ac cY aY hs => ?_) ⟨0, Nat.zero_le _⟩ hs1
  obtain ⟨i, hi⟩ := i
  simp only at ih hs
  have hl := fill_len (fun i => cf A i * K) 0 hi
  by_cases h : i < M
  · have hw : IntKind.wrap IntKind.i64 ((i : Int) + 1) = ((i + 1 : Nat) : Int) := by rw [wrap_id (by omega) (by omega)]; omega
    have hset := fill_set (fun i => cf A i * K) 0 h
    refine scN A K M M _ i ⟨by simp [h], by simp [h], by omega, by omega, rfl, by omega, by simp only [decide_eq_false_iff_not]; omega, by omega, by omega, rfl, by omega, trivial⟩ hs fun ac cY aY hs2 => ?_
    rw [hw, Int.toNat_natCast, show A.getD i 0 * K = cf A i * K from rfl, hset] at hs2
    exact ih ⟨i + 1, by omega⟩ (by show M - (i + 1) < M - i; omega) ac cY aY (hs2.nx _)
  · have e : i = M := by omega
    rw [e, Nat.sub_self, List.replicate_zero, List.append_nil, ← hR] at hs
    have hRl : (scaleL A K).length = M := by rw [hR, List.length_map, List.length_range]
    exact run_end2 envJn_ok hk hF (scX_end A K M M _ M) ⟨by simp, rfl, hRl.symm, rfl, by omega, trivial⟩ (fun y v hd => hd) hs

def join82Spec : FnSpec
  | [.v (.c (.sl (.fr a))), .v (.c (.sl (.fr b))), .v (.c (.clo 75 []))] => some ([a.length ≤ 262144, b.length ≤ 262144], .t [.c (.slc 0 0 (trimF (addL (a.map inF) (b.map inF))).length 4), .c (.int .i64 0)], [.sq (.fr ((trimF (addL (a.map inF) (b.map inF))).map outF))])
  | [.v (.c (.sl (.fr a))), .v (.c (.sl (.fr b))), .v (.c (.clo 83 []))] => some ([a.length ≤ 262144, b.length ≤ 262144], .t [.c (.slc 0 0 (trimF (subL (a.map inF) (b.map inF))).length 4), .c (.int .i64 0)], [.sq (.fr ((trimF (subL (a.map inF) (b.map inF))).map outF))])
  | _ => none
noncomputable def envT1 : Env := envS1.set (addT envS1.fn 82 join82Spec)
theorem envT1_ok : EnvOk Try.prog envT1 := env_add envS1_ok 82 join82Spec (enters_of Try.func82 rfl rfl) fun args o r es h ho => by
  unfold join82Spec at h
  split at h
  · cases h; exact joinAdd_fnd _ _ ho.1 ho.2.1
  · cases h; exact joinSub_fnd _ _ ho.1 ho.2.1
  · cases h
def scaleSpec : FnSpec
  | [.v (.c (.sl (.fr a))), .v (.a [.ob (.fr k)])] => some ([a.length ≤ 262144], .t [.c (.slc 0 0 (trimF (scaleL (a.map inF) (inF k))).length 4), .c (.int .i64 0)], [.sq (.fr ((trimF (scaleL (a.map inF) (inF k))).map outF))])
  | _ => none
noncomputable def envT2 : Env := envT1.set (addT envT1.fn 43 scaleSpec)
theorem envT2_ok : EnvOk Try.prog envT2 := env_add envT1_ok 43 scaleSpec (enters_of Try.func43 rfl rfl) fun args o r es h ho => by
  unfold scaleSpec at h
  split at h
  · cases h; exact scale_fnd _ _ ho.1
  · cases h
def refScaleSpec : FnSpec
  | [.v (.c (.sl (.fr a))), .v (.a [.ob (.fr k)])] => some ([a.length ≤ 1073741824], .v (.c (.slc 0 0 (trimF (scaleL (a.map inF) (inF k))).length 4)), [.sq (.fr ((trimF (scaleL (a.map inF) (inF k))).map outF))])
  | _ => none
noncomputable def envT3 : Env := envT2.set (addT envT2.fn 46 refScaleSpec)
theorem envT3_ok : EnvOk Try.prog envT3 := env_add envT2_ok 46 refScaleSpec (enters_of Try.func46 rfl rfl) fun args o r es h ho => by
  unfold refScaleSpec at h
  split at h
  · cases h; exact refScale_fnd _ _ ho.1
  · cases h
--@env envT3 envT3_ok
theorem ad41 (a b : List U4) : fnRes envT3 Try.f41 3000 [.v (.c (.sl (.fr a))), .v (.c (.sl (.fr b)))] [] [80] [] = (Option.some ([((List.length a) ≤ 262144), ((List.length b) ≤ 262144)], ((SV.t [(V1.c (It.slc 0 0 (List.length (trimF (addL (List.map inF a) (List.map inF b)))) 4)), (V1.c (It.int IntKind.i64 (0 : Int)))]), [(En.sq (Sq.fr (List.map outF (trimF (addL (List.map inF a) (List.map inF b))))))]))) := by kernel_rfl
theorem sb42 (a b : List U4) : fnRes envT3 Try.f42 3000 [.v (.c (.sl (.fr a))), .v (.c (.sl (.fr b)))] [] [80] [] = (Option.some ([((List.length a) ≤ 262144), ((List.length b) ≤ 262144)], ((SV.t [(V1.c (It.slc 0 0 (List.length (trimF (subL (List.map inF a) (List.map inF b)))) 4)), (V1.c (It.int IntKind.i64 (0 : Int)))]), [(En.sq (Sq.fr (List.map outF (trimF (subL (List.map inF a) (List.map inF b))))))]))) := by kernel_rfl
theorem rs45 (a b : List U4) : fnRes envT3 Try.f45 3000 [.v (.c (.sl (.fr a))), .v (.c (.sl (.fr b)))] [] [96] [] = (Option.some ([((-(1 : Int)) = (-(1 : Int))), ((List.length b) ≤ 1073741824), (0 = 0), ((List.length (trimF (scaleL (List.map inF b) (inF (outF ((0 : Fr) - (1 : Fr))))))) = (List.length (List.map outF (trimF (scaleL (List.map inF b) (inF (outF ((0 : Fr) - (1 : Fr))))))))), (4 = 4), ((List.length a) ≤ 1073741824), ((List.length (List.map outF (trimF (scaleL (List.map inF b) (inF (outF ((0 : Fr) - (1 : Fr)))))))) ≤ 1073741824)], ((SV.v (V1.c (It.slc 0 0 (List.length (trimF (addL (List.map inF a) (List.map inF (List.map outF (trimF (scaleL (List.map inF b) (inF (outF ((0 : Fr) - (1 : Fr))))))))))) 4))), [(En.sq (Sq.fr (List.map outF (trimF (addL (List.map inF a) (List.map inF (List.map outF (trimF (scaleL (List.map inF b) (inF (outF ((0 : Fr) - (1 : Fr)))))))))))))]))) := by kernel_rfl

theorem add_neg_mul {r : Nat} [NeZero r] (x y : Fin r) : x + y * (0 - 1) = x - y := by grind

theorem sub_scale (A B : List Fr) : trimF (addL A (trimF (scaleL B (0 - 1)))) = trimF (subL A B) := by
  refine trim_ext fun i => ?_
  rw [addL_cf, trim_cf, scaleL_cf, subL_cf]
  exact add_neg_mul _ _

theorem scaleL_len (A : List Fr) (k : Fr) : (scaleL A k).length = A.length := by
  unfold scaleL
  rw [List.length_map, List.length_range]

theorem refSub_fnd (a b : List U4) (ha : a.length ≤ 1073741824) (hb : b.length ≤ 1073741824) : FnD Try.prog 45 [.v (.c (.sl (.fr a))), .v (.c (.sl (.fr b)))]
    (.v (.c (.slc 0 0 (trimF (subL (a.map inF) (b.map inF))).length 4))) [.sq (.fr ((trimF (subL (a.map inF) (b.map inF))).map outF))] := by
  have r := rs45 a b
  have hl : (trimF (scaleL (b.map inF) (0 - 1))).length ≤ 1073741824 := by
    refine Nat.le_trans (trim_le _) ?_
    rw [scaleL_len, List.length_map]
    exact hb
  rw [in_out, map_in_out, sub_scale] at r
  rw [List.length_map] at r
  exact fn_sound envT3_ok Try.func45 r ⟨rfl, hb, rfl, rfl, rfl, ha, hl, trivial⟩

def add41Spec : FnSpec
  | [.v (.c (.sl (.fr a))), .v (.c (.sl (.fr b)))] => some ([a.length ≤ 262144, b.length ≤ 262144], .t [.c (.slc 0 0 (trimF (addL (a.map inF) (b.map inF))).length 4), .c (.int .i64 0)], [.sq (.fr ((trimF (addL (a.map inF) (b.map inF))).map outF))])
  | _ => none
noncomputable def envT4 : Env := envT3.set (addT envT3.fn 41 add41Spec)
theorem envT4_ok : EnvOk Try.prog envT4 := env_add envT3_ok 41 add41Spec (enters_of Try.func41 rfl rfl) fun args o r es h ho => by
  unfold add41Spec at h
  split at h
  · cases h; exact fn_sound envT3_ok Try.func41 (ad41 _ _) ho
  · cases h
def sub42Spec : FnSpec
  | [.v (.c (.sl (.fr a))), .v (.c (.sl (.fr b)))] => some ([a.length ≤ 262144, b.length ≤ 262144], .t [.c (.slc 0 0 (trimF (subL (a.map inF) (b.map inF))).length 4), .c (.int .i64 0)], [.sq (.fr ((trimF (subL (a.map inF) (b.map inF))).map outF))])
  | _ => none
noncomputable def envT5 : Env := envT4.set (addT envT4.fn 42 sub42Spec)
theorem envT5_ok : EnvOk Try.prog envT5 := env_add envT4_ok 42 sub42Spec (enters_of Try.func42 rfl rfl) fun args o r es h ho => by
  unfold sub42Spec at h
  split at h
  · cases h; exact fn_sound envT3_ok Try.func42 (sb42 _ _) ho
  · cases h
def refSubSpec : FnSpec
  | [.v (.c (.sl (.fr a))), .v (.c (.sl (.fr b)))] => some ([a.length ≤ 1073741824, b.length ≤ 1073741824], .v (.c (.slc 0 0 (trimF (subL (a.map inF) (b.map inF))).length 4)), [.sq (.fr ((trimF (subL (a.map inF) (b.map inF))).map outF))])
  | _ => none
noncomputable def envT : Env := envT5.set (addT envT5.fn 45 refSubSpec)
theorem envT_ok : EnvOk Try.prog envT := env_add envT5_ok 45 refSubSpec (enters_of Try.func45 rfl rfl) fun args o r es h ho => by
  unfold refSubSpec at h
  split at h
  · cases h; exact refSub_fnd _ _ ho.1 ho.2.1
  · cases h
--@env envT envT_ok
theorem pa6 (a b : List U4) (k : U4) : fnRes envT Try.f6 3000 [.v (.c (.sl (.fr a))), .v (.c (.sl (.fr b))), .v (.a [.ob (.fr k)])] [true, true, true, true, true, true, true] [] [] = (Option.some ([((List.length (List.take 40 a)) ≤ 262144), ((List.length (List.take 40 b)) ≤ 262144), ((List.length (List.take 40 a)) ≤ 262144), ((List.length (List.take 40 b)) ≤ 262144), ((List.length (List.take 40 a)) ≤ 262144), (((0 : Int) == (0 : Int)) = true), (((0 : Int) == (0 : Int)) = true), (((0 : Int) == (0 : Int)) = true), ((List.length (List.take 40 a)) ≤ 8796093022208), ((List.length (List.take 40 a)) ≤ 1099511627776), (0 = 0), ((List.length (trimF (List.map inF (List.take 40 a)))) = (List.length (List.map outF (trimF (List.map inF (List.take 40 a)))))), (4 = 4), (0 = 0), ((List.length (trimF (List.map inF (List.take 40 a)))) = (List.length (List.map outF (trimF (List.map inF (List.take 40 a)))))), (4 = 4), ((decide ((List.map outF (trimF (List.map inF (List.take 40 a)))) = (List.map outF (trimF (List.map inF (List.take 40 a)))))) = true), ((List.length (List.take 40 a)) ≤ 1073741824), ((List.length (List.take 40 b)) ≤ 1073741824), (0 = 0), ((List.length (trimF (addL (List.map inF (List.take 40 a)) (List.map inF (List.take 40 b))))) = (List.length (List.map outF (trimF (addL (List.map inF (List.take 40 a)) (List.map inF (List.take 40 b))))))), (4 = 4), (0 = 0), ((List.length (trimF (addL (List.map inF (List.take 40 a)) (List.map inF (List.take 40 b))))) = (List.length (List.map outF (trimF (addL (List.map inF (List.take 40 a)) (List.map inF (List.take 40 b))))))), (4 = 4), ((decide ((List.map outF (trimF (addL (List.map inF (List.take 40 a)) (List.map inF (List.take 40 b))))) = (List.map outF (trimF (addL (List.map inF (List.take 40 a)) (List.map inF (List.take 40 b))))))) = true), ((List.length (List.take 40 a)) ≤ 1073741824), ((List.length (List.take 40 b)) ≤ 1073741824), (0 = 0), ((List.length (trimF (subL (List.map inF (List.take 40 a)) (List.map inF (List.take 40 b))))) = (List.length (List.map outF (trimF (subL (List.map inF (List.take 40 a)) (List.map inF (List.take 40 b))))))), (4 = 4), (0 = 0), ((List.length (trimF (subL (List.map inF (List.take 40 a)) (List.map inF (List.take 40 b))))) = (List.length (List.map outF (trimF (subL (List.map inF (List.take 40 a)) (List.map inF (List.take 40 b))))))), (4 = 4), ((decide ((List.map outF (trimF (subL (List.map inF (List.take 40 a)) (List.map inF (List.take 40 b))))) = (List.map outF (trimF (subL (List.map inF (List.take 40 a)) (List.map inF (List.take 40 b))))))) = true), ((List.length (List.take 40 a)) ≤ 1073741824), (0 = 0), ((List.length (trimF (scaleL (List.map inF (List.take 40 a)) (inF k)))) = (List.length (List.map outF (trimF (scaleL (List.map inF (List.take 40 a)) (inF k)))))), (4 = 4), (0 = 0), ((List.length (trimF (scaleL (List.map inF (List.take 40 a)) (inF k)))) = (List.length (List.map outF (trimF (scaleL (List.map inF (List.take 40 a)) (inF k)))))), (4 = 4)], ((SV.v (V1.c (It.bool (decide ((List.map outF (trimF (scaleL (List.map inF (List.take 40 a)) (inF k)))) = (List.map outF (trimF (scaleL (List.map inF (List.take 40 a)) (inF k))))))))), []))) := by kernel_rfl
end Go.Proofs.Ytlfllehomhcbfaa

/- Values and products of polynomials, and what is too long, walked. No conditions. -/
namespace Go.Proofs.Ytlfllehomhcbfaa

--@env envT envT_ok
theorem atA_end (a : List U4) (z : U4) : runEnd envT Try.f58 false 3000 (⟨[.code (bodyOf Try.f58)], .normal, initSt Try.f58.ntmps [.v (.c (.sl (.fr a))), .v (.a [.ob (.fr z)])]⟩) [true] [] [] = (Option.some ([(0 = 0), (1 = 1), (1 = 1), ((longB [a]) = true)], ((SV.t [(V1.a [(It.ob (Ob.fr (0 : U4)))]), (V1.c (It.int IntKind.i64 (2 : Int)))]), []))) := by kernel_rfl
noncomputable def atIn_k : List KI := (run envT false 3000 ((fun (a : List U4) (z : U4) => (⟨[.code (bodyOf Try.f58)], .normal, initSt Try.f58.ntmps [.v (.c (.sl (.fr a))), .v (.a [.ob (.fr z)])]⟩ : Cfg)) default default) [false]).cfg.k
theorem atIn_at (a : List U4) (z : U4) : runAt envT false 3000 ((⟨[.code (bodyOf Try.f58)], .normal, initSt Try.f58.ntmps [.v (.c (.sl (.fr a))), .v (.a [.ob (.fr z)])]⟩ : Cfg)) [false] [0, 4, 6, 7, 8] [32, 112, 160] [] = some ⟨[(0 = 0), (1 = 1), (1 = 1), ((longB [a]) = false)], Exit.normal, [(SV.v (V1.c (It.sl (Sq.fr a)))), (SV.v (V1.c (It.ptr 32 0))), (SV.v (V1.c (It.ptr 112 0))), (SV.v (V1.c (It.ptr 160 0))), (SV.v (V1.c (It.int IntKind.i64 (IntKind.wrap IntKind.i64 ((((List.length a) : Nat) : Int) - (1 : Int))))))], [(Option.some (En.fl [(It.ob (Ob.fr (0 : U4)))])), (Option.some (En.fl [(It.ob (Ob.s (0 : Fr)))])), (Option.some (En.fl [(It.ob (Ob.s (inF z)))]))], 33, 256, []⟩ := by kernel_rfl
theorem atIn_hk (a : List U4) (z : U4) : (run envT false 3000 ((⟨[.code (bodyOf Try.f58)], .normal, initSt Try.f58.ntmps [.v (.c (.sl (.fr a))), .v (.a [.ob (.fr z)])]⟩ : Cfg)) [false]).cfg.k = atIn_k := by kernel_rfl
theorem atIn (a : List U4) (z : U4) {w0 : World} {F0 : Nat → Prop} {K : Kp} {ac : List Act} {Q : Exit → Act → World → Prop} {cX : Ctx} {aX : Act} (ho : AllP [(0 = 0), (1 = 1), (1 = 1), ((longB [a]) = false)]) (hs : Sim w0 F0 K ac (initSt Try.f58.ntmps [.v (.c (.sl (.fr a))), .v (.a [.ob (.fr z)])]) cX aX) (hK : ∀ ac cY aY, Sim w0 F0 K ac (mkSt 33 [0, 4, 6, 7, 8] [(SV.v (V1.c (It.sl (Sq.fr a)))), (SV.v (V1.c (It.ptr 32 0))), (SV.v (V1.c (It.ptr 112 0))), (SV.v (V1.c (It.ptr 160 0))), (SV.v (V1.c (It.int IntKind.i64 (IntKind.wrap IntKind.i64 ((((List.length a) : Nat) : Int) - (1 : Int))))))] [32, 112, 160] [(Option.some (En.fl [(It.ob (Ob.fr (0 : U4)))])), (Option.some (En.fl [(It.ob (Ob.s (0 : Fr)))])), (Option.some (En.fl [(It.ob (Ob.s (inF z)))]))] 256 [] []) cY aY → Wq Try.prog Q (atIn_k) ac Exit.normal aY cY.w) : Wq Try.prog Q ([.code (bodyOf Try.f58)]) ac .normal aX cX.w :=
  run_at2 envT_ok (atIn_at a z) (atIn_hk a z) ho hs hK
noncomputable def plIn_k : List KI := (run envT false 3000 ((fun (A B : List Fr) => (⟨[.code (bodyOf Try.f91)], .normal, initSt Try.f91.ntmps [.v (.c (.sl (.s A))), .v (.c (.sl (.s B)))]⟩ : Cfg)) default default) []).cfg.k
theorem plIn_at (A B : List Fr) : runAt envT false 3000 ((⟨[.code (bodyOf Try.f91)], .normal, initSt Try.f91.ntmps [.v (.c (.sl (.s A))), .v (.c (.sl (.s B)))]⟩ : Cfg)) [] [1, 5, 17, 18, 19] [128] [] = some ⟨[((0 : Int) ≤ (IntKind.wrap IntKind.i64 ((IntKind.wrap IntKind.i64 ((((List.length A) : Nat) : Int) + (((List.length B) : Nat) : Int))) - (1 : Int)))), ((IntKind.wrap IntKind.i64 ((IntKind.wrap IntKind.i64 ((((List.length A) : Nat) : Int) + (((List.length B) : Nat) : Int))) - (1 : Int))) = (IntKind.wrap IntKind.i64 ((IntKind.wrap IntKind.i64 ((((List.length A) : Nat) : Int) + (((List.length B) : Nat) : Int))) - (1 : Int)))), (((32 : Int) * (IntKind.wrap IntKind.i64 ((IntKind.wrap IntKind.i64 ((((List.length A) : Nat) : Int) + (((List.length B) : Nat) : Int))) - (1 : Int)))) ≤ (281474976710656 : Int)), ((IntKind.wrap IntKind.i64 ((IntKind.wrap IntKind.i64 ((((List.length A) : Nat) : Int) + (((List.length B) : Nat) : Int))) - (1 : Int))) ≤ (9223372036854775807 : Int))], Exit.normal, [(SV.v (V1.c (It.sl (Sq.s B)))), (SV.v (V1.c (It.slc 128 0 ((IntKind.wrap IntKind.i64 ((IntKind.wrap IntKind.i64 ((((List.length A) : Nat) : Int) + (((List.length B) : Nat) : Int))) - (1 : Int)))).toNat 4))), (SV.v (V1.c (It.sl (Sq.s A)))), (SV.v (V1.c (It.int IntKind.i64 (((List.length A) : Nat) : Int)))), (SV.v (V1.c (It.int IntKind.i64 (0 : Int))))], [(Option.some (En.sq (Sq.s (List.replicate ((IntKind.wrap IntKind.i64 ((IntKind.wrap IntKind.i64 ((((List.length A) : Nat) : Int) + (((List.length B) : Nat) : Int))) - (1 : Int)))).toNat (0 : Fr)))))], 50, 208, []⟩ := by kernel_rfl
theorem plIn_hk (A B : List Fr) : (run envT false 3000 ((⟨[.code (bodyOf Try.f91)], .normal, initSt Try.f91.ntmps [.v (.c (.sl (.s A))), .v (.c (.sl (.s B)))]⟩ : Cfg)) []).cfg.k = plIn_k := by kernel_rfl
theorem plIn (A B : List Fr) {w0 : World} {F0 : Nat → Prop} {K : Kp} {ac : List Act} {Q : Exit → Act → World → Prop} {cX : Ctx} {aX : Act} (ho : AllP [((0 : Int) ≤ (IntKind.wrap IntKind.i64 ((IntKind.wrap IntKind.i64 ((((List.length A) : Nat) : Int) + (((List.length B) : Nat) : Int))) - (1 : Int)))), ((IntKind.wrap IntKind.i64 ((IntKind.wrap IntKind.i64 ((((List.length A) : Nat) : Int) + (((List.length B) : Nat) : Int))) - (1 : Int))) = (IntKind.wrap IntKind.i64 ((IntKind.wrap IntKind.i64 ((((List.length A) : Nat) : Int) + (((List.length B) : Nat) : Int))) - (1 : Int)))), (((32 : Int) * (IntKind.wrap IntKind.i64 ((IntKind.wrap IntKind.i64 ((((List.length A) : Nat) : Int) + (((List.length B) : Nat) : Int))) - (1 : Int)))) ≤ (281474976710656 : Int)), ((IntKind.wrap IntKind.i64 ((IntKind.wrap IntKind.i64 ((((List.length A) : Nat) : Int) + (((List.length B) : Nat) : Int))) - (1 : Int))) ≤ (9223372036854775807 : Int))]) (hs : Sim w0 F0 K ac (initSt Try.f91.ntmps [.v (.c (.sl (.s A))), .v (.c (.sl (.s B)))]) cX aX) (hK : ∀ ac cY aY, Sim w0 F0 K ac (mkSt 50 [1, 5, 17, 18, 19] [(SV.v (V1.c (It.sl (Sq.s B)))), (SV.v (V1.c (It.slc 128 0 ((IntKind.wrap IntKind.i64 ((IntKind.wrap IntKind.i64 ((((List.length A) : Nat) : Int) + (((List.length B) : Nat) : Int))) - (1 : Int)))).toNat 4))), (SV.v (V1.c (It.sl (Sq.s A)))), (SV.v (V1.c (It.int IntKind.i64 (((List.length A) : Nat) : Int)))), (SV.v (V1.c (It.int IntKind.i64 (0 : Int))))] [128] [(Option.some (En.sq (Sq.s (List.replicate ((IntKind.wrap IntKind.i64 ((IntKind.wrap IntKind.i64 ((((List.length A) : Nat) : Int) + (((List.length B) : Nat) : Int))) - (1 : Int)))).toNat (0 : Fr)))))] 208 [] []) cY aY → Wq Try.prog Q (plIn_k) ac Exit.normal aY cY.w) : Wq Try.prog Q ([.code (bodyOf Try.f91)]) ac .normal aX cX.w :=
  run_at2 envT_ok (plIn_at A B) (plIn_hk A B) ho hs hK
noncomputable def atS (a : List U4) (z w : Fr) (i : Int) : St := mkSt 33 [0, 4, 6, 7, 8] [(SV.v (V1.c (It.sl (Sq.fr a)))), (SV.v (V1.c (It.ptr 32 0))), (SV.v (V1.c (It.ptr 112 0))), (SV.v (V1.c (It.ptr 160 0))), .v (.c (.int .i64 i))] [32, 112, 160] [(Option.some (En.fl [(It.ob (Ob.fr (0 : U4)))])), some (.fl [.ob (.s w)]), some (.fl [.ob (.s z)])] 256 [] []
theorem atN_at (a : List U4) (z w : Fr) (i : Int) : runAt envT false 3000 ((⟨lpIn atIn_k, .normal, atS a z w i⟩ : Cfg)) [true] [0, 4, 6, 7, 8] [32, 112, 160] [] = some ⟨[((decide (i ≥ (0 : Int))) = true), ((0 : Int) ≤ i), (i < (((List.length a) : Nat) : Int))], Exit.normal, [(SV.v (V1.c (It.sl (Sq.fr a)))), (SV.v (V1.c (It.ptr 32 0))), (SV.v (V1.c (It.ptr 112 0))), (SV.v (V1.c (It.ptr 160 0))), (SV.v (V1.c (It.int IntKind.i64 (IntKind.wrap IntKind.i64 (i - (1 : Int))))))], [(Option.some (En.fl [(It.ob (Ob.fr (0 : U4)))])), (Option.some (En.fl [(It.ob (Ob.s ((w * z) + (inF (List.getD a (i).toNat (0 : U4))))))])), (Option.some (En.fl [(It.ob (Ob.s z))]))], 33, 496, []⟩ := by kernel_rfl
theorem atN_hk (a : List U4) (z w : Fr) (i : Int) : (run envT false 3000 ((⟨lpIn atIn_k, .normal, atS a z w i⟩ : Cfg)) [true]).cfg.k = lpBk atIn_k := by kernel_rfl
theorem atN (a : List U4) (z w : Fr) (i : Int) {w0 : World} {F0 : Nat → Prop} {K : Kp} {ac : List Act} {Q : Exit → Act → World → Prop} {cX : Ctx} {aX : Act} (ho : AllP [((decide (i ≥ (0 : Int))) = true), ((0 : Int) ≤ i), (i < (((List.length a) : Nat) : Int))]) (hs : Sim w0 F0 K ac (atS a z w i) cX aX) (hK : ∀ ac cY aY, Sim w0 F0 K ac (mkSt 33 [0, 4, 6, 7, 8] [(SV.v (V1.c (It.sl (Sq.fr a)))), (SV.v (V1.c (It.ptr 32 0))), (SV.v (V1.c (It.ptr 112 0))), (SV.v (V1.c (It.ptr 160 0))), (SV.v (V1.c (It.int IntKind.i64 (IntKind.wrap IntKind.i64 (i - (1 : Int))))))] [32, 112, 160] [(Option.some (En.fl [(It.ob (Ob.fr (0 : U4)))])), (Option.some (En.fl [(It.ob (Ob.s ((w * z) + (inF (List.getD a (i).toNat (0 : U4))))))])), (Option.some (En.fl [(It.ob (Ob.s z))]))] 496 [] []) cY aY → Wq Try.prog Q (lpBk atIn_k) ac Exit.normal aY cY.w) : Wq Try.prog Q (lpIn atIn_k) ac .normal aX cX.w :=
  run_at2 envT_ok (atN_at a z w i) (atN_hk a z w i) ho hs hK
theorem atX_end (a : List U4) (z w : Fr) (i : Int) : runEnd envT Try.f58 false 3000 (⟨lpIn atIn_k, .normal, atS a z w i⟩) [false] [] [] = (Option.some ([((decide (i ≥ (0 : Int))) = false)], ((SV.t [(V1.a [(It.ob (Ob.fr (outF w)))]), (V1.c (It.int IntKind.i64 (0 : Int)))]), []))) := by kernel_rfl
noncomputable def plS (A B : List Fr) (la M : Nat) (L : List Fr) (i : Nat) : St := mkSt 50 [1, 5, 17, 18, 19] [(SV.v (V1.c (It.sl (Sq.s B)))), .v (.c (.slc 128 0 M 4)), (SV.v (V1.c (It.sl (Sq.s A)))), .v (.c (.int .i64 (la : Int))), .v (.c (.int .i64 (i : Int)))] [128] [some (.sq (.s L))] 208 [] []
noncomputable def plI_k : List KI := (run envT false 3000 ((fun (A B : List Fr) (la M : Nat) (L : List Fr) (i : Nat) => (⟨lpIn plIn_k, .normal, plS A B la M L i⟩ : Cfg)) default default default default default default) [true]).cfg.k
theorem plI_at (A B : List Fr) (la M : Nat) (L : List Fr) (i : Nat) : runAt envT false 3000 ((⟨lpIn plIn_k, .normal, plS A B la M L i⟩ : Cfg)) [true] [1, 5, 6, 7, 17, 18, 19, 24, 25, 26] [128, 272] [] = some ⟨[((decide (((i : Nat) : Int) < ((la : Nat) : Int))) = true), ((0 : Int) ≤ ((i : Nat) : Int)), (((i : Nat) : Int) < (((List.length A) : Nat) : Int))], Exit.normal, [(SV.v (V1.c (It.sl (Sq.s B)))), (SV.v (V1.c (It.slc 128 0 M 4))), (SV.v (V1.c (It.int IntKind.i64 ((i : Nat) : Int)))), (SV.v (V1.c (It.ptr 272 0))), (SV.v (V1.c (It.sl (Sq.s A)))), (SV.v (V1.c (It.int IntKind.i64 ((la : Nat) : Int)))), (SV.v (V1.c (It.int IntKind.i64 ((i : Nat) : Int)))), (SV.v (V1.c (It.sl (Sq.s B)))), (SV.v (V1.c (It.int IntKind.i64 (((List.length B) : Nat) : Int)))), (SV.v (V1.c (It.int IntKind.i64 (0 : Int))))], [(Option.some (En.sq (Sq.s L))), (Option.some (En.fl [(It.ob (Ob.s (List.getD A (((i : Nat) : Int)).toNat (0 : Fr))))]))], 50, 368, []⟩ := by kernel_rfl
theorem plI_hk (A B : List Fr) (la M : Nat) (L : List Fr) (i : Nat) : (run envT false 3000 ((⟨lpIn plIn_k, .normal, plS A B la M L i⟩ : Cfg)) [true]).cfg.k = plI_k := by kernel_rfl
theorem plI (A B : List Fr) (la M : Nat) (L : List Fr) (i : Nat) {w0 : World} {F0 : Nat → Prop} {K : Kp} {ac : List Act} {Q : Exit → Act → World → Prop} {cX : Ctx} {aX : Act} (ho : AllP [((decide (((i : Nat) : Int) < ((la : Nat) : Int))) = true), ((0 : Int) ≤ ((i : Nat) : Int)), (((i : Nat) : Int) < (((List.length A) : Nat) : Int))]) (hs : Sim w0 F0 K ac (plS A B la M L i) cX aX) (hK : ∀ ac cY aY, Sim w0 F0 K ac (mkSt 50 [1, 5, 6, 7, 17, 18, 19, 24, 25, 26] [(SV.v (V1.c (It.sl (Sq.s B)))), (SV.v (V1.c (It.slc 128 0 M 4))), (SV.v (V1.c (It.int IntKind.i64 ((i : Nat) : Int)))), (SV.v (V1.c (It.ptr 272 0))), (SV.v (V1.c (It.sl (Sq.s A)))), (SV.v (V1.c (It.int IntKind.i64 ((la : Nat) : Int)))), (SV.v (V1.c (It.int IntKind.i64 ((i : Nat) : Int)))), (SV.v (V1.c (It.sl (Sq.s B)))), (SV.v (V1.c (It.int IntKind.i64 (((List.length B) : Nat) : Int)))), (SV.v (V1.c (It.int IntKind.i64 (0 : Int))))] [128, 272] [(Option.some (En.sq (Sq.s L))), (Option.some (En.fl [(It.ob (Ob.s (List.getD A (((i : Nat) : Int)).toNat (0 : Fr))))]))] 368 [] []) cY aY → Wq Try.prog Q (plI_k) ac Exit.normal aY cY.w) : Wq Try.prog Q (lpIn plIn_k) ac .normal aX cX.w :=
  run_at2 envT_ok (plI_at A B la M L i) (plI_hk A B la M L i) ho hs hK
noncomputable def plT (A B : List Fr) (la lb M : Nat) (L : List Fr) (i : Nat) (x : Fr) (k : Nat) : St := mkSt 50 [1, 5, 6, 7, 17, 18, 19, 24, 25, 26] [(SV.v (V1.c (It.sl (Sq.s B)))), .v (.c (.slc 128 0 M 4)), .v (.c (.int .i64 (i : Int))), (SV.v (V1.c (It.ptr 272 0))), (SV.v (V1.c (It.sl (Sq.s A)))), .v (.c (.int .i64 (la : Int))), .v (.c (.int .i64 (i : Int))), (SV.v (V1.c (It.sl (Sq.s B)))), .v (.c (.int .i64 (lb : Int))), .v (.c (.int .i64 (k : Int)))] [128, 272] [some (.sq (.s L)), some (.fl [.ob (.s x)])] 368 [] []
theorem plN_at (A B : List Fr) (la lb M : Nat) (L : List Fr) (i : Nat) (x : Fr) (k : Nat) : runAt envT false 3000 ((⟨lpIn plI_k, .normal, plT A B la lb M L i x k⟩ : Cfg)) [true] [1, 5, 6, 7, 17, 18, 19, 24, 25, 26] [128, 272] [] = some ⟨[((decide (((k : Nat) : Int) < ((lb : Nat) : Int))) = true), ((0 : Int) ≤ ((k : Nat) : Int)), (((k : Nat) : Int) < (((List.length B) : Nat) : Int)), ((0 : Int) ≤ (IntKind.wrap IntKind.i64 (((i : Nat) : Int) + ((k : Nat) : Int)))), ((IntKind.wrap IntKind.i64 (((i : Nat) : Int) + ((k : Nat) : Int))) < ((M : Nat) : Int)), (0 = 0), (((IntKind.wrap IntKind.i64 (((i : Nat) : Int) + ((k : Nat) : Int)))).toNat < (List.length L)), ((0 : Int) ≤ (IntKind.wrap IntKind.i64 (((i : Nat) : Int) + ((k : Nat) : Int)))), ((IntKind.wrap IntKind.i64 (((i : Nat) : Int) + ((k : Nat) : Int))) < ((M : Nat) : Int)), (0 = 0), (((IntKind.wrap IntKind.i64 (((i : Nat) : Int) + ((k : Nat) : Int)))).toNat < (List.length L))], Exit.normal, [(SV.v (V1.c (It.sl (Sq.s B)))), (SV.v (V1.c (It.slc 128 0 M 4))), (SV.v (V1.c (It.int IntKind.i64 ((i : Nat) : Int)))), (SV.v (V1.c (It.ptr 272 0))), (SV.v (V1.c (It.sl (Sq.s A)))), (SV.v (V1.c (It.int IntKind.i64 ((la : Nat) : Int)))), (SV.v (V1.c (It.int IntKind.i64 ((i : Nat) : Int)))), (SV.v (V1.c (It.sl (Sq.s B)))), (SV.v (V1.c (It.int IntKind.i64 ((lb : Nat) : Int)))), (SV.v (V1.c (It.int IntKind.i64 (IntKind.wrap IntKind.i64 (((k : Nat) : Int) + (1 : Int))))))], [(Option.some (En.sq (Sq.s (List.set L ((IntKind.wrap IntKind.i64 (((i : Nat) : Int) + ((k : Nat) : Int)))).toNat ((List.getD L ((IntKind.wrap IntKind.i64 (((i : Nat) : Int) + ((k : Nat) : Int)))).toNat (0 : Fr)) + (x * (List.getD B (((k : Nat) : Int)).toNat (0 : Fr)))))))), (Option.some (En.fl [(It.ob (Ob.s x))]))], 50, 768, []⟩ := by kernel_rfl
theorem plN_hk (A B : List Fr) (la lb M : Nat) (L : List Fr) (i : Nat) (x : Fr) (k : Nat) : (run envT false 3000 ((⟨lpIn plI_k, .normal, plT A B la lb M L i x k⟩ : Cfg)) [true]).cfg.k = lpBk plI_k := by kernel_rfl
theorem plN (A B : List Fr) (la lb M : Nat) (L : List Fr) (i : Nat) (x : Fr) (k : Nat) {w0 : World} {F0 : Nat → Prop} {K : Kp} {ac : List Act} {Q : Exit → Act → World → Prop} {cX : Ctx} {aX : Act} (ho : AllP [((decide (((k : Nat) : Int) < ((lb : Nat) : Int))) = true), ((0 : Int) ≤ ((k : Nat) : Int)), (((k : Nat) : Int) < (((List.length B) : Nat) : Int)), ((0 : Int) ≤ (IntKind.wrap IntKind.i64 (((i : Nat) : Int) + ((k : Nat) : Int)))), ((IntKind.wrap IntKind.i64 (((i : Nat) : Int) + ((k : Nat) : Int))) < ((M : Nat) : Int)), (0 = 0), (((IntKind.wrap IntKind.i64 (((i : Nat) : Int) + ((k : Nat) : Int)))).toNat < (List.length L)), ((0 : Int) ≤ (IntKind.wrap IntKind.i64 (((i : Nat) : Int) + ((k : Nat) : Int)))), ((IntKind.wrap IntKind.i64 (((i : Nat) : Int) + ((k : Nat) : Int))) < ((M : Nat) : Int)), (0 = 0), (((IntKind.wrap IntKind.i64 (((i : Nat) : Int) + ((k : Nat) : Int)))).toNat < (List.length L))]) (hs : Sim w0 F0 K ac (plT A B la lb M L i x k) cX aX) (hK : ∀ ac cY aY, Sim w0 F0 K ac (mkSt 50 [1, 5, 6, 7, 17, 18, 19, 24, 25, 26] [(SV.v (V1.c (It.sl (Sq.s B)))), (SV.v (V1.c (It.slc 128 0 M 4))), (SV.v (V1.c (It.int IntKind.i64 ((i : Nat) : Int)))), (SV.v (V1.c (It.ptr 272 0))), (SV.v (V1.c (It.sl (Sq.s A)))), (SV.v (V1.c (It.int IntKind.i64 ((la : Nat) : Int)))), (SV.v (V1.c (It.int IntKind.i64 ((i : Nat) : Int)))), (SV.v (V1.c (It.sl (Sq.s B)))), (SV.v (V1.c (It.int IntKind.i64 ((lb : Nat) : Int)))), (SV.v (V1.c (It.int IntKind.i64 (IntKind.wrap IntKind.i64 (((k : Nat) : Int) + (1 : Int))))))] [128, 272] [(Option.some (En.sq (Sq.s (List.set L ((IntKind.wrap IntKind.i64 (((i : Nat) : Int) + ((k : Nat) : Int)))).toNat ((List.getD L ((IntKind.wrap IntKind.i64 (((i : Nat) : Int) + ((k : Nat) : Int)))).toNat (0 : Fr)) + (x * (List.getD B (((k : Nat) : Int)).toNat (0 : Fr)))))))), (Option.some (En.fl [(It.ob (Ob.s x))]))] 768 [] []) cY aY → Wq Try.prog Q (lpBk plI_k) ac Exit.normal aY cY.w) : Wq Try.prog Q (lpIn plI_k) ac .normal aX cX.w :=
  run_at2 envT_ok (plN_at A B la lb M L i x k) (plN_hk A B la lb M L i x k) ho hs hK
theorem plE_at (A B : List Fr) (la lb M : Nat) (L : List Fr) (i : Nat) (x : Fr) (k : Nat) : runAt envT false 3000 ((⟨lpIn plI_k, .normal, plT A B la lb M L i x k⟩ : Cfg)) [false] [1, 5, 17, 18, 19] [128] [] = some ⟨[((decide (((k : Nat) : Int) < ((lb : Nat) : Int))) = false)], Exit.normal, [(SV.v (V1.c (It.sl (Sq.s B)))), (SV.v (V1.c (It.slc 128 0 M 4))), (SV.v (V1.c (It.sl (Sq.s A)))), (SV.v (V1.c (It.int IntKind.i64 ((la : Nat) : Int)))), (SV.v (V1.c (It.int IntKind.i64 (IntKind.wrap IntKind.i64 (((i : Nat) : Int) + (1 : Int))))))], [(Option.some (En.sq (Sq.s L)))], 50, 416, []⟩ := by kernel_rfl
theorem plE_hk (A B : List Fr) (la lb M : Nat) (L : List Fr) (i : Nat) (x : Fr) (k : Nat) : (run envT false 3000 ((⟨lpIn plI_k, .normal, plT A B la lb M L i x k⟩ : Cfg)) [false]).cfg.k = lpBk plIn_k := by kernel_rfl
theorem plE (A B : List Fr) (la lb M : Nat) (L : List Fr) (i : Nat) (x : Fr) (k : Nat) {w0 : World} {F0 : Nat → Prop} {K : Kp} {ac : List Act} {Q : Exit → Act → World → Prop} {cX : Ctx} {aX : Act} (ho : AllP [((decide (((k : Nat) : Int) < ((lb : Nat) : Int))) = false)]) (hs : Sim w0 F0 K ac (plT A B la lb M L i x k) cX aX) (hK : ∀ ac cY aY, Sim w0 F0 K ac (mkSt 50 [1, 5, 17, 18, 19] [(SV.v (V1.c (It.sl (Sq.s B)))), (SV.v (V1.c (It.slc 128 0 M 4))), (SV.v (V1.c (It.sl (Sq.s A)))), (SV.v (V1.c (It.int IntKind.i64 ((la : Nat) : Int)))), (SV.v (V1.c (It.int IntKind.i64 (IntKind.wrap IntKind.i64 (((i : Nat) : Int) + (1 : Int))))))] [128] [(Option.some (En.sq (Sq.s L)))] 416 [] []) cY aY → Wq Try.prog Q (lpBk plIn_k) ac Exit.normal aY cY.w) : Wq Try.prog Q (lpIn plI_k) ac .normal aX cX.w :=
  run_at2 envT_ok (plE_at A B la lb M L i x k) (plE_hk A B la lb M L i x k) ho hs hK
theorem plX_end (A B : List Fr) (la M : Nat) (L : List Fr) (i : Nat) : runEnd envT Try.f91 false 3000 (⟨lpIn plIn_k, .normal, plS A B la M L i⟩) [false] [240] [] = (Option.some ([((decide (((i : Nat) : Int) < ((la : Nat) : Int))) = false), (0 = 0), (M = (List.length L)), (4 = 4), ((List.length L) ≤ 8796093022208)], ((SV.v (V1.c (It.slc 0 0 (List.length (trimF L)) 4))), [(En.sq (Sq.fr (List.map outF (trimF L))))]))) := by kernel_rfl
theorem jaL_end (a b : List U4) : runEnd envT Try.f82 false 3000 (⟨[.code (bodyOf Try.f82)], .normal, initSt Try.f82.ntmps [.v (.c (.sl (.fr a))), .v (.c (.sl (.fr b))), .v (.c (.clo 75 []))]⟩) [true] [] [] = (Option.some ([(0 = 0), (2 = (List.length ([a] ++ [b]))), (1 = 1), ((longB ([a] ++ [b])) = true)], ((SV.t [(V1.c (It.val (Value.slice Option.none 0 0))), (V1.c (It.int IntKind.i64 (2 : Int)))]), []))) := by kernel_rfl
theorem jsL_end (a b : List U4) : runEnd envT Try.f82 false 3000 (⟨[.code (bodyOf Try.f82)], .normal, initSt Try.f82.ntmps [.v (.c (.sl (.fr a))), .v (.c (.sl (.fr b))), .v (.c (.clo 83 []))]⟩) [true] [] [] = (Option.some ([(0 = 0), (2 = (List.length ([a] ++ [b]))), (1 = 1), ((longB ([a] ++ [b])) = true)], ((SV.t [(V1.c (It.val (Value.slice Option.none 0 0))), (V1.c (It.int IntKind.i64 (2 : Int)))]), []))) := by kernel_rfl
--@env envJn envJn_ok
theorem scL_end (a : List U4) (k : U4) : runEnd envJn Try.f43 false 3000 (⟨[.code (bodyOf Try.f43)], .normal, initSt Try.f43.ntmps [.v (.c (.sl (.fr a))), .v (.a [.ob (.fr k)])]⟩) [true] [] [] = (Option.some ([(0 = 0), (2 = (List.length ([a] ++ [[]]))), (1 = 1), ((longB ([a] ++ [[]])) = true)], ((SV.t [(V1.c (It.val (Value.slice Option.none 0 0))), (V1.c (It.int IntKind.i64 (2 : Int)))]), []))) := by kernel_rfl
end Go.Proofs.Ytlfllehomhcbfaa

/- Values and products of polynomials, and what is too long: contracts. No conditions. -/
namespace Go.Proofs.Ytlfllehomhcbfaa

theorem at58_fnd (a : List U4) (z : U4) (ha : longB [a] = false) : FnD Try.prog 58 [.v (.c (.sl (.fr a))), .v (.a [.ob (.fr z)])] (.t [.a [.ob (.fr (outF (divL (inF z) (a.map inF)).2))], .c (.int .i64 0)]) [] := by
  have hla : a.length ≤ 262144 := by simpa [longB] using ha
  refine fn_start (fn := Try.f58) (c := bodyOf Try.f58) Try.func58 rfl rfl fun x a0 hk hF hs => ?_
  refine atIn a z ⟨rfl, rfl, rfl, ha, trivial⟩ hs fun ac cY aY hs1 => ?_
  rw [wrap_id (by omega) (by omega)] at hs1
  refine loop_rule (ι := { m : Nat // m ≤ a.length }) (fun m => atS a (inF z) (divL (inF z) ((a.map inF).drop m.1)).2 ((m.1 : Int) - 1)) (fun m => m.1) (c := lpC atIn_k) (k := lpR atIn_k) (by kernel_rfl) (fun m ih ac cY aY hs => ?_)
    ⟨a.length, Nat.le_refl _⟩ (by
      have e : (a.map inF).drop a.length = [] := List.drop_eq_nil_of_le (by rw [List.length_map]; exact Nat.le_refl _)
      simp only [e]
      exact hs1.nx _)
  obtain ⟨m, hm⟩ := m
  simp only at ih hs
  cases m with
  | zero =>
    rw [List.drop_zero] at hs
    exact run_end2 envT_ok hk hF (atX_end _ _ _ _) ⟨by simp only [decide_eq_false_iff_not]; omega, trivial⟩ (fun y v hd => hd) hs
  | succ m =>
    have hmi : ((m + 1 : Nat) : Int) - 1 = (m : Int) := by omega
    rw [hmi] at hs
    refine atN _ _ _ _ ⟨by simp only [decide_eq_true_eq]; omega, by omega, by omega, trivial⟩ hs fun ac cY aY hs2 => ?_
    rw [wrap_id (by omega) (by omega), Int.toNat_natCast] at hs2
    have hw2 : (divL (inF z) ((a.map inF).drop m)).2 = (divL (inF z) ((a.map inF).drop (m + 1))).2 * inF z + inF (a.getD m 0) := by
      rw [divL_idx _ _ _ (show m < (a.map inF).length by rw [List.length_map]; omega), getD_in a m (by omega)]
    rw [← hw2] at hs2
    exact ih ⟨m, by omega⟩ (Nat.lt_succ_self m) ac cY aY (hs2.nx _)

/-! Products, row by row. -/
def rowG (A B : List Fr) (j r : Nat) : Fr := if r ≤ j then cf A r * cf B (j - r) else 0
def rowC (A B : List Fr) (i j : Nat) : Fr := sumF (rowG A B j) i

theorem sumF_more {f : Nat → Fr} {n : Nat} (h : ∀ i, n ≤ i → f i = 0) : ∀ m, n ≤ m → sumF f m = sumF f n
  | 0, hm => by have : n = 0 := by omega
                subst this; rfl
  | m + 1, hm => by
    by_cases e : n = m + 1
    · rw [e]
    · show sumF f m + f m = _
      rw [sumF_more h m (by omega), h m (by omega), fr_add_zero]

theorem rowC_mulC (A B : List Fr) (j : Nat) : rowC A B A.length j = mulC A B j := by
  have h1 : mulC A B j = sumF (rowG A B j) (j + 1) := sumF_congr fun r hr => by
    unfold rowG
    rw [if_pos (by omega)]
  rw [h1]
  unfold rowC
  have hA : ∀ i, A.length ≤ i → rowG A B j i = 0 := fun i hi => by
    unfold rowG
    rw [cf_out hi, fr_zero_mul]
    split <;> rfl
  have hj : ∀ i, j + 1 ≤ i → rowG A B j i = 0 := fun i hi => by
    unfold rowG
    rw [if_neg (by omega)]
  rw [← sumF_more hA (max A.length (j + 1)) (by omega), ← sumF_more hj (max A.length (j + 1)) (by omega)]

theorem range_set {α : Type} (f : Nat → α) (n k : Nat) (x : α) : ((List.range n).map f).set k x = (List.range n).map fun j => if j = k then x else f j := by
  apply List.ext_getElem
  · simp
  · intro i h1 h2
    simp only [List.length_map, List.length_range] at h2
    rw [List.getElem_set]
    simp only [List.getElem_map, List.getElem_range]
    by_cases h : k = i
    · rw [if_pos h, if_pos h.symm]
    · rw [if_neg h, if_neg (fun e => h e.symm)]

theorem range_get (f : Nat → Fr) (n k : Nat) (h : k < n) : ((List.range n).map f).getD k 0 = f k := by simp [List.getD, h]

/-- Row i, so far. -/
def rowK (A B : List Fr) (i k j : Nat) : Fr := rowC A B i j + (if i ≤ j ∧ j - i < k then cf A i * cf B (j - i) else 0)

theorem rowK_zero (A B : List Fr) (i j : Nat) : rowK A B i 0 j = rowC A B i j := by
  unfold rowK
  rw [if_neg (by omega), fr_add_zero]

theorem rowK_step (A B : List Fr) (i k j : Nat) : (if j = i + k then rowK A B i k (i + k) + cf A i * cf B k else rowK A B i k j) = rowK A B i (k + 1) j := by
  unfold rowK
  by_cases h : j = i + k
  · subst h
    rw [if_pos rfl, if_neg (by omega), if_pos (by omega), fr_add_zero, Nat.add_sub_cancel_left]
  · rw [if_neg h]
    by_cases h2 : i ≤ j ∧ j - i < k
    · rw [if_pos h2, if_pos (by omega)]
    · rw [if_neg h2, if_neg (by omega)]

theorem rowK_full (A B : List Fr) (i j : Nat) : rowK A B i B.length j = rowC A B (i + 1) j := by
  unfold rowK
  show _ = rowC A B i j + rowG A B j i
  congr 1
  unfold rowG
  by_cases h : i ≤ j
  · rw [if_pos h]
    by_cases h2 : j - i < B.length
    · rw [if_pos ⟨h, h2⟩]
    · rw [if_neg (by omega), cf_out (l := B) (by omega), fr_mul_zero]
  · rw [if_neg (by omega), if_neg h]

theorem plain_fnd (A B : List Fr) (hA : 0 < A.length) (hB : 0 < B.length) (hA2 : A.length ≤ 1073741824) (hB2 : B.length ≤ 1073741824) : FnD Try.prog 91 [.v (.c (.sl (.s A))), .v (.c (.sl (.s B)))]
    (.v (.c (.slc 0 0 (trimF (mulL A B)).length 4))) [.sq (.fr ((trimF (mulL A B)).map outF))] := by
  refine fn_start (fn := Try.f91) (c := bodyOf Try.f91) Try.func91 rfl rfl fun x a0 hk hF hs => ?_
  have hw : IntKind.wrap IntKind.i64 ((IntKind.wrap IntKind.i64 (((A.length : Nat) : Int) + ((B.length : Nat) : Int))) - 1) = ((A.length + B.length - 1 : Nat) : Int) := by
    rw [wrap_id (n := (A.length : Int) + (B.length : Int)) (by omega) (by omega), wrap_id (by omega) (by omega)]; omega
  refine plIn A B (by rw [hw]; exact ⟨by omega, rfl, by omega, by omega, trivial⟩) hs fun ac cY aY hs1 => ?_
  rw [hw, Int.toNat_natCast] at hs1
  clear hs hw
  have hM : A.length + B.length = A.length + B.length - 1 + 1 := by omega
  generalize hMd : A.length + B.length - 1 = M at hs1 hM
  have hR : trimF ((List.range M).map (rowC A B A.length)) = trimF (mulL A B) := by
    refine trim_ext fun i => ?_
    rw [mulL_cf, ← rowC_mulC]
    refine cf_range (rowC A B A.length) _ _ fun j hj => ?_
    rw [rowC_mulC]
    refine sumF_zero fun k _ => ?_
    by_cases h : A.length ≤ k
    · rw [cf_out h, fr_zero_mul]
    · rw [cf_out (l := B) (by omega), fr_mul_zero]
  have h0 : List.replicate M (0 : Fr) = (List.range M).map (rowC A B 0) := by
    have e : rowC A B 0 = fun _ => 0 := rfl
    rw [e]
    rw [List.map_const', List.length_range]
  rw [h0] at hs1
  clear h0
  refine loop_rule (ι := { i : Nat // i ≤ A.length }) (fun i => plS A B A.length M ((List.range M).map (rowC A B i.1)) i.1) (fun i => A.length - i.1) (c := lpC plIn_k) (k := lpR plIn_k) (by kernel_rfl) (fun i ih ac cY aY hs => ?_) ⟨0, Nat.zero_le _⟩ hs1
  obtain ⟨i, hi⟩ := i
  simp only at ih hs
  have hl : ∀ f : Nat → Fr, ((List.range M).map f).length = M := fun f => by rw [List.length_map, List.length_range]
  by_cases h : i < A.length
  · refine plI A B A.length M _ i ⟨by simp [h], by omega, by omega, trivial⟩ hs fun ac cY aY hs2 => ?_
    rw [Int.toNat_natCast] at hs2
    have e0 : (List.range M).map (rowC A B i) = (List.range M).map (rowK A B i 0) := List.map_congr_left fun j _ => (rowK_zero A B i j).symm
    rw [e0] at hs2
    refine loop_rule (ι := { k : Nat // k ≤ B.length }) (fun k => plT A B A.length B.length M ((List.range M).map (rowK A B i k.1)) i (cf A i) k.1) (fun k => B.length - k.1) (c := lpC plI_k) (k := lpR plI_k) (by kernel_rfl) (fun k ih2 ac cY aY hs => ?_) ⟨0, Nat.zero_le _⟩ hs2
    obtain ⟨k, hk2⟩ := k
    simp only at ih2 hs
    by_cases hkb : k < B.length
    · have hwk : IntKind.wrap IntKind.i64 ((i : Int) + (k : Int)) = ((i + k : Nat) : Int) := by rw [wrap_id (by omega) (by omega)]; omega
      have hw1 : IntKind.wrap IntKind.i64 ((k : Int) + 1) = ((k + 1 : Nat) : Int) := by rw [wrap_id (by omega) (by omega)]; omega
      have hlM := hl (rowK A B i k)
      have hfit : i + k < M := by omega
      refine plN A B A.length B.length M _ i _ k ?_ hs fun ac cY aY hs3 => ?_
      · rw [hwk, hlM]
        and_intros <;> first | exact True.intro | omega | rfl | (simp only [decide_eq_true_eq]; omega)
      · rw [hwk, hw1, Int.toNat_natCast, Int.toNat_natCast, range_get _ _ _ hfit, range_set] at hs3
        have e2 : ((List.range M).map fun j => if j = i + k then rowK A B i k (i + k) + cf A i * B.getD k 0 else rowK A B i k j) = (List.range M).map (rowK A B i (k + 1)) := List.map_congr_left fun j _ => rowK_step A B i k j
        rw [e2] at hs3
        exact ih2 ⟨k + 1, by omega⟩ (by show B.length - (k + 1) < B.length - k; omega) ac cY aY (hs3.nx _)
    · have e : k = B.length := by omega
      refine plE A B A.length B.length M _ i _ k ⟨by simp only [decide_eq_false_iff_not]; omega, trivial⟩ hs fun ac cY aY hs3 => ?_
      have e3 : (List.range M).map (rowK A B i k) = (List.range M).map (rowC A B (i + 1)) := List.map_congr_left fun j _ => by rw [e]; exact rowK_full A B i j
      rw [e3, wrap_id (by omega) (by omega)] at hs3
      exact ih ⟨i + 1, by omega⟩ (by show A.length - (i + 1) < A.length - i; omega) ac cY aY (hs3.nx _)
  · have e : i = A.length := by omega
    rw [e] at hs
    have r := plX_end A B A.length M ((List.range M).map (rowC A B A.length)) A.length
    rw [hR] at r
    exact run_end2 envT_ok hk hF r ⟨by simp, rfl, (hl _).symm, rfl, by rw [hl]; omega, trivial⟩ (fun y v hd => hd) hs

end Go.Proofs.Ytlfllehomhcbfaa

/- What is too long is refused: contracts; PolyLong, walked. No conditions. -/
namespace Go.Proofs.Ytlfllehomhcbfaa

def err2 (b : Bool) : Int := if b then 2 else 0
def onlyIf (b : Bool) (l : List U4) : List U4 := if b then [] else l
def jAdd (a b : List U4) : List U4 := onlyIf (longB ([a] ++ [b])) ((trimF (addL (a.map inF) (b.map inF))).map outF)
def jSub (a b : List U4) : List U4 := onlyIf (longB ([a] ++ [b])) ((trimF (subL (a.map inF) (b.map inF))).map outF)
def jScale (a : List U4) (k : U4) : List U4 := onlyIf (longB ([a] ++ [[]])) ((trimF (scaleL (a.map inF) (inF k))).map outF)

theorem long_two_le {a b : List U4} (h : longB ([a] ++ [b]) = false) : a.length ≤ 262144 ∧ b.length ≤ 262144 := by
  have h : (decide (262144 < a.length) || (decide (262144 < b.length) || false)) = false := h
  simp only [Bool.or_false, Bool.or_eq_false_iff, decide_eq_false_iff_not] at h
  omega

theorem joinAddL_fnd (a b : List U4) : FnD Try.prog 82 [.v (.c (.sl (.fr a))), .v (.c (.sl (.fr b))), .v (.c (.clo 75 []))] (.t [.c (.slc 0 0 (jAdd a b).length 4), .c (.int .i64 (err2 (longB ([a] ++ [b]))))]) [.sq (.fr (jAdd a b))] := by
  unfold jAdd
  cases h : longB ([a] ++ [b]) with
  | false =>
    have := joinAdd_fnd a b (long_two_le h).1 (long_two_le h).2
    rw [show onlyIf false ((trimF (addL (a.map inF) (b.map inF))).map outF) = (trimF (addL (a.map inF) (b.map inF))).map outF from rfl, List.length_map]
    exact this
  | true =>
    refine FnD.nil2 ?_ rfl
    exact fn_start (fn := Try.f82) (c := bodyOf Try.f82) Try.func82 rfl rfl fun x a0 hk hF hs => run_end envT_ok hk hF (jaL_end a b) ⟨rfl, rfl, rfl, h, trivial⟩ (fun y v hd => hd) hs

theorem joinSubL_fnd (a b : List U4) : FnD Try.prog 82 [.v (.c (.sl (.fr a))), .v (.c (.sl (.fr b))), .v (.c (.clo 83 []))] (.t [.c (.slc 0 0 (jSub a b).length 4), .c (.int .i64 (err2 (longB ([a] ++ [b]))))]) [.sq (.fr (jSub a b))] := by
  unfold jSub
  cases h : longB ([a] ++ [b]) with
  | false =>
    have := joinSub_fnd a b (long_two_le h).1 (long_two_le h).2
    rw [show onlyIf false ((trimF (subL (a.map inF) (b.map inF))).map outF) = (trimF (subL (a.map inF) (b.map inF))).map outF from rfl, List.length_map]
    exact this
  | true =>
    refine FnD.nil2 ?_ rfl
    exact fn_start (fn := Try.f82) (c := bodyOf Try.f82) Try.func82 rfl rfl fun x a0 hk hF hs => run_end envT_ok hk hF (jsL_end a b) ⟨rfl, rfl, rfl, h, trivial⟩ (fun y v hd => hd) hs

theorem scaleL_fnd (a : List U4) (k : U4) : FnD Try.prog 43 [.v (.c (.sl (.fr a))), .v (.a [.ob (.fr k)])] (.t [.c (.slc 0 0 (jScale a k).length 4), .c (.int .i64 (err2 (longB ([a] ++ [[]]))))]) [.sq (.fr (jScale a k))] := by
  unfold jScale
  cases h : longB ([a] ++ [[]]) with
  | false =>
    have := scale_fnd a k (long_two_le h).1
    rw [show onlyIf false ((trimF (scaleL (a.map inF) (inF k))).map outF) = (trimF (scaleL (a.map inF) (inF k))).map outF from rfl, List.length_map]
    exact this
  | true =>
    refine FnD.nil2 ?_ rfl
    exact fn_start (fn := Try.f43) (c := bodyOf Try.f43) Try.func43 rfl rfl fun x a0 hk hF hs => run_end envJn_ok hk hF (scL_end a k) ⟨rfl, rfl, rfl, h, trivial⟩ (fun y v hd => hd) hs

def atV (a : List U4) (z : U4) : U4 := if longB [a] then 0 else outF (divL (inF z) (a.map inF)).2
theorem atL_fnd (a : List U4) (z : U4) : FnD Try.prog 58 [.v (.c (.sl (.fr a))), .v (.a [.ob (.fr z)])] (.t [.a [.ob (.fr (atV a z))], .c (.int .i64 (err2 (longB [a])))]) [] := by
  unfold atV
  cases h : longB [a] with
  | false => exact at58_fnd a z h
  | true => exact fn_start (fn := Try.f58) (c := bodyOf Try.f58) Try.func58 rfl rfl fun x a0 hk hF hs => run_end envT_ok hk hF (atA_end a z) ⟨rfl, rfl, rfl, h, trivial⟩ (fun y v hd => hd) hs

theorem long_one_le {a : List U4} (h : longB [a] = false) : a.length ≤ 262144 := by simpa [longB] using h

def blQ (a : List U4) (z : U4) : List U4 := onlyIf (longB [a]) ((trimF (divL (inF z) (a.map inF)).1).map outF)
theorem byLinearL_fnd (a : List U4) (z : U4) : FnD Try.prog 30 [.v (.c (.sl (.fr a))), .v (.a [.ob (.fr z)])]
    (.t [.c (.slc 0 0 (blQ a z).length 4), .a [.ob (.fr (atV a z))], .c (.int .i64 (err2 (longB [a])))]) [.sq (.fr (blQ a z))] := by
  unfold blQ atV
  cases h : longB [a] with
  | false =>
    have := byLinear_fnd a z (long_one_le h)
    rw [show onlyIf false ((trimF (divL (inF z) (a.map inF)).1).map outF) = (trimF (divL (inF z) (a.map inF)).1).map outF from rfl, List.length_map]
    exact this
  | true =>
    refine FnD.nil3 ?_ rfl
    exact fn_start (fn := Try.f30) (c := bodyOf Try.f30) Try.func30 rfl rfl fun x a0 hk hF hs => run_end envQ3_ok hk hF (blA_end a z) ⟨rfl, rfl, rfl, h, trivial⟩ (fun y v hd => hd) hs

theorem byZeroL_fnd (a : List U4) : FnD Try.prog 38 [.v (.c (.sl (.fr a))), .v (.c (.int .i64 1))]
    (.t [.c (.slc 0 0 (onlyIf (longB [a]) (bzU a 1)).length 4), .c (.slc 1 0 (onlyIf (longB [a]) (bzV a 1)).length 4), .c (.int .i64 (err2 (longB [a])))]) [.sq (.fr (onlyIf (longB [a]) (bzU a 1))), .sq (.fr (onlyIf (longB [a]) (bzV a 1)))] := by
  cases h : longB [a] with
  | false => exact byZero_fnd a 1 (long_one_le h)
  | true =>
    refine FnD.nil22 ?_ rfl rfl
    exact fn_start (fn := Try.f38) (c := bodyOf Try.f38) Try.func38 rfl rfl fun x a0 hk hF hs => run_end envQ3_ok hk hF (bzA_end a 1) ⟨rfl, rfl, rfl, h, trivial⟩ (fun y v hd => hd) hs

def join82L : FnSpec
  | [.v (.c (.sl (.fr a))), .v (.c (.sl (.fr b))), .v (.c (.clo 75 []))] => some ([], .t [.c (.slc 0 0 (jAdd a b).length 4), .c (.int .i64 (err2 (longB ([a] ++ [b]))))], [.sq (.fr (jAdd a b))])
  | [.v (.c (.sl (.fr a))), .v (.c (.sl (.fr b))), .v (.c (.clo 83 []))] => some ([], .t [.c (.slc 0 0 (jSub a b).length 4), .c (.int .i64 (err2 (longB ([a] ++ [b]))))], [.sq (.fr (jSub a b))])
  | _ => none
noncomputable def envU1 : Env := envT.set (addT envT.fn 82 join82L)
theorem envU1_ok : EnvOk Try.prog envU1 := env_add envT_ok 82 join82L (enters_of Try.func82 rfl rfl) fun args o r es h _ => by
  unfold join82L at h
  split at h
  · cases h; exact joinAddL_fnd _ _
  · cases h; exact joinSubL_fnd _ _
  · cases h
def scaleLSpec : FnSpec
  | [.v (.c (.sl (.fr a))), .v (.a [.ob (.fr k)])] => some ([], .t [.c (.slc 0 0 (jScale a k).length 4), .c (.int .i64 (err2 (longB ([a] ++ [[]]))))], [.sq (.fr (jScale a k))])
  | _ => none
noncomputable def envU2 : Env := envU1.set (addT envU1.fn 43 scaleLSpec)
theorem envU2_ok : EnvOk Try.prog envU2 := env_add envU1_ok 43 scaleLSpec (enters_of Try.func43 rfl rfl) fun args o r es h _ => by
  unfold scaleLSpec at h
  split at h
  · cases h; exact scaleL_fnd _ _
  · cases h
def atLSpec : FnSpec
  | [.v (.c (.sl (.fr a))), .v (.a [.ob (.fr z)])] => some ([], .t [.a [.ob (.fr (atV a z))], .c (.int .i64 (err2 (longB [a])))], [])
  | _ => none
noncomputable def envU3 : Env := envU2.set (addT envU2.fn 58 atLSpec)
theorem envU3_ok : EnvOk Try.prog envU3 := env_add envU2_ok 58 atLSpec (enters_of Try.func58 rfl rfl) fun args o r es h _ => by
  unfold atLSpec at h
  split at h
  · cases h; exact atL_fnd _ _
  · cases h
def byLinearLSpec : FnSpec
  | [.v (.c (.sl (.fr a))), .v (.a [.ob (.fr z)])] => some ([], .t [.c (.slc 0 0 (blQ a z).length 4), .a [.ob (.fr (atV a z))], .c (.int .i64 (err2 (longB [a])))], [.sq (.fr (blQ a z))])
  | _ => none
noncomputable def envU4 : Env := envU3.set (addT envU3.fn 30 byLinearLSpec)
theorem envU4_ok : EnvOk Try.prog envU4 := env_add envU3_ok 30 byLinearLSpec (enters_of Try.func30 rfl rfl) fun args o r es h _ => by
  unfold byLinearLSpec at h
  split at h
  · cases h; exact byLinearL_fnd _ _
  · cases h
def byZeroLSpec : FnSpec
  | [.v (.c (.sl (.fr a))), .v (.c (.int .i64 n))] => some ([n = 1], .t [.c (.slc 0 0 (onlyIf (longB [a]) (bzU a 1)).length 4), .c (.slc 1 0 (onlyIf (longB [a]) (bzV a 1)).length 4), .c (.int .i64 (err2 (longB [a])))], [.sq (.fr (onlyIf (longB [a]) (bzU a 1))), .sq (.fr (onlyIf (longB [a]) (bzV a 1)))])
  | _ => none
noncomputable def envU5 : Env := envU4.set (addT envU4.fn 38 byZeroLSpec)
theorem envU5_ok : EnvOk Try.prog envU5 := env_add envU4_ok 38 byZeroLSpec (enters_of Try.func38 rfl rfl) fun args o r es h ho => by
  unfold byZeroLSpec at h
  split at h
  · cases h; exact (by obtain ⟨rfl, _⟩ := ho; exact byZeroL_fnd _)
  · cases h
def plainSpec : FnSpec
  | [.v (.c (.sl (.s A))), .v (.c (.sl (.s B)))] => some ([0 < A.length, 0 < B.length, A.length ≤ 1073741824, B.length ≤ 1073741824], .v (.c (.slc 0 0 (trimF (mulL A B)).length 4)), [.sq (.fr ((trimF (mulL A B)).map outF))])
  | _ => none
noncomputable def envU6 : Env := envU5.set (addT envU5.fn 91 plainSpec)
theorem envU6_ok : EnvOk Try.prog envU6 := env_add envU5_ok 91 plainSpec (enters_of Try.func91 rfl rfl) fun args o r es h ho => by
  unfold plainSpec at h
  split at h
  · cases h; exact plain_fnd _ _ ho.1 ho.2.1 ho.2.2.1 ho.2.2.2.1
  · cases h
--@env envU6 envU6_ok
theorem ad41U (a b : List U4) : fnRes envU6 Try.f41 3000 [.v (.c (.sl (.fr a))), .v (.c (.sl (.fr b)))] [] [80] [] = (Option.some ([], ((SV.t [(V1.c (It.slc 0 0 (List.length (jAdd a b)) 4)), (V1.c (It.int IntKind.i64 (err2 (longB ([a] ++ [b])))))]), [(En.sq (Sq.fr (jAdd a b)))]))) := by kernel_rfl
theorem sb42U (a b : List U4) : fnRes envU6 Try.f42 3000 [.v (.c (.sl (.fr a))), .v (.c (.sl (.fr b)))] [] [80] [] = (Option.some ([], ((SV.t [(V1.c (It.slc 0 0 (List.length (jSub a b)) 4)), (V1.c (It.int IntKind.i64 (err2 (longB ([a] ++ [b])))))]), [(En.sq (Sq.fr (jSub a b)))]))) := by kernel_rfl
theorem pm1 (a b : List U4) : fnRes envU6 Try.f57 3000 [.v (.c (.sl (.fr a))), .v (.c (.sl (.fr b)))] [true, true, true] [] [] = (Option.some ([(0 = 0), (2 = (List.length ([a] ++ [b]))), (1 = 1), ((longB ([a] ++ [b])) = true)], ((SV.t [(V1.c (It.val (Value.slice Option.none 0 0))), (V1.c (It.int IntKind.i64 (2 : Int)))]), []))) := by kernel_rfl
theorem pm2 (a b : List U4) : fnRes envU6 Try.f57 3000 [.v (.c (.sl (.fr a))), .v (.c (.sl (.fr b)))] [true, true, false, true] [] [] = (Option.some ([(0 = 0), (2 = (List.length ([a] ++ [b]))), (1 = 1), ((longB ([a] ++ [b])) = false), ((decide ((((List.length a) : Nat) : Int) > (0 : Int))) = true), ((decide ((((List.length b) : Nat) : Int) > (0 : Int))) = true), ((decide ((IntKind.wrap IntKind.i64 ((((List.length a) : Nat) : Int) + (((List.length b) : Nat) : Int))) > (16384 : Int))) = true)], ((SV.t [(V1.c (It.val (Value.slice Option.none 0 0))), (V1.c (It.int IntKind.i64 (2 : Int)))]), []))) := by kernel_rfl
theorem pm3 (a b : List U4) : fnRes envU6 Try.f57 3000 [.v (.c (.sl (.fr a))), .v (.c (.sl (.fr b)))] [false, false, false, true] [] [] = (Option.some ([(0 = 0), (2 = (List.length ([a] ++ [b]))), (1 = 1), ((longB ([a] ++ [b])) = false), ((decide ((((List.length a) : Nat) : Int) > (0 : Int))) = false), (((((List.length a) : Nat) : Int) == (0 : Int)) = true)], ((SV.t [(V1.c (It.val (Value.slice Option.none 0 0))), (V1.c (It.int IntKind.i64 (0 : Int)))]), []))) := by kernel_rfl
theorem pm4 (a b : List U4) : fnRes envU6 Try.f57 3000 [.v (.c (.sl (.fr a))), .v (.c (.sl (.fr b)))] [true, false, false, false, true] [] [] = (Option.some ([(0 = 0), (2 = (List.length ([a] ++ [b]))), (1 = 1), ((longB ([a] ++ [b])) = false), ((decide ((((List.length a) : Nat) : Int) > (0 : Int))) = true), ((decide ((((List.length b) : Nat) : Int) > (0 : Int))) = false), (((((List.length a) : Nat) : Int) == (0 : Int)) = false), (((((List.length b) : Nat) : Int) == (0 : Int)) = true)], ((SV.t [(V1.c (It.val (Value.slice Option.none 0 0))), (V1.c (It.int IntKind.i64 (0 : Int)))]), []))) := by kernel_rfl
theorem pm5 (a b : List U4) : fnRes envU6 Try.f57 3000 [.v (.c (.sl (.fr a))), .v (.c (.sl (.fr b)))] [true, true, false, false, false, false, true] [752] [] = (Option.some ([(0 = 0), (2 = (List.length ([a] ++ [b]))), (1 = 1), ((longB ([a] ++ [b])) = false), ((decide ((((List.length a) : Nat) : Int) > (0 : Int))) = true), ((decide ((((List.length b) : Nat) : Int) > (0 : Int))) = true), ((decide ((IntKind.wrap IntKind.i64 ((((List.length a) : Nat) : Int) + (((List.length b) : Nat) : Int))) > (16384 : Int))) = false), (((((List.length a) : Nat) : Int) == (0 : Int)) = false), (((((List.length b) : Nat) : Int) == (0 : Int)) = false), ((decide ((ite ((((List.length b) : Nat) : Int) < (((List.length a) : Nat) : Int)) (((List.length b) : Nat) : Int) (((List.length a) : Nat) : Int)) ≤ (8 : Int))) = true), ((List.length a) ≤ 8796093022208), ((List.length b) ≤ 8796093022208), (0 = 0), ((List.length a) = (List.length (List.map inF a))), (4 = 4), (0 = 0), ((List.length b) = (List.length (List.map inF b))), (4 = 4), (0 < (List.length (List.map inF a))), (0 < (List.length (List.map inF b))), ((List.length (List.map inF a)) ≤ 1073741824), ((List.length (List.map inF b)) ≤ 1073741824)], ((SV.t [(V1.c (It.slc 0 0 (List.length (trimF (mulL (List.map inF a) (List.map inF b)))) 4)), (V1.c (It.int IntKind.i64 (0 : Int)))]), [(En.sq (Sq.fr (List.map outF (trimF (mulL (List.map inF a) (List.map inF b))))))]))) := by kernel_rfl

def mErr (a b : List U4) : Bool := longB ([a] ++ [b]) || (decide (0 < a.length) && decide (0 < b.length) && decide (16384 < a.length + b.length))
def mRes (a b : List U4) : List U4 := onlyIf (mErr a b) ((trimF (mulL (a.map inF) (b.map inF))).map outF)

theorem mul_none {A B : List Fr} (h : A.length = 0 ∨ B.length = 0) : trimF (mulL A B) = [] := by
  have e : trimF (mulL A B) = trimF [] := trim_ext fun i => by
    rw [mulL_cf]
    refine sumF_zero fun k _ => ?_
    rcases h with h | h
    · rw [cf_out (l := A) (by omega), fr_zero_mul]
    · rw [cf_out (l := B) (by omega), fr_mul_zero]
  exact e

theorem mulP_fnd (a b : List U4) (h8 : a.length ≤ 8 ∨ b.length ≤ 8) : FnD Try.prog 57 [.v (.c (.sl (.fr a))), .v (.c (.sl (.fr b)))] (.t [.c (.slc 0 0 (mRes a b).length 4), .c (.int .i64 (err2 (mErr a b)))]) [.sq (.fr (mRes a b))] := by
  have hla : (a.map inF).length = a.length := List.length_map ..
  have hlb : (b.map inF).length = b.length := List.length_map ..
  cases hl : longB ([a] ++ [b]) with
  | true =>
    have hm : mErr a b = true := by unfold mErr; rw [hl]; rfl
    unfold mRes
    rw [hm]
    exact (fn_sound envU6_ok Try.func57 (pm1 a b) ⟨rfl, rfl, rfl, hl, trivial⟩).nil2 rfl
  | false =>
    obtain ⟨l1, l2⟩ := long_two_le hl
    by_cases ha : a.length = 0
    · have hm : mErr a b = false := by unfold mErr; rw [hl, decide_eq_false (by omega : ¬ 0 < a.length)]; rfl
      have e : mRes a b = [] := by unfold mRes; rw [hm, mul_none (.inl (by omega))]; rfl
      rw [e, hm]
      exact (fn_sound envU6_ok Try.func57 (pm3 a b) ⟨rfl, rfl, rfl, hl, by simp [ha], by simp [ha], trivial⟩).nil2 rfl
    by_cases hb : b.length = 0
    · have hm : mErr a b = false := by unfold mErr; rw [hl, decide_eq_false (by omega : ¬ 0 < b.length), Bool.and_false]; rfl
      have e : mRes a b = [] := by unfold mRes; rw [hm, mul_none (.inr (by omega))]; rfl
      rw [e, hm]
      exact (fn_sound envU6_ok Try.func57 (pm4 a b) ⟨rfl, rfl, rfl, hl, by simp only [decide_eq_true_eq]; omega, by simp [hb], by simp [ha], by simp [hb], trivial⟩).nil2 rfl
    have hw : IntKind.wrap IntKind.i64 ((a.length : Int) + (b.length : Int)) = ((a.length + b.length : Nat) : Int) := by rw [wrap_id (by omega) (by omega)]; omega
    by_cases hn : 16384 < a.length + b.length
    · have hm : mErr a b = true := by unfold mErr; rw [hl, decide_eq_true (by omega : 0 < a.length), decide_eq_true (by omega : 0 < b.length), decide_eq_true hn]; rfl
      unfold mRes
      rw [hm]
      exact (fn_sound envU6_ok Try.func57 (pm2 a b) ⟨rfl, rfl, rfl, hl, by simp only [decide_eq_true_eq]; omega, by simp only [decide_eq_true_eq]; omega, by rw [hw]; simp only [decide_eq_true_eq]; omega, trivial⟩).nil2 rfl
    · have hm : mErr a b = false := by unfold mErr; rw [hl, decide_eq_false hn, Bool.and_false]; rfl
      have e : mRes a b = (trimF (mulL (a.map inF) (b.map inF))).map outF := by unfold mRes; rw [hm]; rfl
      rw [e, hm, List.length_map]
      refine fn_sound envU6_ok Try.func57 (pm5 a b) ⟨rfl, rfl, rfl, hl, by simp only [decide_eq_true_eq]; omega, by simp only [decide_eq_true_eq]; omega, by rw [hw]; simp only [decide_eq_false_iff_not]; omega, by simp [ha], by simp [hb], ?_, by omega, by omega, rfl, hla.symm, rfl, rfl, hlb.symm, rfl, by omega, by omega, by omega, by omega, trivial⟩
      simp only [decide_eq_true_eq]
      split <;> omega

def add41U : FnSpec
  | [.v (.c (.sl (.fr a))), .v (.c (.sl (.fr b)))] => some ([], .t [.c (.slc 0 0 (jAdd a b).length 4), .c (.int .i64 (err2 (longB ([a] ++ [b]))))], [.sq (.fr (jAdd a b))])
  | _ => none
noncomputable def envU7 : Env := envU6.set (addT envU6.fn 41 add41U)
theorem envU7_ok : EnvOk Try.prog envU7 := env_add envU6_ok 41 add41U (enters_of Try.func41 rfl rfl) fun args o r es h _ => by
  unfold add41U at h
  split at h
  · cases h; exact fn_sound envU6_ok Try.func41 (ad41U _ _) trivial
  · cases h
def sub42U : FnSpec
  | [.v (.c (.sl (.fr a))), .v (.c (.sl (.fr b)))] => some ([], .t [.c (.slc 0 0 (jSub a b).length 4), .c (.int .i64 (err2 (longB ([a] ++ [b]))))], [.sq (.fr (jSub a b))])
  | _ => none
noncomputable def envU8 : Env := envU7.set (addT envU7.fn 42 sub42U)
theorem envU8_ok : EnvOk Try.prog envU8 := env_add envU7_ok 42 sub42U (enters_of Try.func42 rfl rfl) fun args o r es h _ => by
  unfold sub42U at h
  split at h
  · cases h; exact fn_sound envU6_ok Try.func42 (sb42U _ _) trivial
  · cases h
def mulPSpec : FnSpec
  | [.v (.c (.sl (.fr a))), .v (.c (.sl (.fr b)))] => some ([a.length ≤ 8 ∨ b.length ≤ 8], .t [.c (.slc 0 0 (mRes a b).length 4), .c (.int .i64 (err2 (mErr a b)))], [.sq (.fr (mRes a b))])
  | _ => none
noncomputable def envU : Env := envU8.set (addT envU8.fn 57 mulPSpec)
theorem envU_ok : EnvOk Try.prog envU := env_add envU8_ok 57 mulPSpec (enters_of Try.func57 rfl rfl) fun args o r es h ho => by
  unfold mulPSpec at h
  split at h
  · cases h; exact mulP_fnd _ _ ho.1
  · cases h
--@env envU envU_ok
theorem lo1 (n m : Int) : fnRes envU Try.f17 3000 [.v (.c (.int .i64 n)), .v (.c (.int .i64 m))] [true, true, true, true, true, true, true, true, true, true, true] [] [] = (Option.some ([((0 : Int) ≤ (ite ((262145 : Int) < (ite ((0 : Int) > n) (0 : Int) n)) (262145 : Int) (ite ((0 : Int) > n) (0 : Int) n))), ((ite ((262145 : Int) < (ite ((0 : Int) > n) (0 : Int) n)) (262145 : Int) (ite ((0 : Int) > n) (0 : Int) n)) = (ite ((262145 : Int) < (ite ((0 : Int) > n) (0 : Int) n)) (262145 : Int) (ite ((0 : Int) > n) (0 : Int) n))), (((32 : Int) * (ite ((262145 : Int) < (ite ((0 : Int) > n) (0 : Int) n)) (262145 : Int) (ite ((0 : Int) > n) (0 : Int) n))) ≤ (281474976710656 : Int)), ((ite ((262145 : Int) < (ite ((0 : Int) > n) (0 : Int) n)) (262145 : Int) (ite ((0 : Int) > n) (0 : Int) n)) ≤ (9223372036854775807 : Int)), ((0 : Int) ≤ (ite ((3 : Int) < (ite ((0 : Int) > m) (0 : Int) m)) (3 : Int) (ite ((0 : Int) > m) (0 : Int) m))), ((ite ((3 : Int) < (ite ((0 : Int) > m) (0 : Int) m)) (3 : Int) (ite ((0 : Int) > m) (0 : Int) m)) = (ite ((3 : Int) < (ite ((0 : Int) > m) (0 : Int) m)) (3 : Int) (ite ((0 : Int) > m) (0 : Int) m))), (((32 : Int) * (ite ((3 : Int) < (ite ((0 : Int) > m) (0 : Int) m)) (3 : Int) (ite ((0 : Int) > m) (0 : Int) m))) ≤ (281474976710656 : Int)), ((ite ((3 : Int) < (ite ((0 : Int) > m) (0 : Int) m)) (3 : Int) (ite ((0 : Int) > m) (0 : Int) m)) ≤ (9223372036854775807 : Int)), ((decide ((ite ((262145 : Int) < (ite ((0 : Int) > n) (0 : Int) n)) (262145 : Int) (ite ((0 : Int) > n) (0 : Int) n)) > (262144 : Int))) = true), (0 = 0), (((ite ((262145 : Int) < (ite ((0 : Int) > n) (0 : Int) n)) (262145 : Int) (ite ((0 : Int) > n) (0 : Int) n))).toNat = (List.length (List.replicate ((ite ((262145 : Int) < (ite ((0 : Int) > n) (0 : Int) n)) (262145 : Int) (ite ((0 : Int) > n) (0 : Int) n))).toNat (0 : U4)))), (4 = 4), (0 = 0), (((ite ((3 : Int) < (ite ((0 : Int) > m) (0 : Int) m)) (3 : Int) (ite ((0 : Int) > m) (0 : Int) m))).toNat = (List.length (List.replicate ((ite ((3 : Int) < (ite ((0 : Int) > m) (0 : Int) m)) (3 : Int) (ite ((0 : Int) > m) (0 : Int) m))).toNat (0 : U4)))), (4 = 4), (0 = 0), (((ite ((3 : Int) < (ite ((0 : Int) > m) (0 : Int) m)) (3 : Int) (ite ((0 : Int) > m) (0 : Int) m))).toNat = (List.length (List.replicate ((ite ((3 : Int) < (ite ((0 : Int) > m) (0 : Int) m)) (3 : Int) (ite ((0 : Int) > m) (0 : Int) m))).toNat (0 : U4)))), (4 = 4), (0 = 0), (((ite ((262145 : Int) < (ite ((0 : Int) > n) (0 : Int) n)) (262145 : Int) (ite ((0 : Int) > n) (0 : Int) n))).toNat = (List.length (List.replicate ((ite ((262145 : Int) < (ite ((0 : Int) > n) (0 : Int) n)) (262145 : Int) (ite ((0 : Int) > n) (0 : Int) n))).toNat (0 : U4)))), (4 = 4), ((0 : Int) ≤ (2 : Int)), ((2 : Int) < (18446744073709551616 : Int)), ((0 : Int) ≤ (0 : Int)), ((0 : Int) < (18446744073709551616 : Int)), ((0 : Int) ≤ (0 : Int)), ((0 : Int) < (18446744073709551616 : Int)), ((0 : Int) ≤ (0 : Int)), ((0 : Int) < (18446744073709551616 : Int)), (0 = 0), (((ite ((262145 : Int) < (ite ((0 : Int) > n) (0 : Int) n)) (262145 : Int) (ite ((0 : Int) > n) (0 : Int) n))).toNat = (List.length (List.replicate ((ite ((262145 : Int) < (ite ((0 : Int) > n) (0 : Int) n)) (262145 : Int) (ite ((0 : Int) > n) (0 : Int) n))).toNat (0 : U4)))), (4 = 4), ((0 : Int) ≤ (2 : Int)), ((2 : Int) < (18446744073709551616 : Int)), ((0 : Int) ≤ (0 : Int)), ((0 : Int) < (18446744073709551616 : Int)), ((0 : Int) ≤ (0 : Int)), ((0 : Int) < (18446744073709551616 : Int)), ((0 : Int) ≤ (0 : Int)), ((0 : Int) < (18446744073709551616 : Int)), (0 = 0), (((ite ((262145 : Int) < (ite ((0 : Int) > n) (0 : Int) n)) (262145 : Int) (ite ((0 : Int) > n) (0 : Int) n))).toNat = (List.length (List.replicate ((ite ((262145 : Int) < (ite ((0 : Int) > n) (0 : Int) n)) (262145 : Int) (ite ((0 : Int) > n) (0 : Int) n))).toNat (0 : U4)))), (4 = 4), ((0 : Int) ≤ (2 : Int)), ((2 : Int) < (18446744073709551616 : Int)), ((0 : Int) ≤ (0 : Int)), ((0 : Int) < (18446744073709551616 : Int)), ((0 : Int) ≤ (0 : Int)), ((0 : Int) < (18446744073709551616 : Int)), ((0 : Int) ≤ (0 : Int)), ((0 : Int) < (18446744073709551616 : Int)), (0 = 0), (((ite ((262145 : Int) < (ite ((0 : Int) > n) (0 : Int) n)) (262145 : Int) (ite ((0 : Int) > n) (0 : Int) n))).toNat = (List.length (List.replicate ((ite ((262145 : Int) < (ite ((0 : Int) > n) (0 : Int) n)) (262145 : Int) (ite ((0 : Int) > n) (0 : Int) n))).toNat (0 : U4)))), (4 = 4), (0 = 0), (((ite ((262145 : Int) < (ite ((0 : Int) > n) (0 : Int) n)) (262145 : Int) (ite ((0 : Int) > n) (0 : Int) n))).toNat = (List.length (List.replicate ((ite ((262145 : Int) < (ite ((0 : Int) > n) (0 : Int) n)) (262145 : Int) (ite ((0 : Int) > n) (0 : Int) n))).toNat (0 : U4)))), (4 = 4), ((1 : Int) = (1 : Int)), (0 = 0), (((ite ((262145 : Int) < (ite ((0 : Int) > n) (0 : Int) n)) (262145 : Int) (ite ((0 : Int) > n) (0 : Int) n))).toNat = (List.length (List.replicate ((ite ((262145 : Int) < (ite ((0 : Int) > n) (0 : Int) n)) (262145 : Int) (ite ((0 : Int) > n) (0 : Int) n))).toNat (0 : U4)))), (4 = 4), (0 = 0), (((ite ((3 : Int) < (ite ((0 : Int) > m) (0 : Int) m)) (3 : Int) (ite ((0 : Int) > m) (0 : Int) m))).toNat = (List.length (List.replicate ((ite ((3 : Int) < (ite ((0 : Int) > m) (0 : Int) m)) (3 : Int) (ite ((0 : Int) > m) (0 : Int) m))).toNat (0 : U4)))), (4 = 4), (Or ((List.length (List.replicate ((ite ((262145 : Int) < (ite ((0 : Int) > n) (0 : Int) n)) (262145 : Int) (ite ((0 : Int) > n) (0 : Int) n))).toNat (0 : U4))) ≤ 8) ((List.length (List.replicate ((ite ((3 : Int) < (ite ((0 : Int) > m) (0 : Int) m)) (3 : Int) (ite ((0 : Int) > m) (0 : Int) m))).toNat (0 : U4))) ≤ 8)), ((decide ((ite ((262145 : Int) < (ite ((0 : Int) > n) (0 : Int) n)) (262145 : Int) (ite ((0 : Int) > n) (0 : Int) n)) > (0 : Int))) = true), ((decide ((ite ((3 : Int) < (ite ((0 : Int) > m) (0 : Int) m)) (3 : Int) (ite ((0 : Int) > m) (0 : Int) m)) > (0 : Int))) = true), ((decide ((IntKind.wrap IntKind.i64 ((ite ((262145 : Int) < (ite ((0 : Int) > n) (0 : Int) n)) (262145 : Int) (ite ((0 : Int) > n) (0 : Int) n)) + (ite ((3 : Int) < (ite ((0 : Int) > m) (0 : Int) m)) (3 : Int) (ite ((0 : Int) > m) (0 : Int) m)))) > (16384 : Int))) = true), (((err2 (longB ([(List.replicate ((ite ((262145 : Int) < (ite ((0 : Int) > n) (0 : Int) n)) (262145 : Int) (ite ((0 : Int) > n) (0 : Int) n))).toNat (0 : U4))] ++ [(List.replicate ((ite ((3 : Int) < (ite ((0 : Int) > m) (0 : Int) m)) (3 : Int) (ite ((0 : Int) > m) (0 : Int) m))).toNat (0 : U4))]))) == (2 : Int)) = true), (((err2 (longB ([(List.replicate ((ite ((3 : Int) < (ite ((0 : Int) > m) (0 : Int) m)) (3 : Int) (ite ((0 : Int) > m) (0 : Int) m))).toNat (0 : U4))] ++ [(List.replicate ((ite ((262145 : Int) < (ite ((0 : Int) > n) (0 : Int) n)) (262145 : Int) (ite ((0 : Int) > n) (0 : Int) n))).toNat (0 : U4))]))) == (2 : Int)) = true), (((err2 (longB ([(List.replicate ((ite ((262145 : Int) < (ite ((0 : Int) > n) (0 : Int) n)) (262145 : Int) (ite ((0 : Int) > n) (0 : Int) n))).toNat (0 : U4))] ++ [[]]))) == (2 : Int)) = true), (((err2 (longB [(List.replicate ((ite ((262145 : Int) < (ite ((0 : Int) > n) (0 : Int) n)) (262145 : Int) (ite ((0 : Int) > n) (0 : Int) n))).toNat (0 : U4))])) == (2 : Int)) = true), (((err2 (longB [(List.replicate ((ite ((262145 : Int) < (ite ((0 : Int) > n) (0 : Int) n)) (262145 : Int) (ite ((0 : Int) > n) (0 : Int) n))).toNat (0 : U4))])) == (2 : Int)) = true), (((err2 (longB [(List.replicate ((ite ((262145 : Int) < (ite ((0 : Int) > n) (0 : Int) n)) (262145 : Int) (ite ((0 : Int) > n) (0 : Int) n))).toNat (0 : U4))])) == (2 : Int)) = true)], ((SV.v (V1.c (It.bool ((err2 (mErr (List.replicate ((ite ((262145 : Int) < (ite ((0 : Int) > n) (0 : Int) n)) (262145 : Int) (ite ((0 : Int) > n) (0 : Int) n))).toNat (0 : U4)) (List.replicate ((ite ((3 : Int) < (ite ((0 : Int) > m) (0 : Int) m)) (3 : Int) (ite ((0 : Int) > m) (0 : Int) m))).toNat (0 : U4)))) == (2 : Int))))), []))) := by kernel_rfl
theorem lo2 (n m : Int) : fnRes envU Try.f17 3000 [.v (.c (.int .i64 n)), .v (.c (.int .i64 m))] [true, true, false, true, true, true, true, true, true, true] [] [] = (Option.some ([((0 : Int) ≤ (ite ((262145 : Int) < (ite ((0 : Int) > n) (0 : Int) n)) (262145 : Int) (ite ((0 : Int) > n) (0 : Int) n))), ((ite ((262145 : Int) < (ite ((0 : Int) > n) (0 : Int) n)) (262145 : Int) (ite ((0 : Int) > n) (0 : Int) n)) = (ite ((262145 : Int) < (ite ((0 : Int) > n) (0 : Int) n)) (262145 : Int) (ite ((0 : Int) > n) (0 : Int) n))), (((32 : Int) * (ite ((262145 : Int) < (ite ((0 : Int) > n) (0 : Int) n)) (262145 : Int) (ite ((0 : Int) > n) (0 : Int) n))) ≤ (281474976710656 : Int)), ((ite ((262145 : Int) < (ite ((0 : Int) > n) (0 : Int) n)) (262145 : Int) (ite ((0 : Int) > n) (0 : Int) n)) ≤ (9223372036854775807 : Int)), ((0 : Int) ≤ (ite ((3 : Int) < (ite ((0 : Int) > m) (0 : Int) m)) (3 : Int) (ite ((0 : Int) > m) (0 : Int) m))), ((ite ((3 : Int) < (ite ((0 : Int) > m) (0 : Int) m)) (3 : Int) (ite ((0 : Int) > m) (0 : Int) m)) = (ite ((3 : Int) < (ite ((0 : Int) > m) (0 : Int) m)) (3 : Int) (ite ((0 : Int) > m) (0 : Int) m))), (((32 : Int) * (ite ((3 : Int) < (ite ((0 : Int) > m) (0 : Int) m)) (3 : Int) (ite ((0 : Int) > m) (0 : Int) m))) ≤ (281474976710656 : Int)), ((ite ((3 : Int) < (ite ((0 : Int) > m) (0 : Int) m)) (3 : Int) (ite ((0 : Int) > m) (0 : Int) m)) ≤ (9223372036854775807 : Int)), ((decide ((ite ((262145 : Int) < (ite ((0 : Int) > n) (0 : Int) n)) (262145 : Int) (ite ((0 : Int) > n) (0 : Int) n)) > (262144 : Int))) = true), (0 = 0), (((ite ((262145 : Int) < (ite ((0 : Int) > n) (0 : Int) n)) (262145 : Int) (ite ((0 : Int) > n) (0 : Int) n))).toNat = (List.length (List.replicate ((ite ((262145 : Int) < (ite ((0 : Int) > n) (0 : Int) n)) (262145 : Int) (ite ((0 : Int) > n) (0 : Int) n))).toNat (0 : U4)))), (4 = 4), (0 = 0), (((ite ((3 : Int) < (ite ((0 : Int) > m) (0 : Int) m)) (3 : Int) (ite ((0 : Int) > m) (0 : Int) m))).toNat = (List.length (List.replicate ((ite ((3 : Int) < (ite ((0 : Int) > m) (0 : Int) m)) (3 : Int) (ite ((0 : Int) > m) (0 : Int) m))).toNat (0 : U4)))), (4 = 4), (0 = 0), (((ite ((3 : Int) < (ite ((0 : Int) > m) (0 : Int) m)) (3 : Int) (ite ((0 : Int) > m) (0 : Int) m))).toNat = (List.length (List.replicate ((ite ((3 : Int) < (ite ((0 : Int) > m) (0 : Int) m)) (3 : Int) (ite ((0 : Int) > m) (0 : Int) m))).toNat (0 : U4)))), (4 = 4), (0 = 0), (((ite ((262145 : Int) < (ite ((0 : Int) > n) (0 : Int) n)) (262145 : Int) (ite ((0 : Int) > n) (0 : Int) n))).toNat = (List.length (List.replicate ((ite ((262145 : Int) < (ite ((0 : Int) > n) (0 : Int) n)) (262145 : Int) (ite ((0 : Int) > n) (0 : Int) n))).toNat (0 : U4)))), (4 = 4), ((0 : Int) ≤ (2 : Int)), ((2 : Int) < (18446744073709551616 : Int)), ((0 : Int) ≤ (0 : Int)), ((0 : Int) < (18446744073709551616 : Int)), ((0 : Int) ≤ (0 : Int)), ((0 : Int) < (18446744073709551616 : Int)), ((0 : Int) ≤ (0 : Int)), ((0 : Int) < (18446744073709551616 : Int)), (0 = 0), (((ite ((262145 : Int) < (ite ((0 : Int) > n) (0 : Int) n)) (262145 : Int) (ite ((0 : Int) > n) (0 : Int) n))).toNat = (List.length (List.replicate ((ite ((262145 : Int) < (ite ((0 : Int) > n) (0 : Int) n)) (262145 : Int) (ite ((0 : Int) > n) (0 : Int) n))).toNat (0 : U4)))), (4 = 4), ((0 : Int) ≤ (2 : Int)), ((2 : Int) < (18446744073709551616 : Int)), ((0 : Int) ≤ (0 : Int)), ((0 : Int) < (18446744073709551616 : Int)), ((0 : Int) ≤ (0 : Int)), ((0 : Int) < (18446744073709551616 : Int)), ((0 : Int) ≤ (0 : Int)), ((0 : Int) < (18446744073709551616 : Int)), (0 = 0), (((ite ((262145 : Int) < (ite ((0 : Int) > n) (0 : Int) n)) (262145 : Int) (ite ((0 : Int) > n) (0 : Int) n))).toNat = (List.length (List.replicate ((ite ((262145 : Int) < (ite ((0 : Int) > n) (0 : Int) n)) (262145 : Int) (ite ((0 : Int) > n) (0 : Int) n))).toNat (0 : U4)))), (4 = 4), ((0 : Int) ≤ (2 : Int)), ((2 : Int) < (18446744073709551616 : Int)), ((0 : Int) ≤ (0 : Int)), ((0 : Int) < (18446744073709551616 : Int)), ((0 : Int) ≤ (0 : Int)), ((0 : Int) < (18446744073709551616 : Int)), ((0 : Int) ≤ (0 : Int)), ((0 : Int) < (18446744073709551616 : Int)), (0 = 0), (((ite ((262145 : Int) < (ite ((0 : Int) > n) (0 : Int) n)) (262145 : Int) (ite ((0 : Int) > n) (0 : Int) n))).toNat = (List.length (List.replicate ((ite ((262145 : Int) < (ite ((0 : Int) > n) (0 : Int) n)) (262145 : Int) (ite ((0 : Int) > n) (0 : Int) n))).toNat (0 : U4)))), (4 = 4), (0 = 0), (((ite ((262145 : Int) < (ite ((0 : Int) > n) (0 : Int) n)) (262145 : Int) (ite ((0 : Int) > n) (0 : Int) n))).toNat = (List.length (List.replicate ((ite ((262145 : Int) < (ite ((0 : Int) > n) (0 : Int) n)) (262145 : Int) (ite ((0 : Int) > n) (0 : Int) n))).toNat (0 : U4)))), (4 = 4), ((1 : Int) = (1 : Int)), (0 = 0), (((ite ((262145 : Int) < (ite ((0 : Int) > n) (0 : Int) n)) (262145 : Int) (ite ((0 : Int) > n) (0 : Int) n))).toNat = (List.length (List.replicate ((ite ((262145 : Int) < (ite ((0 : Int) > n) (0 : Int) n)) (262145 : Int) (ite ((0 : Int) > n) (0 : Int) n))).toNat (0 : U4)))), (4 = 4), (0 = 0), (((ite ((3 : Int) < (ite ((0 : Int) > m) (0 : Int) m)) (3 : Int) (ite ((0 : Int) > m) (0 : Int) m))).toNat = (List.length (List.replicate ((ite ((3 : Int) < (ite ((0 : Int) > m) (0 : Int) m)) (3 : Int) (ite ((0 : Int) > m) (0 : Int) m))).toNat (0 : U4)))), (4 = 4), (Or ((List.length (List.replicate ((ite ((262145 : Int) < (ite ((0 : Int) > n) (0 : Int) n)) (262145 : Int) (ite ((0 : Int) > n) (0 : Int) n))).toNat (0 : U4))) ≤ 8) ((List.length (List.replicate ((ite ((3 : Int) < (ite ((0 : Int) > m) (0 : Int) m)) (3 : Int) (ite ((0 : Int) > m) (0 : Int) m))).toNat (0 : U4))) ≤ 8)), ((decide ((ite ((262145 : Int) < (ite ((0 : Int) > n) (0 : Int) n)) (262145 : Int) (ite ((0 : Int) > n) (0 : Int) n)) > (0 : Int))) = true), ((decide ((ite ((3 : Int) < (ite ((0 : Int) > m) (0 : Int) m)) (3 : Int) (ite ((0 : Int) > m) (0 : Int) m)) > (0 : Int))) = false), (((err2 (longB ([(List.replicate ((ite ((262145 : Int) < (ite ((0 : Int) > n) (0 : Int) n)) (262145 : Int) (ite ((0 : Int) > n) (0 : Int) n))).toNat (0 : U4))] ++ [(List.replicate ((ite ((3 : Int) < (ite ((0 : Int) > m) (0 : Int) m)) (3 : Int) (ite ((0 : Int) > m) (0 : Int) m))).toNat (0 : U4))]))) == (2 : Int)) = true), (((err2 (longB ([(List.replicate ((ite ((3 : Int) < (ite ((0 : Int) > m) (0 : Int) m)) (3 : Int) (ite ((0 : Int) > m) (0 : Int) m))).toNat (0 : U4))] ++ [(List.replicate ((ite ((262145 : Int) < (ite ((0 : Int) > n) (0 : Int) n)) (262145 : Int) (ite ((0 : Int) > n) (0 : Int) n))).toNat (0 : U4))]))) == (2 : Int)) = true), (((err2 (longB ([(List.replicate ((ite ((262145 : Int) < (ite ((0 : Int) > n) (0 : Int) n)) (262145 : Int) (ite ((0 : Int) > n) (0 : Int) n))).toNat (0 : U4))] ++ [[]]))) == (2 : Int)) = true), (((err2 (longB [(List.replicate ((ite ((262145 : Int) < (ite ((0 : Int) > n) (0 : Int) n)) (262145 : Int) (ite ((0 : Int) > n) (0 : Int) n))).toNat (0 : U4))])) == (2 : Int)) = true), (((err2 (longB [(List.replicate ((ite ((262145 : Int) < (ite ((0 : Int) > n) (0 : Int) n)) (262145 : Int) (ite ((0 : Int) > n) (0 : Int) n))).toNat (0 : U4))])) == (2 : Int)) = true), (((err2 (longB [(List.replicate ((ite ((262145 : Int) < (ite ((0 : Int) > n) (0 : Int) n)) (262145 : Int) (ite ((0 : Int) > n) (0 : Int) n))).toNat (0 : U4))])) == (2 : Int)) = true)], ((SV.v (V1.c (It.bool ((err2 (mErr (List.replicate ((ite ((262145 : Int) < (ite ((0 : Int) > n) (0 : Int) n)) (262145 : Int) (ite ((0 : Int) > n) (0 : Int) n))).toNat (0 : U4)) (List.replicate ((ite ((3 : Int) < (ite ((0 : Int) > m) (0 : Int) m)) (3 : Int) (ite ((0 : Int) > m) (0 : Int) m))).toNat (0 : U4)))) == (2 : Int))))), []))) := by kernel_rfl
theorem lo3 (n m : Int) : fnRes envU Try.f17 3000 [.v (.c (.int .i64 n)), .v (.c (.int .i64 m))] [false, false, true, true, true, true, true, true, true, true] [] [] = (Option.some ([((0 : Int) ≤ (ite ((262145 : Int) < (ite ((0 : Int) > n) (0 : Int) n)) (262145 : Int) (ite ((0 : Int) > n) (0 : Int) n))), ((ite ((262145 : Int) < (ite ((0 : Int) > n) (0 : Int) n)) (262145 : Int) (ite ((0 : Int) > n) (0 : Int) n)) = (ite ((262145 : Int) < (ite ((0 : Int) > n) (0 : Int) n)) (262145 : Int) (ite ((0 : Int) > n) (0 : Int) n))), (((32 : Int) * (ite ((262145 : Int) < (ite ((0 : Int) > n) (0 : Int) n)) (262145 : Int) (ite ((0 : Int) > n) (0 : Int) n))) ≤ (281474976710656 : Int)), ((ite ((262145 : Int) < (ite ((0 : Int) > n) (0 : Int) n)) (262145 : Int) (ite ((0 : Int) > n) (0 : Int) n)) ≤ (9223372036854775807 : Int)), ((0 : Int) ≤ (ite ((3 : Int) < (ite ((0 : Int) > m) (0 : Int) m)) (3 : Int) (ite ((0 : Int) > m) (0 : Int) m))), ((ite ((3 : Int) < (ite ((0 : Int) > m) (0 : Int) m)) (3 : Int) (ite ((0 : Int) > m) (0 : Int) m)) = (ite ((3 : Int) < (ite ((0 : Int) > m) (0 : Int) m)) (3 : Int) (ite ((0 : Int) > m) (0 : Int) m))), (((32 : Int) * (ite ((3 : Int) < (ite ((0 : Int) > m) (0 : Int) m)) (3 : Int) (ite ((0 : Int) > m) (0 : Int) m))) ≤ (281474976710656 : Int)), ((ite ((3 : Int) < (ite ((0 : Int) > m) (0 : Int) m)) (3 : Int) (ite ((0 : Int) > m) (0 : Int) m)) ≤ (9223372036854775807 : Int)), ((decide ((ite ((262145 : Int) < (ite ((0 : Int) > n) (0 : Int) n)) (262145 : Int) (ite ((0 : Int) > n) (0 : Int) n)) > (262144 : Int))) = false), (0 = 0), (((ite ((262145 : Int) < (ite ((0 : Int) > n) (0 : Int) n)) (262145 : Int) (ite ((0 : Int) > n) (0 : Int) n))).toNat = (List.length (List.replicate ((ite ((262145 : Int) < (ite ((0 : Int) > n) (0 : Int) n)) (262145 : Int) (ite ((0 : Int) > n) (0 : Int) n))).toNat (0 : U4)))), (4 = 4), (0 = 0), (((ite ((3 : Int) < (ite ((0 : Int) > m) (0 : Int) m)) (3 : Int) (ite ((0 : Int) > m) (0 : Int) m))).toNat = (List.length (List.replicate ((ite ((3 : Int) < (ite ((0 : Int) > m) (0 : Int) m)) (3 : Int) (ite ((0 : Int) > m) (0 : Int) m))).toNat (0 : U4)))), (4 = 4), (0 = 0), (((ite ((3 : Int) < (ite ((0 : Int) > m) (0 : Int) m)) (3 : Int) (ite ((0 : Int) > m) (0 : Int) m))).toNat = (List.length (List.replicate ((ite ((3 : Int) < (ite ((0 : Int) > m) (0 : Int) m)) (3 : Int) (ite ((0 : Int) > m) (0 : Int) m))).toNat (0 : U4)))), (4 = 4), (0 = 0), (((ite ((262145 : Int) < (ite ((0 : Int) > n) (0 : Int) n)) (262145 : Int) (ite ((0 : Int) > n) (0 : Int) n))).toNat = (List.length (List.replicate ((ite ((262145 : Int) < (ite ((0 : Int) > n) (0 : Int) n)) (262145 : Int) (ite ((0 : Int) > n) (0 : Int) n))).toNat (0 : U4)))), (4 = 4), ((0 : Int) ≤ (2 : Int)), ((2 : Int) < (18446744073709551616 : Int)), ((0 : Int) ≤ (0 : Int)), ((0 : Int) < (18446744073709551616 : Int)), ((0 : Int) ≤ (0 : Int)), ((0 : Int) < (18446744073709551616 : Int)), ((0 : Int) ≤ (0 : Int)), ((0 : Int) < (18446744073709551616 : Int)), (0 = 0), (((ite ((262145 : Int) < (ite ((0 : Int) > n) (0 : Int) n)) (262145 : Int) (ite ((0 : Int) > n) (0 : Int) n))).toNat = (List.length (List.replicate ((ite ((262145 : Int) < (ite ((0 : Int) > n) (0 : Int) n)) (262145 : Int) (ite ((0 : Int) > n) (0 : Int) n))).toNat (0 : U4)))), (4 = 4), ((0 : Int) ≤ (2 : Int)), ((2 : Int) < (18446744073709551616 : Int)), ((0 : Int) ≤ (0 : Int)), ((0 : Int) < (18446744073709551616 : Int)), ((0 : Int) ≤ (0 : Int)), ((0 : Int) < (18446744073709551616 : Int)), ((0 : Int) ≤ (0 : Int)), ((0 : Int) < (18446744073709551616 : Int)), (0 = 0), (((ite ((262145 : Int) < (ite ((0 : Int) > n) (0 : Int) n)) (262145 : Int) (ite ((0 : Int) > n) (0 : Int) n))).toNat = (List.length (List.replicate ((ite ((262145 : Int) < (ite ((0 : Int) > n) (0 : Int) n)) (262145 : Int) (ite ((0 : Int) > n) (0 : Int) n))).toNat (0 : U4)))), (4 = 4), ((0 : Int) ≤ (2 : Int)), ((2 : Int) < (18446744073709551616 : Int)), ((0 : Int) ≤ (0 : Int)), ((0 : Int) < (18446744073709551616 : Int)), ((0 : Int) ≤ (0 : Int)), ((0 : Int) < (18446744073709551616 : Int)), ((0 : Int) ≤ (0 : Int)), ((0 : Int) < (18446744073709551616 : Int)), (0 = 0), (((ite ((262145 : Int) < (ite ((0 : Int) > n) (0 : Int) n)) (262145 : Int) (ite ((0 : Int) > n) (0 : Int) n))).toNat = (List.length (List.replicate ((ite ((262145 : Int) < (ite ((0 : Int) > n) (0 : Int) n)) (262145 : Int) (ite ((0 : Int) > n) (0 : Int) n))).toNat (0 : U4)))), (4 = 4), (0 = 0), (((ite ((262145 : Int) < (ite ((0 : Int) > n) (0 : Int) n)) (262145 : Int) (ite ((0 : Int) > n) (0 : Int) n))).toNat = (List.length (List.replicate ((ite ((262145 : Int) < (ite ((0 : Int) > n) (0 : Int) n)) (262145 : Int) (ite ((0 : Int) > n) (0 : Int) n))).toNat (0 : U4)))), (4 = 4), ((1 : Int) = (1 : Int)), (0 = 0), (((ite ((262145 : Int) < (ite ((0 : Int) > n) (0 : Int) n)) (262145 : Int) (ite ((0 : Int) > n) (0 : Int) n))).toNat = (List.length (List.replicate ((ite ((262145 : Int) < (ite ((0 : Int) > n) (0 : Int) n)) (262145 : Int) (ite ((0 : Int) > n) (0 : Int) n))).toNat (0 : U4)))), (4 = 4), (0 = 0), (((ite ((3 : Int) < (ite ((0 : Int) > m) (0 : Int) m)) (3 : Int) (ite ((0 : Int) > m) (0 : Int) m))).toNat = (List.length (List.replicate ((ite ((3 : Int) < (ite ((0 : Int) > m) (0 : Int) m)) (3 : Int) (ite ((0 : Int) > m) (0 : Int) m))).toNat (0 : U4)))), (4 = 4), (Or ((List.length (List.replicate ((ite ((262145 : Int) < (ite ((0 : Int) > n) (0 : Int) n)) (262145 : Int) (ite ((0 : Int) > n) (0 : Int) n))).toNat (0 : U4))) ≤ 8) ((List.length (List.replicate ((ite ((3 : Int) < (ite ((0 : Int) > m) (0 : Int) m)) (3 : Int) (ite ((0 : Int) > m) (0 : Int) m))).toNat (0 : U4))) ≤ 8)), ((decide ((ite ((262145 : Int) < (ite ((0 : Int) > n) (0 : Int) n)) (262145 : Int) (ite ((0 : Int) > n) (0 : Int) n)) > (0 : Int))) = false), (((err2 (longB ([(List.replicate ((ite ((262145 : Int) < (ite ((0 : Int) > n) (0 : Int) n)) (262145 : Int) (ite ((0 : Int) > n) (0 : Int) n))).toNat (0 : U4))] ++ [(List.replicate ((ite ((3 : Int) < (ite ((0 : Int) > m) (0 : Int) m)) (3 : Int) (ite ((0 : Int) > m) (0 : Int) m))).toNat (0 : U4))]))) == (0 : Int)) = true), (((err2 (longB ([(List.replicate ((ite ((3 : Int) < (ite ((0 : Int) > m) (0 : Int) m)) (3 : Int) (ite ((0 : Int) > m) (0 : Int) m))).toNat (0 : U4))] ++ [(List.replicate ((ite ((262145 : Int) < (ite ((0 : Int) > n) (0 : Int) n)) (262145 : Int) (ite ((0 : Int) > n) (0 : Int) n))).toNat (0 : U4))]))) == (0 : Int)) = true), (((err2 (longB ([(List.replicate ((ite ((262145 : Int) < (ite ((0 : Int) > n) (0 : Int) n)) (262145 : Int) (ite ((0 : Int) > n) (0 : Int) n))).toNat (0 : U4))] ++ [[]]))) == (0 : Int)) = true), (((err2 (longB [(List.replicate ((ite ((262145 : Int) < (ite ((0 : Int) > n) (0 : Int) n)) (262145 : Int) (ite ((0 : Int) > n) (0 : Int) n))).toNat (0 : U4))])) == (0 : Int)) = true), (((err2 (longB [(List.replicate ((ite ((262145 : Int) < (ite ((0 : Int) > n) (0 : Int) n)) (262145 : Int) (ite ((0 : Int) > n) (0 : Int) n))).toNat (0 : U4))])) == (0 : Int)) = true), (((err2 (longB [(List.replicate ((ite ((262145 : Int) < (ite ((0 : Int) > n) (0 : Int) n)) (262145 : Int) (ite ((0 : Int) > n) (0 : Int) n))).toNat (0 : U4))])) == (0 : Int)) = true)], ((SV.v (V1.c (It.bool ((err2 (mErr (List.replicate ((ite ((262145 : Int) < (ite ((0 : Int) > n) (0 : Int) n)) (262145 : Int) (ite ((0 : Int) > n) (0 : Int) n))).toNat (0 : U4)) (List.replicate ((ite ((3 : Int) < (ite ((0 : Int) > m) (0 : Int) m)) (3 : Int) (ite ((0 : Int) > m) (0 : Int) m))).toNat (0 : U4)))) == (0 : Int))))), []))) := by kernel_rfl
theorem lo4 (n m : Int) : fnRes envU Try.f17 3000 [.v (.c (.int .i64 n)), .v (.c (.int .i64 m))] [false, true, false, true, true, true, true, true, true, true] [] [] = (Option.some ([((0 : Int) ≤ (ite ((262145 : Int) < (ite ((0 : Int) > n) (0 : Int) n)) (262145 : Int) (ite ((0 : Int) > n) (0 : Int) n))), ((ite ((262145 : Int) < (ite ((0 : Int) > n) (0 : Int) n)) (262145 : Int) (ite ((0 : Int) > n) (0 : Int) n)) = (ite ((262145 : Int) < (ite ((0 : Int) > n) (0 : Int) n)) (262145 : Int) (ite ((0 : Int) > n) (0 : Int) n))), (((32 : Int) * (ite ((262145 : Int) < (ite ((0 : Int) > n) (0 : Int) n)) (262145 : Int) (ite ((0 : Int) > n) (0 : Int) n))) ≤ (281474976710656 : Int)), ((ite ((262145 : Int) < (ite ((0 : Int) > n) (0 : Int) n)) (262145 : Int) (ite ((0 : Int) > n) (0 : Int) n)) ≤ (9223372036854775807 : Int)), ((0 : Int) ≤ (ite ((3 : Int) < (ite ((0 : Int) > m) (0 : Int) m)) (3 : Int) (ite ((0 : Int) > m) (0 : Int) m))), ((ite ((3 : Int) < (ite ((0 : Int) > m) (0 : Int) m)) (3 : Int) (ite ((0 : Int) > m) (0 : Int) m)) = (ite ((3 : Int) < (ite ((0 : Int) > m) (0 : Int) m)) (3 : Int) (ite ((0 : Int) > m) (0 : Int) m))), (((32 : Int) * (ite ((3 : Int) < (ite ((0 : Int) > m) (0 : Int) m)) (3 : Int) (ite ((0 : Int) > m) (0 : Int) m))) ≤ (281474976710656 : Int)), ((ite ((3 : Int) < (ite ((0 : Int) > m) (0 : Int) m)) (3 : Int) (ite ((0 : Int) > m) (0 : Int) m)) ≤ (9223372036854775807 : Int)), ((decide ((ite ((262145 : Int) < (ite ((0 : Int) > n) (0 : Int) n)) (262145 : Int) (ite ((0 : Int) > n) (0 : Int) n)) > (262144 : Int))) = false), (0 = 0), (((ite ((262145 : Int) < (ite ((0 : Int) > n) (0 : Int) n)) (262145 : Int) (ite ((0 : Int) > n) (0 : Int) n))).toNat = (List.length (List.replicate ((ite ((262145 : Int) < (ite ((0 : Int) > n) (0 : Int) n)) (262145 : Int) (ite ((0 : Int) > n) (0 : Int) n))).toNat (0 : U4)))), (4 = 4), (0 = 0), (((ite ((3 : Int) < (ite ((0 : Int) > m) (0 : Int) m)) (3 : Int) (ite ((0 : Int) > m) (0 : Int) m))).toNat = (List.length (List.replicate ((ite ((3 : Int) < (ite ((0 : Int) > m) (0 : Int) m)) (3 : Int) (ite ((0 : Int) > m) (0 : Int) m))).toNat (0 : U4)))), (4 = 4), (0 = 0), (((ite ((3 : Int) < (ite ((0 : Int) > m) (0 : Int) m)) (3 : Int) (ite ((0 : Int) > m) (0 : Int) m))).toNat = (List.length (List.replicate ((ite ((3 : Int) < (ite ((0 : Int) > m) (0 : Int) m)) (3 : Int) (ite ((0 : Int) > m) (0 : Int) m))).toNat (0 : U4)))), (4 = 4), (0 = 0), (((ite ((262145 : Int) < (ite ((0 : Int) > n) (0 : Int) n)) (262145 : Int) (ite ((0 : Int) > n) (0 : Int) n))).toNat = (List.length (List.replicate ((ite ((262145 : Int) < (ite ((0 : Int) > n) (0 : Int) n)) (262145 : Int) (ite ((0 : Int) > n) (0 : Int) n))).toNat (0 : U4)))), (4 = 4), ((0 : Int) ≤ (2 : Int)), ((2 : Int) < (18446744073709551616 : Int)), ((0 : Int) ≤ (0 : Int)), ((0 : Int) < (18446744073709551616 : Int)), ((0 : Int) ≤ (0 : Int)), ((0 : Int) < (18446744073709551616 : Int)), ((0 : Int) ≤ (0 : Int)), ((0 : Int) < (18446744073709551616 : Int)), (0 = 0), (((ite ((262145 : Int) < (ite ((0 : Int) > n) (0 : Int) n)) (262145 : Int) (ite ((0 : Int) > n) (0 : Int) n))).toNat = (List.length (List.replicate ((ite ((262145 : Int) < (ite ((0 : Int) > n) (0 : Int) n)) (262145 : Int) (ite ((0 : Int) > n) (0 : Int) n))).toNat (0 : U4)))), (4 = 4), ((0 : Int) ≤ (2 : Int)), ((2 : Int) < (18446744073709551616 : Int)), ((0 : Int) ≤ (0 : Int)), ((0 : Int) < (18446744073709551616 : Int)), ((0 : Int) ≤ (0 : Int)), ((0 : Int) < (18446744073709551616 : Int)), ((0 : Int) ≤ (0 : Int)), ((0 : Int) < (18446744073709551616 : Int)), (0 = 0), (((ite ((262145 : Int) < (ite ((0 : Int) > n) (0 : Int) n)) (262145 : Int) (ite ((0 : Int) > n) (0 : Int) n))).toNat = (List.length (List.replicate ((ite ((262145 : Int) < (ite ((0 : Int) > n) (0 : Int) n)) (262145 : Int) (ite ((0 : Int) > n) (0 : Int) n))).toNat (0 : U4)))), (4 = 4), ((0 : Int) ≤ (2 : Int)), ((2 : Int) < (18446744073709551616 : Int)), ((0 : Int) ≤ (0 : Int)), ((0 : Int) < (18446744073709551616 : Int)), ((0 : Int) ≤ (0 : Int)), ((0 : Int) < (18446744073709551616 : Int)), ((0 : Int) ≤ (0 : Int)), ((0 : Int) < (18446744073709551616 : Int)), (0 = 0), (((ite ((262145 : Int) < (ite ((0 : Int) > n) (0 : Int) n)) (262145 : Int) (ite ((0 : Int) > n) (0 : Int) n))).toNat = (List.length (List.replicate ((ite ((262145 : Int) < (ite ((0 : Int) > n) (0 : Int) n)) (262145 : Int) (ite ((0 : Int) > n) (0 : Int) n))).toNat (0 : U4)))), (4 = 4), (0 = 0), (((ite ((262145 : Int) < (ite ((0 : Int) > n) (0 : Int) n)) (262145 : Int) (ite ((0 : Int) > n) (0 : Int) n))).toNat = (List.length (List.replicate ((ite ((262145 : Int) < (ite ((0 : Int) > n) (0 : Int) n)) (262145 : Int) (ite ((0 : Int) > n) (0 : Int) n))).toNat (0 : U4)))), (4 = 4), ((1 : Int) = (1 : Int)), (0 = 0), (((ite ((262145 : Int) < (ite ((0 : Int) > n) (0 : Int) n)) (262145 : Int) (ite ((0 : Int) > n) (0 : Int) n))).toNat = (List.length (List.replicate ((ite ((262145 : Int) < (ite ((0 : Int) > n) (0 : Int) n)) (262145 : Int) (ite ((0 : Int) > n) (0 : Int) n))).toNat (0 : U4)))), (4 = 4), (0 = 0), (((ite ((3 : Int) < (ite ((0 : Int) > m) (0 : Int) m)) (3 : Int) (ite ((0 : Int) > m) (0 : Int) m))).toNat = (List.length (List.replicate ((ite ((3 : Int) < (ite ((0 : Int) > m) (0 : Int) m)) (3 : Int) (ite ((0 : Int) > m) (0 : Int) m))).toNat (0 : U4)))), (4 = 4), (Or ((List.length (List.replicate ((ite ((262145 : Int) < (ite ((0 : Int) > n) (0 : Int) n)) (262145 : Int) (ite ((0 : Int) > n) (0 : Int) n))).toNat (0 : U4))) ≤ 8) ((List.length (List.replicate ((ite ((3 : Int) < (ite ((0 : Int) > m) (0 : Int) m)) (3 : Int) (ite ((0 : Int) > m) (0 : Int) m))).toNat (0 : U4))) ≤ 8)), ((decide ((ite ((262145 : Int) < (ite ((0 : Int) > n) (0 : Int) n)) (262145 : Int) (ite ((0 : Int) > n) (0 : Int) n)) > (0 : Int))) = true), ((decide ((ite ((3 : Int) < (ite ((0 : Int) > m) (0 : Int) m)) (3 : Int) (ite ((0 : Int) > m) (0 : Int) m)) > (0 : Int))) = false), (((err2 (longB ([(List.replicate ((ite ((262145 : Int) < (ite ((0 : Int) > n) (0 : Int) n)) (262145 : Int) (ite ((0 : Int) > n) (0 : Int) n))).toNat (0 : U4))] ++ [(List.replicate ((ite ((3 : Int) < (ite ((0 : Int) > m) (0 : Int) m)) (3 : Int) (ite ((0 : Int) > m) (0 : Int) m))).toNat (0 : U4))]))) == (0 : Int)) = true), (((err2 (longB ([(List.replicate ((ite ((3 : Int) < (ite ((0 : Int) > m) (0 : Int) m)) (3 : Int) (ite ((0 : Int) > m) (0 : Int) m))).toNat (0 : U4))] ++ [(List.replicate ((ite ((262145 : Int) < (ite ((0 : Int) > n) (0 : Int) n)) (262145 : Int) (ite ((0 : Int) > n) (0 : Int) n))).toNat (0 : U4))]))) == (0 : Int)) = true), (((err2 (longB ([(List.replicate ((ite ((262145 : Int) < (ite ((0 : Int) > n) (0 : Int) n)) (262145 : Int) (ite ((0 : Int) > n) (0 : Int) n))).toNat (0 : U4))] ++ [[]]))) == (0 : Int)) = true), (((err2 (longB [(List.replicate ((ite ((262145 : Int) < (ite ((0 : Int) > n) (0 : Int) n)) (262145 : Int) (ite ((0 : Int) > n) (0 : Int) n))).toNat (0 : U4))])) == (0 : Int)) = true), (((err2 (longB [(List.replicate ((ite ((262145 : Int) < (ite ((0 : Int) > n) (0 : Int) n)) (262145 : Int) (ite ((0 : Int) > n) (0 : Int) n))).toNat (0 : U4))])) == (0 : Int)) = true), (((err2 (longB [(List.replicate ((ite ((262145 : Int) < (ite ((0 : Int) > n) (0 : Int) n)) (262145 : Int) (ite ((0 : Int) > n) (0 : Int) n))).toNat (0 : U4))])) == (0 : Int)) = true)], ((SV.v (V1.c (It.bool ((err2 (mErr (List.replicate ((ite ((262145 : Int) < (ite ((0 : Int) > n) (0 : Int) n)) (262145 : Int) (ite ((0 : Int) > n) (0 : Int) n))).toNat (0 : U4)) (List.replicate ((ite ((3 : Int) < (ite ((0 : Int) > m) (0 : Int) m)) (3 : Int) (ite ((0 : Int) > m) (0 : Int) m))).toNat (0 : U4)))) == (0 : Int))))), []))) := by kernel_rfl
theorem lo5 (n m : Int) : fnRes envU Try.f17 3000 [.v (.c (.int .i64 n)), .v (.c (.int .i64 m))] [false, true, true, true, true, true, true, true, true, true, true] [] [] = (Option.some ([((0 : Int) ≤ (ite ((262145 : Int) < (ite ((0 : Int) > n) (0 : Int) n)) (262145 : Int) (ite ((0 : Int) > n) (0 : Int) n))), ((ite ((262145 : Int) < (ite ((0 : Int) > n) (0 : Int) n)) (262145 : Int) (ite ((0 : Int) > n) (0 : Int) n)) = (ite ((262145 : Int) < (ite ((0 : Int) > n) (0 : Int) n)) (262145 : Int) (ite ((0 : Int) > n) (0 : Int) n))), (((32 : Int) * (ite ((262145 : Int) < (ite ((0 : Int) > n) (0 : Int) n)) (262145 : Int) (ite ((0 : Int) > n) (0 : Int) n))) ≤ (281474976710656 : Int)), ((ite ((262145 : Int) < (ite ((0 : Int) > n) (0 : Int) n)) (262145 : Int) (ite ((0 : Int) > n) (0 : Int) n)) ≤ (9223372036854775807 : Int)), ((0 : Int) ≤ (ite ((3 : Int) < (ite ((0 : Int) > m) (0 : Int) m)) (3 : Int) (ite ((0 : Int) > m) (0 : Int) m))), ((ite ((3 : Int) < (ite ((0 : Int) > m) (0 : Int) m)) (3 : Int) (ite ((0 : Int) > m) (0 : Int) m)) = (ite ((3 : Int) < (ite ((0 : Int) > m) (0 : Int) m)) (3 : Int) (ite ((0 : Int) > m) (0 : Int) m))), (((32 : Int) * (ite ((3 : Int) < (ite ((0 : Int) > m) (0 : Int) m)) (3 : Int) (ite ((0 : Int) > m) (0 : Int) m))) ≤ (281474976710656 : Int)), ((ite ((3 : Int) < (ite ((0 : Int) > m) (0 : Int) m)) (3 : Int) (ite ((0 : Int) > m) (0 : Int) m)) ≤ (9223372036854775807 : Int)), ((decide ((ite ((262145 : Int) < (ite ((0 : Int) > n) (0 : Int) n)) (262145 : Int) (ite ((0 : Int) > n) (0 : Int) n)) > (262144 : Int))) = false), (0 = 0), (((ite ((262145 : Int) < (ite ((0 : Int) > n) (0 : Int) n)) (262145 : Int) (ite ((0 : Int) > n) (0 : Int) n))).toNat = (List.length (List.replicate ((ite ((262145 : Int) < (ite ((0 : Int) > n) (0 : Int) n)) (262145 : Int) (ite ((0 : Int) > n) (0 : Int) n))).toNat (0 : U4)))), (4 = 4), (0 = 0), (((ite ((3 : Int) < (ite ((0 : Int) > m) (0 : Int) m)) (3 : Int) (ite ((0 : Int) > m) (0 : Int) m))).toNat = (List.length (List.replicate ((ite ((3 : Int) < (ite ((0 : Int) > m) (0 : Int) m)) (3 : Int) (ite ((0 : Int) > m) (0 : Int) m))).toNat (0 : U4)))), (4 = 4), (0 = 0), (((ite ((3 : Int) < (ite ((0 : Int) > m) (0 : Int) m)) (3 : Int) (ite ((0 : Int) > m) (0 : Int) m))).toNat = (List.length (List.replicate ((ite ((3 : Int) < (ite ((0 : Int) > m) (0 : Int) m)) (3 : Int) (ite ((0 : Int) > m) (0 : Int) m))).toNat (0 : U4)))), (4 = 4), (0 = 0), (((ite ((262145 : Int) < (ite ((0 : Int) > n) (0 : Int) n)) (262145 : Int) (ite ((0 : Int) > n) (0 : Int) n))).toNat = (List.length (List.replicate ((ite ((262145 : Int) < (ite ((0 : Int) > n) (0 : Int) n)) (262145 : Int) (ite ((0 : Int) > n) (0 : Int) n))).toNat (0 : U4)))), (4 = 4), ((0 : Int) ≤ (2 : Int)), ((2 : Int) < (18446744073709551616 : Int)), ((0 : Int) ≤ (0 : Int)), ((0 : Int) < (18446744073709551616 : Int)), ((0 : Int) ≤ (0 : Int)), ((0 : Int) < (18446744073709551616 : Int)), ((0 : Int) ≤ (0 : Int)), ((0 : Int) < (18446744073709551616 : Int)), (0 = 0), (((ite ((262145 : Int) < (ite ((0 : Int) > n) (0 : Int) n)) (262145 : Int) (ite ((0 : Int) > n) (0 : Int) n))).toNat = (List.length (List.replicate ((ite ((262145 : Int) < (ite ((0 : Int) > n) (0 : Int) n)) (262145 : Int) (ite ((0 : Int) > n) (0 : Int) n))).toNat (0 : U4)))), (4 = 4), ((0 : Int) ≤ (2 : Int)), ((2 : Int) < (18446744073709551616 : Int)), ((0 : Int) ≤ (0 : Int)), ((0 : Int) < (18446744073709551616 : Int)), ((0 : Int) ≤ (0 : Int)), ((0 : Int) < (18446744073709551616 : Int)), ((0 : Int) ≤ (0 : Int)), ((0 : Int) < (18446744073709551616 : Int)), (0 = 0), (((ite ((262145 : Int) < (ite ((0 : Int) > n) (0 : Int) n)) (262145 : Int) (ite ((0 : Int) > n) (0 : Int) n))).toNat = (List.length (List.replicate ((ite ((262145 : Int) < (ite ((0 : Int) > n) (0 : Int) n)) (262145 : Int) (ite ((0 : Int) > n) (0 : Int) n))).toNat (0 : U4)))), (4 = 4), ((0 : Int) ≤ (2 : Int)), ((2 : Int) < (18446744073709551616 : Int)), ((0 : Int) ≤ (0 : Int)), ((0 : Int) < (18446744073709551616 : Int)), ((0 : Int) ≤ (0 : Int)), ((0 : Int) < (18446744073709551616 : Int)), ((0 : Int) ≤ (0 : Int)), ((0 : Int) < (18446744073709551616 : Int)), (0 = 0), (((ite ((262145 : Int) < (ite ((0 : Int) > n) (0 : Int) n)) (262145 : Int) (ite ((0 : Int) > n) (0 : Int) n))).toNat = (List.length (List.replicate ((ite ((262145 : Int) < (ite ((0 : Int) > n) (0 : Int) n)) (262145 : Int) (ite ((0 : Int) > n) (0 : Int) n))).toNat (0 : U4)))), (4 = 4), (0 = 0), (((ite ((262145 : Int) < (ite ((0 : Int) > n) (0 : Int) n)) (262145 : Int) (ite ((0 : Int) > n) (0 : Int) n))).toNat = (List.length (List.replicate ((ite ((262145 : Int) < (ite ((0 : Int) > n) (0 : Int) n)) (262145 : Int) (ite ((0 : Int) > n) (0 : Int) n))).toNat (0 : U4)))), (4 = 4), ((1 : Int) = (1 : Int)), (0 = 0), (((ite ((262145 : Int) < (ite ((0 : Int) > n) (0 : Int) n)) (262145 : Int) (ite ((0 : Int) > n) (0 : Int) n))).toNat = (List.length (List.replicate ((ite ((262145 : Int) < (ite ((0 : Int) > n) (0 : Int) n)) (262145 : Int) (ite ((0 : Int) > n) (0 : Int) n))).toNat (0 : U4)))), (4 = 4), (0 = 0), (((ite ((3 : Int) < (ite ((0 : Int) > m) (0 : Int) m)) (3 : Int) (ite ((0 : Int) > m) (0 : Int) m))).toNat = (List.length (List.replicate ((ite ((3 : Int) < (ite ((0 : Int) > m) (0 : Int) m)) (3 : Int) (ite ((0 : Int) > m) (0 : Int) m))).toNat (0 : U4)))), (4 = 4), (Or ((List.length (List.replicate ((ite ((262145 : Int) < (ite ((0 : Int) > n) (0 : Int) n)) (262145 : Int) (ite ((0 : Int) > n) (0 : Int) n))).toNat (0 : U4))) ≤ 8) ((List.length (List.replicate ((ite ((3 : Int) < (ite ((0 : Int) > m) (0 : Int) m)) (3 : Int) (ite ((0 : Int) > m) (0 : Int) m))).toNat (0 : U4))) ≤ 8)), ((decide ((ite ((262145 : Int) < (ite ((0 : Int) > n) (0 : Int) n)) (262145 : Int) (ite ((0 : Int) > n) (0 : Int) n)) > (0 : Int))) = true), ((decide ((ite ((3 : Int) < (ite ((0 : Int) > m) (0 : Int) m)) (3 : Int) (ite ((0 : Int) > m) (0 : Int) m)) > (0 : Int))) = true), ((decide ((IntKind.wrap IntKind.i64 ((ite ((262145 : Int) < (ite ((0 : Int) > n) (0 : Int) n)) (262145 : Int) (ite ((0 : Int) > n) (0 : Int) n)) + (ite ((3 : Int) < (ite ((0 : Int) > m) (0 : Int) m)) (3 : Int) (ite ((0 : Int) > m) (0 : Int) m)))) > (16384 : Int))) = true), (((err2 (longB ([(List.replicate ((ite ((262145 : Int) < (ite ((0 : Int) > n) (0 : Int) n)) (262145 : Int) (ite ((0 : Int) > n) (0 : Int) n))).toNat (0 : U4))] ++ [(List.replicate ((ite ((3 : Int) < (ite ((0 : Int) > m) (0 : Int) m)) (3 : Int) (ite ((0 : Int) > m) (0 : Int) m))).toNat (0 : U4))]))) == (0 : Int)) = true), (((err2 (longB ([(List.replicate ((ite ((3 : Int) < (ite ((0 : Int) > m) (0 : Int) m)) (3 : Int) (ite ((0 : Int) > m) (0 : Int) m))).toNat (0 : U4))] ++ [(List.replicate ((ite ((262145 : Int) < (ite ((0 : Int) > n) (0 : Int) n)) (262145 : Int) (ite ((0 : Int) > n) (0 : Int) n))).toNat (0 : U4))]))) == (0 : Int)) = true), (((err2 (longB ([(List.replicate ((ite ((262145 : Int) < (ite ((0 : Int) > n) (0 : Int) n)) (262145 : Int) (ite ((0 : Int) > n) (0 : Int) n))).toNat (0 : U4))] ++ [[]]))) == (0 : Int)) = true), (((err2 (longB [(List.replicate ((ite ((262145 : Int) < (ite ((0 : Int) > n) (0 : Int) n)) (262145 : Int) (ite ((0 : Int) > n) (0 : Int) n))).toNat (0 : U4))])) == (0 : Int)) = true), (((err2 (longB [(List.replicate ((ite ((262145 : Int) < (ite ((0 : Int) > n) (0 : Int) n)) (262145 : Int) (ite ((0 : Int) > n) (0 : Int) n))).toNat (0 : U4))])) == (0 : Int)) = true), (((err2 (longB [(List.replicate ((ite ((262145 : Int) < (ite ((0 : Int) > n) (0 : Int) n)) (262145 : Int) (ite ((0 : Int) > n) (0 : Int) n))).toNat (0 : U4))])) == (0 : Int)) = true)], ((SV.v (V1.c (It.bool ((err2 (mErr (List.replicate ((ite ((262145 : Int) < (ite ((0 : Int) > n) (0 : Int) n)) (262145 : Int) (ite ((0 : Int) > n) (0 : Int) n))).toNat (0 : U4)) (List.replicate ((ite ((3 : Int) < (ite ((0 : Int) > m) (0 : Int) m)) (3 : Int) (ite ((0 : Int) > m) (0 : Int) m))).toNat (0 : U4)))) == (2 : Int))))), []))) := by kernel_rfl
theorem lo6 (n m : Int) : fnRes envU Try.f17 3000 [.v (.c (.int .i64 n)), .v (.c (.int .i64 m))] [false, true, true, false, true, true, true, true, true, true, true] [] [] = (Option.some ([((0 : Int) ≤ (ite ((262145 : Int) < (ite ((0 : Int) > n) (0 : Int) n)) (262145 : Int) (ite ((0 : Int) > n) (0 : Int) n))), ((ite ((262145 : Int) < (ite ((0 : Int) > n) (0 : Int) n)) (262145 : Int) (ite ((0 : Int) > n) (0 : Int) n)) = (ite ((262145 : Int) < (ite ((0 : Int) > n) (0 : Int) n)) (262145 : Int) (ite ((0 : Int) > n) (0 : Int) n))), (((32 : Int) * (ite ((262145 : Int) < (ite ((0 : Int) > n) (0 : Int) n)) (262145 : Int) (ite ((0 : Int) > n) (0 : Int) n))) ≤ (281474976710656 : Int)), ((ite ((262145 : Int) < (ite ((0 : Int) > n) (0 : Int) n)) (262145 : Int) (ite ((0 : Int) > n) (0 : Int) n)) ≤ (9223372036854775807 : Int)), ((0 : Int) ≤ (ite ((3 : Int) < (ite ((0 : Int) > m) (0 : Int) m)) (3 : Int) (ite ((0 : Int) > m) (0 : Int) m))), ((ite ((3 : Int) < (ite ((0 : Int) > m) (0 : Int) m)) (3 : Int) (ite ((0 : Int) > m) (0 : Int) m)) = (ite ((3 : Int) < (ite ((0 : Int) > m) (0 : Int) m)) (3 : Int) (ite ((0 : Int) > m) (0 : Int) m))), (((32 : Int) * (ite ((3 : Int) < (ite ((0 : Int) > m) (0 : Int) m)) (3 : Int) (ite ((0 : Int) > m) (0 : Int) m))) ≤ (281474976710656 : Int)), ((ite ((3 : Int) < (ite ((0 : Int) > m) (0 : Int) m)) (3 : Int) (ite ((0 : Int) > m) (0 : Int) m)) ≤ (9223372036854775807 : Int)), ((decide ((ite ((262145 : Int) < (ite ((0 : Int) > n) (0 : Int) n)) (262145 : Int) (ite ((0 : Int) > n) (0 : Int) n)) > (262144 : Int))) = false), (0 = 0), (((ite ((262145 : Int) < (ite ((0 : Int) > n) (0 : Int) n)) (262145 : Int) (ite ((0 : Int) > n) (0 : Int) n))).toNat = (List.length (List.replicate ((ite ((262145 : Int) < (ite ((0 : Int) > n) (0 : Int) n)) (262145 : Int) (ite ((0 : Int) > n) (0 : Int) n))).toNat (0 : U4)))), (4 = 4), (0 = 0), (((ite ((3 : Int) < (ite ((0 : Int) > m) (0 : Int) m)) (3 : Int) (ite ((0 : Int) > m) (0 : Int) m))).toNat = (List.length (List.replicate ((ite ((3 : Int) < (ite ((0 : Int) > m) (0 : Int) m)) (3 : Int) (ite ((0 : Int) > m) (0 : Int) m))).toNat (0 : U4)))), (4 = 4), (0 = 0), (((ite ((3 : Int) < (ite ((0 : Int) > m) (0 : Int) m)) (3 : Int) (ite ((0 : Int) > m) (0 : Int) m))).toNat = (List.length (List.replicate ((ite ((3 : Int) < (ite ((0 : Int) > m) (0 : Int) m)) (3 : Int) (ite ((0 : Int) > m) (0 : Int) m))).toNat (0 : U4)))), (4 = 4), (0 = 0), (((ite ((262145 : Int) < (ite ((0 : Int) > n) (0 : Int) n)) (262145 : Int) (ite ((0 : Int) > n) (0 : Int) n))).toNat = (List.length (List.replicate ((ite ((262145 : Int) < (ite ((0 : Int) > n) (0 : Int) n)) (262145 : Int) (ite ((0 : Int) > n) (0 : Int) n))).toNat (0 : U4)))), (4 = 4), ((0 : Int) ≤ (2 : Int)), ((2 : Int) < (18446744073709551616 : Int)), ((0 : Int) ≤ (0 : Int)), ((0 : Int) < (18446744073709551616 : Int)), ((0 : Int) ≤ (0 : Int)), ((0 : Int) < (18446744073709551616 : Int)), ((0 : Int) ≤ (0 : Int)), ((0 : Int) < (18446744073709551616 : Int)), (0 = 0), (((ite ((262145 : Int) < (ite ((0 : Int) > n) (0 : Int) n)) (262145 : Int) (ite ((0 : Int) > n) (0 : Int) n))).toNat = (List.length (List.replicate ((ite ((262145 : Int) < (ite ((0 : Int) > n) (0 : Int) n)) (262145 : Int) (ite ((0 : Int) > n) (0 : Int) n))).toNat (0 : U4)))), (4 = 4), ((0 : Int) ≤ (2 : Int)), ((2 : Int) < (18446744073709551616 : Int)), ((0 : Int) ≤ (0 : Int)), ((0 : Int) < (18446744073709551616 : Int)), ((0 : Int) ≤ (0 : Int)), ((0 : Int) < (18446744073709551616 : Int)), ((0 : Int) ≤ (0 : Int)), ((0 : Int) < (18446744073709551616 : Int)), (0 = 0), (((ite ((262145 : Int) < (ite ((0 : Int) > n) (0 : Int) n)) (262145 : Int) (ite ((0 : Int) > n) (0 : Int) n))).toNat = (List.length (List.replicate ((ite ((262145 : Int) < (ite ((0 : Int) > n) (0 : Int) n)) (262145 : Int) (ite ((0 : Int) > n) (0 : Int) n))).toNat (0 : U4)))), (4 = 4), ((0 : Int) ≤ (2 : Int)), ((2 : Int) < (18446744073709551616 : Int)), ((0 : Int) ≤ (0 : Int)), ((0 : Int) < (18446744073709551616 : Int)), ((0 : Int) ≤ (0 : Int)), ((0 : Int) < (18446744073709551616 : Int)), ((0 : Int) ≤ (0 : Int)), ((0 : Int) < (18446744073709551616 : Int)), (0 = 0), (((ite ((262145 : Int) < (ite ((0 : Int) > n) (0 : Int) n)) (262145 : Int) (ite ((0 : Int) > n) (0 : Int) n))).toNat = (List.length (List.replicate ((ite ((262145 : Int) < (ite ((0 : Int) > n) (0 : Int) n)) (262145 : Int) (ite ((0 : Int) > n) (0 : Int) n))).toNat (0 : U4)))), (4 = 4), (0 = 0), (((ite ((262145 : Int) < (ite ((0 : Int) > n) (0 : Int) n)) (262145 : Int) (ite ((0 : Int) > n) (0 : Int) n))).toNat = (List.length (List.replicate ((ite ((262145 : Int) < (ite ((0 : Int) > n) (0 : Int) n)) (262145 : Int) (ite ((0 : Int) > n) (0 : Int) n))).toNat (0 : U4)))), (4 = 4), ((1 : Int) = (1 : Int)), (0 = 0), (((ite ((262145 : Int) < (ite ((0 : Int) > n) (0 : Int) n)) (262145 : Int) (ite ((0 : Int) > n) (0 : Int) n))).toNat = (List.length (List.replicate ((ite ((262145 : Int) < (ite ((0 : Int) > n) (0 : Int) n)) (262145 : Int) (ite ((0 : Int) > n) (0 : Int) n))).toNat (0 : U4)))), (4 = 4), (0 = 0), (((ite ((3 : Int) < (ite ((0 : Int) > m) (0 : Int) m)) (3 : Int) (ite ((0 : Int) > m) (0 : Int) m))).toNat = (List.length (List.replicate ((ite ((3 : Int) < (ite ((0 : Int) > m) (0 : Int) m)) (3 : Int) (ite ((0 : Int) > m) (0 : Int) m))).toNat (0 : U4)))), (4 = 4), (Or ((List.length (List.replicate ((ite ((262145 : Int) < (ite ((0 : Int) > n) (0 : Int) n)) (262145 : Int) (ite ((0 : Int) > n) (0 : Int) n))).toNat (0 : U4))) ≤ 8) ((List.length (List.replicate ((ite ((3 : Int) < (ite ((0 : Int) > m) (0 : Int) m)) (3 : Int) (ite ((0 : Int) > m) (0 : Int) m))).toNat (0 : U4))) ≤ 8)), ((decide ((ite ((262145 : Int) < (ite ((0 : Int) > n) (0 : Int) n)) (262145 : Int) (ite ((0 : Int) > n) (0 : Int) n)) > (0 : Int))) = true), ((decide ((ite ((3 : Int) < (ite ((0 : Int) > m) (0 : Int) m)) (3 : Int) (ite ((0 : Int) > m) (0 : Int) m)) > (0 : Int))) = true), ((decide ((IntKind.wrap IntKind.i64 ((ite ((262145 : Int) < (ite ((0 : Int) > n) (0 : Int) n)) (262145 : Int) (ite ((0 : Int) > n) (0 : Int) n)) + (ite ((3 : Int) < (ite ((0 : Int) > m) (0 : Int) m)) (3 : Int) (ite ((0 : Int) > m) (0 : Int) m)))) > (16384 : Int))) = false), (((err2 (longB ([(List.replicate ((ite ((262145 : Int) < (ite ((0 : Int) > n) (0 : Int) n)) (262145 : Int) (ite ((0 : Int) > n) (0 : Int) n))).toNat (0 : U4))] ++ [(List.replicate ((ite ((3 : Int) < (ite ((0 : Int) > m) (0 : Int) m)) (3 : Int) (ite ((0 : Int) > m) (0 : Int) m))).toNat (0 : U4))]))) == (0 : Int)) = true), (((err2 (longB ([(List.replicate ((ite ((3 : Int) < (ite ((0 : Int) > m) (0 : Int) m)) (3 : Int) (ite ((0 : Int) > m) (0 : Int) m))).toNat (0 : U4))] ++ [(List.replicate ((ite ((262145 : Int) < (ite ((0 : Int) > n) (0 : Int) n)) (262145 : Int) (ite ((0 : Int) > n) (0 : Int) n))).toNat (0 : U4))]))) == (0 : Int)) = true), (((err2 (longB ([(List.replicate ((ite ((262145 : Int) < (ite ((0 : Int) > n) (0 : Int) n)) (262145 : Int) (ite ((0 : Int) > n) (0 : Int) n))).toNat (0 : U4))] ++ [[]]))) == (0 : Int)) = true), (((err2 (longB [(List.replicate ((ite ((262145 : Int) < (ite ((0 : Int) > n) (0 : Int) n)) (262145 : Int) (ite ((0 : Int) > n) (0 : Int) n))).toNat (0 : U4))])) == (0 : Int)) = true), (((err2 (longB [(List.replicate ((ite ((262145 : Int) < (ite ((0 : Int) > n) (0 : Int) n)) (262145 : Int) (ite ((0 : Int) > n) (0 : Int) n))).toNat (0 : U4))])) == (0 : Int)) = true), (((err2 (longB [(List.replicate ((ite ((262145 : Int) < (ite ((0 : Int) > n) (0 : Int) n)) (262145 : Int) (ite ((0 : Int) > n) (0 : Int) n))).toNat (0 : U4))])) == (0 : Int)) = true)], ((SV.v (V1.c (It.bool ((err2 (mErr (List.replicate ((ite ((262145 : Int) < (ite ((0 : Int) > n) (0 : Int) n)) (262145 : Int) (ite ((0 : Int) > n) (0 : Int) n))).toNat (0 : U4)) (List.replicate ((ite ((3 : Int) < (ite ((0 : Int) > m) (0 : Int) m)) (3 : Int) (ite ((0 : Int) > m) (0 : Int) m))).toNat (0 : U4)))) == (0 : Int))))), []))) := by kernel_rfl
end Go.Proofs.Ytlfllehomhcbfaa
