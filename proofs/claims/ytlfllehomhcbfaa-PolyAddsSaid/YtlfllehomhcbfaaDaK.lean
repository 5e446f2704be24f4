/- Parts of a proof, one behind the other: WPf. No conditions. -/
import Derived.Test.YtlfllehomhcbfaaDaJ
/- Multiples of polynomials; sums and differences joined, walked. No conditions. -/
namespace Go.Proofs.Ytlfllehomhcbfaa

/-- Stepped into besides: join, and what Scale hands it. -/
noncomputable def inlJ (T : Nat → Option Func) (f : Nat) : Option Func := if f = 82 then some Try.f82 else if f = 84 then some Try.f84 else T f
noncomputable def envJn : Env := { envS1 with inl := inlJ envS1.inl }
theorem envJn_ok : EnvOk Try.prog envJn := by
  refine ⟨envS1_ok.ty, envS1_ok.mixed, envS1_ok.fn, envS1_ok.mu, fun f fn h => ?_, envS1_ok.ex⟩
  have h : inlJ envS1.inl f = some fn := h
  unfold inlJ at h
  split at h
  · rename_i hf; cases h; subst hf; exact ⟨Try.func82, enters_of Try.func82 rfl rfl⟩
  split at h
  · rename_i hf; cases h; subst hf; exact ⟨Try.func84, enters_of Try.func84 rfl rfl⟩
  exact envS1_ok.inl f fn h

--@env envJn envJn_ok
noncomputable def scIn_k : List KI := (run envJn false 3000 ((fun (a : List U4) (k : U4) => (⟨[.code (bodyOf Try.f43)], .normal, initSt Try.f43.ntmps [.v (.c (.sl (.fr a))), .v (.a [.ob (.fr k)])]⟩ : Cfg)) default default) [false]).cfg.k
theorem scIn_at (a : List U4) (k : U4) : runAt envJn false 3000 ((⟨[.code (bodyOf Try.f43)], .normal, initSt Try.f43.ntmps [.v (.c (.sl (.fr a))), .v (.a [.ob (.fr k)])]⟩ : Cfg)) [false] [2, 8, 9, 10, 29, 30] [96, 272, 304, 432] [[]] = some ⟨[(0 = 0), (2 = (List.length ([a] ++ [[]]))), (1 = 1), ((longB ([a] ++ [[]])) = false), ((List.length a) ≤ 8796093022208), ((0 : Int) ≤ (ite ((0 : Int) > (((List.length a) : Nat) : Int)) (0 : Int) (((List.length a) : Nat) : Int))), ((ite ((0 : Int) > (((List.length a) : Nat) : Int)) (0 : Int) (((List.length a) : Nat) : Int)) = (ite ((0 : Int) > (((List.length a) : Nat) : Int)) (0 : Int) (((List.length a) : Nat) : Int))), (((32 : Int) * (ite ((0 : Int) > (((List.length a) : Nat) : Int)) (0 : Int) (((List.length a) : Nat) : Int))) ≤ (281474976710656 : Int)), ((ite ((0 : Int) > (((List.length a) : Nat) : Int)) (0 : Int) (((List.length a) : Nat) : Int)) ≤ (9223372036854775807 : Int))], Exit.normal, [(SV.v (V1.c (It.clo 84 [(96, 0)]))), (SV.v (V1.c (It.slc 272 0 (List.length a) 4))), (SV.v (V1.c (It.slc 304 0 0 4))), (SV.v (V1.c (It.slc 432 0 ((ite ((0 : Int) > (((List.length a) : Nat) : Int)) (0 : Int) (((List.length a) : Nat) : Int))).toNat 4))), (SV.v (V1.c (It.int IntKind.i64 ((((ite ((0 : Int) > (((List.length a) : Nat) : Int)) (0 : Int) (((List.length a) : Nat) : Int))).toNat : Nat) : Int)))), (SV.v (V1.c (It.int IntKind.i64 (0 : Int))))], [(Option.some (En.fl [(It.ob (Ob.s (inF k)))])), (Option.some (En.sq (Sq.s (List.map inF a)))), (Option.some (En.sq (Sq.s ([] : List Fr)))), (Option.some (En.sq (Sq.s (List.replicate ((ite ((0 : Int) > (((List.length a) : Nat) : Int)) (0 : Int) (((List.length a) : Nat) : Int))).toNat (0 : Fr)))))], 59, 512, [([], 14)]⟩ := by kernel_rfl
theorem scIn_hk (a : List U4) (k : U4) : (run envJn false 3000 ((⟨[.code (bodyOf Try.f43)], .normal, initSt Try.f43.ntmps [.v (.c (.sl (.fr a))), .v (.a [.ob (.fr k)])]⟩ : Cfg)) [false]).cfg.k = scIn_k := by kernel_rfl
theorem scIn (a : List U4) (k : U4) {w0 : World} {F0 : Nat → Prop} {K : Kp} {ac : List Act} {Q : Exit → Act → World → Prop} {cX : Ctx} {aX : Act} (ho : AllP [(0 = 0), (2 = (List.length ([a] ++ [[]]))), (1 = 1), ((longB ([a] ++ [[]])) = false), ((List.length a) ≤ 8796093022208), ((0 : Int) ≤ (ite ((0 : Int) > (((List.length a) : Nat) : Int)) (0 : Int) (((List.length a) : Nat) : Int))), ((ite ((0 : Int) > (((List.length a) : Nat) : Int)) (0 : Int) (((List.length a) : Nat) : Int)) = (ite ((0 : Int) > (((List.length a) : Nat) : Int)) (0 : Int) (((List.length a) : Nat) : Int))), (((32 : Int) * (ite ((0 : Int) > (((List.length a) : Nat) : Int)) (0 : Int) (((List.length a) : Nat) : Int))) ≤ (281474976710656 : Int)), ((ite ((0 : Int) > (((List.length a) : Nat) : Int)) (0 : Int) (((List.length a) : Nat) : Int)) ≤ (9223372036854775807 : Int))]) (hs : Sim w0 F0 K ac (initSt Try.f43.ntmps [.v (.c (.sl (.fr a))), .v (.a [.ob (.fr k)])]) cX aX) (hK : ∀ ac cY aY, Sim w0 F0 K ac (mkSt 59 [2, 8, 9, 10, 29, 30] [(SV.v (V1.c (It.clo 84 [(96, 0)]))), (SV.v (V1.c (It.slc 272 0 (List.length a) 4))), (SV.v (V1.c (It.slc 304 0 0 4))), (SV.v (V1.c (It.slc 432 0 ((ite ((0 : Int) > (((List.length a) : Nat) : Int)) (0 : Int) (((List.length a) : Nat) : Int))).toNat 4))), (SV.v (V1.c (It.int IntKind.i64 ((((ite ((0 : Int) > (((List.length a) : Nat) : Int)) (0 : Int) (((List.length a) : Nat) : Int))).toNat : Nat) : Int)))), (SV.v (V1.c (It.int IntKind.i64 (0 : Int))))] [96, 272, 304, 432] [(Option.some (En.fl [(It.ob (Ob.s (inF k)))])), (Option.some (En.sq (Sq.s (List.map inF a)))), (Option.some (En.sq (Sq.s ([] : List Fr)))), (Option.some (En.sq (Sq.s (List.replicate ((ite ((0 : Int) > (((List.length a) : Nat) : Int)) (0 : Int) (((List.length a) : Nat) : Int))).toNat (0 : Fr)))))] 512 [[]] [([], 14)]) cY aY → Wq Try.prog Q (scIn_k) ac Exit.normal aY cY.w) : Wq Try.prog Q ([.code (bodyOf Try.f43)]) ac .normal aX cX.w :=
  run_at2 envJn_ok (scIn_at a k) (scIn_hk a k) ho hs hK
noncomputable def scS (A : List Fr) (kk : Fr) (la M : Nat) (L : List Fr) (i : Nat) : St := mkSt 59 [2, 8, 9, 10, 29, 30] [(SV.v (V1.c (It.clo 84 [(96, 0)]))), .v (.c (.slc 272 0 la 4)), (SV.v (V1.c (It.slc 304 0 0 4))), .v (.c (.slc 432 0 M 4)), .v (.c (.int .i64 (M : Int))), .v (.c (.int .i64 (i : Int)))] [96, 272, 304, 432] [some (.fl [.ob (.s kk)]), some (.sq (.s A)), (Option.some (En.sq (Sq.s ([] : List Fr)))), some (.sq (.s L))] 512 [[]] [([], 14)]
theorem scN_at (A : List Fr) (kk : Fr) (la M : Nat) (L : List Fr) (i : Nat) : runAt envJn false 3000 ((⟨lpIn scIn_k, .normal, scS A kk la M L i⟩ : Cfg)) [true, true, false] [2, 8, 9, 10, 29, 30] [96, 272, 304, 432] [[]] = some ⟨[((decide (((i : Nat) : Int) < ((M : Nat) : Int))) = true), ((decide (((i : Nat) : Int) < ((la : Nat) : Int))) = true), ((0 : Int) ≤ ((i : Nat) : Int)), (((i : Nat) : Int) < ((la : Nat) : Int)), (0 = 0), ((((i : Nat) : Int)).toNat < (List.length A)), ((decide (((i : Nat) : Int) < (0 : Int))) = false), ((0 : Int) ≤ ((i : Nat) : Int)), (((i : Nat) : Int) < ((M : Nat) : Int)), (0 = 0), ((((i : Nat) : Int)).toNat < (List.length L))], Exit.normal, [(SV.v (V1.c (It.clo 84 [(96, 0)]))), (SV.v (V1.c (It.slc 272 0 la 4))), (SV.v (V1.c (It.slc 304 0 0 4))), (SV.v (V1.c (It.slc 432 0 M 4))), (SV.v (V1.c (It.int IntKind.i64 ((M : Nat) : Int)))), (SV.v (V1.c (It.int IntKind.i64 (IntKind.wrap IntKind.i64 (((i : Nat) : Int) + (1 : Int))))))], [(Option.some (En.fl [(It.ob (Ob.s kk))])), (Option.some (En.sq (Sq.s A))), (Option.some (En.sq (Sq.s ([] : List Fr)))), (Option.some (En.sq (Sq.s (List.set L (((i : Nat) : Int)).toNat ((List.getD A (((i : Nat) : Int)).toNat (0 : Fr)) * kk)))))], 59, 1056, [([], 14)]⟩ := by kernel_rfl
theorem scN_hk (A : List Fr) (kk : Fr) (la M : Nat) (L : List Fr) (i : Nat) : (run envJn false 3000 ((⟨lpIn scIn_k, .normal, scS A kk la M L i⟩ : Cfg)) [true, true, false]).cfg.k = lpBk scIn_k := by kernel_rfl
theorem scN (A : List Fr) (kk : Fr) (la M : Nat) (L : List Fr) (i : Nat) {w0 : World} {F0 : Nat → Prop} {K : Kp} {ac : List Act} {Q : Exit → Act → World → Prop} {cX : Ctx} {aX : Act} (ho : AllP [((decide (((i : Nat) : Int) < ((M : Nat) : Int))) = true), ((decide (((i : Nat) : Int) < ((la : Nat) : Int))) = true), ((0 : Int) ≤ ((i : Nat) : Int)), (((i : Nat) : Int) < ((la : Nat) : Int)), (0 = 0), ((((i : Nat) : Int)).toNat < (List.length A)), ((decide (((i : Nat) : Int) < (0 : Int))) = false), ((0 : Int) ≤ ((i : Nat) : Int)), (((i : Nat) : Int) < ((M : Nat) : Int)), (0 = 0), ((((i : Nat) : Int)).toNat < (List.length L))]) (hs : Sim w0 F0 K ac (scS A kk la M L i) cX aX) (hK : ∀ ac cY aY, Sim w0 F0 K ac (mkSt 59 [2, 8, 9, 10, 29, 30] [(SV.v (V1.c (It.clo 84 [(96, 0)]))), (SV.v (V1.c (It.slc 272 0 la 4))), (SV.v (V1.c (It.slc 304 0 0 4))), (SV.v (V1.c (It.slc 432 0 M 4))), (SV.v (V1.c (It.int IntKind.i64 ((M : Nat) : Int)))), (SV.v (V1.c (It.int IntKind.i64 (IntKind.wrap IntKind.i64 (((i : Nat) : Int) + (1 : Int))))))] [96, 272, 304, 432] [(Option.some (En.fl [(It.ob (Ob.s kk))])), (Option.some (En.sq (Sq.s A))), (Option.some (En.sq (Sq.s ([] : List Fr)))), (Option.some (En.sq (Sq.s (List.set L (((i : Nat) : Int)).toNat ((List.getD A (((i : Nat) : Int)).toNat (0 : Fr)) * kk)))))] 1056 [[]] [([], 14)]) cY aY → Wq Try.prog Q (lpBk scIn_k) ac Exit.normal aY cY.w) : Wq Try.prog Q (lpIn scIn_k) ac .normal aX cX.w :=
  run_at2 envJn_ok (scN_at A kk la M L i) (scN_hk A kk la M L i) ho hs hK
theorem scX_end (A : List Fr) (kk : Fr) (la M : Nat) (L : List Fr) (i : Nat) : runEnd envJn Try.f43 false 3000 (⟨lpIn scIn_k, .normal, scS A kk la M L i⟩) [false] [544] [] = (Option.some ([((decide (((i : Nat) : Int) < ((M : Nat) : Int))) = false), (0 = 0), (M = (List.length L)), (4 = 4), ((List.length L) ≤ 8796093022208)], ((SV.t [(V1.c (It.slc 0 0 (List.length (trimF L)) 4)), (V1.c (It.int IntKind.i64 (0 : Int)))]), [(En.sq (Sq.fr (List.map outF (trimF L))))]))) := by kernel_rfl

theorem max_zero (m : Nat) : (if (0 : Int) > (m : Int) then (0 : Int) else (m : Int)) = (m : Int) := if_neg (by omega)

theorem scale_fnd (a : List U4) (k : U4) (ha : a.length ≤ 262144) : FnD Try.prog 43 [.v (.c (.sl (.fr a))), .v (.a [.ob (.fr k)])]
    (.t [.c (.slc 0 0 (trimF (scaleL (a.map inF) (inF k))).length 4), .c (.int .i64 0)]) [.sq (.fr ((trimF (scaleL (a.map inF) (inF k))).map outF))] := by
  refine fn_start (fn := Try.f43) (c := bodyOf Try.f43) Try.func43 rfl rfl fun x a0 hk hF hs => ?_
  have hM := max_zero a.length
  refine scIn a k (by rw [hM]; exact ⟨rfl, rfl, rfl, long_two ha (Nat.zero_le _), by omega, by omega, rfl, by omega, by omega, trivial⟩) hs fun ac cY aY hs1 => ?_
  rw [hM, Int.toNat_natCast] at hs1
  have hR : scaleL (a.map inF) (inF k) = (List.range a.length).map fun i => cf (a.map inF) i * inF k := by
    unfold scaleL
    rw [List.length_map]
  have hAl : (a.map inF).length = a.length := List.length_map ..
  generalize a.map inF = A at *
  generalize inF k = K at *
  generalize a.length = M at *
  clear hM hs
  refine loop_rule (ι := { i : Nat // i ≤ M }) (fun i => scS A K M M ((List.range i.1).map (fun i => cf A i * K) ++ List.replicate (M - i.1) 0) i.1) (fun i => M - i.1) (c := lpC scIn_k) (k := lpR scIn_k) (by kernel_rfl) (fun i ih ac cY aY hs => ?_) ⟨0, Nat.zero_le _⟩ hs1
  obtain ⟨i, hi⟩ := i
  simp only at ih hs
  have hl := fill_len (fun i => cf A i * K) 0 hi
  by_cases h : i < M
  · have hw : IntKind.wrap IntKind.i64 ((i : Int) + 1) = ((i + 1 : Nat) : Int) := by rw [wrap_id (by omega) (by omega)]; omega
    have hset := fill_set (fun i => cf A i * K) 0 h
    refine scN A K M M _ i ⟨by simp [h], by simp [h], by omega, by omega, rfl, by omega, by simp only [decide_eq_false_iff_not]; omega, by omega, by omega, rfl, by omega, trivial⟩ hs fun ac cY aY hs2 => ?_
    rw [hw, Int.toNat_natCast, show A.getD i 0 * K = cf A i * K from rfl, hset] at hs2
    exact ih ⟨i + 1, by omega⟩ (by show M - (i + 1) < M - i; omega) ac cY aY (hs2.nx _)
  · have e : i = M := by omega
    rw [e, Nat.sub_self, List.replicate_zero, List.append_nil, ← hR] at hs
    have hRl : (scaleL A K).length = M := by rw [hR, List.length_map, List.length_range]
    exact run_end2 envJn_ok hk hF (scX_end A K M M _ M) ⟨by simp, rfl, hRl.symm, rfl, by omega, trivial⟩ (fun y v hd => hd) hs

def join82Spec : FnSpec
  | [.v (.c (.sl (.fr a))), .v (.c (.sl (.fr b))), .v (.c (.clo 75 []))] => some ([a.length ≤ 262144, b.length ≤ 262144], .t [.c (.slc 0 0 (trimF (addL (a.map inF) (b.map inF))).length 4), .c (.int .i64 0)], [.sq (.fr ((trimF (addL (a.map inF) (b.map inF))).map outF))])
  | [.v (.c (.sl (.fr a))), .v (.c (.sl (.fr b))), .v (.c (.clo 83 []))] => some ([a.length ≤ 262144, b.length ≤ 262144], .t [.c (.slc 0 0 (trimF (subL (a.map inF) (b.map inF))).length 4), .c (.int .i64 0)], [.sq (.fr ((trimF (subL (a.map inF) (b.map inF))).map outF))])
  | _ => none
noncomputable def envT1 : Env := envS1.set (addT envS1.fn 82 join82Spec)
theorem envT1_ok : EnvOk Try.prog envT1 := env_add envS1_ok 82 join82Spec (enters_of Try.func82 rfl rfl) fun args o r es h ho => by
  unfold join82Spec at h
  split at h
  · cases h; exact joinAdd_fnd _ _ ho.1 ho.2.1
  · cases h; exact joinSub_fnd _ _ ho.1 ho.2.1
  · cases h
def scaleSpec : FnSpec
  | [.v (.c (.sl (.fr a))), .v (.a [.ob (.fr k)])] => some ([a.length ≤ 262144], .t [.c (.slc 0 0 (trimF (scaleL (a.map inF) (inF k))).length 4), .c (.int .i64 0)], [.sq (.fr ((trimF (scaleL (a.map inF) (inF k))).map outF))])
  | _ => none
noncomputable def envT2 : Env := envT1.set (addT envT1.fn 43 scaleSpec)
theorem envT2_ok : EnvOk Try.prog envT2 := env_add envT1_ok 43 scaleSpec (enters_of Try.func43 rfl rfl) fun args o r es h ho => by
  unfold scaleSpec at h
  split at h
  · cases h; exact scale_fnd _ _ ho.1
  · cases h
def refScaleSpec : FnSpec
  | [.v (.c (.sl (.fr a))), .v (.a [.ob (.fr k)])] => some ([a.length ≤ 1073741824], .v (.c (.slc 0 0 (trimF (scaleL (a.map inF) (inF k))).length 4)), [.sq (.fr ((trimF (scaleL (a.map inF) (inF k))).map outF))])
  | _ => none
noncomputable def envT3 : Env := envT2.set (addT envT2.fn 46 refScaleSpec)
theorem envT3_ok : EnvOk Try.prog envT3 := env_add envT2_ok 46 refScaleSpec (enters_of Try.func46 rfl rfl) fun args o r es h ho => by
  unfold refScaleSpec at h
  split at h
  · cases h; exact refScale_fnd _ _ ho.1
  · cases h
--@env envT3 envT3_ok
theorem ad41 (a b : List U4) : fnRes envT3 Try.f41 3000 [.v (.c (.sl (.fr a))), .v (.c (.sl (.fr b)))] [] [80] [] = (Option.some ([((List.length a) ≤ 262144), ((List.length b) ≤ 262144)], ((SV.t [(V1.c (It.slc 0 0 (List.length (trimF (addL (List.map inF a) (List.map inF b)))) 4)), (V1.c (It.int IntKind.i64 (0 : Int)))]), [(En.sq (Sq.fr (List.map outF (trimF (addL (List.map inF a) (List.map inF b))))))]))) := by kernel_rfl
theorem sb42 (a b : List U4) : fnRes envT3 Try.f42 3000 [.v (.c (.sl (.fr a))), .v (.c (.sl (.fr b)))] [] [80] [] = (Option.some ([((List.length a) ≤ 262144), ((List.length b) ≤ 262144)], ((SV.t [(V1.c (It.slc 0 0 (List.length (trimF (subL (List.map inF a) (List.map inF b)))) 4)), (V1.c (It.int IntKind.i64 (0 : Int)))]), [(En.sq (Sq.fr (List.map outF (trimF (subL (List.map inF a) (List.map inF b))))))]))) := by kernel_rfl
theorem rs45 (a b : List U4) : fnRes envT3 Try.f45 3000 [.v (.c (.sl (.fr a))), .v (.c (.sl (.fr b)))] [] [96] [] = (Option.some ([((-(1 : Int)) = (-(1 : Int))), ((List.length b) ≤ 1073741824), (0 = 0), ((List.length (trimF (scaleL (List.map inF b) (inF (outF ((0 : Fr) - (1 : Fr))))))) = (List.length (List.map outF (trimF (scaleL (List.map inF b) (inF (outF ((0 : Fr) - (1 : Fr))))))))), (4 = 4), ((List.length a) ≤ 1073741824), ((List.length (List.map outF (trimF (scaleL (List.map inF b) (inF (outF ((0 : Fr) - (1 : Fr)))))))) ≤ 1073741824)], ((SV.v (V1.c (It.slc 0 0 (List.length (trimF (addL (List.map inF a) (List.map inF (List.map outF (trimF (scaleL (List.map inF b) (inF (outF ((0 : Fr) - (1 : Fr))))))))))) 4))), [(En.sq (Sq.fr (List.map outF (trimF (addL (List.map inF a) (List.map inF (List.map outF (trimF (scaleL (List.map inF b) (inF (outF ((0 : Fr) - (1 : Fr)))))))))))))]))) := by kernel_rfl

theorem add_neg_mul {r : Nat} [NeZero r] (x y : Fin r) : x + y * (0 - 1) = x - y := by grind

theorem sub_scale (A B : List Fr) : trimF (addL A (trimF (scaleL B (0 - 1)))) = trimF (subL A B) := by
  refine trim_ext fun i => ?_
  rw [addL_cf, trim_cf, scaleL_cf, subL_cf]
  exact add_neg_mul _ _

theorem scaleL_len (A : List Fr) (k : Fr) : (scaleL A k).length = A.length := by
  unfold scaleL
  rw [List.length_map, List.length_range]

theorem refSub_fnd (a b : List U4) (ha : a.length ≤ 1073741824) (hb : b.length ≤ 1073741824) : FnD Try.prog 45 [.v (.c (.sl (.fr a))), .v (.c (.sl (.fr b)))]
    (.v (.c (.slc 0 0 (trimF (subL (a.map inF) (b.map inF))).length 4))) [.sq (.fr ((trimF (subL (a.map inF) (b.map inF))).map outF))] := by
  have r := rs45 a b
  have hl : (trimF (scaleL (b.map inF) (0 - 1))).length ≤ 1073741824 := by
    refine Nat.le_trans (trim_le _) ?_
    rw [scaleL_len, List.length_map]
    exact hb
  rw [in_out, map_in_out, sub_scale] at r
  rw [List.length_map] at r
  exact fn_sound envT3_ok Try.func45 r ⟨rfl, hb, rfl, rfl, rfl, ha, hl, trivial⟩

def add41Spec : FnSpec
  | [.v (.c (.sl (.fr a))), .v (.c (.sl (.fr b)))] => some ([a.length ≤ 262144, b.length ≤ 262144], .t [.c (.slc 0 0 (trimF (addL (a.map inF) (b.map inF))).length 4), .c (.int .i64 0)], [.sq (.fr ((trimF (addL (a.map inF) (b.map inF))).map outF))])
  | _ => none
noncomputable def envT4 : Env := envT3.set (addT envT3.fn 41 add41Spec)
theorem envT4_ok : EnvOk Try.prog envT4 := env_add envT3_ok 41 add41Spec (enters_of Try.func41 rfl rfl) fun args o r es h ho => by
  unfold add41Spec at h
  split at h
  · cases h; exact fn_sound envT3_ok Try.func41 (ad41 _ _) ho
  · cases h
def sub42Spec : FnSpec
  | [.v (.c (.sl (.fr a))), .v (.c (.sl (.fr b)))] => some ([a.length ≤ 262144, b.length ≤ 262144], .t [.c (.slc 0 0 (trimF (subL (a.map inF) (b.map inF))).length 4), .c (.int .i64 0)], [.sq (.fr ((trimF (subL (a.map inF) (b.map inF))).map outF))])
  | _ => none
noncomputable def envT5 : Env := envT4.set (addT envT4.fn 42 sub42Spec)
theorem envT5_ok : EnvOk Try.prog envT5 := env_add envT4_ok 42 sub42Spec (enters_of Try.func42 rfl rfl) fun args o r es h ho => by
  unfold sub42Spec at h
  split at h
  · cases h; exact fn_sound envT3_ok Try.func42 (sb42 _ _) ho
  · cases h
def refSubSpec : FnSpec
  | [.v (.c (.sl (.fr a))), .v (.c (.sl (.fr b)))] => some ([a.length ≤ 1073741824, b.length ≤ 1073741824], .v (.c (.slc 0 0 (trimF (subL (a.map inF) (b.map inF))).length 4)), [.sq (.fr ((trimF (subL (a.map inF) (b.map inF))).map outF))])
  | _ => none
noncomputable def envT : Env := envT5.set (addT envT5.fn 45 refSubSpec)
theorem envT_ok : EnvOk Try.prog envT := env_add envT5_ok 45 refSubSpec (enters_of Try.func45 rfl rfl) fun args o r es h ho => by
  unfold refSubSpec at h
  split at h
  · cases h; exact refSub_fnd _ _ ho.1 ho.2.1
  · cases h
--@env envT envT_ok
theorem pa6 (a b : List U4) (k : U4) : fnRes envT Try.f6 3000 [.v (.c (.sl (.fr a))), .v (.c (.sl (.fr b))), .v (.a [.ob (.fr k)])] [true, true, true, true, true, true, true] [] [] = (Option.some ([((List.length (List.take 40 a)) ≤ 262144), ((List.length (List.take 40 b)) ≤ 262144), ((List.length (List.take 40 a)) ≤ 262144), ((List.length (List.take 40 b)) ≤ 262144), ((List.length (List.take 40 a)) ≤ 262144), (((0 : Int) == (0 : Int)) = true), (((0 : Int) == (0 : Int)) = true), (((0 : Int) == (0 : Int)) = true), ((List.length (List.take 40 a)) ≤ 8796093022208), ((List.length (List.take 40 a)) ≤ 1099511627776), (0 = 0), ((List.length (trimF (List.map inF (List.take 40 a)))) = (List.length (List.map outF (trimF (List.map inF (List.take 40 a)))))), (4 = 4), (0 = 0), ((List.length (trimF (List.map inF (List.take 40 a)))) = (List.length (List.map outF (trimF (List.map inF (List.take 40 a)))))), (4 = 4), ((decide ((List.map outF (trimF (List.map inF (List.take 40 a)))) = (List.map outF (trimF (List.map inF (List.take 40 a)))))) = true), ((List.length (List.take 40 a)) ≤ 1073741824), ((List.length (List.take 40 b)) ≤ 1073741824), (0 = 0), ((List.length (trimF (addL (List.map inF (List.take 40 a)) (List.map inF (List.take 40 b))))) = (List.length (List.map outF (trimF (addL (List.map inF (List.take 40 a)) (List.map inF (List.take 40 b))))))), (4 = 4), (0 = 0), ((List.length (trimF (addL (List.map inF (List.take 40 a)) (List.map inF (List.take 40 b))))) = (List.length (List.map outF (trimF (addL (List.map inF (List.take 40 a)) (List.map inF (List.take 40 b))))))), (4 = 4), ((decide ((List.map outF (trimF (addL (List.map inF (List.take 40 a)) (List.map inF (List.take 40 b))))) = (List.map outF (trimF (addL (List.map inF (List.take 40 a)) (List.map inF (List.take 40 b))))))) = true), ((List.length (List.take 40 a)) ≤ 1073741824), ((List.length (List.take 40 b)) ≤ 1073741824), (0 = 0), ((List.length (trimF (subL (List.map inF (List.take 40 a)) (List.map inF (List.take 40 b))))) = (List.length (List.map outF (trimF (subL (List.map inF (List.take 40 a)) (List.map inF (List.take 40 b))))))), (4 = 4), (0 = 0), ((List.length (trimF (subL (List.map inF (List.take 40 a)) (List.map inF (List.take 40 b))))) = (List.length (List.map outF (trimF (subL (List.map inF (List.take 40 a)) (List.map inF (List.take 40 b))))))), (4 = 4), ((decide ((List.map outF (trimF (subL (List.map inF (List.take 40 a)) (List.map inF (List.take 40 b))))) = (List.map outF (trimF (subL (List.map inF (List.take 40 a)) (List.map inF (List.take 40 b))))))) = true), ((List.length (List.take 40 a)) ≤ 1073741824), (0 = 0), ((List.length (trimF (scaleL (List.map inF (List.take 40 a)) (inF k)))) = (List.length (List.map outF (trimF (scaleL (List.map inF (List.take 40 a)) (inF k)))))), (4 = 4), (0 = 0), ((List.length (trimF (scaleL (List.map inF (List.take 40 a)) (inF k)))) = (List.length (List.map outF (trimF (scaleL (List.map inF (List.take 40 a)) (inF k)))))), (4 = 4)], ((SV.v (V1.c (It.bool (decide ((List.map outF (trimF (scaleL (List.map inF (List.take 40 a)) (inF k)))) = (List.map outF (trimF (scaleL (List.map inF (List.take 40 a)) (inF k))))))))), []))) := by kernel_rfl
end Go.Proofs.Ytlfllehomhcbfaa
