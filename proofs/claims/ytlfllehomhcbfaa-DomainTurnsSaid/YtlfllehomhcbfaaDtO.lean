/- Parts of a proof, one behind the other: WPw, PPw, WCo, PCo, WMl, PMl. No conditions. -/
import Derived.Shelf.Strconv.Itoa0
import Derived.Test.YtlfllehomhcbfaaDtN
/- Bits of a number, handed on from the highest: the functions, walked. No conditions. -/
namespace Go.Proofs.Ytlfllehomhcbfaa
open Go.Shelf

def renL : Ren := ⟨fun n => if n = 129 then 111 else 0, fun t => if t = 46 then 89 else if t = 53 then 30 else t, fun g => g⟩
theorem laysL : Lays.n129 Try.prog renL :=
  { mixed := by kernel_rfl
    f129 := by kernel_rfl
    t3 := by kernel_rfl
    a3 := fun _ => by kernel_rfl
    z3 := fun _ => by kernel_rfl
    v3 := fun _ => by kernel_rfl
    t4 := by kernel_rfl
    a4 := fun _ => by kernel_rfl
    z4 := fun _ => by kernel_rfl
    v4 := fun _ => by kernel_rfl
    t5 := by kernel_rfl
    a5 := fun _ => by kernel_rfl
    z5 := fun _ => by kernel_rfl
    v5 := fun _ => by kernel_rfl
    t9 := by kernel_rfl
    a9 := fun _ => by kernel_rfl
    z9 := fun _ => by kernel_rfl
    v9 := fun _ => by kernel_rfl
    t46 := by kernel_rfl
    a46 := fun _ => by kernel_rfl
    z46 := fun _ => by kernel_rfl
    v46 := fun _ => by kernel_rfl
    t53 := by kernel_rfl
    a53 := fun _ => by kernel_rfl
    z53 := fun _ => by kernel_rfl
    v53 := fun _ => by kernel_rfl }
theorem len64_fnd (n : Int) (h0 : 0 ≤ n) (h1 : n < 18446744073709551616) : FnD Try.prog 111 [.v (.c (.int .u64 n))] (.v (.c (.int .i64 (Lib.bitLen n.toNat : Nat)))) [] :=
  fnd_same fun x vs hd => by
    cases hd with | cons d1 hd =>
    cases hd
    rw [D_int d1]
    exact ⟨_, Any.bits_Len64 laysL n x.w h0 (by omega), ⟨rfl, 0, rfl⟩⟩
def lenSpec : FnSpec
  | [.v (.c (.int .u64 n))] => some ([0 ≤ n, n < 18446744073709551616], .v (.c (.int .i64 (Lib.bitLen n.toNat : Nat))), [])
  | _ => none
noncomputable def dvP1 : Env := envV3.set (addT envV3.fn 111 lenSpec)
theorem dvP1_ok : EnvOk Try.prog dvP1 := env_add envV3_ok 111 lenSpec (enters_of Try.func111 rfl rfl) fun args o r es h ho => by
  unfold lenSpec at h
  split at h
  · cases h; exact len64_fnd _ ho.1 ho.2.1
  · cases h
--@env dvP1 dvP1_ok
theorem ct (l : List Int) : fnRes dvP1 Try.f121 3000 [.v (.c (.sl (.u64 l)))] [] [] [] = (Option.some ([((0 : Int) ≤ (ite ((16 : Int) < (((List.length l) : Nat) : Int)) (16 : Int) (((List.length l) : Nat) : Int))), ((ite ((16 : Int) < (((List.length l) : Nat) : Int)) (16 : Int) (((List.length l) : Nat) : Int)) ≤ (ite ((16 : Int) < (((List.length l) : Nat) : Int)) (16 : Int) (((List.length l) : Nat) : Int))), ((ite ((16 : Int) < (((List.length l) : Nat) : Int)) (16 : Int) (((List.length l) : Nat) : Int)) ≤ (((List.length l) : Nat) : Int))], ((SV.v (V1.c (It.sl (Sq.u64 (List.take ((ite ((16 : Int) < (((List.length l) : Nat) : Int)) (16 : Int) (((List.length l) : Nat) : Int))).toNat (List.drop 0 l)))))), []))) := by kernel_rfl

theorem cut_fnd (l : List Int) (hl : l.length ≤ 16) : FnD Try.prog 121 [.v (.c (.sl (.u64 l)))] (.v (.c (.sl (.u64 l)))) [] := by
  have r := ct l
  have e : (if (16 : Int) < ((l.length : Nat) : Int) then (16 : Int) else ((l.length : Nat) : Int)) = ((l.length : Nat) : Int) := if_neg (by omega)
  rw [e, Int.toNat_natCast, List.drop_zero, List.take_length] at r
  exact fn_sound dvP1_ok Try.func121 r ⟨by omega, Int.le_refl _, Int.le_refl _, trivial⟩
def cutSpec : FnSpec
  | [.v (.c (.sl (.u64 l)))] => some ([l.length ≤ 16], .v (.c (.sl (.u64 l))), [])
  | _ => none
noncomputable def dvP2 : Env := dvP1.set (addT dvP1.fn 121 cutSpec)
theorem dvP2_ok : EnvOk Try.prog dvP2 := env_add dvP1_ok 121 cutSpec (enters_of Try.func121 rfl rfl) fun args o r es h ho => by
  unfold cutSpec at h
  split at h
  · cases h; exact cut_fnd _ ho.1
  · cases h
--@env dvP2 dvP2_ok
noncomputable def nbIn_k : List KI := (run dvP2 false 3000 ((fun (l : List Int) => (⟨[.code (bodyOf Try.f118)], .normal, initSt Try.f118.ntmps [.v (.c (.sl (.u64 l)))]⟩ : Cfg)) default) []).cfg.k
theorem nbIn_hk (l : List Int) : (run dvP2 false 3000 ((⟨[.code (bodyOf Try.f118)], .normal, initSt Try.f118.ntmps [.v (.c (.sl (.u64 l)))]⟩ : Cfg)) []).cfg.k = nbIn_k := by kernel_rfl
theorem nbIn (l : List Int) {w0 : World} {F0 : Nat → Prop} {K : Kp} {ac : List Act} {Q : Exit → Act → World → Prop} {cX : Ctx} {aX : Act} (ho : AllP [((List.length l) ≤ 16)]) (hs : Sim w0 F0 K ac (initSt Try.f118.ntmps [.v (.c (.sl (.u64 l)))]) cX aX) (hK : ∀ ac cY aY, Sim w0 F0 K ac (mkSt 26 [0, 3] [(.v (.c (.sl (.u64 l)))), (.v (.c (.int .i64 (IntKind.wrap .i64 ((((List.length l) : Nat) : Int) - (1 : Int))))))] [] [] 144 [] []) cY aY → Wq Try.prog Q (nbIn_k) ac Exit.normal aY cY.w) : Wq Try.prog Q ([.code (bodyOf Try.f118)]) ac .normal aX cX.w :=
  run_at2 (o := ⟨_, _, _, _, _, _, _⟩) dvP2_ok (by kernel_rfl) (nbIn_hk l) ho hs hK
noncomputable def nbS (l : List Int) (i : Int) : St := mkSt 26 [0, 3] [(SV.v (V1.c (It.sl (Sq.u64 l)))), .v (.c (.int .i64 i))] [] [] 144 [] []
theorem nbN_hk (l : List Int) (i : Int) : (run dvP2 false 3000 ((⟨lpIn nbIn_k, .normal, nbS l i⟩ : Cfg)) [true, false]).cfg.k = lpBk nbIn_k := by kernel_rfl
theorem nbN (l : List Int) (i : Int) {w0 : World} {F0 : Nat → Prop} {K : Kp} {ac : List Act} {Q : Exit → Act → World → Prop} {cX : Ctx} {aX : Act} (ho : AllP [((decide (i ≥ (0 : Int))) = true), ((0 : Int) ≤ i), (i < (((List.length l) : Nat) : Int)), (((List.getD l (i).toNat (0 : Int)) != (0 : Int)) = false)]) (hs : Sim w0 F0 K ac (nbS l i) cX aX) (hK : ∀ ac cY aY, Sim w0 F0 K ac (mkSt 26 [0, 3] [(.v (.c (.sl (.u64 l)))), (.v (.c (.int .i64 (IntKind.wrap .i64 (i - (1 : Int))))))] [] [] 304 [] []) cY aY → Wq Try.prog Q (lpBk nbIn_k) ac Exit.normal aY cY.w) : Wq Try.prog Q (lpIn nbIn_k) ac .normal aX cX.w :=
  run_at2 (o := ⟨_, _, _, _, _, _, _⟩) dvP2_ok (by kernel_rfl) (nbN_hk l i) ho hs hK
theorem nbY_end (l : List Int) (i : Int) : runEnd dvP2 Try.f118 false 3000 (⟨lpIn nbIn_k, .normal, nbS l i⟩) [true, true] [] [] = (Option.some ([((decide (i ≥ (0 : Int))) = true), ((0 : Int) ≤ i), (i < (((List.length l) : Nat) : Int)), (((List.getD l (i).toNat (0 : Int)) != (0 : Int)) = true), ((0 : Int) ≤ i), (i < (((List.length l) : Nat) : Int)), ((0 : Int) ≤ (List.getD l (i).toNat (0 : Int))), ((List.getD l (i).toNat (0 : Int)) < (18446744073709551616 : Int))], ((SV.v (V1.c (It.int IntKind.i64 (IntKind.wrap IntKind.i64 ((IntKind.wrap IntKind.i64 ((64 : Int) * i)) + (((Lib.bitLen ((List.getD l (i).toNat (0 : Int))).toNat) : Nat) : Int)))))), []))) := by kernel_rfl
theorem nbX_end (l : List Int) (i : Int) : runEnd dvP2 Try.f118 false 3000 (⟨lpIn nbIn_k, .normal, nbS l i⟩) [false] [] [] = (Option.some ([((decide (i ≥ (0 : Int))) = false)], ((SV.v (V1.c (It.int IntKind.i64 (0 : Int)))), []))) := by kernel_rfl
theorem bits_fnd (l : List Int) (hl : l.length ≤ 16) (hlim : lims l) : FnD Try.prog 118 [.v (.c (.sl (.u64 l)))] (.v (.c (.int .i64 (bitsC l l.length : Nat)))) [] := by
  refine fn_start (fn := Try.f118) (c := bodyOf Try.f118) Try.func118 rfl rfl fun x a hk hF hs => ?_
  refine nbIn l ⟨hl, trivial⟩ hs fun ac cY aY hs1 => ?_
  rw [wrap_id (by omega) (by omega)] at hs1
  refine loop_rule (ι := { n : Nat // n ≤ l.length ∧ bitsC l n = bitsC l l.length }) (fun n => nbS l ((n.1 : Int) - 1)) (fun n => n.1) (c := lpC nbIn_k) (k := lpR nbIn_k) (by kernel_rfl) (fun n ih ac cY aY hs => ?_) ⟨l.length, Nat.le_refl _, rfl⟩ (hs1.nx _)
  obtain ⟨n, hn, he⟩ := n
  simp only at ih hs
  cases n with
  | zero =>
    rw [← he]
    exact run_end2 dvP2_ok hk hF (nbX_end l _) ⟨by simp, trivial⟩ (fun y v hd => hd) hs
  | succ n =>
    have e1 : ((n + 1 : Nat) : Int) - 1 = (n : Int) := by omega
    rw [e1] at hs
    have hg := lims_get hlim n
    by_cases h0 : l.getD n 0 = 0
    · refine nbN l _ ⟨by simp, by omega, by omega, by rw [Int.toNat_natCast, h0]; rfl, trivial⟩ hs fun ac cZ aZ hs2 => ?_
      rw [wrap_id (by omega) (by omega)] at hs2
      refine ih ⟨n, by omega, ?_⟩ (Nat.lt_succ_self n) ac cZ aZ (hs2.nx _)
      rw [← he]
      show _ = if l.getD n 0 ≠ 0 then _ else bitsC l n
      rw [if_neg (by simpa using h0)]
    · have r := nbY_end l (n : Int)
      have hb : bitsC l l.length = 64 * n + Lib.bitLen (l.getD n 0).toNat := by
        rw [← he]
        show (if l.getD n 0 ≠ 0 then _ else bitsC l n) = _
        rw [if_pos h0]
      have hle := bitLen_le (l.getD n 0).toNat
      rw [Int.toNat_natCast] at r
      have e2 : IntKind.wrap IntKind.i64 (IntKind.wrap IntKind.i64 ((64 : Int) * (n : Int)) + ((Lib.bitLen (l.getD n 0).toNat : Nat) : Int)) = ((bitsC l l.length : Nat) : Int) := by
        rw [hb]
        generalize Lib.bitLen (l.getD n 0).toNat = B at *
        rw [wrap_id (n := (64 : Int) * (n : Int)) (by omega) (by omega), wrap_id (by omega) (by omega)]
        omega
      rw [e2] at r
      have hne : (l.getD n 0 != (0 : Int)) = true := by simpa using h0
      exact run_end2 dvP2_ok hk hF r ⟨by simp, by omega, by omega, hne, by omega, by omega, hg.1, hg.2, trivial⟩ (fun y v hd => hd) hs
def bitsSpec : FnSpec
  | [.v (.c (.sl (.u64 l)))] => some ([l.length ≤ 16, lims l], .v (.c (.int .i64 (bitsC l l.length : Nat))), [])
  | _ => none
noncomputable def dvP3 : Env := dvP2.set (addT dvP2.fn 118 bitsSpec)
theorem dvP3_ok : EnvOk Try.prog dvP3 := env_add dvP2_ok 118 bitsSpec (enters_of Try.func118 rfl rfl) fun args o r es h ho => by
  unfold bitsSpec at h
  split at h
  · cases h; exact bits_fnd _ ho.1 ho.2.1
  · cases h
noncomputable def inlDv (T : Nat → Option Func) (f : Nat) : Option Func := if f = 108 then some Try.f108 else T f
noncomputable def dvP : Env := { dvP3 with inl := inlDv dvP3.inl }
theorem dvP_ok : EnvOk Try.prog dvP := by
  refine ⟨dvP3_ok.ty, dvP3_ok.mixed, dvP3_ok.fn, dvP3_ok.mu, fun f fn h => ?_, dvP3_ok.ex, dvP3_ok.inv⟩
  have h : inlDv dvP3.inl f = some fn := h
  unfold inlDv at h
  split at h
  · rename_i hf; cases h; subst hf; exact ⟨Try.func108, enters_of Try.func108 rfl rfl⟩
  exact dvP3_ok.inl f fn h
--@env dvP dvP_ok
noncomputable def bt_k : List KI := (run dvP false 3000 ((fun (l : Nat) (v : Value) => (⟨[.code (bodyOf Try.f117)], .normal, ⟨argT [.v (.c (.val (.func (.yield l) #[] #[]))), .v (.c (.ptr 0 0))], one (.fl [.val v]), Try.f117.ntmps, 16, []⟩⟩ : Cfg)) default default) []).cfg.k
theorem bt_hk (l : Nat) (v : Value) : (run dvP false 3000 ((⟨[.code (bodyOf Try.f117)], .normal, ⟨argT [.v (.c (.val (.func (.yield l) #[] #[]))), .v (.c (.ptr 0 0))], one (.fl [.val v]), Try.f117.ntmps, 16, []⟩⟩ : Cfg)) []).cfg.k = bt_k := by kernel_rfl
theorem bt (l : Nat) (v : Value) {w0 : World} {F0 : Nat → Prop} {K : Kp} {ac : List Act} {Q : Exit → Act → World → Prop} {cX : Ctx} {aX : Act} (ho : AllP []) (hs : Sim w0 F0 K ac (⟨argT [.v (.c (.val (.func (.yield l) #[] #[]))), .v (.c (.ptr 0 0))], one (.fl [.val v]), Try.f117.ntmps, 16, []⟩) cX aX) (hK : ∀ ac cY aY, Sim w0 F0 K ac (mkSt 24 [0, 1, 4] [(.v (.c (.val (Value.func (Fn.yield l) (Array.mk ([] : List Value)) (Array.mk ([] : List Value)))))), (.v (.c (.ptr 0 0))), (.v (.c (.val v)))] [0] [(some (.fl [(.val v)]))] 32 [] []) cY aY → Wq Try.prog Q (bt_k) ac Exit.normal aY cY.w) : Wq Try.prog Q ([.code (bodyOf Try.f117)]) ac .normal aX cX.w :=
  run_at2 (o := ⟨_, _, _, _, _, _, _⟩) dvP_ok (by kernel_rfl) (bt_hk l v) ho hs hK
noncomputable def btA (l : Nat) (v : Value) (e : List Int) : St := mkSt 24 [0, 1, 4] [(SV.v (V1.c (It.val (Value.func (Fn.yield l) (Array.mk ([] : List Value)) (Array.mk ([] : List Value)))))), (SV.v (V1.c (It.ptr 0 0))), .v (.c (.sl (.u64 e)))] [0] [(Option.some (En.fl [(It.val v)]))] 32 [] []
noncomputable def bu_k : List KI := (run dvP false 3000 ((fun (l : Nat) (v : Value) (e : List Int) => (⟨bt_k, .normal, btA l v e⟩ : Cfg)) default default default) []).cfg.k
theorem bu_hk (l : Nat) (v : Value) (e : List Int) : (run dvP false 3000 ((⟨bt_k, .normal, btA l v e⟩ : Cfg)) []).cfg.k = bu_k := by kernel_rfl
theorem bu (l : Nat) (v : Value) (e : List Int) {w0 : World} {F0 : Nat → Prop} {K : Kp} {ac : List Act} {Q : Exit → Act → World → Prop} {cX : Ctx} {aX : Act} (ho : AllP [((List.length e) ≤ 16), (lims e)]) (hs : Sim w0 F0 K ac (btA l v e) cX aX) (hK : ∀ ac cY aY, Sim w0 F0 K ac (mkSt 24 [0, 1, 3] [(.v (.c (.val (Value.func (Fn.yield l) (Array.mk ([] : List Value)) (Array.mk ([] : List Value)))))), (.v (.c (.ptr 0 0))), (.v (.c (.int .i64 (IntKind.wrap .i64 ((((bitsC e (List.length e)) : Nat) : Int) - (1 : Int))))))] [0] [(some (.fl [(.val v)]))] 80 [] []) cY aY → Wq Try.prog Q (bu_k) ac Exit.normal aY cY.w) : Wq Try.prog Q (bt_k) ac .normal aX cX.w :=
  run_at2 (o := ⟨_, _, _, _, _, _, _⟩) dvP_ok (by kernel_rfl) (bu_hk l v e) ho hs hK
noncomputable def buS (l : Nat) (v : Value) (i : Int) : St := mkSt 24 [0, 1, 3] [(SV.v (V1.c (It.val (Value.func (Fn.yield l) (Array.mk ([] : List Value)) (Array.mk ([] : List Value)))))), (SV.v (V1.c (It.ptr 0 0))), .v (.c (.int .i64 i))] [0] [(Option.some (En.fl [(It.val v)]))] 80 [] []
noncomputable def bv_k : List KI := (run dvP false 3000 ((fun (l : Nat) (v : Value) (i : Int) => (⟨lpIn bu_k, .normal, buS l v i⟩ : Cfg)) default default default) [true]).cfg.k
theorem bv_hk (l : Nat) (v : Value) (i : Int) : (run dvP false 3000 ((⟨lpIn bu_k, .normal, buS l v i⟩ : Cfg)) [true]).cfg.k = bv_k := by kernel_rfl
theorem bv (l : Nat) (v : Value) (i : Int) {w0 : World} {F0 : Nat → Prop} {K : Kp} {ac : List Act} {Q : Exit → Act → World → Prop} {cX : Ctx} {aX : Act} (ho : AllP [((decide (i ≥ (0 : Int))) = true), ((64 : Int) ≠ (0 : Int))]) (hs : Sim w0 F0 K ac (buS l v i) cX aX) (hK : ∀ ac cY aY, Sim w0 F0 K ac (mkSt 24 [0, 1, 3, 11, 12, 14] [(.v (.c (.val (Value.func (Fn.yield l) (Array.mk ([] : List Value)) (Array.mk ([] : List Value)))))), (.v (.c (.ptr 0 0))), (.v (.c (.int .i64 i))), (.v (.c (.val (Value.func (Fn.yield l) (Array.mk ([] : List Value)) (Array.mk ([] : List Value)))))), (.v (.c (.val v))), (.v (.c (.int .i64 (IntKind.wrap .i64 (Int.tdiv i (64 : Int))))))] [0] [(some (.fl [(.val v)]))] 176 [] []) cY aY → Wq Try.prog Q (bv_k) ac Exit.normal aY cY.w) : Wq Try.prog Q (lpIn bu_k) ac .normal aX cX.w :=
  run_at2 (o := ⟨_, _, _, _, _, _, _⟩) dvP_ok (by kernel_rfl) (bv_hk l v i) ho hs hK
noncomputable def bvA (l : Nat) (v : Value) (e : List Int) (i : Int) : St := mkSt 24 [0, 1, 3, 11, 12, 14] [(SV.v (V1.c (It.val (Value.func (Fn.yield l) (Array.mk ([] : List Value)) (Array.mk ([] : List Value)))))), (SV.v (V1.c (It.ptr 0 0))), (SV.v (V1.c (It.int IntKind.i64 i))), (SV.v (V1.c (It.val (Value.func (Fn.yield l) (Array.mk ([] : List Value)) (Array.mk ([] : List Value)))))), .v (.c (.sl (.u64 e))), (SV.v (V1.c (It.int IntKind.i64 (IntKind.wrap IntKind.i64 (Int.tdiv i (64 : Int))))))] [0] [(Option.some (En.fl [(It.val v)]))] 176 [] []
noncomputable def bw_k : List KI := (run dvP false 3000 ((fun (l : Nat) (v : Value) (e : List Int) (i : Int) => (⟨bv_k, .normal, bvA l v e i⟩ : Cfg)) default default default default) []).cfg.k
theorem bw_hk (l : Nat) (v : Value) (e : List Int) (i : Int) : (run dvP false 3000 ((⟨bv_k, .normal, bvA l v e i⟩ : Cfg)) []).cfg.k = bw_k := by kernel_rfl
theorem bw (l : Nat) (v : Value) (e : List Int) (i : Int) {w0 : World} {F0 : Nat → Prop} {K : Kp} {ac : List Act} {Q : Exit → Act → World → Prop} {cX : Ctx} {aX : Act} (ho : AllP [((0 : Int) ≤ (IntKind.wrap .i64 (Int.tdiv i (64 : Int)))), ((IntKind.wrap .i64 (Int.tdiv i (64 : Int))) < (((List.length e) : Nat) : Int)), ((64 : Int) ≠ (0 : Int)), ((0 : Int) ≤ (Int.tmod i (64 : Int)))]) (hs : Sim w0 F0 K ac (bvA l v e i) cX aX) (hK : ∀ ac cY aY, Sim w0 F0 K ac (mkSt 24 [0, 1, 3, 11, 21] [(.v (.c (.val (Value.func (Fn.yield l) (Array.mk ([] : List Value)) (Array.mk ([] : List Value)))))), (.v (.c (.ptr 0 0))), (.v (.c (.int .i64 i))), (.v (.c (.val (Value.func (Fn.yield l) (Array.mk ([] : List Value)) (Array.mk ([] : List Value)))))), (.v (.c (.bool ((bitsOp BinOp.and IntKind.u64 (Int.fdiv (List.getD e ((IntKind.wrap .i64 (Int.tdiv i (64 : Int)))).toNat (0 : Int)) ((2 : Int) ^ (Min.min ((Int.tmod i (64 : Int))).toNat 64))) (1 : Int)) == (1 : Int)))))] [0] [(some (.fl [(.val v)]))] 288 [] []) cY aY → Wq Try.prog Q (bw_k) ac Exit.normal aY cY.w) : Wq Try.prog Q (bv_k) ac .normal aX cX.w :=
  run_at2 (o := ⟨_, _, _, _, _, _, _⟩) dvP_ok (by kernel_rfl) (bw_hk l v e i) ho hs hK
theorem bX_hk (l : Nat) (v : Value) (i : Int) : (run dvP false 3000 ((⟨lpIn bu_k, .normal, buS l v i⟩ : Cfg)) [false]).cfg.k = [] := by kernel_rfl
theorem bX (l : Nat) (v : Value) (i : Int) {w0 : World} {F0 : Nat → Prop} {K : Kp} {ac : List Act} {Q : Exit → Act → World → Prop} {cX : Ctx} {aX : Act} (ho : AllP [((decide (i ≥ (0 : Int))) = false)]) (hs : Sim w0 F0 K ac (buS l v i) cX aX) (hK : ∀ ac cY aY, Sim w0 F0 K ac (mkSt 24 [] [] [0] [(some (.fl [(.val v)]))] 112 [] []) cY aY → Wq Try.prog Q ([]) ac Exit.normal aY cY.w) : Wq Try.prog Q (lpIn bu_k) ac .normal aX cX.w :=
  run_at2 (o := ⟨_, _, _, _, _, _, _⟩) dvP_ok (by kernel_rfl) (bX_hk l v i) ho hs hK
theorem bB_hk (l : Nat) (v : Value) (i : Int) (b : Bool) : (run dvP false 3000 ((⟨opsNext bw_k, .normal, ⟨setT (look .top [0, 1, 3, 11, 21] [(.v (.c (.val (.func (.yield l) #[] #[])))), .v (.c (.ptr 0 0)), .v (.c (.int .i64 i)), (.v (.c (.val (.func (.yield l) #[] #[])))), .v (.c (.bool b))]) 22 (.v (.c (.lit true))), one (.fl [.val v]), 24, 400, []⟩⟩ : Cfg)) []).cfg.k = lpBk bu_k := by kernel_rfl
theorem bB (l : Nat) (v : Value) (i : Int) (b : Bool) {w0 : World} {F0 : Nat → Prop} {K : Kp} {ac : List Act} {Q : Exit → Act → World → Prop} {cX : Ctx} {aX : Act} (ho : AllP []) (hs : Sim w0 F0 K ac (⟨setT (look .top [0, 1, 3, 11, 21] [(.v (.c (.val (.func (.yield l) #[] #[])))), .v (.c (.ptr 0 0)), .v (.c (.int .i64 i)), (.v (.c (.val (.func (.yield l) #[] #[])))), .v (.c (.bool b))]) 22 (.v (.c (.lit true))), one (.fl [.val v]), 24, 400, []⟩) cX aX) (hK : ∀ ac cY aY, Sim w0 F0 K ac (mkSt 24 [0, 1, 3] [(.v (.c (.val (Value.func (Fn.yield l) (Array.mk ([] : List Value)) (Array.mk ([] : List Value)))))), (.v (.c (.ptr 0 0))), (.v (.c (.int .i64 (IntKind.wrap .i64 (i - (1 : Int))))))] [0] [(some (.fl [(.val v)]))] 464 [] []) cY aY → Wq Try.prog Q (lpBk bu_k) ac Exit.normal aY cY.w) : Wq Try.prog Q (opsNext bw_k) ac .normal aX cX.w :=
  run_at2 (o := ⟨_, _, _, _, _, _, _⟩) dvP_ok (by kernel_rfl) (bB_hk l v i b) ho hs hK

theorem meth81 (v : Value) (w : World) : (method (Try.prog.types.size + Made.depth) 81 v "Times").run Try.prog w = .ok (66, v) w := by kernel_rfl
noncomputable def dvQ : Env := { dvP with inv := fun t => if t = 81 then some [("Times", 66)] else none }
theorem dvQ_ok : EnvOk Try.prog dvQ := by
  refine ⟨dvP_ok.ty, dvP_ok.mixed, dvP_ok.fn, dvP_ok.mu, dvP_ok.inl, dvP_ok.ex, fun t l h => ?_⟩
  have h : (if t = 81 then some [("Times", 66)] else none) = some l := h
  split at h
  · rename_i ht
    cases h
    subst ht
    refine ⟨by kernel_rfl, fun name g hg v args w => ?_⟩
    unfold lookM at hg
    split at hg
    · rename_i hn
      cases hg
      subst hn
      simp only [callMethod, Sem.run_bind, run_program, Result.andThen_ok, meth81]
    · cases hg
  · cases h
--@env dvQ dvQ_ok
noncomputable def qp_k : List KI := (run dvQ false 3000 ((fun (a : Fr) (e : List Int) => (⟨[.code (bodyOf Try.f88)], .normal, initSt Try.f88.ntmps [.v (.a [.ob (.s a)]), .v (.a [.ob (.s 1)]), .v (.c (.sl (.u64 e)))]⟩ : Cfg)) default default) []).cfg.k
theorem qp_hk (a : Fr) (e : List Int) : (run dvQ false 3000 ((⟨[.code (bodyOf Try.f88)], .normal, initSt Try.f88.ntmps [.v (.a [.ob (.s a)]), .v (.a [.ob (.s 1)]), .v (.c (.sl (.u64 e)))]⟩ : Cfg)) []).cfg.k = qp_k := by kernel_rfl
theorem qp (a : Fr) (e : List Int) {w0 : World} {F0 : Nat → Prop} {K : Kp} {ac : List Act} {Q : Exit → Act → World → Prop} {cX : Ctx} {aX : Act} (ho : AllP []) (hs : Sim w0 F0 K ac (initSt Try.f88.ntmps [.v (.a [.ob (.s a)]), .v (.a [.ob (.s 1)]), .v (.c (.sl (.u64 e)))]) cX aX) (hK : ∀ ac cY aY, Sim w0 F0 K ac (mkSt 23 [3, 6, 7, 11] [(.v (.c (.ptr 16 0))), (.v (.c (.ptr 48 0))), (.v (.c (.ptr 80 0))), (.v (.c (.clo 117 [(128, 0)])))] [16, 48, 80, 128] [(some (.fl [(.ob (.s a))])), (some (.fl [(.ob (.s (0 : Fr)))])), (some (.fl [(.ob (.s (1 : Fr)))])), (some (.fl [(.sl (.u64 e))]))] 192 [] []) cY aY → Wq Try.prog Q (qp_k) ac Exit.normal aY cY.w) : Wq Try.prog Q ([.code (bodyOf Try.f88)]) ac .normal aX cX.w :=
  run_at2 (o := ⟨_, _, _, _, _, _, _⟩) dvQ_ok (by kernel_rfl) (qp_hk a e) ho hs hK
noncomputable def qpS (a : Fr) (e : List Int) (o : Fr) : St := mkSt 23 [3, 6, 7, 11] [(SV.v (V1.c (It.ptr 16 0))), (SV.v (V1.c (It.ptr 48 0))), (SV.v (V1.c (It.ptr 80 0))), (SV.v (V1.c (It.clo 117 [(128, 0)])))] [16, 48, 80, 128] [(Option.some (En.fl [(It.ob (Ob.s a))])), (Option.some (En.fl [(It.ob (Ob.s (0 : Fr)))])), some (.fl [.ob (.s o)]), (Option.some (En.fl [(It.sl (Sq.u64 e))]))] 192 [] []
theorem qpA_hk (a : Fr) (e : List Int) (o : Fr) (z : Bool) : (run dvQ false 3000 ((⟨[.code (rfA qp_k)], .normal, roundSt (qpS a e o) [(12, .v (.c (.bool z)))]⟩ : Cfg)) []).cfg.k = [] := by kernel_rfl
theorem qpA (a : Fr) (e : List Int) (o : Fr) (z : Bool) {w0 : World} {F0 : Nat → Prop} {K : Kp} {ac : List Act} {Q : Exit → Act → World → Prop} {cX : Ctx} {aX : Act} {ρ : Option Nat} (ho : AllP []) (hs : Sim w0 F0 K ac (roundSt (qpS a e o) [(12, .v (.c (.bool z)))]) cX aX) (hK : ∀ cY aY, Sim w0 F0 K ac (mkSt 23 [3, 6, 7, 8] [(.v (.c (.ptr 16 0))), (.v (.c (.ptr 48 0))), (.v (.c (.ptr 80 0))), (.v (.c (.bool z)))] [16, 48, 80, 128] [(some (.fl [(.ob (.s a))])), (some (.fl [(.ob (.s (0 : Fr)))])), (some (.fl [(.ob (.s o))])), (some (.fl [(.sl (.u64 e))]))] 208 [[3, 6, 7, 11]] [([(.v (.c (.ptr 16 0))), (.v (.c (.ptr 48 0))), (.v (.c (.ptr 80 0))), (.v (.c (.clo 117 [(128, 0)])))], 23)]) cY aY → Wq Try.prog Q ([]) ac Exit.normal aY cY.w ρ) : Wq Try.prog Q ([.code (rfA qp_k)]) ac .normal aX cX.w ρ :=
  run_atT (o := ⟨_, _, _, _, _, _, _⟩) dvQ_ok (by kernel_rfl) (qpA_hk a e o z) ho (by kernel_rfl) (by kernel_rfl) hs hK
noncomputable def qpB (a : Fr) (e : List Int) (o : Fr) (z : Bool) : St := mkSt 23 [3, 6, 7, 8] [(SV.v (V1.c (It.ptr 16 0))), (SV.v (V1.c (It.ptr 48 0))), (SV.v (V1.c (It.ptr 80 0))), (SV.v (V1.c (It.bool z)))] [16, 48, 80, 128] [(Option.some (En.fl [(It.ob (Ob.s a))])), (Option.some (En.fl [(It.ob (Ob.s (0 : Fr)))])), some (.fl [.ob (.s o)]), (Option.some (En.fl [(It.sl (Sq.u64 e))]))] 208 [[3, 6, 7, 11]] [([(SV.v (V1.c (It.ptr 16 0))), (SV.v (V1.c (It.ptr 48 0))), (SV.v (V1.c (It.ptr 80 0))), (SV.v (V1.c (It.clo 117 [(128, 0)])))], 23)]
theorem qpC_hk (a : Fr) (e : List Int) (o : Fr) (z : Bool) : (run dvQ false 3000 ((⟨[.code (rfB qp_k)], .normal, qpB a e o z⟩ : Cfg)) [true]).cfg.k = [] := by kernel_rfl
theorem qpC (a : Fr) (e : List Int) (o : Fr) (z : Bool) {w0 : World} {F0 : Nat → Prop} {K : Kp} {ac : List Act} {Q : Exit → Act → World → Prop} {cX : Ctx} {aX : Act} {ρ : Option Nat} (ho : AllP [(z = true)]) (hs : Sim w0 F0 K ac (qpB a e o z) cX aX) (hK : ∀ cY aY, Sim w0 F0 K ac (mkSt 23 [6] [(.v (.c (.ptr 48 0)))] [16, 48, 80, 128] [(some (.fl [(.ob (.s a))])), (some (.fl [(.ob (.s (0 : Fr)))])), (some (.fl [(.ob (.s ((o * o) * a)))])), (some (.fl [(.sl (.u64 e))]))] 384 [[3, 6, 7, 11]] [([(.v (.c (.ptr 16 0))), (.v (.c (.ptr 48 0))), (.v (.c (.ptr 80 0))), (.v (.c (.clo 117 [(128, 0)])))], 23)]) cY aY → Wq Try.prog Q ([]) ac Exit.normal aY cY.w ρ) : Wq Try.prog Q ([.code (rfB qp_k)]) ac .normal aX cX.w ρ :=
  run_atT (o := ⟨_, _, _, _, _, _, _⟩) dvQ_ok (by kernel_rfl) (qpC_hk a e o z) ho (by kernel_rfl) (by kernel_rfl) hs hK
theorem qpD_hk (a : Fr) (e : List Int) (o : Fr) (z : Bool) : (run dvQ false 3000 ((⟨[.code (rfB qp_k)], .normal, qpB a e o z⟩ : Cfg)) [false]).cfg.k = [] := by kernel_rfl
theorem qpD (a : Fr) (e : List Int) (o : Fr) (z : Bool) {w0 : World} {F0 : Nat → Prop} {K : Kp} {ac : List Act} {Q : Exit → Act → World → Prop} {cX : Ctx} {aX : Act} {ρ : Option Nat} (ho : AllP [(z = false)]) (hs : Sim w0 F0 K ac (qpB a e o z) cX aX) (hK : ∀ cY aY, Sim w0 F0 K ac (mkSt 23 [6] [(.v (.c (.ptr 48 0)))] [16, 48, 80, 128] [(some (.fl [(.ob (.s a))])), (some (.fl [(.ob (.s (0 : Fr)))])), (some (.fl [(.ob (.s (o * o)))])), (some (.fl [(.sl (.u64 e))]))] 304 [[3, 6, 7, 11]] [([(.v (.c (.ptr 16 0))), (.v (.c (.ptr 48 0))), (.v (.c (.ptr 80 0))), (.v (.c (.clo 117 [(128, 0)])))], 23)]) cY aY → Wq Try.prog Q ([]) ac Exit.normal aY cY.w ρ) : Wq Try.prog Q ([.code (rfB qp_k)]) ac .normal aX cX.w ρ :=
  run_atT (o := ⟨_, _, _, _, _, _, _⟩) dvQ_ok (by kernel_rfl) (qpD_hk a e o z) ho (by kernel_rfl) (by kernel_rfl) hs hK
theorem qpX_hk (a : Fr) (e : List Int) (o : Fr) : (run dvQ false 3000 ((⟨rfR qp_k, .normal, qpS a e o⟩ : Cfg)) []).cfg.k = [] := by kernel_rfl
theorem qpX (a : Fr) (e : List Int) (o : Fr) {w0 : World} {F0 : Nat → Prop} {K : Kp} {ac : List Act} {Q : Exit → Act → World → Prop} {cX : Ctx} {aX : Act} (ho : AllP []) (hs : Sim w0 F0 K ac (qpS a e o) cX aX) (hK : ∀ ac cY aY, Sim w0 F0 K ac (mkSt 23 [6] [(.v (.c (.ptr 48 0)))] [48] [(some (.fl [(.ob (.s o))]))] 224 [] []) cY aY → Wq Try.prog Q ([]) ac Exit.ret aY cY.w) : Wq Try.prog Q (rfR qp_k) ac .normal aX cX.w :=
  run_at2 (o := ⟨_, _, _, _, _, _, _⟩) dvQ_ok (by kernel_rfl) (qpX_hk a e o) ho hs hK
noncomputable def qpE (a : Fr) (e : List Int) (o : Fr) : St := mkSt 23 [6] [(SV.v (V1.c (It.ptr 48 0)))] [16, 48, 80, 128] [(Option.some (En.fl [(It.ob (Ob.s a))])), (Option.some (En.fl [(It.ob (Ob.s (0 : Fr)))])), some (.fl [.ob (.s o)]), (Option.some (En.fl [(It.sl (Sq.u64 e))]))] 384 [[3, 6, 7, 11]] [([(SV.v (V1.c (It.ptr 16 0))), (SV.v (V1.c (It.ptr 48 0))), (SV.v (V1.c (It.ptr 80 0))), (SV.v (V1.c (It.clo 117 [(128, 0)])))], 23)]
noncomputable def qpZ (o : Fr) : St := mkSt 23 [6] [(SV.v (V1.c (It.ptr 48 0)))] [48] [some (.fl [.ob (.s o)])] 224 [] []
theorem qpR_end (o : Fr) : runEnd dvQ Try.f88 false 3000 (⟨[], .ret, qpZ o⟩) [] [] [] = (Option.some ([], ((SV.v (V1.a [(It.ob (Ob.s o))])), []))) := by kernel_rfl
end Go.Proofs.Ytlfllehomhcbfaa

/- Bits handed on; powers of an element. No conditions. -/
namespace Go.Proofs.Ytlfllehomhcbfaa

theorem and1 {m : Nat} : bitsOp BinOp.and IntKind.u64 (m : Int) (1 : Int) = ((m % 2 : Nat) : Int) := by
  show IntKind.wrap IntKind.u64 ((BitVec.ofInt 64 (m : Int) &&& BitVec.ofInt 64 ((1 : Nat) : Int)).toNat : Int) = _
  rw [BitVec.ofInt_natCast, BitVec.ofInt_natCast, BitVec.toNat_and, BitVec.toNat_ofNat, BitVec.toNat_ofNat]
  have e : 1 % 2 ^ 64 = 2 ^ 1 - 1 := by decide
  rw [e, Nat.and_two_pow_sub_one_eq_mod, wrap_u64]
  omega

theorem bit_expr {e : List Int} (h : lims e) {i : Nat} (hi : i < 1024) : (bitsOp BinOp.and IntKind.u64 (Int.fdiv (List.getD e (IntKind.wrap IntKind.i64 (Int.tdiv (i : Int) (64 : Int))).toNat (0 : Int)) ((2 : Int) ^ (Min.min (Int.tmod (i : Int) (64 : Int)).toNat 64))) (1 : Int) == (1 : Int)) = decide (numL e / 2 ^ i % 2 = 1) := by
  have e1 : Int.tdiv (i : Int) (64 : Int) = ((i / 64 : Nat) : Int) := Int.tdiv_eq_ediv_of_nonneg (by omega)
  have e2 : Int.tmod (i : Int) (64 : Int) = ((i % 64 : Nat) : Int) := Int.tmod_eq_emod_of_nonneg (by omega)
  have e3 : Min.min (((i % 64 : Nat) : Int)).toNat 64 = i % 64 := by omega
  have hg := lims_get h (i / 64)
  rw [e1, wrap_id (by omega) (by omega), Int.toNat_natCast, e2, e3, numL_bit h i]
  obtain ⟨g, hg2⟩ := Int.eq_ofNat_of_zero_le hg.1
  have hp : ((2 : Int) ^ (i % 64)) = ((2 ^ (i % 64) : Nat) : Int) := by simp
  rw [hg2, hp, Int.fdiv_eq_ediv_of_nonneg _ (Int.natCast_nonneg _), ← Int.natCast_ediv, and1, Int.toNat_natCast]
  generalize g / 2 ^ (i % 64) = m
  by_cases hm : m % 2 = 1
  · rw [hm]; rfl
  · have : m % 2 = 0 := by omega
    rw [this]; rfl

def btEnc (z : Bool) : List Value := [.bool z]

theorem bits_iter {x : Ctx} {p : Nat} {e : List Int} {M : List Bool → Nat → Option En} (hl : e.length ≤ 16) (hlim : lims e) (hM : ∀ s, M s p = some (.fl [.sl (.u64 e)])) :
    IterC Try.prog x 117 [(p, 0)] btEnc (btL (numL e) (bitsC e e.length) (bitsC e e.length)) M := by
  intro l J W hgrow hread hyield hJ
  have hcl := bitsC_le e e.length
  generalize hc : bitsC e e.length = c at *
  generalize hN : numL e = N at *
  have key : Wq Try.prog (bodyPost Try.prog Try.f117 fun e' W' => (∃ v, e' = Ending.returned v) ∧ J (btL N c c) W') [.code (bodyOf Try.f117)] [] .normal { tmps := [Value.func (.yield l) #[] #[], .pointer (some ⟨x.β p, 0, none⟩)].toArray ++ Array.replicate 22 undef, defers := [] } W := ?_
  · exact calls_of_wp (c := bodyOf Try.f117) Try.func117 rfl ((wpIn_wide (n := 0)).1 key.wp)
  obtain ⟨y, rfl, hm, hcp⟩ := hread [] W hJ
  obtain ⟨hr, hβ⟩ := hcp (p, 0) List.mem_cons_self
  have hr : y.k p = .real := hr
  have hβ : y.β p = x.β p := hβ
  have hargs : denSs (itCtx y p) [.v (.c (.val (.func (.yield l) #[] #[]))), .v (.c (.ptr 0 0))] [.func (.yield l) #[] #[], .pointer (some ⟨x.β p, 0, none⟩)] :=
    .cons ⟨rfl, 0, rfl, rfl⟩ (.cons ⟨rfl, 0, rfl, by show _ = [Value.pointer (some ⟨y.β p, 0, none⟩)]; rw [hβ]⟩ .nil)
  obtain ⟨v, hv, hbox⟩ := box_sl hm (hM []) hr
  have hs := it_sim (nx := 16) (nt := 24) (a := { tmps := [Value.func (.yield l) #[] #[], .pointer (some ⟨x.β p, 0, none⟩)].toArray ++ Array.replicate 22 undef, defers := [] }) hm (hM []) hr hbox rfl (by simp) (argT_den hargs 22)
  change Wq Try.prog _ _ _ _ _ (itCtx y p).w
  refine bt l v trivial hs fun ac cY aY hs1 => ?_
  have hmb : Mem (itCtx y p) (one (.fl [.val v])) := it_mem hm (hM _) hr hbox
  obtain ⟨hg1, _, _⟩ := it_back hmb rfl hs1 rfl
  have hsl : cY.D (.sl (.u64 e)) [v] := data_grow hg1 (fun b hb => hs1.base.f0 b hb) hm.fw rfl hv
  have hs2 := hs1.slots (svs' := [.v (.c (.val (.func (.yield l) #[] #[]))), .v (.c (.ptr 0 0)), .v (.c (.sl (.u64 e)))]) ⟨fun _ h => h, fun _ h => h, conv_val rfl hsl, trivial⟩
  refine bu l v e ⟨hl, hlim, trivial⟩ hs2 fun ac cZ aZ hs3 => ?_
  rw [hc, wrap_id (by omega) (by omega)] at hs3
  let I : { t : Nat // t ≤ c } → List Act → Act → World → Prop := fun t ac a w => ∃ y z v, z.w = w ∧ y.k p = .real ∧ y.β p = x.β p ∧ Mem y (M (btL N c t.1)) ∧ J (btL N c t.1) y.w ∧ y.D (.sl (.u64 e)) [v] ∧ Mem (itCtx y p) (one (.fl [.val v])) ∧ Sim y.w y.F (kPin (itCtx y p)) ac (buS l v ((c : Int) - 1 - (t.1 : Int))) z a
  refine loop_inv I (fun t => c - t.1) (c := lpC bu_k) (k := lpR bu_k) (by kernel_rfl) (fun t ih ac b w hI => ?_) ⟨0, Nat.zero_le _⟩ ⟨y, cZ, v, rfl, hr, hβ, hm, hJ, hv, hmb, by
      show Sim _ _ _ _ (buS l v ((c : Int) - 1 - ((0 : Nat) : Int))) _ _
      rw [show (c : Int) - 1 - ((0 : Nat) : Int) = (c : Int) - 1 from by omega]
      exact hs3.nx _⟩
  obtain ⟨t, ht⟩ := t
  obtain ⟨y, z, v, rfl, hr, hβ, hm, hJ, hv, hmb, hs⟩ := hI
  simp only at hm hJ hs ih
  by_cases h : t < c
  · obtain ⟨i, hi⟩ : ∃ i : Nat, i = c - 1 - t := ⟨_, rfl⟩
    have ei : (c : Int) - 1 - (t : Int) = (i : Int) := by omega
    rw [ei] at hs
    refine bv l v _ ⟨by simp, by decide, trivial⟩ hs fun ac cV aV hs4 => ?_
    obtain ⟨hg4, _, _⟩ := it_back hmb rfl hs4 rfl
    have hsl4 : cV.D (.sl (.u64 e)) [v] := data_grow hg4 (fun b hb => hs4.base.f0 b hb) hm.fw rfl hv
    have hs5 := hs4.slots (svs' := [.v (.c (.val (.func (.yield l) #[] #[]))), .v (.c (.ptr 0 0)), .v (.c (.int .i64 (i : Int))), .v (.c (.val (.func (.yield l) #[] #[]))), .v (.c (.sl (.u64 e))), .v (.c (.int .i64 (IntKind.wrap IntKind.i64 (Int.tdiv (i : Int) (64 : Int)))))])
      ⟨fun _ h => h, fun _ h => h, fun _ h => h, fun _ h => h, conv_val rfl hsl4, fun _ h => h, trivial⟩
    have e1 : Int.tdiv (i : Int) (64 : Int) = ((i / 64 : Nat) : Int) := Int.tdiv_eq_ediv_of_nonneg (by omega)
    have e2 : Int.tmod (i : Int) (64 : Int) = ((i % 64 : Nat) : Int) := Int.tmod_eq_emod_of_nonneg (by omega)
    refine bw l v e _ ⟨by rw [e1, wrap_id (by omega) (by omega)]; omega, by rw [e1, wrap_id (by omega) (by omega)]; omega, by decide, by rw [e2]; omega, trivial⟩ hs5 fun ac cU aU hs6 => ?_
    rw [bit_expr hlim (by omega : i < 1024), hN] at hs6
    obtain ⟨hg, hk2, hβ2⟩ := it_back hmb rfl hs6 rfl
    have hJ2 := hgrow _ _ _ hJ hg
    have e3 : btL N c (t + 1) = btL N c t ++ [decide (N / 2 ^ i % 2 = 1)] := by rw [btL_succ, hi]
    obtain ⟨r, hr1⟩ := btL_pre N c (n := c) (t := t + 1) h
    refine yield_at (R := fun W' => J (btL N c (t + 1)) W') (dst := some 22) (f := .tmp 11) (args := [.tmp 21]) (by kernel_rfl) hs6 (l := l) rfl (vs := btEnc (decide (N / 2 ^ i % 2 = 1))) ?_ ?_ fun W' hJ3 => ?_
    · have h21 := D_bool (hs6.t 21)
      show [aU.tmps.getD 21 undef] = _
      rw [h21]
      rfl
    · have := hyield (btL N c t) (decide (N / 2 ^ i % 2 = 1)) _ hJ2 ⟨r, by rw [hr1, e3, List.append_assoc]; rfl⟩
      rw [← e3] at this
      exact this
    · obtain ⟨y3, rfl, hm3, hc3⟩ := hread _ _ hJ3
      obtain ⟨hr3, hβ3⟩ := hc3 (p, 0) List.mem_cons_self
      have hr3 : y3.k p = .real := hr3
      have hβ3 : y3.β p = x.β p := hβ3
      obtain ⟨v3, hv3, hbox3⟩ := box_sl hm3 (hM _) hr3
      have hmb3 : Mem (itCtx y3 p) (one (.fl [.val v3])) := it_mem hm3 (hM _) hr3 hbox3
      have hs7 := it_again (nx' := 400) (dst := 22) (b := true) hs6 (by kernel_rfl) rfl hm3 (hM _) hr3 hbox3 (by rw [hβ2, hβ]; exact hβ3.symm) (by decide)
      change Wq Try.prog _ _ _ _ _ (itCtx y3 p).w
      refine bB l v3 _ _ trivial hs7 fun ac cT aT hs8 => ?_
      have e4 : IntKind.wrap IntKind.i64 ((i : Int) - 1) = (c : Int) - 1 - ((t + 1 : Nat) : Int) := by rw [wrap_id (by omega) (by omega)]; omega
      rw [e4] at hs8
      exact ih ⟨t + 1, by omega⟩ (by show c - (t + 1) < c - t; omega) ac aT _ ⟨y3, cT, v3, rfl, hr3, hβ3, hm3, hJ3, hv3, hmb3, hs8.nx _⟩
  · have e5 : t = c := by omega
    subst e5
    refine bX l v _ ⟨by simp; omega, trivial⟩ hs fun ac cV aV hs4 => ?_
    obtain ⟨hg, _, _⟩ := it_back hmb rfl hs4 rfl
    exact ⟨it_end dvP_ok hs4 rfl rfl rfl (fun v => ⟨⟨v, rfl⟩, hgrow _ _ _ hJ hg⟩) (.inr rfl)⟩

def btVals (z : Bool) : List SV := [.v (.c (.bool z))]

theorem powN_bit (a : Fr) (l : List Bool) (z : Bool) : powN a (pv (l ++ [z])) = if z = true then powN a (pv l) * powN a (pv l) * a else powN a (pv l) * powN a (pv l) := by
  rw [pv_snoc, Nat.two_mul]
  cases z with
  | true =>
    rw [if_pos rfl, ← powN_add]
    rfl
  | false =>
    rw [if_neg (by decide), ← powN_add]
    rfl

theorem power_fnd (a : Fr) (e : List Int) (hl : e.length ≤ 16) (hlim : lims e) :
    FnD Try.prog 88 [.v (.a [.ob (.s a)]), .v (.a [.ob (.s 1)]), .v (.c (.sl (.u64 e)))] (.v (.a [.ob (.s (powN a (numL e)))])) [] := by
  refine fn_start_m (fn := Try.f88) (c := bodyOf Try.f88) Try.func88 rfl rfl fun x b hk hF hs => ?_
  refine qp a e trivial hs fun ac cY aY hs1 => ?_
  obtain ⟨e1, e2⟩ := isRf_eq (k := qp_k) (by kernel_rfl)
  rw [e1]
  have eP : (rfP qp_k).toList = [12] := by kernel_rfl
  have eG : rfG qp_k = .tmp 11 := by kernel_rfl
  refine range_rule (ps := rfP qp_k) e2 hs1 (gf := 117) (caps := [(128, 0)]) (enters_of Try.func117 rfl rfl) (fun pre => qpS a e (powN a (pv pre))) (fun s => by rw [eG]; rfl) ⟨_, rfl⟩ (btL (numL e) (bitsC e e.length) (bitsC e e.length)) btVals btEnc
    (fun y z => .cons ⟨rfl, 0, rfl⟩ .nil) (fun z => by rw [← Array.length_toList, eP]; rfl) (fun pre p hp => ?_) (bits_iter hl hlim fun s => rfl) (fun pre z => qpB a e (powN a (pv pre)) z)
    (fun pre z => qpE a e (powN a (pv (pre ++ [z])))) (fun pre z => ⟨_, rfl⟩) (fun pre z hz w1 F1 K1 as1 Q1 l y b hs2 hQ => ?_) (fun pre z hz w1 F1 K1 as1 Q1 l y b hs2 hQ => ?_) fun D y hs2 hD hFD hd => ?_
  · rw [eP] at hp
    have h23 : (qpS a e (powN a (pv pre))).nt = 23 := rfl
    rw [h23]
    simp only [List.mem_cons, List.not_mem_nil, or_false] at hp
    subst hp
    decide
  · rw [eP] at hs2
    exact qpA a e _ z trivial hs2 fun cZ aZ hs3 => ⟨hQ _ _ (hs3.nx _)⟩
  · rw [powN_bit] at hQ
    cases z with
    | true => exact qpC a e _ true ⟨rfl, trivial⟩ hs2 fun cZ aZ hs3 => ⟨hQ _ _ (hs3.nx _)⟩
    | false => exact qpD a e _ false ⟨rfl, trivial⟩ hs2 fun cZ aZ hs3 => ⟨hQ _ _ (hs3.nx _)⟩
  · have hs3 := hs2.marked rfl rfl D
    have hN : numL e < 2 ^ bitsC e e.length := by
      have := numL_lt hlim e.length (Nat.le_refl _)
      rwa [List.take_length] at this
    rw [pv_bits hN _ (Nat.le_refl _), Nat.sub_self, Nat.pow_zero, Nat.div_one] at hs2 hs3
    generalize powN a (numL e) = o at hs2 hs3 ⊢
    refine qpX a e o trivial hs3 fun ac cV aV hs6 => ⟨?_⟩
    have hs7 : Sim y.w y.F (kOwn y kAll (markOf D)) ac (qpZ o) cV aV := hs6
    exact fn_finish dvQ_ok hk hF (qpR_end o) trivial (fun y v hd => hd) hs2 hD hFD hd rfl hs7

end Go.Proofs.Ytlfllehomhcbfaa

/- The inverse; sums, products and powers outside; coefficients of values, walked. No conditions. -/
namespace Go.Proofs.Ytlfllehomhcbfaa

theorem power_fnd2 (a u : Fr) (e : List Int) (hu : u = 1) (hl : e.length ≤ 16) (hlim : lims e) :
    FnD Try.prog 88 [.v (.a [.ob (.s a)]), .v (.a [.ob (.s u)]), .v (.c (.sl (.u64 e)))] (.v (.a [.ob (.s (powN a (numL e)))])) [] := by
  subst hu
  exact power_fnd a e hl hlim
def power88 : FnSpec
  | [.v (.a [.ob (.s a)]), .v (.a [.ob (.s u)]), .v (.c (.sl (.u64 e)))] => some ([u = 1, e.length ≤ 16, lims e], .v (.a [.ob (.s (powN a (numL e)))]), [])
  | _ => none
noncomputable def dvR1 : Env := dvQ.set (addT dvQ.fn 88 power88)
theorem dvR1_ok : EnvOk Try.prog dvR1 := env_add dvQ_ok 88 power88 (enters_of Try.func88 rfl rfl) fun args o r es h ho => by
  unfold power88 at h
  split at h
  · cases h; exact power_fnd2 _ _ _ ho.1 ho.2.1 ho.2.2.1
  · cases h
--@env dvR1 dvR1_ok
theorem inv0 (a : Fr) : fnRes dvR1 Try.f89 3000 [.v (.a [.ob (.s a)])] [] [] [] = (Option.some ([((0 : Int) ≤ (0 : Int)), ((0 : Int) < (4 : Int)), (0 < 4), ((0 : Int) ≤ (0 : Int)), ((0 : Int) < (4 : Int)), ((0 : Int) ≤ (1 : Int)), ((1 : Int) < (18446744073709551616 : Int)), ((Fin.ofNat rN 1) = (1 : Fr)), (4 ≤ 16), (lims [(18446744069414584319 : Int), (6034159408538082302 : Int), (3691218898639771653 : Int), (8353516859464449352 : Int)])], ((SV.v (V1.a [(It.ob (Ob.s (powN a 52435875175126190479447740508185965837690552500527637822603658699938581184511)))])), []))) := by kernel_rfl
theorem fadd0 (a b : U4) : fnRes dvR1 Try.f49 3000 [.v (.a [.ob (.fr a)]), .v (.a [.ob (.fr b)])] [] [] [] = (Option.some ([], ((SV.v (V1.a [(It.ob (Ob.fr (outF ((inF a) + (inF b)))))])), []))) := by kernel_rfl
theorem fmul0 (a b : U4) : fnRes dvR1 Try.f50 3000 [.v (.a [.ob (.fr a)]), .v (.a [.ob (.fr b)])] [] [] [] = (Option.some ([], ((SV.v (V1.a [(It.ob (Ob.fr (outF ((inF a) * (inF b)))))])), []))) := by kernel_rfl
theorem fcl0 (a : U4) : fnRes dvR1 Try.f55 3000 [.v (.a [.ob (.fr a)])] [] [] [] = (Option.some ([], ((SV.v (V1.a [(It.ob (Ob.fr (outF (inF a))))])), []))) := by kernel_rfl
theorem fpow0 (a b : U4) : fnRes dvR1 Try.f51 3000 [.v (.a [.ob (.fr a)]), .v (.a [.ob (.fr b)])] [] [] [] = (Option.some ([((0 : Int) ≤ (1 : Int)), ((1 : Int) < (18446744073709551616 : Int)), ((Fin.ofNat rN 1) = (1 : Fr)), (4 ≤ 16), (lims [(limb (Ob.n (Ob.fr b)) 0), (limb (Ob.n (Ob.fr b)) 1), (limb (Ob.n (Ob.fr b)) 2), (limb (Ob.n (Ob.fr b)) 3)])], ((SV.v (V1.a [(It.ob (Ob.fr (outF (powN (inF a) (numL [(limb (Ob.n (Ob.fr b)) 0), (limb (Ob.n (Ob.fr b)) 1), (limb (Ob.n (Ob.fr b)) 2), (limb (Ob.n (Ob.fr b)) 3)])))))])), []))) := by kernel_rfl

/-- 1 divided by it; 0 of 0. -/
def invF (a : Fr) : Fr := powN a (rN - 2)
theorem inv_fnd (a : Fr) : FnD Try.prog 89 [.v (.a [.ob (.s a)])] (.v (.a [.ob (.s (invF a))])) [] := by
  have e : 52435875175126190479447740508185965837690552500527637822603658699938581184511 = rN - 2 := by decide +kernel
  have r := inv0 a
  rw [e] at r
  refine fn_sound dvR1_ok Try.func89 r ⟨by decide, by decide, by decide, by decide, by decide, by decide, by decide, rfl, by decide, ?_, trivial⟩
  intro x hx
  simp only [List.mem_cons, List.not_mem_nil, or_false] at hx
  rcases hx with rfl | rfl | rfl | rfl <;> decide

theorem limbs_lims (n : Nat) : lims [limb n 0, limb n 1, limb n 2, limb n 3] := by
  have key : ∀ i, 0 ≤ limb n i ∧ limb n i < 18446744073709551616 := fun i => by unfold limb; omega
  intro x hx
  simp only [List.mem_cons, List.not_mem_nil, or_false] at hx
  rcases hx with rfl | rfl | rfl | rfl <;> exact key _

theorem limbs_numL (b : U4) : numL [limb (Ob.n (Ob.fr b)) 0, limb (Ob.n (Ob.fr b)) 1, limb (Ob.n (Ob.fr b)) 2, limb (Ob.n (Ob.fr b)) 3] = b.val := by
  have hb : b.val < 115792089237316195423570985008687907853269984665640564039457584007913129639936 := b.isLt
  have hn : Ob.n (Ob.fr b) = b.val := rfl
  rw [hn]
  generalize b.val = n at *
  simp only [numL, limb, Int.toNat_natCast]
  have e1 : n / 2 ^ (64 * 1) = n / 18446744073709551616 := rfl
  have e2 : n / 2 ^ (64 * 2) = n / 18446744073709551616 / 18446744073709551616 := by rw [Nat.div_div_eq_div_mul]
  have e3 : n / 2 ^ (64 * 3) = n / 18446744073709551616 / 18446744073709551616 / 18446744073709551616 := by rw [Nat.div_div_eq_div_mul, Nat.div_div_eq_div_mul]
  rw [e1, e2, e3]
  omega

theorem fpow_fnd (a b : U4) : FnD Try.prog 51 [.v (.a [.ob (.fr a)]), .v (.a [.ob (.fr b)])] (.v (.a [.ob (.fr (outF (powN (inF a) b.val)))])) [] := by
  have r := fpow0 a b
  rw [limbs_numL] at r
  exact fn_sound dvR1_ok Try.func51 r ⟨by decide, by decide, rfl, by decide, limbs_lims _, trivial⟩
def inv89Spec : FnSpec
  | [.v (.a [.ob (.s a)])] => some ([], .v (.a [.ob (.s (invF a))]), [])
  | _ => none
noncomputable def dvR2 : Env := dvR1.set (addT dvR1.fn 89 inv89Spec)
theorem dvR2_ok : EnvOk Try.prog dvR2 := env_add dvR1_ok 89 inv89Spec (enters_of Try.func89 rfl rfl) fun args o r es h _ => by
  unfold inv89Spec at h
  split at h
  · cases h; exact inv_fnd _
  · cases h
def fadd49 : FnSpec
  | [.v (.a [.ob (.fr a)]), .v (.a [.ob (.fr b)])] => some ([], .v (.a [.ob (.fr (outF (inF a + inF b)))]), [])
  | _ => none
noncomputable def dvR3 : Env := dvR2.set (addT dvR2.fn 49 fadd49)
theorem dvR3_ok : EnvOk Try.prog dvR3 := env_add dvR2_ok 49 fadd49 (enters_of Try.func49 rfl rfl) fun args o r es h _ => by
  unfold fadd49 at h
  split at h
  · cases h; exact fn_sound dvR1_ok Try.func49 (fadd0 _ _) trivial
  · cases h
def fmul50 : FnSpec
  | [.v (.a [.ob (.fr a)]), .v (.a [.ob (.fr b)])] => some ([], .v (.a [.ob (.fr (outF (inF a * inF b)))]), [])
  | _ => none
noncomputable def dvR4 : Env := dvR3.set (addT dvR3.fn 50 fmul50)
theorem dvR4_ok : EnvOk Try.prog dvR4 := env_add dvR3_ok 50 fmul50 (enters_of Try.func50 rfl rfl) fun args o r es h _ => by
  unfold fmul50 at h
  split at h
  · cases h; exact fn_sound dvR1_ok Try.func50 (fmul0 _ _) trivial
  · cases h
def fcl55 : FnSpec
  | [.v (.a [.ob (.fr a)])] => some ([], .v (.a [.ob (.fr (outF (inF a)))]), [])
  | _ => none
noncomputable def dvR5 : Env := dvR4.set (addT dvR4.fn 55 fcl55)
theorem dvR5_ok : EnvOk Try.prog dvR5 := env_add dvR4_ok 55 fcl55 (enters_of Try.func55 rfl rfl) fun args o r es h _ => by
  unfold fcl55 at h
  split at h
  · cases h; exact fn_sound dvR1_ok Try.func55 (fcl0 _) trivial
  · cases h
def fpow51 : FnSpec
  | [.v (.a [.ob (.fr a)]), .v (.a [.ob (.fr b)])] => some ([], .v (.a [.ob (.fr (outF (powN (inF a) b.val)))]), [])
  | _ => none
noncomputable def dvR : Env := dvR5.set (addT dvR5.fn 51 fpow51)
theorem dvR_ok : EnvOk Try.prog dvR := env_add dvR5_ok 51 fpow51 (enters_of Try.func51 rfl rfl) fun args o r es h _ => by
  unfold fpow51 at h
  split at h
  · cases h; exact fpow_fnd _ _
  · cases h
--@env dvR dvR_ok
theorem kfA (log : Int) (w s : U4) (l : List U4) : fnRes dvR Try.f54 3000 [.v (.a [.int .i64 log, .ob (.fr w)]), .v (.a [.ob (.fr s)]), .v (.c (.sl (.fr l)))] [true] [] [] = (Option.some ([((Bool.not (domOk log w)) = true)], ((SV.t [(V1.c (It.val (Value.slice Option.none 0 0))), (V1.c (It.int IntKind.i64 (40 : Int)))]), []))) := by kernel_rfl
theorem kfB (log : Int) (w s : U4) (l : List U4) : fnRes dvR Try.f54 3000 [.v (.a [.int .i64 log, .ob (.fr w)]), .v (.a [.ob (.fr s)]), .v (.c (.sl (.fr l)))] [false, true] [] [] = (Option.some ([((Bool.not (domOk log w)) = false), ((0 : Int) ≤ log), (((((List.length l) : Nat) : Int) != (IntKind.wrap IntKind.i64 ((1 : Int) * ((2 : Int) ^ (Min.min (log).toNat 64))))) = true)], ((SV.t [(V1.c (It.val (Value.slice Option.none 0 0))), (V1.c (It.int IntKind.i64 (3 : Int)))]), []))) := by kernel_rfl
theorem kfC (log : Int) (w s : U4) (l : List U4) : fnRes dvR Try.f54 3000 [.v (.a [.int .i64 log, .ob (.fr w)]), .v (.a [.ob (.fr s)]), .v (.c (.sl (.fr l)))] [false, false, true] [] [] = (Option.some ([((Bool.not (domOk log w)) = false), ((0 : Int) ≤ log), (((((List.length l) : Nat) : Int) != (IntKind.wrap IntKind.i64 ((1 : Int) * ((2 : Int) ^ (Min.min (log).toNat 64))))) = false), ((decide ((inF s) = (0 : Fr))) = true)], ((SV.t [(V1.c (It.val (Value.slice Option.none 0 0))), (V1.c (It.int IntKind.i64 (1 : Int)))]), []))) := by kernel_rfl
noncomputable def cfIn_k : List KI := (run dvR false 3000 ((fun (log : Int) (w s : U4) (l : List U4) => (⟨[.code (bodyOf Try.f54)], .normal, initSt Try.f54.ntmps [.v (.a [.int .i64 log, .ob (.fr w)]), .v (.a [.ob (.fr s)]), .v (.c (.sl (.fr l)))]⟩ : Cfg)) default default default default) [false, false, false]).cfg.k
theorem cfIn_hk (log : Int) (w s : U4) (l : List U4) : (run dvR false 3000 ((⟨[.code (bodyOf Try.f54)], .normal, initSt Try.f54.ntmps [.v (.a [.int .i64 log, .ob (.fr w)]), .v (.a [.ob (.fr s)]), .v (.c (.sl (.fr l)))]⟩ : Cfg)) [false, false, false]).cfg.k = cfIn_k := by kernel_rfl
theorem cfIn (log : Int) (w s : U4) (l : List U4) {w0 : World} {F0 : Nat → Prop} {K : Kp} {ac : List Act} {Q : Exit → Act → World → Prop} {cX : Ctx} {aX : Act} (ho : AllP [((Bool.not (domOk log w)) = false), ((0 : Int) ≤ log), (((((List.length l) : Nat) : Int) != (IntKind.wrap .i64 ((1 : Int) * ((2 : Int) ^ (Min.min (log).toNat 64))))) = false), ((decide ((inF s) = (0 : Fr))) = false), ((0 : Int) ≤ (((List.length l) : Nat) : Int)), ((((List.length l) : Nat) : Int) = (((List.length l) : Nat) : Int)), (((32 : Int) * (((List.length l) : Nat) : Int)) ≤ (281474976710656 : Int)), ((((List.length l) : Nat) : Int) ≤ (9223372036854775807 : Int))]) (hs : Sim w0 F0 K ac (initSt Try.f54.ntmps [.v (.a [.int .i64 log, .ob (.fr w)]), .v (.a [.ob (.fr s)]), .v (.c (.sl (.fr l)))]) cX aX) (hK : ∀ ac cY aY, Sim w0 F0 K ac (mkSt 82 [3, 8, 9, 34, 35, 36] [(.v (.c (.ptr 16 0))), (.v (.c (.ptr 112 0))), (.v (.c (.slc 400 0 ((((List.length l) : Nat) : Int)).toNat 4))), (.v (.c (.sl (.fr l)))), (.v (.c (.int .i64 (((List.length l) : Nat) : Int)))), (.v (.c (.int .i64 (0 : Int))))] [16, 112, 400] [(some (.fl [(.int .i64 log), (.ob (.fr w))])), (some (.fl [(.ob (.s (inF s)))])), (some (.sq (.s (List.replicate ((((List.length l) : Nat) : Int)).toNat (0 : Fr)))))] 480 [] []) cY aY → Wq Try.prog Q (cfIn_k) ac Exit.normal aY cY.w) : Wq Try.prog Q ([.code (bodyOf Try.f54)]) ac .normal aX cX.w :=
  run_at2 (o := ⟨_, _, _, _, _, _, _⟩) dvR_ok (by kernel_rfl) (cfIn_hk log w s l) ho hs hK
noncomputable def cfS (log : Int) (w s : U4) (l : List U4) (N : Nat) (L : List Fr) (i : Nat) : St := mkSt 82 [3, 8, 9, 34, 35, 36] [(SV.v (V1.c (It.ptr 16 0))), (SV.v (V1.c (It.ptr 112 0))), .v (.c (.slc 400 0 N 4)), (SV.v (V1.c (It.sl (Sq.fr l)))), .v (.c (.int .i64 (N : Int))), .v (.c (.int .i64 (i : Int)))] [16, 112, 400] [(Option.some (En.fl [(It.int IntKind.i64 log), (It.ob (Ob.fr w))])), (Option.some (En.fl [(It.ob (Ob.s (inF s)))])), some (.sq (.s L))] 480 [] []
theorem cfN_hk (log : Int) (w s : U4) (l : List U4) (N : Nat) (L : List Fr) (i : Nat) : (run dvR false 3000 ((⟨lpIn cfIn_k, .normal, cfS log w s l N L i⟩ : Cfg)) [true]).cfg.k = lpBk cfIn_k := by kernel_rfl
theorem cfN (log : Int) (w s : U4) (l : List U4) (N : Nat) (L : List Fr) (i : Nat) {w0 : World} {F0 : Nat → Prop} {K : Kp} {ac : List Act} {Q : Exit → Act → World → Prop} {cX : Ctx} {aX : Act} (ho : AllP [((decide (((i : Nat) : Int) < ((N : Nat) : Int))) = true), ((0 : Int) ≤ ((i : Nat) : Int)), (((i : Nat) : Int) < (((List.length l) : Nat) : Int)), ((0 : Int) ≤ ((i : Nat) : Int)), (((i : Nat) : Int) < ((N : Nat) : Int)), (0 = 0), ((((i : Nat) : Int)).toNat < (List.length L))]) (hs : Sim w0 F0 K ac (cfS log w s l N L i) cX aX) (hK : ∀ ac cY aY, Sim w0 F0 K ac (mkSt 82 [3, 8, 9, 34, 35, 36] [(.v (.c (.ptr 16 0))), (.v (.c (.ptr 112 0))), (.v (.c (.slc 400 0 N 4))), (.v (.c (.sl (.fr l)))), (.v (.c (.int .i64 ((N : Nat) : Int)))), (.v (.c (.int .i64 (IntKind.wrap .i64 (((i : Nat) : Int) + (1 : Int))))))] [16, 112, 400] [(some (.fl [(.int .i64 log), (.ob (.fr w))])), (some (.fl [(.ob (.s (inF s)))])), (some (.sq (.s (List.set L (((i : Nat) : Int)).toNat (inF (List.getD l (((i : Nat) : Int)).toNat (0 : U4)))))))] 720 [] []) cY aY → Wq Try.prog Q (lpBk cfIn_k) ac Exit.normal aY cY.w) : Wq Try.prog Q (lpIn cfIn_k) ac .normal aX cX.w :=
  run_at2 (o := ⟨_, _, _, _, _, _, _⟩) dvR_ok (by kernel_rfl) (cfN_hk log w s l N L i) ho hs hK
noncomputable def cgIn_k : List KI := (run dvR false 3000 ((fun (log : Int) (w s : U4) (l : List U4) (N : Nat) (L : List Fr) (i : Nat) => (⟨lpIn cfIn_k, .normal, cfS log w s l N L i⟩ : Cfg)) default default default default default default default) [false]).cfg.k
theorem cgIn_hk (log : Int) (w s : U4) (l : List U4) (N : Nat) (L : List Fr) (i : Nat) : (run dvR false 3000 ((⟨lpIn cfIn_k, .normal, cfS log w s l N L i⟩ : Cfg)) [false]).cfg.k = cgIn_k := by kernel_rfl
theorem cgIn (log : Int) (w s : U4) (l : List U4) (N : Nat) (L : List Fr) (i : Nat) {w0 : World} {F0 : Nat → Prop} {K : Kp} {ac : List Act} {Q : Exit → Act → World → Prop} {cX : Ctx} {aX : Act} (ho : AllP [((decide (((i : Nat) : Int) < ((N : Nat) : Int))) = false), ((0 : Int) ≤ log), (log ≤ (16 : Int)), (N = (2 ^ (log).toNat)), ((List.length L) = N), (halfNeg log (invF (inF w))), ((0 : Int) ≤ (IntKind.wrap .u64 ((N : Nat) : Int))), ((IntKind.wrap .u64 ((N : Nat) : Int)) < (18446744073709551616 : Int))]) (hs : Sim w0 F0 K ac (cfS log w s l N L i) cX aX) (hK : ∀ ac cY aY, Sim w0 F0 K ac (mkSt 82 [9, 12, 13, 63, 64] [(.v (.c (.slc 400 0 N 4))), (.v (.c (.ptr 704 0))), (.v (.c (.ptr 768 0))), (.v (.c (.int .i64 ((N : Nat) : Int)))), (.v (.c (.int .i64 (0 : Int))))] [400, 704, 768] [(some (.sq (.s (ntt L (invF (inF w)) N)))), (some (.fl [(.ob (.s (invF (Fin.ofNat rN ((IntKind.wrap .u64 ((N : Nat) : Int))).toNat))))])), (some (.fl [(.ob (.s (invF (inF s))))]))] 848 [] []) cY aY → Wq Try.prog Q (cgIn_k) ac Exit.normal aY cY.w) : Wq Try.prog Q (lpIn cfIn_k) ac .normal aX cX.w :=
  run_at2 (o := ⟨_, _, _, _, _, _, _⟩) dvR_ok (by kernel_rfl) (cgIn_hk log w s l N L i) ho hs hK
noncomputable def chS (N : Nat) (L : List Fr) (x b : Fr) (i : Nat) : St := mkSt 82 [9, 12, 13, 63, 64] [.v (.c (.slc 400 0 N 4)), (SV.v (V1.c (It.ptr 704 0))), (SV.v (V1.c (It.ptr 768 0))), .v (.c (.int .i64 (N : Int))), .v (.c (.int .i64 (i : Int)))] [400, 704, 768] [some (.sq (.s L)), some (.fl [.ob (.s x)]), some (.fl [.ob (.s b)])] 848 [] []
theorem chN_hk (N : Nat) (L : List Fr) (x b : Fr) (i : Nat) : (run dvR false 3000 ((⟨lpIn cgIn_k, .normal, chS N L x b i⟩ : Cfg)) [true]).cfg.k = lpBk cgIn_k := by kernel_rfl
theorem chN (N : Nat) (L : List Fr) (x b : Fr) (i : Nat) {w0 : World} {F0 : Nat → Prop} {K : Kp} {ac : List Act} {Q : Exit → Act → World → Prop} {cX : Ctx} {aX : Act} (ho : AllP [((decide (((i : Nat) : Int) < ((N : Nat) : Int))) = true), ((0 : Int) ≤ ((i : Nat) : Int)), (((i : Nat) : Int) < ((N : Nat) : Int)), (0 = 0), ((((i : Nat) : Int)).toNat < (List.length L)), ((0 : Int) ≤ ((i : Nat) : Int)), (((i : Nat) : Int) < ((N : Nat) : Int)), (0 = 0), ((((i : Nat) : Int)).toNat < (List.length L))]) (hs : Sim w0 F0 K ac (chS N L x b i) cX aX) (hK : ∀ ac cY aY, Sim w0 F0 K ac (mkSt 82 [9, 12, 13, 63, 64] [(.v (.c (.slc 400 0 N 4))), (.v (.c (.ptr 704 0))), (.v (.c (.ptr 768 0))), (.v (.c (.int .i64 ((N : Nat) : Int)))), (.v (.c (.int .i64 (IntKind.wrap .i64 (((i : Nat) : Int) + (1 : Int))))))] [400, 704, 768] [(some (.sq (.s (List.set L (((i : Nat) : Int)).toNat ((List.getD L (((i : Nat) : Int)).toNat (0 : Fr)) * x))))), (some (.fl [(.ob (.s (x * b)))])), (some (.fl [(.ob (.s b))]))] 1152 [] []) cY aY → Wq Try.prog Q (lpBk cgIn_k) ac Exit.normal aY cY.w) : Wq Try.prog Q (lpIn cgIn_k) ac .normal aX cX.w :=
  run_at2 (o := ⟨_, _, _, _, _, _, _⟩) dvR_ok (by kernel_rfl) (chN_hk N L x b i) ho hs hK
theorem chX_end (N : Nat) (L : List Fr) (x b : Fr) (i : Nat) : runEnd dvR Try.f54 false 3000 (⟨lpIn cgIn_k, .normal, chS N L x b i⟩) [false] [880] [] = (Option.some ([((decide (((i : Nat) : Int) < ((N : Nat) : Int))) = false), (0 = 0), (N = (List.length L)), (4 = 4), ((List.length L) ≤ 8796093022208)], ((SV.t [(V1.c (It.slc 0 0 (List.length L) 4)), (V1.c (It.int IntKind.i64 (0 : Int)))]), [(En.sq (Sq.fr (List.map outF L)))]))) := by kernel_rfl
end Go.Proofs.Ytlfllehomhcbfaa

/- Coefficients of values: contract; values and coefficients, there and back. No conditions. -/
namespace Go.Proofs.Ytlfllehomhcbfaa

theorem pw_powN (x : Fr) : ∀ n, pw x n = powN x n
  | 0 => rfl
  | n + 1 => by
    show pw x n * x = powN x n * x
    rw [pw_powN x n]

theorem invF_mul {x : Fr} (h : x ≠ 0) : x * invF x = 1 := by
  have := pinv_mul x h
  unfold pinv at this
  rw [pw_powN] at this
  exact this

theorem fr_mul_comm (x y : Fr) : x * y = y * x := mul_comm_g x y
theorem fr_mul_assoc (x y z : Fr) : x * y * z = x * (y * z) := mul_assoc_g x y z
theorem fr_one_mul (x : Fr) : 1 * x = x := one_mul_g x
theorem fr_one_ne : (1 : Fr) ≠ 0 := by decide

theorem dom_root {log : Int} {w : U4} (h : domOk log w = true) : powN (inF w) (2 ^ log.toNat) = 1 := by
  obtain ⟨h0, h1, rfl⟩ := domOk_log h
  rw [in_out, sqN_pow, powN_powN, ← Nat.pow_add, show (32 - log).toNat + log.toNat = 32 from by omega, ← sqN_pow]
  exact root32

theorem pow_zero : ∀ {n : Nat}, 0 < n → powN (0 : Fr) n = 0
  | n + 1, _ => by
    show powN 0 n * 0 = 0
    exact fr_mul_zero _

theorem dom_ne {log : Int} {w : U4} (h : domOk log w = true) : inF w ≠ 0 := fun e => by
  have h1 := dom_root h
  rw [e, pow_zero (Nat.two_pow_pos _)] at h1
  exact fr_one_ne h1.symm

theorem neg_inv {a b : Fr} (h : a * b = 1) (hb : b = -1) : a = -1 := neg_inv_g h hb

theorem half_inv {log : Int} {w : U4} (h : domOk log w = true) : halfNeg log (invF (inF w)) := by
  intro hp
  have h1 := dom_half h hp
  have h2 := invF_mul (dom_ne h)
  have h3 : powN (invF (inF w)) (2 ^ (log.toNat - 1)) * powN (inF w) (2 ^ (log.toNat - 1)) = 1 := by
    rw [← powN_mul, fr_mul_comm, h2, ← pw_powN, pw_one_g]
  exact neg_inv h3 h1

/-- The coefficients of values. -/
def coefsF (n : Nat) (w s : Fr) (V : List Fr) : List Fr := tab n (fun i => sm (fun j => V.getD j 0 * powN (invF w) (i * j)) n * (invF (Fin.ofNat rN n) * powN (invF s) i))
theorem coefsF_len (n : Nat) (w s : Fr) (V : List Fr) : (coefsF n w s V).length = n := tab_len _ _

theorem coefs_fnd (log : Int) (w s : U4) (l : List U4) (hd : domOk log w = true) (hl : l.length = 2 ^ log.toNat) (hs0 : inF s ≠ 0) :
    FnD Try.prog 54 [.v (.a [.int .i64 log, .ob (.fr w)]), .v (.a [.ob (.fr s)]), .v (.c (.sl (.fr l)))] (.t [.c (.slc 0 0 (2 ^ log.toNat) 4), .c (.int .i64 0)]) [.sq (.fr ((coefsF (2 ^ log.toNat) (inF w) (inF s) (l.map inF)).map outF))] := by
  obtain ⟨h0, h1, _⟩ := domOk_log hd
  have hhalf := half_inv hd
  have hp2 : 2 ^ log.toNat ≤ 2 ^ 16 := Nat.pow_le_pow_right (by decide) (by omega)
  have hsh := shl3 h0 h1
  obtain ⟨N, hN⟩ : ∃ N, N = 2 ^ log.toNat := ⟨_, rfl⟩
  rw [← hN] at hl hp2 hsh ⊢
  refine fn_start (fn := Try.f54) (c := bodyOf Try.f54) Try.func54 rfl rfl fun x a hk hF hs => ?_
  refine cfIn log w s l ⟨by rw [hd]; rfl, h0, by rw [hsh, hl]; simp, decide_eq_false hs0, by omega, rfl, by omega, by omega, trivial⟩ hs fun ac cY aY hs1 => ?_
  rw [Int.toNat_natCast, hl] at hs1
  refine loop_rule (ι := { i : Nat // i ≤ N }) (fun i => cfS log w s l N ((List.range i.1).map (fun j => inF (l.getD j 0)) ++ List.replicate (N - i.1) 0) i.1) (fun i => N - i.1) (c := lpC cfIn_k) (k := lpR cfIn_k) (by kernel_rfl) (fun i ih ac cY aY hs => ?_) ⟨0, Nat.zero_le _⟩ hs1
  obtain ⟨i, hi⟩ := i
  simp only at ih hs
  have hlen := fill_len (fun j => inF (l.getD j 0)) 0 hi
  by_cases h : i < N
  · refine cfN log w s l N _ i ⟨by simp [h], by omega, by omega, by omega, by omega, rfl, by rw [hlen]; omega, trivial⟩ hs fun ac cZ aZ hs2 => ?_
    rw [Int.toNat_natCast, fill_set (fun j => inF (l.getD j 0)) _ h, wrap_id (by omega) (by omega)] at hs2
    exact ih ⟨i + 1, by omega⟩ (by show N - (i + 1) < N - i; omega) ac cZ aZ (hs2.nx _)
  · have e : i = N := by omega
    subst e
    rw [Nat.sub_self, List.replicate_zero, List.append_nil] at hs
    have hV : (List.range i).map (fun j => inF (l.getD j 0)) = l.map inF := by rw [← hl]; exact range_getD inF l 0
    rw [hV] at hs
    have hVl : (l.map inF).length = i := by rw [List.length_map, hl]
    refine cgIn log w s l i _ i ⟨by simp, h0, h1, hN, hVl, hhalf, by rw [wrap_u (by omega) (by omega)]; omega, by rw [wrap_u (by omega) (by omega)]; omega, trivial⟩ hs fun ac cZ aZ hs2 => ?_
    rw [wrap_u (by omega) (by omega), Int.toNat_natCast] at hs2
    let A : Nat → Fr := fun q => sm (fun j => (l.map inF).getD j 0 * powN (invF (inF w)) (q * j)) i
    have hA : ntt (l.map inF) (invF (inF w)) i = tab i A := rfl
    rw [hA] at hs2
    let X : Nat → Fr := fun q => invF (Fin.ofNat rN i) * powN (invF (inF s)) q
    have hX0 : X 0 = invF (Fin.ofNat rN i) := fr_mul_one _
    rw [← hX0] at hs2
    have e0 : tab i (fun q => if q < 0 then A q * X q else A q) = tab i A := tab_congr fun q _ => if_neg (Nat.not_lt_zero q)
    rw [← e0] at hs2
    refine loop_rule (ι := { q : Nat // q ≤ i }) (fun k => chS i (tab i (fun q => if q < k.1 then A q * X q else A q)) (X k.1) (invF (inF s)) k.1) (fun k => i - k.1) (c := lpC cgIn_k) (k := lpR cgIn_k) (by kernel_rfl) (fun k ih ac cY aY hs => ?_) ⟨0, Nat.zero_le _⟩ (hs2.nx _)
    · obtain ⟨k, hk1⟩ := k
      simp only at ih hs
      have htl : (tab i (fun q => if q < k then A q * X q else A q)).length = i := tab_len _ _
      by_cases h2 : k < i
      · refine chN i _ _ _ k ⟨by simp [h2], by omega, by omega, rfl, by rw [htl]; omega, by omega, by omega, rfl, by rw [htl]; omega, trivial⟩ hs fun ac cV aV hs3 => ?_
        have hX : X k * invF (inF s) = X (k + 1) := fr_mul_assoc _ _ _
        have hset : tab i (fun q => if q = k then (if k < k then A k * X k else A k) * X k else if q < k then A q * X q else A q) = tab i (fun q => if q < k + 1 then A q * X q else A q) := tab_congr fun q _ => by
          by_cases g1 : q = k
          · subst g1; simp
          · by_cases g2 : q < k
            · rw [if_neg g1, if_pos g2, if_pos (by omega)]
            · rw [if_neg g1, if_neg g2, if_neg (by omega)]
        rw [Int.toNat_natCast, tab_get h2, tab_set, hX, hset, wrap_id (by omega) (by omega)] at hs3
        exact ih ⟨k + 1, by omega⟩ (by show i - (k + 1) < i - k; omega) ac cV aV (hs3.nx _)
      · have e2 : k = i := by omega
        subst e2
        have r := chX_end k (tab k (fun q => if q < k then A q * X q else A q)) (X k) (invF (inF s)) k
        have hC : tab k (fun q => if q < k then A q * X q else A q) = coefsF k (inF w) (inF s) (l.map inF) := tab_congr fun q hq => if_pos hq
        rw [htl, hC] at r
        rw [hC] at hs
        exact run_end2 dvR_ok hk hF r ⟨by simp, rfl, rfl, rfl, by omega, trivial⟩ (fun y v hd => hd) hs

/-- What is told of whatever values. -/
def cfE (log : Int) (w s : U4) (l : List U4) : Int := if domOk log w then (if l.length = 2 ^ log.toNat then (if inF s = 0 then 1 else 0) else 3) else 40
def cfL (log : Int) (w s : U4) (l : List U4) : List U4 := if domOk log w = true ∧ l.length = 2 ^ log.toNat ∧ inF s ≠ 0 then (coefsF (2 ^ log.toNat) (inF w) (inF s) (l.map inF)).map outF else []

theorem coefs_all (log : Int) (w s : U4) (l : List U4) :
    FnD Try.prog 54 [.v (.a [.int .i64 log, .ob (.fr w)]), .v (.a [.ob (.fr s)]), .v (.c (.sl (.fr l)))] (.t [.c (.slc 0 0 (cfL log w s l).length 4), .c (.int .i64 (cfE log w s l))]) [.sq (.fr (cfL log w s l))] := by
  unfold cfE cfL
  cases hd : domOk log w with
  | false =>
    rw [if_neg (by simp), if_neg (by simp)]
    exact (fn_sound dvR_ok Try.func54 (kfA log w s l) ⟨by rw [hd]; rfl, trivial⟩).nil2 rfl
  | true =>
    obtain ⟨h0, h1, _⟩ := domOk_log hd
    have hsh := shl3 h0 h1
    by_cases hl : l.length = 2 ^ log.toNat
    · have hne : ((((l.length : Nat) : Int)) != (IntKind.wrap IntKind.i64 ((1 : Int) * ((2 : Int) ^ (Min.min (log).toNat 64))))) = false := by rw [hsh, hl]; simp
      by_cases hs : inF s = 0
      · rw [if_pos rfl, if_pos hl, if_pos hs, if_neg (fun h => h.2.2 hs)]
        exact (fn_sound dvR_ok Try.func54 (kfC log w s l) ⟨by rw [hd]; rfl, h0, hne, decide_eq_true hs, trivial⟩).nil2 rfl
      · rw [if_pos rfl, if_pos hl, if_neg hs, if_pos ⟨rfl, hl, hs⟩, List.length_map, coefsF_len]
        exact coefs_fnd log w s l hd hl hs
    · rw [if_pos rfl, if_neg hl, if_neg (fun h => hl h.2.1)]
      refine (fn_sound dvR_ok Try.func54 (kfB log w s l) ⟨by rw [hd]; rfl, h0, ?_, trivial⟩).nil2 rfl
      rw [hsh]
      simp only [bne_iff_ne, ne_eq]
      omega

/-! There and back. -/
section
variable {log : Int} {w : U4}

theorem dom_two (h : domOk log w = true) {d : Nat} (h0 : 0 < d) (hd : d < 2 ^ log.toNat) : pw (inF w) d ≠ 1 :=
  two_less r_gt log.toNat (fun hk => by rw [pw_powN]; exact dom_half h (by omega)) h0 hd
theorem dom_two_inv (h : domOk log w = true) {d : Nat} (h0 : 0 < d) (hd : d < 2 ^ log.toNat) : pw (invF (inF w)) d ≠ 1 :=
  two_less r_gt log.toNat (fun hk => by rw [pw_powN]; exact half_inv h (by omega)) h0 hd
theorem dom_wn (h : domOk log w = true) : pw (inF w) (2 ^ log.toNat) = 1 := by rw [pw_powN]; exact dom_root h
theorem dom_un (h : domOk log w = true) : pw (invF (inF w)) (2 ^ log.toNat) = 1 := by
  have h1 := pw_both (invF_mul (dom_ne h)) (2 ^ log.toNat)
  rw [dom_wn h, fr_one_mul] at h1
  exact h1

theorem len_inv {n : Nat} (h0 : 0 < n) (h : n < rN) : sm (fun _ => (1 : Fr)) n * invF (Fin.ofNat rN n) = 1 := by
  have e : sm (fun _ => (1 : Fr)) n = Fin.ofNat rN n := by
    apply Fin.ext
    rw [dft_len h n (Nat.le_refl _)]
    exact (Nat.mod_eq_of_lt h).symm
  rw [e]
  refine invF_mul fun he => ?_
  have := congrArg Fin.val he
  have h1 : (Fin.ofNat rN n).val = n := Nat.mod_eq_of_lt h
  have h2 : ((0 : Fr)).val = 0 := rfl
  rw [h1, h2] at this
  omega

theorem dom_lt (h : domOk log w = true) : 2 ^ log.toNat < rN := by
  obtain ⟨h0, h1, _⟩ := domOk_log h
  have hp2 : 2 ^ log.toNat ≤ 2 ^ 16 := Nat.pow_le_pow_right (by decide) (by omega)
  exact Nat.lt_of_le_of_lt hp2 (by decide)

theorem back_alg {S x sj bj c P : Fr} (h1 : S * x = 1) (h2 : sj * bj = 1) (hc : c = P * S) : c * (x * bj) * sj = P := back_alg_g h1 h2 hc
theorem move_alg {A x bj sj W : Fr} (h2 : sj * bj = 1) : A * (x * bj) * (sj * W) = x * (A * W) := move_alg_g h2

/-- The values of the coefficients are the values. -/
theorem vals_of_coefs (h : domOk log w = true) {s : Fr} (hs : s ≠ 0) {V : List Fr} (hV : V.length = 2 ^ log.toNat) : valsF (2 ^ log.toNat) (inF w) s (coefsF (2 ^ log.toNat) (inF w) s V) = V := by
  have hlt := dom_lt h
  have hpos := Nat.two_pow_pos log.toNat
  have hinv := len_inv hpos hlt
  have hdft := fun q (hq : q < 2 ^ log.toNat) => dft_inv r_inv (invF_mul (dom_ne h)) (dom_wn h) (fun d h0 h1 => dom_two h h0 h1) (fun j => V.getD j 0) (q := q) hq
  generalize 2 ^ log.toNat = n at *
  have e1 : V = tab n (fun q => V.getD q 0) := by rw [← hV]; exact tab_self V
  rw [e1]
  unfold valsF
  refine tab_congr fun q hq => ?_
  rw [← e1]
  unfold evalF
  rw [coefsF_len]
  have e2 : ∀ j, j < n → (coefsF n (inF w) s V).getD j 0 * powN (s * powN (inF w) q) j = invF (Fin.ofNat rN n) * (sm (fun k => V.getD k 0 * pw (invF (inF w)) (j * k)) n * pw (inF w) (q * j)) := fun j hj => by
    have hsb : powN s j * powN (invF s) j = 1 := by
      rw [← powN_mul, invF_mul hs, ← pw_powN, pw_one_g]
    unfold coefsF
    rw [tab_get hj, powN_mul, powN_powN, move_alg hsb, pw_powN]
    simp only [pw_powN]
  rw [sm_congr n e2, sm_mul, hdft q hq, fr_mul_comm, fr_mul_assoc, hinv]
  exact fr_mul_one _

/-- The coefficients of the values are the coefficients. -/
theorem coefs_of_vals (h : domOk log w = true) {s : Fr} (hs : s ≠ 0) {L : List Fr} (hL : L.length = 2 ^ log.toNat) : coefsF (2 ^ log.toNat) (inF w) s (valsF (2 ^ log.toNat) (inF w) s L) = L := by
  have hlt := dom_lt h
  have hpos := Nat.two_pow_pos log.toNat
  have hinv := len_inv hpos hlt
  have hdft := fun q (hq : q < 2 ^ log.toNat) => dft_inv r_inv (w := invF (inF w)) (u := inF w) (by rw [fr_mul_comm]; exact invF_mul (dom_ne h)) (dom_un h) (fun d h0 h1 => dom_two_inv h h0 h1) (fun j => L.getD j 0 * powN s j) (q := q) hq
  generalize 2 ^ log.toNat = n at *
  have e1 : L = tab n (fun q => L.getD q 0) := by rw [← hL]; exact tab_self L
  rw [e1]
  unfold coefsF
  refine tab_congr fun i hi => ?_
  rw [← e1]
  have hsb : powN s i * powN (invF s) i = 1 := by
    rw [← powN_mul, invF_mul hs, ← pw_powN, pw_one_g]
  have e2 : ∀ j, j < n → (valsF n (inF w) s L).getD j 0 * powN (invF (inF w)) (i * j) = sm (fun k => L.getD k 0 * powN s k * pw (inF w) (j * k)) n * pw (invF (inF w)) (i * j) := fun j hj => by
    unfold valsF
    rw [tab_get hj, pw_powN]
    unfold evalF
    rw [hL]
    refine congrArg (fun z => z * powN (invF (inF w)) (i * j)) (sm_congr n fun k _ => ?_)
    rw [powN_mul, powN_powN, pw_powN]
    exact (fr_mul_assoc _ _ _).symm
  rw [sm_congr n e2, hdft i hi]
  exact fin_alg_g hinv hsb
end

end Go.Proofs.Ytlfllehomhcbfaa

/- DomainMultiplies, walked. No conditions. -/
namespace Go.Proofs.Ytlfllehomhcbfaa

--@env dvR dvR_ok
noncomputable def dmIn_k : List KI := (run dvR false 18 ((fun (log : Int) (s : U4) (a b : List U4) => (⟨[.code (bodyOf Try.f8)], .normal, initSt Try.f8.ntmps [.v (.c (.int .i64 log)), .v (.a [.ob (.fr s)]), .v (.c (.sl (.fr a))), .v (.c (.sl (.fr b)))]⟩ : Cfg)) default default default default) []).cfg.k
theorem dmIn_hk (log : Int) (s : U4) (a b : List U4) : (run dvR false 18 ((⟨[.code (bodyOf Try.f8)], .normal, initSt Try.f8.ntmps [.v (.c (.int .i64 log)), .v (.a [.ob (.fr s)]), .v (.c (.sl (.fr a))), .v (.c (.sl (.fr b)))]⟩ : Cfg)) []).cfg.k = dmIn_k := by kernel_rfl
theorem dmIn (log : Int) (s : U4) (a b : List U4) {w0 : World} {F0 : Nat → Prop} {K : Kp} {ac : List Act} {Q : Exit → Act → World → Prop} {cX : Ctx} {aX : Act} (ho : AllP []) (hs : Sim w0 F0 K ac (initSt Try.f8.ntmps [.v (.c (.int .i64 log)), .v (.a [.ob (.fr s)]), .v (.c (.sl (.fr a))), .v (.c (.sl (.fr b)))]) cX aX) (hK : ∀ ac cY aY, Sim w0 F0 K ac (mkSt 157 [2, 3, 5, 9, 10] [(.v (.c (.sl (.fr a)))), (.v (.c (.sl (.fr b)))), (.v (.c (.ptr 16 0))), (.v (.c (.ptr 160 0))), (.v (.c (.int .i64 (ite ((okLog (ite ((6 : Int) < (ite ((0 : Int) > log) (0 : Int) log)) (6 : Int) (ite ((0 : Int) > log) (0 : Int) log))) = true) (0 : Int) (40 : Int)))))] [16, 160] [(some (.fl [(.ob (.fr s))])), (some (.fl [(.int .i64 (ite ((okLog (ite ((6 : Int) < (ite ((0 : Int) > log) (0 : Int) log)) (6 : Int) (ite ((0 : Int) > log) (0 : Int) log))) = true) (ite ((6 : Int) < (ite ((0 : Int) > log) (0 : Int) log)) (6 : Int) (ite ((0 : Int) > log) (0 : Int) log)) (0 : Int))), (.ob (.fr (newRoot (ite ((6 : Int) < (ite ((0 : Int) > log) (0 : Int) log)) (6 : Int) (ite ((0 : Int) > log) (0 : Int) log)))))]))] 208 [] []) cY aY → Wq Try.prog Q (dmIn_k) ac Exit.normal aY cY.w) : Wq Try.prog Q ([.code (bodyOf Try.f8)]) ac .normal aX cX.w :=
  run_at2 (o := ⟨_, _, _, _, _, _, _⟩) dvR_ok (by kernel_rfl) (dmIn_hk log s a b) ho hs hK
noncomputable def dmA (m : Int) (w s : U4) (a b : List U4) : St := mkSt 157 [2, 3, 5, 9, 10] [(SV.v (V1.c (It.sl (Sq.fr a)))), (SV.v (V1.c (It.sl (Sq.fr b)))), (SV.v (V1.c (It.ptr 16 0))), (SV.v (V1.c (It.ptr 160 0))), .v (.c (.int .i64 0))] [16, 160] [(Option.some (En.fl [(It.ob (Ob.fr s))])), some (.fl [.int .i64 m, .ob (.fr w)])] 208 [] []
noncomputable def dmB_k : List KI := (run dvR false 7 ((fun (m : Int) (w s : U4) (a b : List U4) => (⟨dmIn_k, .normal, dmA m w s a b⟩ : Cfg)) default default default default default) []).cfg.k
theorem dmB_hk (m : Int) (w s : U4) (a b : List U4) : (run dvR false 7 ((⟨dmIn_k, .normal, dmA m w s a b⟩ : Cfg)) []).cfg.k = dmB_k := by kernel_rfl
theorem dmB (m : Int) (w s : U4) (a b : List U4) {w0 : World} {F0 : Nat → Prop} {K : Kp} {ac : List Act} {Q : Exit → Act → World → Prop} {cX : Ctx} {aX : Act} (ho : AllP [((0 : Int) ≤ m)]) (hs : Sim w0 F0 K ac (dmA m w s a b) cX aX) (hK : ∀ ac cY aY, Sim w0 F0 K ac (mkSt 157 [2, 3, 5, 9, 10, 11] [(.v (.c (.sl (.fr a)))), (.v (.c (.sl (.fr b)))), (.v (.c (.ptr 16 0))), (.v (.c (.ptr 160 0))), (.v (.c (.int .i64 (0 : Int)))), (.v (.c (.int .i64 (IntKind.wrap .i64 ((1 : Int) * ((2 : Int) ^ (Min.min (m).toNat 64)))))))] [16, 160] [(some (.fl [(.ob (.fr s))])), (some (.fl [(.int .i64 m), (.ob (.fr w))]))] 272 [] []) cY aY → Wq Try.prog Q (dmB_k) ac Exit.normal aY cY.w) : Wq Try.prog Q (dmIn_k) ac .normal aX cX.w :=
  run_at2 (o := ⟨_, _, _, _, _, _, _⟩) dvR_ok (by kernel_rfl) (dmB_hk m w s a b) ho hs hK
noncomputable def dmBS (m n : Int) (w s : U4) (a b : List U4) : St := mkSt 157 [2, 3, 5, 9, 10, 11] [(SV.v (V1.c (It.sl (Sq.fr a)))), (SV.v (V1.c (It.sl (Sq.fr b)))), (SV.v (V1.c (It.ptr 16 0))), (SV.v (V1.c (It.ptr 160 0))), (SV.v (V1.c (It.int IntKind.i64 (0 : Int)))), .v (.c (.int .i64 n))] [16, 160] [(Option.some (En.fl [(It.ob (Ob.fr s))])), (Option.some (En.fl [(It.int IntKind.i64 m), (It.ob (Ob.fr w))]))] 272 [] []
noncomputable def dmC_k : List KI := (run dvR false 30 ((fun (m n : Int) (w s : U4) (a b : List U4) => (⟨dmB_k, .normal, dmBS m n w s a b⟩ : Cfg)) default default default default default default) []).cfg.k
theorem dmC_hk (m n : Int) (w s : U4) (a b : List U4) : (run dvR false 30 ((⟨dmB_k, .normal, dmBS m n w s a b⟩ : Cfg)) []).cfg.k = dmC_k := by kernel_rfl
theorem dmC (m n : Int) (w s : U4) (a b : List U4) {w0 : World} {F0 : Nat → Prop} {K : Kp} {ac : List Act} {Q : Exit → Act → World → Prop} {cX : Ctx} {aX : Act} (ho : AllP [((2 : Int) ≠ (0 : Int)), ((0 : Int) ≤ (ite ((IntKind.wrap .i64 (Int.tdiv n (2 : Int))) < (((List.length a) : Nat) : Int)) (IntKind.wrap .i64 (Int.tdiv n (2 : Int))) (((List.length a) : Nat) : Int))), ((ite ((IntKind.wrap .i64 (Int.tdiv n (2 : Int))) < (((List.length a) : Nat) : Int)) (IntKind.wrap .i64 (Int.tdiv n (2 : Int))) (((List.length a) : Nat) : Int)) ≤ (((List.length a) : Nat) : Int)), ((2 : Int) ≠ (0 : Int)), ((0 : Int) ≤ (ite ((IntKind.wrap .i64 (n - (IntKind.wrap .i64 (Int.tdiv n (2 : Int))))) < (((List.length b) : Nat) : Int)) (IntKind.wrap .i64 (n - (IntKind.wrap .i64 (Int.tdiv n (2 : Int))))) (((List.length b) : Nat) : Int))), ((ite ((IntKind.wrap .i64 (n - (IntKind.wrap .i64 (Int.tdiv n (2 : Int))))) < (((List.length b) : Nat) : Int)) (IntKind.wrap .i64 (n - (IntKind.wrap .i64 (Int.tdiv n (2 : Int))))) (((List.length b) : Nat) : Int)) ≤ (((List.length b) : Nat) : Int)), ((0 : Int) ≤ n), (n = n), (((32 : Int) * n) ≤ (281474976710656 : Int)), (n ≤ (9223372036854775807 : Int))]) (hs : Sim w0 F0 K ac (dmBS m n w s a b) cX aX) (hK : ∀ ac cY aY, Sim w0 F0 K ac (mkSt 157 [2, 3, 5, 9, 10, 11, 12] [(.v (.c (.sl (.fr (List.take ((ite ((IntKind.wrap .i64 (Int.tdiv n (2 : Int))) < (((List.length a) : Nat) : Int)) (IntKind.wrap .i64 (Int.tdiv n (2 : Int))) (((List.length a) : Nat) : Int))).toNat (List.drop 0 a)))))), (.v (.c (.sl (.fr (List.take ((ite ((IntKind.wrap .i64 (n - (IntKind.wrap .i64 (Int.tdiv n (2 : Int))))) < (((List.length b) : Nat) : Int)) (IntKind.wrap .i64 (n - (IntKind.wrap .i64 (Int.tdiv n (2 : Int))))) (((List.length b) : Nat) : Int))).toNat (List.drop 0 b)))))), (.v (.c (.ptr 16 0))), (.v (.c (.ptr 160 0))), (.v (.c (.int .i64 (0 : Int)))), (.v (.c (.int .i64 n))), (.v (.c (.slc 576 0 (n).toNat 4)))] [16, 160, 576] [(some (.fl [(.ob (.fr s))])), (some (.fl [(.int .i64 m), (.ob (.fr w))])), (some (.sq (.fr (List.replicate (n).toNat (0 : U4)))))] 608 [] []) cY aY → Wq Try.prog Q (dmC_k) ac Exit.normal aY cY.w) : Wq Try.prog Q (dmB_k) ac .normal aX cX.w :=
  run_at2 (o := ⟨_, _, _, _, _, _, _⟩) dvR_ok (by kernel_rfl) (dmC_hk m n w s a b) ho hs hK
noncomputable def dmCS (m : Int) (w s : U4) (A B : List U4) (n : Nat) (P : List U4) : St := mkSt 157 [2, 3, 5, 9, 10, 11, 12] [.v (.c (.sl (.fr A))), .v (.c (.sl (.fr B))), (SV.v (V1.c (It.ptr 16 0))), (SV.v (V1.c (It.ptr 160 0))), (SV.v (V1.c (It.int IntKind.i64 (0 : Int)))), .v (.c (.int .i64 (n : Int))), .v (.c (.slc 576 0 n 4))] [16, 160, 576] [(Option.some (En.fl [(It.ob (Ob.fr s))])), (Option.some (En.fl [(It.int IntKind.i64 m), (It.ob (Ob.fr w))])), some (.sq (.fr P))] 608 [] []
noncomputable def dmD_k : List KI := (run dvR false 3000 ((fun (m : Int) (w s : U4) (A B : List U4) (n : Nat) (P : List U4) => (⟨dmC_k, .normal, dmCS m w s A B n P⟩ : Cfg)) default default default default default default default) []).cfg.k
theorem dmD_hk (m : Int) (w s : U4) (A B : List U4) (n : Nat) (P : List U4) : (run dvR false 3000 ((⟨dmC_k, .normal, dmCS m w s A B n P⟩ : Cfg)) []).cfg.k = dmD_k := by kernel_rfl
theorem dmD (m : Int) (w s : U4) (A B : List U4) (n : Nat) (P : List U4) {w0 : World} {F0 : Nat → Prop} {K : Kp} {ac : List Act} {Q : Exit → Act → World → Prop} {cX : Ctx} {aX : Act} (ho : AllP []) (hs : Sim w0 F0 K ac (dmCS m w s A B n P) cX aX) (hK : ∀ ac cY aY, Sim w0 F0 K ac (mkSt 157 [2, 3, 5, 9, 10, 11, 12, 52, 53, 54] [(.v (.c (.sl (.fr A)))), (.v (.c (.sl (.fr B)))), (.v (.c (.ptr 16 0))), (.v (.c (.ptr 160 0))), (.v (.c (.int .i64 (0 : Int)))), (.v (.c (.int .i64 ((n : Nat) : Int)))), (.v (.c (.slc 576 0 n 4))), (.v (.c (.sl (.fr A)))), (.v (.c (.int .i64 (((List.length A) : Nat) : Int)))), (.v (.c (.int .i64 (0 : Int))))] [16, 160, 576] [(some (.fl [(.ob (.fr s))])), (some (.fl [(.int .i64 m), (.ob (.fr w))])), (some (.sq (.fr P)))] 656 [] []) cY aY → Wq Try.prog Q (dmD_k) ac Exit.normal aY cY.w) : Wq Try.prog Q (dmC_k) ac .normal aX cX.w :=
  run_at2 (o := ⟨_, _, _, _, _, _, _⟩) dvR_ok (by kernel_rfl) (dmD_hk m w s A B n P) ho hs hK
noncomputable def dmS (m : Int) (w s : U4) (A B : List U4) (n : Nat) (P : List U4) (i : Nat) : St := mkSt 157 [2, 3, 5, 9, 10, 11, 12, 52, 53, 54] [(SV.v (V1.c (It.sl (Sq.fr A)))), (SV.v (V1.c (It.sl (Sq.fr B)))), (SV.v (V1.c (It.ptr 16 0))), (SV.v (V1.c (It.ptr 160 0))), (SV.v (V1.c (It.int IntKind.i64 (0 : Int)))), (SV.v (V1.c (It.int IntKind.i64 ((n : Nat) : Int)))), (SV.v (V1.c (It.slc 576 0 n 4))), (SV.v (V1.c (It.sl (Sq.fr A)))), (SV.v (V1.c (It.int IntKind.i64 (((List.length A) : Nat) : Int)))), .v (.c (.int .i64 (i : Int)))] [16, 160, 576] [(Option.some (En.fl [(It.ob (Ob.fr s))])), (Option.some (En.fl [(It.int IntKind.i64 m), (It.ob (Ob.fr w))])), some (.sq (.fr P))] 656 [] []
noncomputable def dmE_k : List KI := (run dvR false 3000 ((fun (m : Int) (w s : U4) (A B : List U4) (n : Nat) (P : List U4) (i : Nat) => (⟨lpIn dmD_k, .normal, dmS m w s A B n P i⟩ : Cfg)) default default default default default default default default) [true]).cfg.k
theorem dmE_hk (m : Int) (w s : U4) (A B : List U4) (n : Nat) (P : List U4) (i : Nat) : (run dvR false 3000 ((⟨lpIn dmD_k, .normal, dmS m w s A B n P i⟩ : Cfg)) [true]).cfg.k = dmE_k := by kernel_rfl
theorem dmE (m : Int) (w s : U4) (A B : List U4) (n : Nat) (P : List U4) (i : Nat) {w0 : World} {F0 : Nat → Prop} {K : Kp} {ac : List Act} {Q : Exit → Act → World → Prop} {cX : Ctx} {aX : Act} (ho : AllP [((decide (((i : Nat) : Int) < (((List.length A) : Nat) : Int))) = true), ((0 : Int) ≤ ((i : Nat) : Int)), (((i : Nat) : Int) < (((List.length A) : Nat) : Int))]) (hs : Sim w0 F0 K ac (dmS m w s A B n P i) cX aX) (hK : ∀ ac cY aY, Sim w0 F0 K ac (mkSt 157 [2, 3, 5, 9, 10, 11, 12, 13, 14, 52, 53, 54, 59, 60, 61] [(.v (.c (.sl (.fr A)))), (.v (.c (.sl (.fr B)))), (.v (.c (.ptr 16 0))), (.v (.c (.ptr 160 0))), (.v (.c (.int .i64 (0 : Int)))), (.v (.c (.int .i64 ((n : Nat) : Int)))), (.v (.c (.slc 576 0 n 4))), (.v (.c (.int .i64 ((i : Nat) : Int)))), (.v (.c (.ptr 720 0))), (.v (.c (.sl (.fr A)))), (.v (.c (.int .i64 (((List.length A) : Nat) : Int)))), (.v (.c (.int .i64 ((i : Nat) : Int)))), (.v (.c (.sl (.fr B)))), (.v (.c (.int .i64 (((List.length B) : Nat) : Int)))), (.v (.c (.int .i64 (0 : Int))))] [16, 160, 576, 720] [(some (.fl [(.ob (.fr s))])), (some (.fl [(.int .i64 m), (.ob (.fr w))])), (some (.sq (.fr P))), (some (.fl [(.ob (.fr (List.getD A (((i : Nat) : Int)).toNat (0 : U4))))]))] 816 [] []) cY aY → Wq Try.prog Q (dmE_k) ac Exit.normal aY cY.w) : Wq Try.prog Q (lpIn dmD_k) ac .normal aX cX.w :=
  run_at2 (o := ⟨_, _, _, _, _, _, _⟩) dvR_ok (by kernel_rfl) (dmE_hk m w s A B n P i) ho hs hK
noncomputable def dmT (m : Int) (w s : U4) (A B : List U4) (n : Nat) (P : List U4) (i k : Nat) (x : U4) : St := mkSt 157 [2, 3, 5, 9, 10, 11, 12, 13, 14, 52, 53, 54, 59, 60, 61] [(SV.v (V1.c (It.sl (Sq.fr A)))), (SV.v (V1.c (It.sl (Sq.fr B)))), (SV.v (V1.c (It.ptr 16 0))), (SV.v (V1.c (It.ptr 160 0))), (SV.v (V1.c (It.int IntKind.i64 (0 : Int)))), (SV.v (V1.c (It.int IntKind.i64 ((n : Nat) : Int)))), (SV.v (V1.c (It.slc 576 0 n 4))), (SV.v (V1.c (It.int IntKind.i64 ((i : Nat) : Int)))), (SV.v (V1.c (It.ptr 720 0))), (SV.v (V1.c (It.sl (Sq.fr A)))), (SV.v (V1.c (It.int IntKind.i64 (((List.length A) : Nat) : Int)))), (SV.v (V1.c (It.int IntKind.i64 ((i : Nat) : Int)))), (SV.v (V1.c (It.sl (Sq.fr B)))), (SV.v (V1.c (It.int IntKind.i64 (((List.length B) : Nat) : Int)))), .v (.c (.int .i64 (k : Int)))] [16, 160, 576, 720] [(Option.some (En.fl [(It.ob (Ob.fr s))])), (Option.some (En.fl [(It.int IntKind.i64 m), (It.ob (Ob.fr w))])), some (.sq (.fr P)), some (.fl [.ob (.fr x)])] 816 [] []
theorem dmF_hk (m : Int) (w s : U4) (A B : List U4) (n : Nat) (P : List U4) (i k : Nat) (x : U4) : (run dvR false 3000 ((⟨lpIn dmE_k, .normal, dmT m w s A B n P i k x⟩ : Cfg)) [true]).cfg.k = lpBk dmE_k := by kernel_rfl
theorem dmF (m : Int) (w s : U4) (A B : List U4) (n : Nat) (P : List U4) (i k : Nat) (x : U4) {w0 : World} {F0 : Nat → Prop} {K : Kp} {ac : List Act} {Q : Exit → Act → World → Prop} {cX : Ctx} {aX : Act} (ho : AllP [((decide (((k : Nat) : Int) < (((List.length B) : Nat) : Int))) = true), ((0 : Int) ≤ ((k : Nat) : Int)), (((k : Nat) : Int) < (((List.length B) : Nat) : Int)), ((0 : Int) ≤ (IntKind.wrap .i64 (((i : Nat) : Int) + ((k : Nat) : Int)))), ((IntKind.wrap .i64 (((i : Nat) : Int) + ((k : Nat) : Int))) < ((n : Nat) : Int)), (0 = 0), (((IntKind.wrap .i64 (((i : Nat) : Int) + ((k : Nat) : Int)))).toNat < (List.length P)), ((0 : Int) ≤ (IntKind.wrap .i64 (((i : Nat) : Int) + ((k : Nat) : Int)))), ((IntKind.wrap .i64 (((i : Nat) : Int) + ((k : Nat) : Int))) < ((n : Nat) : Int)), (0 = 0), (((IntKind.wrap .i64 (((i : Nat) : Int) + ((k : Nat) : Int)))).toNat < (List.length P))]) (hs : Sim w0 F0 K ac (dmT m w s A B n P i k x) cX aX) (hK : ∀ ac cY aY, Sim w0 F0 K ac (mkSt 157 [2, 3, 5, 9, 10, 11, 12, 13, 14, 52, 53, 54, 59, 60, 61] [(.v (.c (.sl (.fr A)))), (.v (.c (.sl (.fr B)))), (.v (.c (.ptr 16 0))), (.v (.c (.ptr 160 0))), (.v (.c (.int .i64 (0 : Int)))), (.v (.c (.int .i64 ((n : Nat) : Int)))), (.v (.c (.slc 576 0 n 4))), (.v (.c (.int .i64 ((i : Nat) : Int)))), (.v (.c (.ptr 720 0))), (.v (.c (.sl (.fr A)))), (.v (.c (.int .i64 (((List.length A) : Nat) : Int)))), (.v (.c (.int .i64 ((i : Nat) : Int)))), (.v (.c (.sl (.fr B)))), (.v (.c (.int .i64 (((List.length B) : Nat) : Int)))), (.v (.c (.int .i64 (IntKind.wrap .i64 (((k : Nat) : Int) + (1 : Int))))))] [16, 160, 576, 720] [(some (.fl [(.ob (.fr s))])), (some (.fl [(.int .i64 m), (.ob (.fr w))])), (some (.sq (.fr (List.set P ((IntKind.wrap .i64 (((i : Nat) : Int) + ((k : Nat) : Int)))).toNat (outF ((inF (List.getD P ((IntKind.wrap .i64 (((i : Nat) : Int) + ((k : Nat) : Int)))).toNat (0 : U4))) + (inF (outF ((inF x) * (inF (List.getD B (((k : Nat) : Int)).toNat (0 : U4)))))))))))), (some (.fl [(.ob (.fr x))]))] 1216 [] []) cY aY → Wq Try.prog Q (lpBk dmE_k) ac Exit.normal aY cY.w) : Wq Try.prog Q (lpIn dmE_k) ac .normal aX cX.w :=
  run_at2 (o := ⟨_, _, _, _, _, _, _⟩) dvR_ok (by kernel_rfl) (dmF_hk m w s A B n P i k x) ho hs hK
theorem dmG_hk (m : Int) (w s : U4) (A B : List U4) (n : Nat) (P : List U4) (i k : Nat) (x : U4) : (run dvR false 3000 ((⟨lpIn dmE_k, .normal, dmT m w s A B n P i k x⟩ : Cfg)) [false]).cfg.k = lpBk dmD_k := by kernel_rfl
theorem dmG (m : Int) (w s : U4) (A B : List U4) (n : Nat) (P : List U4) (i k : Nat) (x : U4) {w0 : World} {F0 : Nat → Prop} {K : Kp} {ac : List Act} {Q : Exit → Act → World → Prop} {cX : Ctx} {aX : Act} (ho : AllP [((decide (((k : Nat) : Int) < (((List.length B) : Nat) : Int))) = false)]) (hs : Sim w0 F0 K ac (dmT m w s A B n P i k x) cX aX) (hK : ∀ ac cY aY, Sim w0 F0 K ac (mkSt 157 [2, 3, 5, 9, 10, 11, 12, 52, 53, 54] [(.v (.c (.sl (.fr A)))), (.v (.c (.sl (.fr B)))), (.v (.c (.ptr 16 0))), (.v (.c (.ptr 160 0))), (.v (.c (.int .i64 (0 : Int)))), (.v (.c (.int .i64 ((n : Nat) : Int)))), (.v (.c (.slc 576 0 n 4))), (.v (.c (.sl (.fr A)))), (.v (.c (.int .i64 (((List.length A) : Nat) : Int)))), (.v (.c (.int .i64 (IntKind.wrap .i64 (((i : Nat) : Int) + (1 : Int))))))] [16, 160, 576] [(some (.fl [(.ob (.fr s))])), (some (.fl [(.int .i64 m), (.ob (.fr w))])), (some (.sq (.fr P)))] 864 [] []) cY aY → Wq Try.prog Q (lpBk dmD_k) ac Exit.normal aY cY.w) : Wq Try.prog Q (lpIn dmE_k) ac .normal aX cX.w :=
  run_at2 (o := ⟨_, _, _, _, _, _, _⟩) dvR_ok (by kernel_rfl) (dmG_hk m w s A B n P i k x) ho hs hK
noncomputable def dmH_k : List KI := (run dvR false 46 ((fun (m : Int) (w s : U4) (A B : List U4) (n : Nat) (P : List U4) (i : Nat) => (⟨lpIn dmD_k, .normal, dmS m w s A B n P i⟩ : Cfg)) default default default default default default default default) [false]).cfg.k
theorem dmH_hk (m : Int) (w s : U4) (A B : List U4) (n : Nat) (P : List U4) (i : Nat) : (run dvR false 46 ((⟨lpIn dmD_k, .normal, dmS m w s A B n P i⟩ : Cfg)) [false]).cfg.k = dmH_k := by kernel_rfl
theorem dmH (m : Int) (w s : U4) (A B : List U4) (n : Nat) (P : List U4) (i : Nat) {w0 : World} {F0 : Nat → Prop} {K : Kp} {ac : List Act} {Q : Exit → Act → World → Prop} {cX : Ctx} {aX : Act} (ho : AllP [((decide (((i : Nat) : Int) < (((List.length A) : Nat) : Int))) = false), (0 = 0), (n = (List.length P)), (4 = 4)]) (hs : Sim w0 F0 K ac (dmS m w s A B n P i) cX aX) (hK : ∀ ac cY aY, Sim w0 F0 K ac (mkSt 157 [10, 11, 17, 18, 19, 20, 21, 22] [(.v (.c (.int .i64 (0 : Int)))), (.v (.c (.int .i64 ((n : Nat) : Int)))), (.v (.c (.slc 720 0 (List.length (valL m w s A)) 4))), (.v (.c (.int .i64 (valE m w A)))), (.v (.c (.slc 864 0 (List.length (valL m w s B)) 4))), (.v (.c (.int .i64 (valE m w B)))), (.v (.c (.slc 1008 0 (List.length (valL m w s P)) 4))), (.v (.c (.int .i64 (valE m w P))))] [720, 864, 1008] [(some (.sq (.fr (valL m w s A)))), (some (.sq (.fr (valL m w s B)))), (some (.sq (.fr (valL m w s P))))] 1104 [] []) cY aY → Wq Try.prog Q (dmH_k) ac Exit.normal aY cY.w) : Wq Try.prog Q (lpIn dmD_k) ac .normal aX cX.w :=
  run_at2 (o := ⟨_, _, _, _, _, _, _⟩) dvR_ok (by kernel_rfl) (dmH_hk m w s A B n P i) ho hs hK
noncomputable def dmHS (n : Nat) (U V W : List U4) : St := mkSt 157 [10, 11, 17, 18, 19, 20, 21, 22] [.v (.c (.int .i64 0)), .v (.c (.int .i64 (n : Int))), .v (.c (.slc 720 0 n 4)), .v (.c (.int .i64 0)), .v (.c (.slc 864 0 n 4)), .v (.c (.int .i64 0)), .v (.c (.slc 1008 0 n 4)), .v (.c (.int .i64 0))] [720, 864, 1008] [some (.sq (.fr U)), some (.sq (.fr V)), some (.sq (.fr W))] 1104 [] []
noncomputable def dmI_k : List KI := (run dvR false 3000 ((fun (n : Nat) (U V W : List U4) => (⟨dmH_k, .normal, dmHS n U V W⟩ : Cfg)) default default default default) [false, false, false, false, false, false, false]).cfg.k
theorem dmI_hk (n : Nat) (U V W : List U4) : (run dvR false 3000 ((⟨dmH_k, .normal, dmHS n U V W⟩ : Cfg)) [false, false, false, false, false, false, false]).cfg.k = dmI_k := by kernel_rfl
theorem dmI (n : Nat) (U V W : List U4) {w0 : World} {F0 : Nat → Prop} {K : Kp} {ac : List Act} {Q : Exit → Act → World → Prop} {cX : Ctx} {aX : Act} (ho : AllP [(((0 : Int) != (0 : Int)) = false), (((0 : Int) != (0 : Int)) = false), (((0 : Int) != (0 : Int)) = false), (((0 : Int) != (0 : Int)) = false), ((((n : Nat) : Int) != ((n : Nat) : Int)) = false), ((((n : Nat) : Int) != ((n : Nat) : Int)) = false), ((((n : Nat) : Int) != ((n : Nat) : Int)) = false)]) (hs : Sim w0 F0 K ac (dmHS n U V W) cX aX) (hK : ∀ ac cY aY, Sim w0 F0 K ac (mkSt 157 [17, 19, 21, 137, 138] [(.v (.c (.slc 720 0 n 4))), (.v (.c (.slc 864 0 n 4))), (.v (.c (.slc 1008 0 n 4))), (.v (.c (.int .i64 ((n : Nat) : Int)))), (.v (.c (.int .i64 (0 : Int))))] [720, 864, 1008] [(some (.sq (.fr U))), (some (.sq (.fr V))), (some (.sq (.fr W)))] 1664 [] []) cY aY → Wq Try.prog Q (dmI_k) ac Exit.normal aY cY.w) : Wq Try.prog Q (dmH_k) ac .normal aX cX.w :=
  run_at2 (o := ⟨_, _, _, _, _, _, _⟩) dvR_ok (by kernel_rfl) (dmI_hk n U V W) ho hs hK
noncomputable def dmJS (n : Nat) (U V W : List U4) (i : Nat) : St := mkSt 157 [17, 19, 21, 137, 138] [(SV.v (V1.c (It.slc 720 0 n 4))), (SV.v (V1.c (It.slc 864 0 n 4))), (SV.v (V1.c (It.slc 1008 0 n 4))), (SV.v (V1.c (It.int IntKind.i64 ((n : Nat) : Int)))), .v (.c (.int .i64 (i : Int)))] [720, 864, 1008] [(Option.some (En.sq (Sq.fr U))), (Option.some (En.sq (Sq.fr V))), (Option.some (En.sq (Sq.fr W)))] 1664 [] []
theorem dmJ_hk (n : Nat) (U V W : List U4) (i : Nat) : (run dvR false 3000 ((⟨lpIn dmI_k, .normal, dmJS n U V W i⟩ : Cfg)) [true, false]).cfg.k = lpBk dmI_k := by kernel_rfl
theorem dmJ (n : Nat) (U V W : List U4) (i : Nat) {w0 : World} {F0 : Nat → Prop} {K : Kp} {ac : List Act} {Q : Exit → Act → World → Prop} {cX : Ctx} {aX : Act} (ho : AllP [((decide (((i : Nat) : Int) < ((n : Nat) : Int))) = true), ((0 : Int) ≤ ((i : Nat) : Int)), (((i : Nat) : Int) < ((n : Nat) : Int)), (0 = 0), ((((i : Nat) : Int)).toNat < (List.length W)), ((0 : Int) ≤ ((i : Nat) : Int)), (((i : Nat) : Int) < ((n : Nat) : Int)), (0 = 0), ((((i : Nat) : Int)).toNat < (List.length U)), ((0 : Int) ≤ ((i : Nat) : Int)), (((i : Nat) : Int) < ((n : Nat) : Int)), (0 = 0), ((((i : Nat) : Int)).toNat < (List.length V)), ((ite (false = true) (decide ((List.getD W (((i : Nat) : Int)).toNat (0 : U4)) = (outF ((inF (List.getD U (((i : Nat) : Int)).toNat (0 : U4))) * (inF (List.getD V (((i : Nat) : Int)).toNat (0 : U4))))))) (Bool.not (decide ((List.getD W (((i : Nat) : Int)).toNat (0 : U4)) = (outF ((inF (List.getD U (((i : Nat) : Int)).toNat (0 : U4))) * (inF (List.getD V (((i : Nat) : Int)).toNat (0 : U4))))))))) = false)]) (hs : Sim w0 F0 K ac (dmJS n U V W i) cX aX) (hK : ∀ ac cY aY, Sim w0 F0 K ac (mkSt 157 [17, 19, 21, 137, 138] [(.v (.c (.slc 720 0 n 4))), (.v (.c (.slc 864 0 n 4))), (.v (.c (.slc 1008 0 n 4))), (.v (.c (.int .i64 ((n : Nat) : Int)))), (.v (.c (.int .i64 (IntKind.wrap .i64 (((i : Nat) : Int) + (1 : Int))))))] [720, 864, 1008] [(some (.sq (.fr U))), (some (.sq (.fr V))), (some (.sq (.fr W)))] 1968 [] []) cY aY → Wq Try.prog Q (lpBk dmI_k) ac Exit.normal aY cY.w) : Wq Try.prog Q (lpIn dmI_k) ac .normal aX cX.w :=
  run_at2 (o := ⟨_, _, _, _, _, _, _⟩) dvR_ok (by kernel_rfl) (dmJ_hk n U V W i) ho hs hK
theorem dmX_end (n : Nat) (U V W : List U4) (i : Nat) : runEnd dvR Try.f8 false 3000 (⟨lpIn dmI_k, .normal, dmJS n U V W i⟩) [false] [] [] = (Option.some ([((decide (((i : Nat) : Int) < ((n : Nat) : Int))) = false)], ((SV.v (V1.c (It.lit true))), []))) := by kernel_rfl
end Go.Proofs.Ytlfllehomhcbfaa

/- DomainMultiplies answers true for every logarithm, shift and polynomials. No conditions. -/
namespace Go.Proofs.Ytlfllehomhcbfaa

section
variable {r : Nat} [NeZero r]
theorem ml_set (a d x : Fin r) : (a + d) * x = a * x + d * x := by grind
theorem ml_step (S E a xi b xk T : Fin r) : S * E + a * xi * T + a * b * (xi * xk) = S * E + a * xi * (T + b * xk) := by grind
theorem ml_next (S E a xi : Fin r) : S * E + a * xi * E = (S + a * xi) * E := by grind
theorem ml_zero (S E a : Fin r) : S * E = S * E + a * 0 := by grind
theorem ml_zero2 (E : Fin r) : 0 = 0 * E := by grind
end

theorem evalF_set {L : List Fr} {p : Nat} (hp : p < L.length) (d x : Fr) : evalF (L.set p (L.getD p 0 + d)) x = evalF L x + d * powN x p := by
  unfold evalF
  rw [List.length_set]
  have e : ∀ j, j < L.length → (L.set p (L.getD p 0 + d)).getD j 0 * powN x j = L.getD j 0 * powN x j + (if j = p then d * powN x p else 0) := fun j hj => by
    by_cases h : j = p
    · subst h
      rw [if_pos rfl]
      have : (L.set j (L.getD j 0 + d)).getD j 0 = L.getD j 0 + d := by simp [List.getD, hj]
      rw [this]
      exact ml_set _ _ _
    · rw [if_neg h]
      have : (L.set p (L.getD p 0 + d)).getD j 0 = L.getD j 0 := by simp [List.getD, Ne.symm h]
      rw [this]
      exact (fr_add_zero _).symm
  rw [sm_congr _ e, sm_add]
  rw [sm_pick (f := fun j => if j = p then d * powN x p else 0) hp fun j _ hj => if_neg hj, if_pos rfl]

theorem evalF_zero (n : Nat) (x : Fr) : evalF (List.replicate n 0) x = 0 := by
  unfold evalF
  rw [List.length_replicate]
  have e : ∀ j, j < n → (List.replicate n (0 : Fr)).getD j 0 * powN x j = 0 := fun j hj => by
    have : (List.replicate n (0 : Fr)).getD j 0 = 0 := by simp [List.getD, hj]
    rw [this]
    exact fr_zero_mul _
  rw [sm_congr _ e, sm_zero]

theorem clamp (k : Nat) (log : Int) : ∃ m : Nat, m ≤ k ∧ (if (k : Int) < (if (0 : Int) > log then (0 : Int) else log) then (k : Int) else (if (0 : Int) > log then (0 : Int) else log)) = (m : Int) := by
  by_cases h : (0 : Int) > log
  · refine ⟨0, Nat.zero_le _, ?_⟩
    rw [if_pos h, if_neg (by omega)]
    rfl
  · obtain ⟨n, rfl⟩ := Int.eq_ofNat_of_zero_le (Int.not_lt.1 h)
    rw [if_neg h]
    by_cases h2 : k < n
    · exact ⟨k, Nat.le_refl _, if_pos (by omega)⟩
    · exact ⟨n, by omega, if_neg (by omega)⟩

theorem okLog_nat {m : Nat} (h : m ≤ 16) : okLog (m : Int) = true := by
  simp only [okLog, Bool.and_eq_true, decide_eq_true_eq]
  omega

theorem map_out_getD (L : List Fr) (i : Nat) : (L.map outF).getD i 0 = outF (L.getD i 0) := by
  have hz : (0 : U4) = outF 0 := by apply Fin.ext; rw [outF_val]; rfl
  by_cases h : i < L.length
  · simp [List.getD, h]
  · simp only [List.getD, List.getElem?_map, List.getElem?_eq_none (Nat.le_of_not_lt h), Option.map_none, Option.getD_none]
    exact hz

theorem map_out_set (L : List Fr) (p : Nat) (v : Fr) : (L.map outF).set p (outF v) = (L.set p v).map outF := (List.map_set).symm

theorem vals_map (n : Nat) (w s : Fr) (L : List Fr) {i : Nat} (h : i < n) : ((valsF n w s L).map outF).getD i 0 = outF (evalF L (s * powN w i)) := by
  rw [map_out_getD]
  unfold valsF
  rw [tab_get h]

theorem mult_fnd (log : Int) (s : U4) (a b : List U4) : FnD Try.prog 8 [.v (.c (.int .i64 log)), .v (.a [.ob (.fr s)]), .v (.c (.sl (.fr a))), .v (.c (.sl (.fr b)))] (.v (.c (.bool true))) [] := by
  obtain ⟨m, hm, e⟩ := clamp 6 log
  have e : (if (6 : Int) < (if (0 : Int) > log then (0 : Int) else log) then (6 : Int) else (if (0 : Int) > log then (0 : Int) else log)) = (m : Int) := e
  have hok := okLog_nat (m := m) (by omega)
  have hd := dom_self hok
  refine fn_start (fn := Try.f8) (c := bodyOf Try.f8) Try.func8 rfl rfl fun x act hk hF hs => ?_
  refine dmIn log s a b trivial hs fun ac cY aY hs1 => ?_
  rw [e, hok, if_pos rfl, if_pos rfl] at hs1
  generalize hw : newRoot (m : Int) = w at *
  refine dmB (m : Int) w s a b ⟨by omega, trivial⟩ hs1 fun ac cY aY hs2 => ?_
  have hsh := shl3 (log := (m : Int)) (by omega) (by omega)
  rw [hsh] at hs2
  have hp2 : 2 ^ m ≤ 2 ^ 6 := Nat.pow_le_pow_right (by decide) hm
  obtain ⟨n, hn⟩ : ∃ n, n = 2 ^ (m : Int).toNat := ⟨_, rfl⟩
  have hn2 : n = 2 ^ m := by rw [hn, Int.toNat_natCast]
  rw [← hn] at hs2
  have hnb : n ≤ 64 := by omega
  have et : IntKind.wrap IntKind.i64 (Int.tdiv (n : Int) (2 : Int)) = ((n / 2 : Nat) : Int) := by
    rw [Int.tdiv_eq_ediv_of_nonneg (by omega)]
    exact wrap_id (by omega) (by omega)
  have et2 : IntKind.wrap IntKind.i64 ((n : Int) - ((n / 2 : Nat) : Int)) = ((n - n / 2 : Nat) : Int) := by rw [wrap_id (by omega) (by omega)]; omega
  refine dmC (m : Int) (n : Int) w s a b ?_ hs2 fun ac cY aY hs3 => ?_
  · rw [et, et2]
    refine ⟨by decide, ?_, ?_, by decide, ?_, ?_, by omega, rfl, by omega, by omega, trivial⟩ <;> (split <;> omega)
  rw [et, et2, Int.toNat_natCast] at hs3
  generalize hA : List.take (if ((n / 2 : Nat) : Int) < ((a.length : Nat) : Int) then ((n / 2 : Nat) : Int) else ((a.length : Nat) : Int)).toNat (List.drop 0 a) = A at hs3
  generalize hB : List.take (if ((n - n / 2 : Nat) : Int) < ((b.length : Nat) : Int) then ((n - n / 2 : Nat) : Int) else ((b.length : Nat) : Int)).toNat (List.drop 0 b) = B at hs3
  have hAl : A.length ≤ n / 2 := by
    rw [← hA, List.length_take]
    split <;> omega
  have hBl : B.length ≤ n - n / 2 := by
    rw [← hB, List.length_take]
    split <;> omega
  clear hA hB et et2 hs2 hs1 hs
  have hz : (0 : U4) = outF 0 := by apply Fin.ext; rw [outF_val]; rfl
  have er : List.replicate n (0 : U4) = (List.replicate n (0 : Fr)).map outF := by rw [List.map_replicate, ← hz]
  rw [er] at hs3
  refine dmD (m : Int) w s A B n _ trivial hs3 fun ac cY aY hs4 => ?_
  have hAg : ∀ i, i < A.length → inF (A.getD i 0) = (A.map inF).getD i 0 := fun i hi => by simp [List.getD, hi]
  have hBg : ∀ i, i < B.length → inF (B.getD i 0) = (B.map inF).getD i 0 := fun i hi => by simp [List.getD, hi]
  refine loop_rule (ι := { p : Nat × List Fr // p.1 ≤ A.length ∧ p.2.length = n ∧ ∀ x, evalF p.2 x = sm (fun j => (A.map inF).getD j 0 * powN x j) p.1 * evalF (B.map inF) x }) (fun p => dmS (m : Int) w s A B n (p.1.2.map outF) p.1.1) (fun p => A.length - p.1.1) (c := lpC dmD_k) (k := lpR dmD_k) (by kernel_rfl) (fun p ih ac cY aY hs => ?_)
    ⟨(0, List.replicate n 0), Nat.zero_le _, List.length_replicate, fun x => by rw [evalF_zero]; exact ml_zero2 _⟩ (hs4.nx _)
  obtain ⟨⟨i, L⟩, hi, hL, hev⟩ := p
  simp only at hi hL hev ih hs
  by_cases h : i < A.length
  · refine dmE (m : Int) w s A B n _ i ⟨decide_eq_true (by omega), by omega, by omega, trivial⟩ hs fun ac cY aY hs5 => ?_
    rw [Int.toNat_natCast] at hs5
    refine loop_rule (ι := { q : Nat × List Fr // q.1 ≤ B.length ∧ q.2.length = n ∧ ∀ x, evalF q.2 x = sm (fun j => (A.map inF).getD j 0 * powN x j) i * evalF (B.map inF) x + (A.map inF).getD i 0 * powN x i * sm (fun j => (B.map inF).getD j 0 * powN x j) q.1 }) (fun q => dmT (m : Int) w s A B n (q.1.2.map outF) i q.1.1 (A.getD i 0)) (fun q => B.length - q.1.1) (c := lpC dmE_k) (k := lpR dmE_k) (by kernel_rfl) (fun q ih2 ac cY aY hs => ?_)
      ⟨(0, L), Nat.zero_le _, hL, fun x => by rw [hev]; exact ml_zero _ _ _⟩ (hs5.nx _)
    obtain ⟨⟨k, L2⟩, hk1, hL2, hev2⟩ := q
    simp only at hk1 hL2 hev2 ih2 hs
    by_cases h2 : k < B.length
    · have ew : IntKind.wrap IntKind.i64 ((i : Int) + (k : Int)) = ((i + k : Nat) : Int) := by rw [wrap_id (by omega) (by omega)]; omega
      have hP : (L2.map outF).length = n := by rw [List.length_map, hL2]
      refine dmF (m : Int) w s A B n _ i k _ ?_ hs fun ac cV aV hs6 => ?_
      · rw [ew, Int.toNat_natCast, hP]
        and_intros <;> first | rfl | trivial | omega | (apply decide_eq_true; omega)
      · rw [ew, Int.toNat_natCast, Int.toNat_natCast, map_out_getD, in_out, in_out, hAg i h, hBg k h2, map_out_set, wrap_id (by omega) (by omega)] at hs6
        refine ih2 ⟨(k + 1, L2.set (i + k) (L2.getD (i + k) 0 + (A.map inF).getD i 0 * (B.map inF).getD k 0)), by omega, by rw [List.length_set, hL2], fun x => ?_⟩ (by show B.length - (k + 1) < B.length - k; omega) ac cV aV (hs6.nx _)
        rw [evalF_set (by rw [hL2]; omega), hev2, powN_add]
        exact ml_step _ _ _ _ _ _ _
    · have ek : k = B.length := by omega
      refine dmG (m : Int) w s A B n _ i k _ ⟨decide_eq_false (by omega), trivial⟩ hs fun ac cV aV hs6 => ?_
      rw [wrap_id (by omega) (by omega)] at hs6
      refine ih ⟨(i + 1, L2), by omega, hL2, fun x => ?_⟩ (by show A.length - (i + 1) < A.length - i; omega) ac cV aV (hs6.nx _)
      have hBe : sm (fun j => (B.map inF).getD j 0 * powN x j) k = evalF (B.map inF) x := by
        unfold evalF
        rw [List.length_map, ek]
      rw [hev2, hBe]
      exact ml_next _ _ _ _
  · have ei : i = A.length := by omega
    have hLv : ∀ x, evalF L x = evalF (A.map inF) x * evalF (B.map inF) x := fun x => by
      rw [hev x, ei]
      congr 1
      unfold evalF
      rw [List.length_map]
    have hval : ∀ l : List U4, l.length ≤ n → valL (m : Int) w s l = (valsF n (inF w) (inF s) (l.map inF)).map outF ∧ valE (m : Int) w l = 0 := fun l hl => by
      have hd' : domOk (m : Int) w = true := hd
      unfold valL valE
      rw [← hn, if_pos ⟨hd', hl⟩, hd', if_pos rfl, if_pos hl]
      exact ⟨rfl, rfl⟩
    have hlen : ∀ l : List U4, ((valsF n (inF w) (inF s) (l.map inF)).map outF).length = n := fun l => by rw [List.length_map, valsF_len]
    have hP : (L.map outF).length = n := by rw [List.length_map, hL]
    refine dmH (m : Int) w s A B n _ i ⟨decide_eq_false (by omega), rfl, hP.symm, rfl, trivial⟩ hs fun ac cV aV hs6 => ?_
    rw [(hval A (by omega)).1, (hval A (by omega)).2, (hval B (by omega)).1, (hval B (by omega)).2, (hval (L.map outF) (by omega)).1, (hval (L.map outF) (by omega)).2, hlen, hlen, hlen] at hs6
    have eL : (L.map outF).map inF = L := by
      rw [List.map_map]
      have : (inF ∘ outF) = id := funext in_out
      rw [this, List.map_id]
    rw [eL] at hs6
    refine dmI n _ _ _ ⟨rfl, rfl, rfl, rfl, by simp, by simp, by simp, trivial⟩ hs6 fun ac cV aV hs7 => ?_
    refine loop_rule (ι := { j : Nat // j ≤ n }) (fun j => dmJS n ((valsF n (inF w) (inF s) (A.map inF)).map outF) ((valsF n (inF w) (inF s) (B.map inF)).map outF) ((valsF n (inF w) (inF s) L).map outF) j.1) (fun j => n - j.1) (c := lpC dmI_k) (k := lpR dmI_k) (by kernel_rfl) (fun j ih3 ac cY aY hs => ?_) ⟨0, Nat.zero_le _⟩ (hs7.nx _)
    obtain ⟨j, hj⟩ := j
    simp only at ih3 hs
    by_cases h3 : j < n
    · have hlL : ((valsF n (inF w) (inF s) L).map outF).length = n := by rw [List.length_map, valsF_len]
      have hlA := hlen A
      have hlB := hlen B
      have gA := vals_map n (inF w) (inF s) (A.map inF) h3
      have gB := vals_map n (inF w) (inF s) (B.map inF) h3
      have gL := vals_map n (inF w) (inF s) L h3
      have key : ((valsF n (inF w) (inF s) L).map outF).getD j 0 = outF (inF (((valsF n (inF w) (inF s) (A.map inF)).map outF).getD j 0) * inF (((valsF n (inF w) (inF s) (B.map inF)).map outF).getD j 0)) := by
        rw [gA, gB, gL, in_out, in_out, hLv]
      refine dmJ n _ _ _ j ?_ hs fun ac cU aU hs8 => ?_
      · rw [Int.toNat_natCast, decide_eq_true key, hlA, hlB, hlL]
        and_intros <;> first | rfl | trivial | omega | (apply decide_eq_true; omega)
      · rw [wrap_id (by omega) (by omega)] at hs8
        exact ih3 ⟨j + 1, by omega⟩ (by show n - (j + 1) < n - j; omega) ac cU aU (hs8.nx _)
    · exact run_end2 dvR_ok hk hF (dmX_end n _ _ _ j) ⟨decide_eq_false (by omega), trivial⟩ (fun y v hd => lit_bool rfl hd) hs

end Go.Proofs.Ytlfllehomhcbfaa
