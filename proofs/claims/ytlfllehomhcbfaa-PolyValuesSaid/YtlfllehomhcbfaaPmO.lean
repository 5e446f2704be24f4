/- Parts of a proof, one behind the other: WPw, PPw, WCo, PCo, WCl, PCl, Pv, WMu, Pq, PMu, WMv, WRe, PRe, WPv, PPv. No conditions. -/
import Derived.Shelf.Strconv.Itoa0
import Derived.Test.YtlfllehomhcbfaaPmN
/- Bits of a number, handed on from the highest: the functions, walked. No conditions. -/
namespace Go.Proofs.Ytlfllehomhcbfaa
open Go.Shelf

def renL : Ren := ⟨fun n => if n = 129 then 111 else 0, fun t => if t = 46 then 89 else if t = 53 then 30 else t, fun g => g⟩
theorem laysL : Lays.n129 Try.prog renL :=
  { mixed := by kernel_rfl
    f129 := by kernel_rfl
    t3 := by kernel_rfl
    a3 := fun _ => by kernel_rfl
    z3 := fun _ => by kernel_rfl
    v3 := fun _ => by kernel_rfl
    t4 := by kernel_rfl
    a4 := fun _ => by kernel_rfl
    z4 := fun _ => by kernel_rfl
    v4 := fun _ => by kernel_rfl
    t5 := by kernel_rfl
    a5 := fun _ => by kernel_rfl
    z5 := fun _ => by kernel_rfl
    v5 := fun _ => by kernel_rfl
    t9 := by kernel_rfl
    a9 := fun _ => by kernel_rfl
    z9 := fun _ => by kernel_rfl
    v9 := fun _ => by kernel_rfl
    t46 := by kernel_rfl
    a46 := fun _ => by kernel_rfl
    z46 := fun _ => by kernel_rfl
    v46 := fun _ => by kernel_rfl
    t53 := by kernel_rfl
    a53 := fun _ => by kernel_rfl
    z53 := fun _ => by kernel_rfl
    v53 := fun _ => by kernel_rfl }
theorem len64_fnd (n : Int) (h0 : 0 ≤ n) (h1 : n < 18446744073709551616) : FnD Try.prog 111 [.v (.c (.int .u64 n))] (.v (.c (.int .i64 (Lib.bitLen n.toNat : Nat)))) [] :=
  fnd_same fun x vs hd => by
    cases hd with | cons d1 hd =>
    cases hd
    rw [D_int d1]
    exact ⟨_, Any.bits_Len64 laysL n x.w h0 (by omega), ⟨rfl, 0, rfl⟩⟩
def lenSpec : FnSpec
  | [.v (.c (.int .u64 n))] => some ([0 ≤ n, n < 18446744073709551616], .v (.c (.int .i64 (Lib.bitLen n.toNat : Nat))), [])
  | _ => none
noncomputable def dvP1 : Env := envV3.set (addT envV3.fn 111 lenSpec)
theorem dvP1_ok : EnvOk Try.prog dvP1 := env_add envV3_ok 111 lenSpec (enters_of Try.func111 rfl rfl) fun args o r es h ho => by
  unfold lenSpec at h
  split at h
  · cases h; exact len64_fnd _ ho.1 ho.2.1
  · cases h
--@env dvP1 dvP1_ok
theorem ct (l : List Int) : fnRes dvP1 Try.f121 3000 [.v (.c (.sl (.u64 l)))] [] [] [] = (Option.some ([((0 : Int) ≤ (ite ((16 : Int) < (((List.length l) : Nat) : Int)) (16 : Int) (((List.length l) : Nat) : Int))), ((ite ((16 : Int) < (((List.length l) : Nat) : Int)) (16 : Int) (((List.length l) : Nat) : Int)) ≤ (ite ((16 : Int) < (((List.length l) : Nat) : Int)) (16 : Int) (((List.length l) : Nat) : Int))), ((ite ((16 : Int) < (((List.length l) : Nat) : Int)) (16 : Int) (((List.length l) : Nat) : Int)) ≤ (((List.length l) : Nat) : Int))], ((SV.v (V1.c (It.sl (Sq.u64 (List.take ((ite ((16 : Int) < (((List.length l) : Nat) : Int)) (16 : Int) (((List.length l) : Nat) : Int))).toNat (List.drop 0 l)))))), []))) := by kernel_rfl

theorem cut_fnd (l : List Int) (hl : l.length ≤ 16) : FnD Try.prog 121 [.v (.c (.sl (.u64 l)))] (.v (.c (.sl (.u64 l)))) [] := by
  have r := ct l
  have e : (if (16 : Int) < ((l.length : Nat) : Int) then (16 : Int) else ((l.length : Nat) : Int)) = ((l.length : Nat) : Int) := if_neg (by omega)
  rw [e, Int.toNat_natCast, List.drop_zero, List.take_length] at r
  exact fn_sound dvP1_ok Try.func121 r ⟨by omega, Int.le_refl _, Int.le_refl _, trivial⟩
def cutSpec : FnSpec
  | [.v (.c (.sl (.u64 l)))] => some ([l.length ≤ 16], .v (.c (.sl (.u64 l))), [])
  | _ => none
noncomputable def dvP2 : Env := dvP1.set (addT dvP1.fn 121 cutSpec)
theorem dvP2_ok : EnvOk Try.prog dvP2 := env_add dvP1_ok 121 cutSpec (enters_of Try.func121 rfl rfl) fun args o r es h ho => by
  unfold cutSpec at h
  split at h
  · cases h; exact cut_fnd _ ho.1
  · cases h
--@env dvP2 dvP2_ok
noncomputable def nbIn_k : List KI := (run dvP2 false 3000 ((fun (l : List Int) => (⟨[.code (bodyOf Try.f118)], .normal, initSt Try.f118.ntmps [.v (.c (.sl (.u64 l)))]⟩ : Cfg)) default) []).cfg.k
theorem nbIn_hk (l : List Int) : (run dvP2 false 3000 ((⟨[.code (bodyOf Try.f118)], .normal, initSt Try.f118.ntmps [.v (.c (.sl (.u64 l)))]⟩ : Cfg)) []).cfg.k = nbIn_k := by kernel_rfl
theorem nbIn (l : List Int) {w0 : World} {F0 : Nat → Prop} {K : Kp} {ac : List Act} {Q : Exit → Act → World → Prop} {cX : Ctx} {aX : Act} (ho : AllP [((List.length l) ≤ 16)]) (hs : Sim w0 F0 K ac (initSt Try.f118.ntmps [.v (.c (.sl (.u64 l)))]) cX aX) (hK : ∀ ac cY aY, Sim w0 F0 K ac (mkSt 26 [0, 3] [(.v (.c (.sl (.u64 l)))), (.v (.c (.int .i64 (IntKind.wrap .i64 ((((List.length l) : Nat) : Int) - (1 : Int))))))] [] [] 144 [] []) cY aY → Wq Try.prog Q (nbIn_k) ac Exit.normal aY cY.w) : Wq Try.prog Q ([.code (bodyOf Try.f118)]) ac .normal aX cX.w :=
  run_at2 (o := ⟨_, _, _, _, _, _, _⟩) dvP2_ok (by kernel_rfl) (nbIn_hk l) ho hs hK
noncomputable def nbS (l : List Int) (i : Int) : St := mkSt 26 [0, 3] [(SV.v (V1.c (It.sl (Sq.u64 l)))), .v (.c (.int .i64 i))] [] [] 144 [] []
theorem nbN_hk (l : List Int) (i : Int) : (run dvP2 false 3000 ((⟨lpIn nbIn_k, .normal, nbS l i⟩ : Cfg)) [true, false]).cfg.k = lpBk nbIn_k := by kernel_rfl
theorem nbN (l : List Int) (i : Int) {w0 : World} {F0 : Nat → Prop} {K : Kp} {ac : List Act} {Q : Exit → Act → World → Prop} {cX : Ctx} {aX : Act} (ho : AllP [((decide (i ≥ (0 : Int))) = true), ((0 : Int) ≤ i), (i < (((List.length l) : Nat) : Int)), (((List.getD l (i).toNat (0 : Int)) != (0 : Int)) = false)]) (hs : Sim w0 F0 K ac (nbS l i) cX aX) (hK : ∀ ac cY aY, Sim w0 F0 K ac (mkSt 26 [0, 3] [(.v (.c (.sl (.u64 l)))), (.v (.c (.int .i64 (IntKind.wrap .i64 (i - (1 : Int))))))] [] [] 304 [] []) cY aY → Wq Try.prog Q (lpBk nbIn_k) ac Exit.normal aY cY.w) : Wq Try.prog Q (lpIn nbIn_k) ac .normal aX cX.w :=
  run_at2 (o := ⟨_, _, _, _, _, _, _⟩) dvP2_ok (by kernel_rfl) (nbN_hk l i) ho hs hK
theorem nbY_end (l : List Int) (i : Int) : runEnd dvP2 Try.f118 false 3000 (⟨lpIn nbIn_k, .normal, nbS l i⟩) [true, true] [] [] = (Option.some ([((decide (i ≥ (0 : Int))) = true), ((0 : Int) ≤ i), (i < (((List.length l) : Nat) : Int)), (((List.getD l (i).toNat (0 : Int)) != (0 : Int)) = true), ((0 : Int) ≤ i), (i < (((List.length l) : Nat) : Int)), ((0 : Int) ≤ (List.getD l (i).toNat (0 : Int))), ((List.getD l (i).toNat (0 : Int)) < (18446744073709551616 : Int))], ((SV.v (V1.c (It.int IntKind.i64 (IntKind.wrap IntKind.i64 ((IntKind.wrap IntKind.i64 ((64 : Int) * i)) + (((Lib.bitLen ((List.getD l (i).toNat (0 : Int))).toNat) : Nat) : Int)))))), []))) := by kernel_rfl
theorem nbX_end (l : List Int) (i : Int) : runEnd dvP2 Try.f118 false 3000 (⟨lpIn nbIn_k, .normal, nbS l i⟩) [false] [] [] = (Option.some ([((decide (i ≥ (0 : Int))) = false)], ((SV.v (V1.c (It.int IntKind.i64 (0 : Int)))), []))) := by kernel_rfl
theorem bits_fnd (l : List Int) (hl : l.length ≤ 16) (hlim : lims l) : FnD Try.prog 118 [.v (.c (.sl (.u64 l)))] (.v (.c (.int .i64 (bitsC l l.length : Nat)))) [] := by
  refine fn_start (fn := Try.f118) (c := bodyOf Try.f118) Try.func118 rfl rfl fun x a hk hF hs => ?_
  refine nbIn l ⟨hl, trivial⟩ hs fun ac cY aY hs1 => ?_
  rw [wrap_id (by omega) (by omega)] at hs1
  refine loop_rule (ι := { n : Nat // n ≤ l.length ∧ bitsC l n = bitsC l l.length }) (fun n => nbS l ((n.1 : Int) - 1)) (fun n => n.1) (c := lpC nbIn_k) (k := lpR nbIn_k) (by kernel_rfl) (fun n ih ac cY aY hs => ?_) ⟨l.length, Nat.le_refl _, rfl⟩ (hs1.nx _)
  obtain ⟨n, hn, he⟩ := n
  simp only at ih hs
  cases n with
  | zero =>
    rw [← he]
    exact run_end2 dvP2_ok hk hF (nbX_end l _) ⟨by simp, trivial⟩ (fun y v hd => hd) hs
  | succ n =>
    have e1 : ((n + 1 : Nat) : Int) - 1 = (n : Int) := by omega
    rw [e1] at hs
    have hg := lims_get hlim n
    by_cases h0 : l.getD n 0 = 0
    · refine nbN l _ ⟨by simp, by omega, by omega, by rw [Int.toNat_natCast, h0]; rfl, trivial⟩ hs fun ac cZ aZ hs2 => ?_
      rw [wrap_id (by omega) (by omega)] at hs2
      refine ih ⟨n, by omega, ?_⟩ (Nat.lt_succ_self n) ac cZ aZ (hs2.nx _)
      rw [← he]
      show _ = if l.getD n 0 ≠ 0 then _ else bitsC l n
      rw [if_neg (by simpa using h0)]
    · have r := nbY_end l (n : Int)
      have hb : bitsC l l.length = 64 * n + Lib.bitLen (l.getD n 0).toNat := by
        rw [← he]
        show (if l.getD n 0 ≠ 0 then _ else bitsC l n) = _
        rw [if_pos h0]
      have hle := bitLen_le (l.getD n 0).toNat
      rw [Int.toNat_natCast] at r
      have e2 : IntKind.wrap IntKind.i64 (IntKind.wrap IntKind.i64 ((64 : Int) * (n : Int)) + ((Lib.bitLen (l.getD n 0).toNat : Nat) : Int)) = ((bitsC l l.length : Nat) : Int) := by
        rw [hb]
        generalize Lib.bitLen (l.getD n 0).toNat = B at *
        rw [wrap_id (n := (64 : Int) * (n : Int)) (by omega) (by omega), wrap_id (by omega) (by omega)]
        omega
      rw [e2] at r
      have hne : (l.getD n 0 != (0 : Int)) = true := by simpa using h0
      exact run_end2 dvP2_ok hk hF r ⟨by simp, by omega, by omega, hne, by omega, by omega, hg.1, hg.2, trivial⟩ (fun y v hd => hd) hs
def bitsSpec : FnSpec
  | [.v (.c (.sl (.u64 l)))] => some ([l.length ≤ 16, lims l], .v (.c (.int .i64 (bitsC l l.length : Nat))), [])
  | _ => none
noncomputable def dvP3 : Env := dvP2.set (addT dvP2.fn 118 bitsSpec)
theorem dvP3_ok : EnvOk Try.prog dvP3 := env_add dvP2_ok 118 bitsSpec (enters_of Try.func118 rfl rfl) fun args o r es h ho => by
  unfold bitsSpec at h
  split at h
  · cases h; exact bits_fnd _ ho.1 ho.2.1
  · cases h
noncomputable def inlDv (T : Nat → Option Func) (f : Nat) : Option Func := if f = 108 then some Try.f108 else T f
noncomputable def dvP : Env := { dvP3 with inl := inlDv dvP3.inl }
theorem dvP_ok : EnvOk Try.prog dvP := by
  refine ⟨dvP3_ok.ty, dvP3_ok.mixed, dvP3_ok.fn, dvP3_ok.mu, fun f fn h => ?_, dvP3_ok.ex, dvP3_ok.inv⟩
  have h : inlDv dvP3.inl f = some fn := h
  unfold inlDv at h
  split at h
  · rename_i hf; cases h; subst hf; exact ⟨Try.func108, enters_of Try.func108 rfl rfl⟩
  exact dvP3_ok.inl f fn h
--@env dvP dvP_ok
noncomputable def bt_k : List KI := (run dvP false 3000 ((fun (l : Nat) (v : Value) => (⟨[.code (bodyOf Try.f117)], .normal, ⟨argT [.v (.c (.val (.func (.yield l) #[] #[]))), .v (.c (.ptr 0 0))], one (.fl [.val v]), Try.f117.ntmps, 16, []⟩⟩ : Cfg)) default default) []).cfg.k
theorem bt_hk (l : Nat) (v : Value) : (run dvP false 3000 ((⟨[.code (bodyOf Try.f117)], .normal, ⟨argT [.v (.c (.val (.func (.yield l) #[] #[]))), .v (.c (.ptr 0 0))], one (.fl [.val v]), Try.f117.ntmps, 16, []⟩⟩ : Cfg)) []).cfg.k = bt_k := by kernel_rfl
theorem bt (l : Nat) (v : Value) {w0 : World} {F0 : Nat → Prop} {K : Kp} {ac : List Act} {Q : Exit → Act → World → Prop} {cX : Ctx} {aX : Act} (ho : AllP []) (hs : Sim w0 F0 K ac (⟨argT [.v (.c (.val (.func (.yield l) #[] #[]))), .v (.c (.ptr 0 0))], one (.fl [.val v]), Try.f117.ntmps, 16, []⟩) cX aX) (hK : ∀ ac cY aY, Sim w0 F0 K ac (mkSt 24 [0, 1, 4] [(.v (.c (.val (Value.func (Fn.yield l) (Array.mk ([] : List Value)) (Array.mk ([] : List Value)))))), (.v (.c (.ptr 0 0))), (.v (.c (.val v)))] [0] [(some (.fl [(.val v)]))] 32 [] []) cY aY → Wq Try.prog Q (bt_k) ac Exit.normal aY cY.w) : Wq Try.prog Q ([.code (bodyOf Try.f117)]) ac .normal aX cX.w :=
  run_at2 (o := ⟨_, _, _, _, _, _, _⟩) dvP_ok (by kernel_rfl) (bt_hk l v) ho hs hK
noncomputable def btA (l : Nat) (v : Value) (e : List Int) : St := mkSt 24 [0, 1, 4] [(SV.v (V1.c (It.val (Value.func (Fn.yield l) (Array.mk ([] : List Value)) (Array.mk ([] : List Value)))))), (SV.v (V1.c (It.ptr 0 0))), .v (.c (.sl (.u64 e)))] [0] [(Option.some (En.fl [(It.val v)]))] 32 [] []
noncomputable def bu_k : List KI := (run dvP false 3000 ((fun (l : Nat) (v : Value) (e : List Int) => (⟨bt_k, .normal, btA l v e⟩ : Cfg)) default default default) []).cfg.k
theorem bu_hk (l : Nat) (v : Value) (e : List Int) : (run dvP false 3000 ((⟨bt_k, .normal, btA l v e⟩ : Cfg)) []).cfg.k = bu_k := by kernel_rfl
theorem bu (l : Nat) (v : Value) (e : List Int) {w0 : World} {F0 : Nat → Prop} {K : Kp} {ac : List Act} {Q : Exit → Act → World → Prop} {cX : Ctx} {aX : Act} (ho : AllP [((List.length e) ≤ 16), (lims e)]) (hs : Sim w0 F0 K ac (btA l v e) cX aX) (hK : ∀ ac cY aY, Sim w0 F0 K ac (mkSt 24 [0, 1, 3] [(.v (.c (.val (Value.func (Fn.yield l) (Array.mk ([] : List Value)) (Array.mk ([] : List Value)))))), (.v (.c (.ptr 0 0))), (.v (.c (.int .i64 (IntKind.wrap .i64 ((((bitsC e (List.length e)) : Nat) : Int) - (1 : Int))))))] [0] [(some (.fl [(.val v)]))] 80 [] []) cY aY → Wq Try.prog Q (bu_k) ac Exit.normal aY cY.w) : Wq Try.prog Q (bt_k) ac .normal aX cX.w :=
  run_at2 (o := ⟨_, _, _, _, _, _, _⟩) dvP_ok (by kernel_rfl) (bu_hk l v e) ho hs hK
noncomputable def buS (l : Nat) (v : Value) (i : Int) : St := mkSt 24 [0, 1, 3] [(SV.v (V1.c (It.val (Value.func (Fn.yield l) (Array.mk ([] : List Value)) (Array.mk ([] : List Value)))))), (SV.v (V1.c (It.ptr 0 0))), .v (.c (.int .i64 i))] [0] [(Option.some (En.fl [(It.val v)]))] 80 [] []
noncomputable def bv_k : List KI := (run dvP false 3000 ((fun (l : Nat) (v : Value) (i : Int) => (⟨lpIn bu_k, .normal, buS l v i⟩ : Cfg)) default default default) [true]).cfg.k
theorem bv_hk (l : Nat) (v : Value) (i : Int) : (run dvP false 3000 ((⟨lpIn bu_k, .normal, buS l v i⟩ : Cfg)) [true]).cfg.k = bv_k := by kernel_rfl
theorem bv (l : Nat) (v : Value) (i : Int) {w0 : World} {F0 : Nat → Prop} {K : Kp} {ac : List Act} {Q : Exit → Act → World → Prop} {cX : Ctx} {aX : Act} (ho : AllP [((decide (i ≥ (0 : Int))) = true), ((64 : Int) ≠ (0 : Int))]) (hs : Sim w0 F0 K ac (buS l v i) cX aX) (hK : ∀ ac cY aY, Sim w0 F0 K ac (mkSt 24 [0, 1, 3, 11, 12, 14] [(.v (.c (.val (Value.func (Fn.yield l) (Array.mk ([] : List Value)) (Array.mk ([] : List Value)))))), (.v (.c (.ptr 0 0))), (.v (.c (.int .i64 i))), (.v (.c (.val (Value.func (Fn.yield l) (Array.mk ([] : List Value)) (Array.mk ([] : List Value)))))), (.v (.c (.val v))), (.v (.c (.int .i64 (IntKind.wrap .i64 (Int.tdiv i (64 : Int))))))] [0] [(some (.fl [(.val v)]))] 176 [] []) cY aY → Wq Try.prog Q (bv_k) ac Exit.normal aY cY.w) : Wq Try.prog Q (lpIn bu_k) ac .normal aX cX.w :=
  run_at2 (o := ⟨_, _, _, _, _, _, _⟩) dvP_ok (by kernel_rfl) (bv_hk l v i) ho hs hK
noncomputable def bvA (l : Nat) (v : Value) (e : List Int) (i : Int) : St := mkSt 24 [0, 1, 3, 11, 12, 14] [(SV.v (V1.c (It.val (Value.func (Fn.yield l) (Array.mk ([] : List Value)) (Array.mk ([] : List Value)))))), (SV.v (V1.c (It.ptr 0 0))), (SV.v (V1.c (It.int IntKind.i64 i))), (SV.v (V1.c (It.val (Value.func (Fn.yield l) (Array.mk ([] : List Value)) (Array.mk ([] : List Value)))))), .v (.c (.sl (.u64 e))), (SV.v (V1.c (It.int IntKind.i64 (IntKind.wrap IntKind.i64 (Int.tdiv i (64 : Int))))))] [0] [(Option.some (En.fl [(It.val v)]))] 176 [] []
noncomputable def bw_k : List KI := (run dvP false 3000 ((fun (l : Nat) (v : Value) (e : List Int) (i : Int) => (⟨bv_k, .normal, bvA l v e i⟩ : Cfg)) default default default default) []).cfg.k
theorem bw_hk (l : Nat) (v : Value) (e : List Int) (i : Int) : (run dvP false 3000 ((⟨bv_k, .normal, bvA l v e i⟩ : Cfg)) []).cfg.k = bw_k := by kernel_rfl
theorem bw (l : Nat) (v : Value) (e : List Int) (i : Int) {w0 : World} {F0 : Nat → Prop} {K : Kp} {ac : List Act} {Q : Exit → Act → World → Prop} {cX : Ctx} {aX : Act} (ho : AllP [((0 : Int) ≤ (IntKind.wrap .i64 (Int.tdiv i (64 : Int)))), ((IntKind.wrap .i64 (Int.tdiv i (64 : Int))) < (((List.length e) : Nat) : Int)), ((64 : Int) ≠ (0 : Int)), ((0 : Int) ≤ (Int.tmod i (64 : Int)))]) (hs : Sim w0 F0 K ac (bvA l v e i) cX aX) (hK : ∀ ac cY aY, Sim w0 F0 K ac (mkSt 24 [0, 1, 3, 11, 21] [(.v (.c (.val (Value.func (Fn.yield l) (Array.mk ([] : List Value)) (Array.mk ([] : List Value)))))), (.v (.c (.ptr 0 0))), (.v (.c (.int .i64 i))), (.v (.c (.val (Value.func (Fn.yield l) (Array.mk ([] : List Value)) (Array.mk ([] : List Value)))))), (.v (.c (.bool ((bitsOp BinOp.and IntKind.u64 (Int.fdiv (List.getD e ((IntKind.wrap .i64 (Int.tdiv i (64 : Int)))).toNat (0 : Int)) ((2 : Int) ^ (Min.min ((Int.tmod i (64 : Int))).toNat 64))) (1 : Int)) == (1 : Int)))))] [0] [(some (.fl [(.val v)]))] 288 [] []) cY aY → Wq Try.prog Q (bw_k) ac Exit.normal aY cY.w) : Wq Try.prog Q (bv_k) ac .normal aX cX.w :=
  run_at2 (o := ⟨_, _, _, _, _, _, _⟩) dvP_ok (by kernel_rfl) (bw_hk l v e i) ho hs hK
theorem bX_hk (l : Nat) (v : Value) (i : Int) : (run dvP false 3000 ((⟨lpIn bu_k, .normal, buS l v i⟩ : Cfg)) [false]).cfg.k = [] := by kernel_rfl
theorem bX (l : Nat) (v : Value) (i : Int) {w0 : World} {F0 : Nat → Prop} {K : Kp} {ac : List Act} {Q : Exit → Act → World → Prop} {cX : Ctx} {aX : Act} (ho : AllP [((decide (i ≥ (0 : Int))) = false)]) (hs : Sim w0 F0 K ac (buS l v i) cX aX) (hK : ∀ ac cY aY, Sim w0 F0 K ac (mkSt 24 [] [] [0] [(some (.fl [(.val v)]))] 112 [] []) cY aY → Wq Try.prog Q ([]) ac Exit.normal aY cY.w) : Wq Try.prog Q (lpIn bu_k) ac .normal aX cX.w :=
  run_at2 (o := ⟨_, _, _, _, _, _, _⟩) dvP_ok (by kernel_rfl) (bX_hk l v i) ho hs hK
theorem bB_hk (l : Nat) (v : Value) (i : Int) (b : Bool) : (run dvP false 3000 ((⟨opsNext bw_k, .normal, ⟨setT (look .top [0, 1, 3, 11, 21] [(.v (.c (.val (.func (.yield l) #[] #[])))), .v (.c (.ptr 0 0)), .v (.c (.int .i64 i)), (.v (.c (.val (.func (.yield l) #[] #[])))), .v (.c (.bool b))]) 22 (.v (.c (.lit true))), one (.fl [.val v]), 24, 400, []⟩⟩ : Cfg)) []).cfg.k = lpBk bu_k := by kernel_rfl
theorem bB (l : Nat) (v : Value) (i : Int) (b : Bool) {w0 : World} {F0 : Nat → Prop} {K : Kp} {ac : List Act} {Q : Exit → Act → World → Prop} {cX : Ctx} {aX : Act} (ho : AllP []) (hs : Sim w0 F0 K ac (⟨setT (look .top [0, 1, 3, 11, 21] [(.v (.c (.val (.func (.yield l) #[] #[])))), .v (.c (.ptr 0 0)), .v (.c (.int .i64 i)), (.v (.c (.val (.func (.yield l) #[] #[])))), .v (.c (.bool b))]) 22 (.v (.c (.lit true))), one (.fl [.val v]), 24, 400, []⟩) cX aX) (hK : ∀ ac cY aY, Sim w0 F0 K ac (mkSt 24 [0, 1, 3] [(.v (.c (.val (Value.func (Fn.yield l) (Array.mk ([] : List Value)) (Array.mk ([] : List Value)))))), (.v (.c (.ptr 0 0))), (.v (.c (.int .i64 (IntKind.wrap .i64 (i - (1 : Int))))))] [0] [(some (.fl [(.val v)]))] 464 [] []) cY aY → Wq Try.prog Q (lpBk bu_k) ac Exit.normal aY cY.w) : Wq Try.prog Q (opsNext bw_k) ac .normal aX cX.w :=
  run_at2 (o := ⟨_, _, _, _, _, _, _⟩) dvP_ok (by kernel_rfl) (bB_hk l v i b) ho hs hK

theorem meth81 (v : Value) (w : World) : (method (Try.prog.types.size + Made.depth) 81 v "Times").run Try.prog w = .ok (66, v) w := by kernel_rfl
noncomputable def dvQ : Env := { dvP with inv := fun t => if t = 81 then some [("Times", 66)] else none }
theorem dvQ_ok : EnvOk Try.prog dvQ := by
  refine ⟨dvP_ok.ty, dvP_ok.mixed, dvP_ok.fn, dvP_ok.mu, dvP_ok.inl, dvP_ok.ex, fun t l h => ?_⟩
  have h : (if t = 81 then some [("Times", 66)] else none) = some l := h
  split at h
  · rename_i ht
    cases h
    subst ht
    refine ⟨by kernel_rfl, fun name g hg v args w => ?_⟩
    unfold lookM at hg
    split at hg
    · rename_i hn
      cases hg
      subst hn
      simp only [callMethod, Sem.run_bind, run_program, Result.andThen_ok, meth81]
    · cases hg
  · cases h
--@env dvQ dvQ_ok
noncomputable def qp_k : List KI := (run dvQ false 3000 ((fun (a : Fr) (e : List Int) => (⟨[.code (bodyOf Try.f88)], .normal, initSt Try.f88.ntmps [.v (.a [.ob (.s a)]), .v (.a [.ob (.s 1)]), .v (.c (.sl (.u64 e)))]⟩ : Cfg)) default default) []).cfg.k
theorem qp_hk (a : Fr) (e : List Int) : (run dvQ false 3000 ((⟨[.code (bodyOf Try.f88)], .normal, initSt Try.f88.ntmps [.v (.a [.ob (.s a)]), .v (.a [.ob (.s 1)]), .v (.c (.sl (.u64 e)))]⟩ : Cfg)) []).cfg.k = qp_k := by kernel_rfl
theorem qp (a : Fr) (e : List Int) {w0 : World} {F0 : Nat → Prop} {K : Kp} {ac : List Act} {Q : Exit → Act → World → Prop} {cX : Ctx} {aX : Act} (ho : AllP []) (hs : Sim w0 F0 K ac (initSt Try.f88.ntmps [.v (.a [.ob (.s a)]), .v (.a [.ob (.s 1)]), .v (.c (.sl (.u64 e)))]) cX aX) (hK : ∀ ac cY aY, Sim w0 F0 K ac (mkSt 23 [3, 6, 7, 11] [(.v (.c (.ptr 16 0))), (.v (.c (.ptr 48 0))), (.v (.c (.ptr 80 0))), (.v (.c (.clo 117 [(128, 0)])))] [16, 48, 80, 128] [(some (.fl [(.ob (.s a))])), (some (.fl [(.ob (.s (0 : Fr)))])), (some (.fl [(.ob (.s (1 : Fr)))])), (some (.fl [(.sl (.u64 e))]))] 192 [] []) cY aY → Wq Try.prog Q (qp_k) ac Exit.normal aY cY.w) : Wq Try.prog Q ([.code (bodyOf Try.f88)]) ac .normal aX cX.w :=
  run_at2 (o := ⟨_, _, _, _, _, _, _⟩) dvQ_ok (by kernel_rfl) (qp_hk a e) ho hs hK
noncomputable def qpS (a : Fr) (e : List Int) (o : Fr) : St := mkSt 23 [3, 6, 7, 11] [(SV.v (V1.c (It.ptr 16 0))), (SV.v (V1.c (It.ptr 48 0))), (SV.v (V1.c (It.ptr 80 0))), (SV.v (V1.c (It.clo 117 [(128, 0)])))] [16, 48, 80, 128] [(Option.some (En.fl [(It.ob (Ob.s a))])), (Option.some (En.fl [(It.ob (Ob.s (0 : Fr)))])), some (.fl [.ob (.s o)]), (Option.some (En.fl [(It.sl (Sq.u64 e))]))] 192 [] []
theorem qpA_hk (a : Fr) (e : List Int) (o : Fr) (z : Bool) : (run dvQ false 3000 ((⟨[.code (rfA qp_k)], .normal, roundSt (qpS a e o) [(12, .v (.c (.bool z)))]⟩ : Cfg)) []).cfg.k = [] := by kernel_rfl
theorem qpA (a : Fr) (e : List Int) (o : Fr) (z : Bool) {w0 : World} {F0 : Nat → Prop} {K : Kp} {ac : List Act} {Q : Exit → Act → World → Prop} {cX : Ctx} {aX : Act} {ρ : Option Nat} (ho : AllP []) (hs : Sim w0 F0 K ac (roundSt (qpS a e o) [(12, .v (.c (.bool z)))]) cX aX) (hK : ∀ cY aY, Sim w0 F0 K ac (mkSt 23 [3, 6, 7, 8] [(.v (.c (.ptr 16 0))), (.v (.c (.ptr 48 0))), (.v (.c (.ptr 80 0))), (.v (.c (.bool z)))] [16, 48, 80, 128] [(some (.fl [(.ob (.s a))])), (some (.fl [(.ob (.s (0 : Fr)))])), (some (.fl [(.ob (.s o))])), (some (.fl [(.sl (.u64 e))]))] 208 [[3, 6, 7, 11]] [([(.v (.c (.ptr 16 0))), (.v (.c (.ptr 48 0))), (.v (.c (.ptr 80 0))), (.v (.c (.clo 117 [(128, 0)])))], 23)]) cY aY → Wq Try.prog Q ([]) ac Exit.normal aY cY.w ρ) : Wq Try.prog Q ([.code (rfA qp_k)]) ac .normal aX cX.w ρ :=
  run_atT (o := ⟨_, _, _, _, _, _, _⟩) dvQ_ok (by kernel_rfl) (qpA_hk a e o z) ho (by kernel_rfl) (by kernel_rfl) hs hK
noncomputable def qpB (a : Fr) (e : List Int) (o : Fr) (z : Bool) : St := mkSt 23 [3, 6, 7, 8] [(SV.v (V1.c (It.ptr 16 0))), (SV.v (V1.c (It.ptr 48 0))), (SV.v (V1.c (It.ptr 80 0))), (SV.v (V1.c (It.bool z)))] [16, 48, 80, 128] [(Option.some (En.fl [(It.ob (Ob.s a))])), (Option.some (En.fl [(It.ob (Ob.s (0 : Fr)))])), some (.fl [.ob (.s o)]), (Option.some (En.fl [(It.sl (Sq.u64 e))]))] 208 [[3, 6, 7, 11]] [([(SV.v (V1.c (It.ptr 16 0))), (SV.v (V1.c (It.ptr 48 0))), (SV.v (V1.c (It.ptr 80 0))), (SV.v (V1.c (It.clo 117 [(128, 0)])))], 23)]
theorem qpC_hk (a : Fr) (e : List Int) (o : Fr) (z : Bool) : (run dvQ false 3000 ((⟨[.code (rfB qp_k)], .normal, qpB a e o z⟩ : Cfg)) [true]).cfg.k = [] := by kernel_rfl
theorem qpC (a : Fr) (e : List Int) (o : Fr) (z : Bool) {w0 : World} {F0 : Nat → Prop} {K : Kp} {ac : List Act} {Q : Exit → Act → World → Prop} {cX : Ctx} {aX : Act} {ρ : Option Nat} (ho : AllP [(z = true)]) (hs : Sim w0 F0 K ac (qpB a e o z) cX aX) (hK : ∀ cY aY, Sim w0 F0 K ac (mkSt 23 [6] [(.v (.c (.ptr 48 0)))] [16, 48, 80, 128] [(some (.fl [(.ob (.s a))])), (some (.fl [(.ob (.s (0 : Fr)))])), (some (.fl [(.ob (.s ((o * o) * a)))])), (some (.fl [(.sl (.u64 e))]))] 384 [[3, 6, 7, 11]] [([(.v (.c (.ptr 16 0))), (.v (.c (.ptr 48 0))), (.v (.c (.ptr 80 0))), (.v (.c (.clo 117 [(128, 0)])))], 23)]) cY aY → Wq Try.prog Q ([]) ac Exit.normal aY cY.w ρ) : Wq Try.prog Q ([.code (rfB qp_k)]) ac .normal aX cX.w ρ :=
  run_atT (o := ⟨_, _, _, _, _, _, _⟩) dvQ_ok (by kernel_rfl) (qpC_hk a e o z) ho (by kernel_rfl) (by kernel_rfl) hs hK
theorem qpD_hk (a : Fr) (e : List Int) (o : Fr) (z : Bool) : (run dvQ false 3000 ((⟨[.code (rfB qp_k)], .normal, qpB a e o z⟩ : Cfg)) [false]).cfg.k = [] := by kernel_rfl
theorem qpD (a : Fr) (e : List Int) (o : Fr) (z : Bool) {w0 : World} {F0 : Nat → Prop} {K : Kp} {ac : List Act} {Q : Exit → Act → World → Prop} {cX : Ctx} {aX : Act} {ρ : Option Nat} (ho : AllP [(z = false)]) (hs : Sim w0 F0 K ac (qpB a e o z) cX aX) (hK : ∀ cY aY, Sim w0 F0 K ac (mkSt 23 [6] [(.v (.c (.ptr 48 0)))] [16, 48, 80, 128] [(some (.fl [(.ob (.s a))])), (some (.fl [(.ob (.s (0 : Fr)))])), (some (.fl [(.ob (.s (o * o)))])), (some (.fl [(.sl (.u64 e))]))] 304 [[3, 6, 7, 11]] [([(.v (.c (.ptr 16 0))), (.v (.c (.ptr 48 0))), (.v (.c (.ptr 80 0))), (.v (.c (.clo 117 [(128, 0)])))], 23)]) cY aY → Wq Try.prog Q ([]) ac Exit.normal aY cY.w ρ) : Wq Try.prog Q ([.code (rfB qp_k)]) ac .normal aX cX.w ρ :=
  run_atT (o := ⟨_, _, _, _, _, _, _⟩) dvQ_ok (by kernel_rfl) (qpD_hk a e o z) ho (by kernel_rfl) (by kernel_rfl) hs hK
theorem qpX_hk (a : Fr) (e : List Int) (o : Fr) : (run dvQ false 3000 ((⟨rfR qp_k, .normal, qpS a e o⟩ : Cfg)) []).cfg.k = [] := by kernel_rfl
theorem qpX (a : Fr) (e : List Int) (o : Fr) {w0 : World} {F0 : Nat → Prop} {K : Kp} {ac : List Act} {Q : Exit → Act → World → Prop} {cX : Ctx} {aX : Act} (ho : AllP []) (hs : Sim w0 F0 K ac (qpS a e o) cX aX) (hK : ∀ ac cY aY, Sim w0 F0 K ac (mkSt 23 [6] [(.v (.c (.ptr 48 0)))] [48] [(some (.fl [(.ob (.s o))]))] 224 [] []) cY aY → Wq Try.prog Q ([]) ac Exit.ret aY cY.w) : Wq Try.prog Q (rfR qp_k) ac .normal aX cX.w :=
  run_at2 (o := ⟨_, _, _, _, _, _, _⟩) dvQ_ok (by kernel_rfl) (qpX_hk a e o) ho hs hK
noncomputable def qpE (a : Fr) (e : List Int) (o : Fr) : St := mkSt 23 [6] [(SV.v (V1.c (It.ptr 48 0)))] [16, 48, 80, 128] [(Option.some (En.fl [(It.ob (Ob.s a))])), (Option.some (En.fl [(It.ob (Ob.s (0 : Fr)))])), some (.fl [.ob (.s o)]), (Option.some (En.fl [(It.sl (Sq.u64 e))]))] 384 [[3, 6, 7, 11]] [([(SV.v (V1.c (It.ptr 16 0))), (SV.v (V1.c (It.ptr 48 0))), (SV.v (V1.c (It.ptr 80 0))), (SV.v (V1.c (It.clo 117 [(128, 0)])))], 23)]
noncomputable def qpZ (o : Fr) : St := mkSt 23 [6] [(SV.v (V1.c (It.ptr 48 0)))] [48] [some (.fl [.ob (.s o)])] 224 [] []
theorem qpR_end (o : Fr) : runEnd dvQ Try.f88 false 3000 (⟨[], .ret, qpZ o⟩) [] [] [] = (Option.some ([], ((SV.v (V1.a [(It.ob (Ob.s o))])), []))) := by kernel_rfl
end Go.Proofs.Ytlfllehomhcbfaa

/- Bits handed on; powers of an element. No conditions. -/
namespace Go.Proofs.Ytlfllehomhcbfaa

theorem and1 {m : Nat} : bitsOp BinOp.and IntKind.u64 (m : Int) (1 : Int) = ((m % 2 : Nat) : Int) := by
  show IntKind.wrap IntKind.u64 ((BitVec.ofInt 64 (m : Int) &&& BitVec.ofInt 64 ((1 : Nat) : Int)).toNat : Int) = _
  rw [BitVec.ofInt_natCast, BitVec.ofInt_natCast, BitVec.toNat_and, BitVec.toNat_ofNat, BitVec.toNat_ofNat]
  have e : 1 % 2 ^ 64 = 2 ^ 1 - 1 := by decide
  rw [e, Nat.and_two_pow_sub_one_eq_mod, wrap_u64]
  omega

theorem bit_expr {e : List Int} (h : lims e) {i : Nat} (hi : i < 1024) : (bitsOp BinOp.and IntKind.u64 (Int.fdiv (List.getD e (IntKind.wrap IntKind.i64 (Int.tdiv (i : Int) (64 : Int))).toNat (0 : Int)) ((2 : Int) ^ (Min.min (Int.tmod (i : Int) (64 : Int)).toNat 64))) (1 : Int) == (1 : Int)) = decide (numL e / 2 ^ i % 2 = 1) := by
  have e1 : Int.tdiv (i : Int) (64 : Int) = ((i / 64 : Nat) : Int) := Int.tdiv_eq_ediv_of_nonneg (by omega)
  have e2 : Int.tmod (i : Int) (64 : Int) = ((i % 64 : Nat) : Int) := Int.tmod_eq_emod_of_nonneg (by omega)
  have e3 : Min.min (((i % 64 : Nat) : Int)).toNat 64 = i % 64 := by omega
  have hg := lims_get h (i / 64)
  rw [e1, wrap_id (by omega) (by omega), Int.toNat_natCast, e2, e3, numL_bit h i]
  obtain ⟨g, hg2⟩ := Int.eq_ofNat_of_zero_le hg.1
  have hp : ((2 : Int) ^ (i % 64)) = ((2 ^ (i % 64) : Nat) : Int) := by simp
  rw [hg2, hp, Int.fdiv_eq_ediv_of_nonneg _ (Int.natCast_nonneg _), ← Int.natCast_ediv, and1, Int.toNat_natCast]
  generalize g / 2 ^ (i % 64) = m
  by_cases hm : m % 2 = 1
  · rw [hm]; rfl
  · have : m % 2 = 0 := by omega
    rw [this]; rfl

def btEnc (z : Bool) : List Value := [.bool z]

theorem bits_iter {x : Ctx} {p : Nat} {e : List Int} {M : List Bool → Nat → Option En} (hl : e.length ≤ 16) (hlim : lims e) (hM : ∀ s, M s p = some (.fl [.sl (.u64 e)])) :
    IterC Try.prog x 117 [(p, 0)] btEnc (btL (numL e) (bitsC e e.length) (bitsC e e.length)) M := by
  intro l J W hgrow hread hyield hJ
  have hcl := bitsC_le e e.length
  generalize hc : bitsC e e.length = c at *
  generalize hN : numL e = N at *
  have key : Wq Try.prog (bodyPost Try.prog Try.f117 fun e' W' => (∃ v, e' = Ending.returned v) ∧ J (btL N c c) W') [.code (bodyOf Try.f117)] [] .normal { tmps := [Value.func (.yield l) #[] #[], .pointer (some ⟨x.β p, 0, none⟩)].toArray ++ Array.replicate 22 undef, defers := [] } W := ?_
  · exact calls_of_wp (c := bodyOf Try.f117) Try.func117 rfl ((wpIn_wide (n := 0)).1 key.wp)
  obtain ⟨y, rfl, hm, hcp⟩ := hread [] W hJ
  obtain ⟨hr, hβ⟩ := hcp (p, 0) List.mem_cons_self
  have hr : y.k p = .real := hr
  have hβ : y.β p = x.β p := hβ
  have hargs : denSs (itCtx y p) [.v (.c (.val (.func (.yield l) #[] #[]))), .v (.c (.ptr 0 0))] [.func (.yield l) #[] #[], .pointer (some ⟨x.β p, 0, none⟩)] :=
    .cons ⟨rfl, 0, rfl, rfl⟩ (.cons ⟨rfl, 0, rfl, by show _ = [Value.pointer (some ⟨y.β p, 0, none⟩)]; rw [hβ]⟩ .nil)
  obtain ⟨v, hv, hbox⟩ := box_sl hm (hM []) hr
  have hs := it_sim (nx := 16) (nt := 24) (a := { tmps := [Value.func (.yield l) #[] #[], .pointer (some ⟨x.β p, 0, none⟩)].toArray ++ Array.replicate 22 undef, defers := [] }) hm (hM []) hr hbox rfl (by simp) (argT_den hargs 22)
  change Wq Try.prog _ _ _ _ _ (itCtx y p).w
  refine bt l v trivial hs fun ac cY aY hs1 => ?_
  have hmb : Mem (itCtx y p) (one (.fl [.val v])) := it_mem hm (hM _) hr hbox
  obtain ⟨hg1, _, _⟩ := it_back hmb rfl hs1 rfl
  have hsl : cY.D (.sl (.u64 e)) [v] := data_grow hg1 (fun b hb => hs1.base.f0 b hb) hm.fw rfl hv
  have hs2 := hs1.slots (svs' := [.v (.c (.val (.func (.yield l) #[] #[]))), .v (.c (.ptr 0 0)), .v (.c (.sl (.u64 e)))]) ⟨fun _ h => h, fun _ h => h, conv_val rfl hsl, trivial⟩
  refine bu l v e ⟨hl, hlim, trivial⟩ hs2 fun ac cZ aZ hs3 => ?_
  rw [hc, wrap_id (by omega) (by omega)] at hs3
  let I : { t : Nat // t ≤ c } → List Act → Act → World → Prop := fun t ac a w => ∃ y z v, z.w = w ∧ y.k p = .real ∧ y.β p = x.β p ∧ Mem y (M (btL N c t.1)) ∧ J (btL N c t.1) y.w ∧ y.D (.sl (.u64 e)) [v] ∧ Mem (itCtx y p) (one (.fl [.val v])) ∧ Sim y.w y.F (kPin (itCtx y p)) ac (buS l v ((c : Int) - 1 - (t.1 : Int))) z a
  refine loop_inv I (fun t => c - t.1) (c := lpC bu_k) (k := lpR bu_k) (by kernel_rfl) (fun t ih ac b w hI => ?_) ⟨0, Nat.zero_le _⟩ ⟨y, cZ, v, rfl, hr, hβ, hm, hJ, hv, hmb, by
      show Sim _ _ _ _ (buS l v ((c : Int) - 1 - ((0 : Nat) : Int))) _ _
      rw [show (c : Int) - 1 - ((0 : Nat) : Int) = (c : Int) - 1 from by omega]
      exact hs3.nx _⟩
  obtain ⟨t, ht⟩ := t
  obtain ⟨y, z, v, rfl, hr, hβ, hm, hJ, hv, hmb, hs⟩ := hI
  simp only at hm hJ hs ih
  by_cases h : t < c
  · obtain ⟨i, hi⟩ : ∃ i : Nat, i = c - 1 - t := ⟨_, rfl⟩
    have ei : (c : Int) - 1 - (t : Int) = (i : Int) := by omega
    rw [ei] at hs
    refine bv l v _ ⟨by simp, by decide, trivial⟩ hs fun ac cV aV hs4 => ?_
    obtain ⟨hg4, _, _⟩ := it_back hmb rfl hs4 rfl
    have hsl4 : cV.D (.sl (.u64 e)) [v] := data_grow hg4 (fun b hb => hs4.base.f0 b hb) hm.fw rfl hv
    have hs5 := hs4.slots (svs' := [.v (.c (.val (.func (.yield l) #[] #[]))), .v (.c (.ptr 0 0)), .v (.c (.int .i64 (i : Int))), .v (.c (.val (.func (.yield l) #[] #[]))), .v (.c (.sl (.u64 e))), .v (.c (.int .i64 (IntKind.wrap IntKind.i64 (Int.tdiv (i : Int) (64 : Int)))))])
      ⟨fun _ h => h, fun _ h => h, fun _ h => h, fun _ h => h, conv_val rfl hsl4, fun _ h => h, trivial⟩
    have e1 : Int.tdiv (i : Int) (64 : Int) = ((i / 64 : Nat) : Int) := Int.tdiv_eq_ediv_of_nonneg (by omega)
    have e2 : Int.tmod (i : Int) (64 : Int) = ((i % 64 : Nat) : Int) := Int.tmod_eq_emod_of_nonneg (by omega)
    refine bw l v e _ ⟨by rw [e1, wrap_id (by omega) (by omega)]; omega, by rw [e1, wrap_id (by omega) (by omega)]; omega, by decide, by rw [e2]; omega, trivial⟩ hs5 fun ac cU aU hs6 => ?_
    rw [bit_expr hlim (by omega : i < 1024), hN] at hs6
    obtain ⟨hg, hk2, hβ2⟩ := it_back hmb rfl hs6 rfl
    have hJ2 := hgrow _ _ _ hJ hg
    have e3 : btL N c (t + 1) = btL N c t ++ [decide (N / 2 ^ i % 2 = 1)] := by rw [btL_succ, hi]
    obtain ⟨r, hr1⟩ := btL_pre N c (n := c) (t := t + 1) h
    refine yield_at (R := fun W' => J (btL N c (t + 1)) W') (dst := some 22) (f := .tmp 11) (args := [.tmp 21]) (by kernel_rfl) hs6 (l := l) rfl (vs := btEnc (decide (N / 2 ^ i % 2 = 1))) ?_ ?_ fun W' hJ3 => ?_
    · have h21 := D_bool (hs6.t 21)
      show [aU.tmps.getD 21 undef] = _
      rw [h21]
      rfl
    · have := hyield (btL N c t) (decide (N / 2 ^ i % 2 = 1)) _ hJ2 ⟨r, by rw [hr1, e3, List.append_assoc]; rfl⟩
      rw [← e3] at this
      exact this
    · obtain ⟨y3, rfl, hm3, hc3⟩ := hread _ _ hJ3
      obtain ⟨hr3, hβ3⟩ := hc3 (p, 0) List.mem_cons_self
      have hr3 : y3.k p = .real := hr3
      have hβ3 : y3.β p = x.β p := hβ3
      obtain ⟨v3, hv3, hbox3⟩ := box_sl hm3 (hM _) hr3
      have hmb3 : Mem (itCtx y3 p) (one (.fl [.val v3])) := it_mem hm3 (hM _) hr3 hbox3
      have hs7 := it_again (nx' := 400) (dst := 22) (b := true) hs6 (by kernel_rfl) rfl hm3 (hM _) hr3 hbox3 (by rw [hβ2, hβ]; exact hβ3.symm) (by decide)
      change Wq Try.prog _ _ _ _ _ (itCtx y3 p).w
      refine bB l v3 _ _ trivial hs7 fun ac cT aT hs8 => ?_
      have e4 : IntKind.wrap IntKind.i64 ((i : Int) - 1) = (c : Int) - 1 - ((t + 1 : Nat) : Int) := by rw [wrap_id (by omega) (by omega)]; omega
      rw [e4] at hs8
      exact ih ⟨t + 1, by omega⟩ (by show c - (t + 1) < c - t; omega) ac aT _ ⟨y3, cT, v3, rfl, hr3, hβ3, hm3, hJ3, hv3, hmb3, hs8.nx _⟩
  · have e5 : t = c := by omega
    subst e5
    refine bX l v _ ⟨by simp; omega, trivial⟩ hs fun ac cV aV hs4 => ?_
    obtain ⟨hg, _, _⟩ := it_back hmb rfl hs4 rfl
    exact ⟨it_end dvP_ok hs4 rfl rfl rfl (fun v => ⟨⟨v, rfl⟩, hgrow _ _ _ hJ hg⟩) (.inr rfl)⟩

def btVals (z : Bool) : List SV := [.v (.c (.bool z))]

theorem powN_bit (a : Fr) (l : List Bool) (z : Bool) : powN a (pv (l ++ [z])) = if z = true then powN a (pv l) * powN a (pv l) * a else powN a (pv l) * powN a (pv l) := by
  rw [pv_snoc, Nat.two_mul]
  cases z with
  | true =>
    rw [if_pos rfl, ← powN_add]
    rfl
  | false =>
    rw [if_neg (by decide), ← powN_add]
    rfl

theorem power_fnd (a : Fr) (e : List Int) (hl : e.length ≤ 16) (hlim : lims e) :
    FnD Try.prog 88 [.v (.a [.ob (.s a)]), .v (.a [.ob (.s 1)]), .v (.c (.sl (.u64 e)))] (.v (.a [.ob (.s (powN a (numL e)))])) [] := by
  refine fn_start_m (fn := Try.f88) (c := bodyOf Try.f88) Try.func88 rfl rfl fun x b hk hF hs => ?_
  refine qp a e trivial hs fun ac cY aY hs1 => ?_
  obtain ⟨e1, e2⟩ := isRf_eq (k := qp_k) (by kernel_rfl)
  rw [e1]
  have eP : (rfP qp_k).toList = [12] := by kernel_rfl
  have eG : rfG qp_k = .tmp 11 := by kernel_rfl
  refine range_rule (ps := rfP qp_k) e2 hs1 (gf := 117) (caps := [(128, 0)]) (enters_of Try.func117 rfl rfl) (fun pre => qpS a e (powN a (pv pre))) (fun s => by rw [eG]; rfl) ⟨_, rfl⟩ (btL (numL e) (bitsC e e.length) (bitsC e e.length)) btVals btEnc
    (fun y z => .cons ⟨rfl, 0, rfl⟩ .nil) (fun z => by rw [← Array.length_toList, eP]; rfl) (fun pre p hp => ?_) (bits_iter hl hlim fun s => rfl) (fun pre z => qpB a e (powN a (pv pre)) z)
    (fun pre z => qpE a e (powN a (pv (pre ++ [z])))) (fun pre z => ⟨_, rfl⟩) (fun pre z hz w1 F1 K1 as1 Q1 l y b hs2 hQ => ?_) (fun pre z hz w1 F1 K1 as1 Q1 l y b hs2 hQ => ?_) fun D y hs2 hD hFD hd => ?_
  · rw [eP] at hp
    have h23 : (qpS a e (powN a (pv pre))).nt = 23 := rfl
    rw [h23]
    simp only [List.mem_cons, List.not_mem_nil, or_false] at hp
    subst hp
    decide
  · rw [eP] at hs2
    exact qpA a e _ z trivial hs2 fun cZ aZ hs3 => ⟨hQ _ _ (hs3.nx _)⟩
  · rw [powN_bit] at hQ
    cases z with
    | true => exact qpC a e _ true ⟨rfl, trivial⟩ hs2 fun cZ aZ hs3 => ⟨hQ _ _ (hs3.nx _)⟩
    | false => exact qpD a e _ false ⟨rfl, trivial⟩ hs2 fun cZ aZ hs3 => ⟨hQ _ _ (hs3.nx _)⟩
  · have hs3 := hs2.marked rfl rfl D
    have hN : numL e < 2 ^ bitsC e e.length := by
      have := numL_lt hlim e.length (Nat.le_refl _)
      rwa [List.take_length] at this
    rw [pv_bits hN _ (Nat.le_refl _), Nat.sub_self, Nat.pow_zero, Nat.div_one] at hs2 hs3
    generalize powN a (numL e) = o at hs2 hs3 ⊢
    refine qpX a e o trivial hs3 fun ac cV aV hs6 => ⟨?_⟩
    have hs7 : Sim y.w y.F (kOwn y kAll (markOf D)) ac (qpZ o) cV aV := hs6
    exact fn_finish dvQ_ok hk hF (qpR_end o) trivial (fun y v hd => hd) hs2 hD hFD hd rfl hs7

end Go.Proofs.Ytlfllehomhcbfaa

/- The inverse; sums, products and powers outside; coefficients of values, walked. No conditions. -/
namespace Go.Proofs.Ytlfllehomhcbfaa

theorem power_fnd2 (a u : Fr) (e : List Int) (hu : u = 1) (hl : e.length ≤ 16) (hlim : lims e) :
    FnD Try.prog 88 [.v (.a [.ob (.s a)]), .v (.a [.ob (.s u)]), .v (.c (.sl (.u64 e)))] (.v (.a [.ob (.s (powN a (numL e)))])) [] := by
  subst hu
  exact power_fnd a e hl hlim
def power88 : FnSpec
  | [.v (.a [.ob (.s a)]), .v (.a [.ob (.s u)]), .v (.c (.sl (.u64 e)))] => some ([u = 1, e.length ≤ 16, lims e], .v (.a [.ob (.s (powN a (numL e)))]), [])
  | _ => none
noncomputable def dvR1 : Env := dvQ.set (addT dvQ.fn 88 power88)
theorem dvR1_ok : EnvOk Try.prog dvR1 := env_add dvQ_ok 88 power88 (enters_of Try.func88 rfl rfl) fun args o r es h ho => by
  unfold power88 at h
  split at h
  · cases h; exact power_fnd2 _ _ _ ho.1 ho.2.1 ho.2.2.1
  · cases h
--@env dvR1 dvR1_ok
theorem inv0 (a : Fr) : fnRes dvR1 Try.f89 3000 [.v (.a [.ob (.s a)])] [] [] [] = (Option.some ([((0 : Int) ≤ (0 : Int)), ((0 : Int) < (4 : Int)), (0 < 4), ((0 : Int) ≤ (0 : Int)), ((0 : Int) < (4 : Int)), ((0 : Int) ≤ (1 : Int)), ((1 : Int) < (18446744073709551616 : Int)), ((Fin.ofNat rN 1) = (1 : Fr)), (4 ≤ 16), (lims [(18446744069414584319 : Int), (6034159408538082302 : Int), (3691218898639771653 : Int), (8353516859464449352 : Int)])], ((SV.v (V1.a [(It.ob (Ob.s (powN a 52435875175126190479447740508185965837690552500527637822603658699938581184511)))])), []))) := by kernel_rfl
theorem fadd0 (a b : U4) : fnRes dvR1 Try.f49 3000 [.v (.a [.ob (.fr a)]), .v (.a [.ob (.fr b)])] [] [] [] = (Option.some ([], ((SV.v (V1.a [(It.ob (Ob.fr (outF ((inF a) + (inF b)))))])), []))) := by kernel_rfl
theorem fmul0 (a b : U4) : fnRes dvR1 Try.f50 3000 [.v (.a [.ob (.fr a)]), .v (.a [.ob (.fr b)])] [] [] [] = (Option.some ([], ((SV.v (V1.a [(It.ob (Ob.fr (outF ((inF a) * (inF b)))))])), []))) := by kernel_rfl
theorem fcl0 (a : U4) : fnRes dvR1 Try.f55 3000 [.v (.a [.ob (.fr a)])] [] [] [] = (Option.some ([], ((SV.v (V1.a [(It.ob (Ob.fr (outF (inF a))))])), []))) := by kernel_rfl
theorem fpow0 (a b : U4) : fnRes dvR1 Try.f51 3000 [.v (.a [.ob (.fr a)]), .v (.a [.ob (.fr b)])] [] [] [] = (Option.some ([((0 : Int) ≤ (1 : Int)), ((1 : Int) < (18446744073709551616 : Int)), ((Fin.ofNat rN 1) = (1 : Fr)), (4 ≤ 16), (lims [(limb (Ob.n (Ob.fr b)) 0), (limb (Ob.n (Ob.fr b)) 1), (limb (Ob.n (Ob.fr b)) 2), (limb (Ob.n (Ob.fr b)) 3)])], ((SV.v (V1.a [(It.ob (Ob.fr (outF (powN (inF a) (numL [(limb (Ob.n (Ob.fr b)) 0), (limb (Ob.n (Ob.fr b)) 1), (limb (Ob.n (Ob.fr b)) 2), (limb (Ob.n (Ob.fr b)) 3)])))))])), []))) := by kernel_rfl

/-- 1 divided by it; 0 of 0. -/
def invF (a : Fr) : Fr := powN a (rN - 2)
theorem inv_fnd (a : Fr) : FnD Try.prog 89 [.v (.a [.ob (.s a)])] (.v (.a [.ob (.s (invF a))])) [] := by
  have e : 52435875175126190479447740508185965837690552500527637822603658699938581184511 = rN - 2 := by decide +kernel
  have r := inv0 a
  rw [e] at r
  refine fn_sound dvR1_ok Try.func89 r ⟨by decide, by decide, by decide, by decide, by decide, by decide, by decide, rfl, by decide, ?_, trivial⟩
  intro x hx
  simp only [List.mem_cons, List.not_mem_nil, or_false] at hx
  rcases hx with rfl | rfl | rfl | rfl <;> decide

theorem limbs_lims (n : Nat) : lims [limb n 0, limb n 1, limb n 2, limb n 3] := by
  have key : ∀ i, 0 ≤ limb n i ∧ limb n i < 18446744073709551616 := fun i => by unfold limb; omega
  intro x hx
  simp only [List.mem_cons, List.not_mem_nil, or_false] at hx
  rcases hx with rfl | rfl | rfl | rfl <;> exact key _

theorem limbs_numL (b : U4) : numL [limb (Ob.n (Ob.fr b)) 0, limb (Ob.n (Ob.fr b)) 1, limb (Ob.n (Ob.fr b)) 2, limb (Ob.n (Ob.fr b)) 3] = b.val := by
  have hb : b.val < 115792089237316195423570985008687907853269984665640564039457584007913129639936 := b.isLt
  have hn : Ob.n (Ob.fr b) = b.val := rfl
  rw [hn]
  generalize b.val = n at *
  simp only [numL, limb, Int.toNat_natCast]
  have e1 : n / 2 ^ (64 * 1) = n / 18446744073709551616 := rfl
  have e2 : n / 2 ^ (64 * 2) = n / 18446744073709551616 / 18446744073709551616 := by rw [Nat.div_div_eq_div_mul]
  have e3 : n / 2 ^ (64 * 3) = n / 18446744073709551616 / 18446744073709551616 / 18446744073709551616 := by rw [Nat.div_div_eq_div_mul, Nat.div_div_eq_div_mul]
  rw [e1, e2, e3]
  omega

theorem fpow_fnd (a b : U4) : FnD Try.prog 51 [.v (.a [.ob (.fr a)]), .v (.a [.ob (.fr b)])] (.v (.a [.ob (.fr (outF (powN (inF a) b.val)))])) [] := by
  have r := fpow0 a b
  rw [limbs_numL] at r
  exact fn_sound dvR1_ok Try.func51 r ⟨by decide, by decide, rfl, by decide, limbs_lims _, trivial⟩
def inv89Spec : FnSpec
  | [.v (.a [.ob (.s a)])] => some ([], .v (.a [.ob (.s (invF a))]), [])
  | _ => none
noncomputable def dvR2 : Env := dvR1.set (addT dvR1.fn 89 inv89Spec)
theorem dvR2_ok : EnvOk Try.prog dvR2 := env_add dvR1_ok 89 inv89Spec (enters_of Try.func89 rfl rfl) fun args o r es h _ => by
  unfold inv89Spec at h
  split at h
  · cases h; exact inv_fnd _
  · cases h
def fadd49 : FnSpec
  | [.v (.a [.ob (.fr a)]), .v (.a [.ob (.fr b)])] => some ([], .v (.a [.ob (.fr (outF (inF a + inF b)))]), [])
  | _ => none
noncomputable def dvR3 : Env := dvR2.set (addT dvR2.fn 49 fadd49)
theorem dvR3_ok : EnvOk Try.prog dvR3 := env_add dvR2_ok 49 fadd49 (enters_of Try.func49 rfl rfl) fun args o r es h _ => by
  unfold fadd49 at h
  split at h
  · cases h; exact fn_sound dvR1_ok Try.func49 (fadd0 _ _) trivial
  · cases h
def fmul50 : FnSpec
  | [.v (.a [.ob (.fr a)]), .v (.a [.ob (.fr b)])] => some ([], .v (.a [.ob (.fr (outF (inF a * inF b)))]), [])
  | _ => none
noncomputable def dvR4 : Env := dvR3.set (addT dvR3.fn 50 fmul50)
theorem dvR4_ok : EnvOk Try.prog dvR4 := env_add dvR3_ok 50 fmul50 (enters_of Try.func50 rfl rfl) fun args o r es h _ => by
  unfold fmul50 at h
  split at h
  · cases h; exact fn_sound dvR1_ok Try.func50 (fmul0 _ _) trivial
  · cases h
def fcl55 : FnSpec
  | [.v (.a [.ob (.fr a)])] => some ([], .v (.a [.ob (.fr (outF (inF a)))]), [])
  | _ => none
noncomputable def dvR5 : Env := dvR4.set (addT dvR4.fn 55 fcl55)
theorem dvR5_ok : EnvOk Try.prog dvR5 := env_add dvR4_ok 55 fcl55 (enters_of Try.func55 rfl rfl) fun args o r es h _ => by
  unfold fcl55 at h
  split at h
  · cases h; exact fn_sound dvR1_ok Try.func55 (fcl0 _) trivial
  · cases h
def fpow51 : FnSpec
  | [.v (.a [.ob (.fr a)]), .v (.a [.ob (.fr b)])] => some ([], .v (.a [.ob (.fr (outF (powN (inF a) b.val)))]), [])
  | _ => none
noncomputable def dvR : Env := dvR5.set (addT dvR5.fn 51 fpow51)
theorem dvR_ok : EnvOk Try.prog dvR := env_add dvR5_ok 51 fpow51 (enters_of Try.func51 rfl rfl) fun args o r es h _ => by
  unfold fpow51 at h
  split at h
  · cases h; exact fpow_fnd _ _
  · cases h
--@env dvR dvR_ok
theorem kfA (log : Int) (w s : U4) (l : List U4) : fnRes dvR Try.f54 3000 [.v (.a [.int .i64 log, .ob (.fr w)]), .v (.a [.ob (.fr s)]), .v (.c (.sl (.fr l)))] [true] [] [] = (Option.some ([((Bool.not (domOk log w)) = true)], ((SV.t [(V1.c (It.val (Value.slice Option.none 0 0))), (V1.c (It.int IntKind.i64 (40 : Int)))]), []))) := by kernel_rfl
theorem kfB (log : Int) (w s : U4) (l : List U4) : fnRes dvR Try.f54 3000 [.v (.a [.int .i64 log, .ob (.fr w)]), .v (.a [.ob (.fr s)]), .v (.c (.sl (.fr l)))] [false, true] [] [] = (Option.some ([((Bool.not (domOk log w)) = false), ((0 : Int) ≤ log), (((((List.length l) : Nat) : Int) != (IntKind.wrap IntKind.i64 ((1 : Int) * ((2 : Int) ^ (Min.min (log).toNat 64))))) = true)], ((SV.t [(V1.c (It.val (Value.slice Option.none 0 0))), (V1.c (It.int IntKind.i64 (3 : Int)))]), []))) := by kernel_rfl
theorem kfC (log : Int) (w s : U4) (l : List U4) : fnRes dvR Try.f54 3000 [.v (.a [.int .i64 log, .ob (.fr w)]), .v (.a [.ob (.fr s)]), .v (.c (.sl (.fr l)))] [false, false, true] [] [] = (Option.some ([((Bool.not (domOk log w)) = false), ((0 : Int) ≤ log), (((((List.length l) : Nat) : Int) != (IntKind.wrap IntKind.i64 ((1 : Int) * ((2 : Int) ^ (Min.min (log).toNat 64))))) = false), ((decide ((inF s) = (0 : Fr))) = true)], ((SV.t [(V1.c (It.val (Value.slice Option.none 0 0))), (V1.c (It.int IntKind.i64 (1 : Int)))]), []))) := by kernel_rfl
noncomputable def cfIn_k : List KI := (run dvR false 3000 ((fun (log : Int) (w s : U4) (l : List U4) => (⟨[.code (bodyOf Try.f54)], .normal, initSt Try.f54.ntmps [.v (.a [.int .i64 log, .ob (.fr w)]), .v (.a [.ob (.fr s)]), .v (.c (.sl (.fr l)))]⟩ : Cfg)) default default default default) [false, false, false]).cfg.k
theorem cfIn_hk (log : Int) (w s : U4) (l : List U4) : (run dvR false 3000 ((⟨[.code (bodyOf Try.f54)], .normal, initSt Try.f54.ntmps [.v (.a [.int .i64 log, .ob (.fr w)]), .v (.a [.ob (.fr s)]), .v (.c (.sl (.fr l)))]⟩ : Cfg)) [false, false, false]).cfg.k = cfIn_k := by kernel_rfl
theorem cfIn (log : Int) (w s : U4) (l : List U4) {w0 : World} {F0 : Nat → Prop} {K : Kp} {ac : List Act} {Q : Exit → Act → World → Prop} {cX : Ctx} {aX : Act} (ho : AllP [((Bool.not (domOk log w)) = false), ((0 : Int) ≤ log), (((((List.length l) : Nat) : Int) != (IntKind.wrap .i64 ((1 : Int) * ((2 : Int) ^ (Min.min (log).toNat 64))))) = false), ((decide ((inF s) = (0 : Fr))) = false), ((0 : Int) ≤ (((List.length l) : Nat) : Int)), ((((List.length l) : Nat) : Int) = (((List.length l) : Nat) : Int)), (((32 : Int) * (((List.length l) : Nat) : Int)) ≤ (281474976710656 : Int)), ((((List.length l) : Nat) : Int) ≤ (9223372036854775807 : Int))]) (hs : Sim w0 F0 K ac (initSt Try.f54.ntmps [.v (.a [.int .i64 log, .ob (.fr w)]), .v (.a [.ob (.fr s)]), .v (.c (.sl (.fr l)))]) cX aX) (hK : ∀ ac cY aY, Sim w0 F0 K ac (mkSt 82 [3, 8, 9, 34, 35, 36] [(.v (.c (.ptr 16 0))), (.v (.c (.ptr 112 0))), (.v (.c (.slc 400 0 ((((List.length l) : Nat) : Int)).toNat 4))), (.v (.c (.sl (.fr l)))), (.v (.c (.int .i64 (((List.length l) : Nat) : Int)))), (.v (.c (.int .i64 (0 : Int))))] [16, 112, 400] [(some (.fl [(.int .i64 log), (.ob (.fr w))])), (some (.fl [(.ob (.s (inF s)))])), (some (.sq (.s (List.replicate ((((List.length l) : Nat) : Int)).toNat (0 : Fr)))))] 480 [] []) cY aY → Wq Try.prog Q (cfIn_k) ac Exit.normal aY cY.w) : Wq Try.prog Q ([.code (bodyOf Try.f54)]) ac .normal aX cX.w :=
  run_at2 (o := ⟨_, _, _, _, _, _, _⟩) dvR_ok (by kernel_rfl) (cfIn_hk log w s l) ho hs hK
noncomputable def cfS (log : Int) (w s : U4) (l : List U4) (N : Nat) (L : List Fr) (i : Nat) : St := mkSt 82 [3, 8, 9, 34, 35, 36] [(SV.v (V1.c (It.ptr 16 0))), (SV.v (V1.c (It.ptr 112 0))), .v (.c (.slc 400 0 N 4)), (SV.v (V1.c (It.sl (Sq.fr l)))), .v (.c (.int .i64 (N : Int))), .v (.c (.int .i64 (i : Int)))] [16, 112, 400] [(Option.some (En.fl [(It.int IntKind.i64 log), (It.ob (Ob.fr w))])), (Option.some (En.fl [(It.ob (Ob.s (inF s)))])), some (.sq (.s L))] 480 [] []
theorem cfN_hk (log : Int) (w s : U4) (l : List U4) (N : Nat) (L : List Fr) (i : Nat) : (run dvR false 3000 ((⟨lpIn cfIn_k, .normal, cfS log w s l N L i⟩ : Cfg)) [true]).cfg.k = lpBk cfIn_k := by kernel_rfl
theorem cfN (log : Int) (w s : U4) (l : List U4) (N : Nat) (L : List Fr) (i : Nat) {w0 : World} {F0 : Nat → Prop} {K : Kp} {ac : List Act} {Q : Exit → Act → World → Prop} {cX : Ctx} {aX : Act} (ho : AllP [((decide (((i : Nat) : Int) < ((N : Nat) : Int))) = true), ((0 : Int) ≤ ((i : Nat) : Int)), (((i : Nat) : Int) < (((List.length l) : Nat) : Int)), ((0 : Int) ≤ ((i : Nat) : Int)), (((i : Nat) : Int) < ((N : Nat) : Int)), (0 = 0), ((((i : Nat) : Int)).toNat < (List.length L))]) (hs : Sim w0 F0 K ac (cfS log w s l N L i) cX aX) (hK : ∀ ac cY aY, Sim w0 F0 K ac (mkSt 82 [3, 8, 9, 34, 35, 36] [(.v (.c (.ptr 16 0))), (.v (.c (.ptr 112 0))), (.v (.c (.slc 400 0 N 4))), (.v (.c (.sl (.fr l)))), (.v (.c (.int .i64 ((N : Nat) : Int)))), (.v (.c (.int .i64 (IntKind.wrap .i64 (((i : Nat) : Int) + (1 : Int))))))] [16, 112, 400] [(some (.fl [(.int .i64 log), (.ob (.fr w))])), (some (.fl [(.ob (.s (inF s)))])), (some (.sq (.s (List.set L (((i : Nat) : Int)).toNat (inF (List.getD l (((i : Nat) : Int)).toNat (0 : U4)))))))] 720 [] []) cY aY → Wq Try.prog Q (lpBk cfIn_k) ac Exit.normal aY cY.w) : Wq Try.prog Q (lpIn cfIn_k) ac .normal aX cX.w :=
  run_at2 (o := ⟨_, _, _, _, _, _, _⟩) dvR_ok (by kernel_rfl) (cfN_hk log w s l N L i) ho hs hK
noncomputable def cgIn_k : List KI := (run dvR false 3000 ((fun (log : Int) (w s : U4) (l : List U4) (N : Nat) (L : List Fr) (i : Nat) => (⟨lpIn cfIn_k, .normal, cfS log w s l N L i⟩ : Cfg)) default default default default default default default) [false]).cfg.k
theorem cgIn_hk (log : Int) (w s : U4) (l : List U4) (N : Nat) (L : List Fr) (i : Nat) : (run dvR false 3000 ((⟨lpIn cfIn_k, .normal, cfS log w s l N L i⟩ : Cfg)) [false]).cfg.k = cgIn_k := by kernel_rfl
theorem cgIn (log : Int) (w s : U4) (l : List U4) (N : Nat) (L : List Fr) (i : Nat) {w0 : World} {F0 : Nat → Prop} {K : Kp} {ac : List Act} {Q : Exit → Act → World → Prop} {cX : Ctx} {aX : Act} (ho : AllP [((decide (((i : Nat) : Int) < ((N : Nat) : Int))) = false), ((0 : Int) ≤ log), (log ≤ (16 : Int)), (N = (2 ^ (log).toNat)), ((List.length L) = N), (halfNeg log (invF (inF w))), ((0 : Int) ≤ (IntKind.wrap .u64 ((N : Nat) : Int))), ((IntKind.wrap .u64 ((N : Nat) : Int)) < (18446744073709551616 : Int))]) (hs : Sim w0 F0 K ac (cfS log w s l N L i) cX aX) (hK : ∀ ac cY aY, Sim w0 F0 K ac (mkSt 82 [9, 12, 13, 63, 64] [(.v (.c (.slc 400 0 N 4))), (.v (.c (.ptr 704 0))), (.v (.c (.ptr 768 0))), (.v (.c (.int .i64 ((N : Nat) : Int)))), (.v (.c (.int .i64 (0 : Int))))] [400, 704, 768] [(some (.sq (.s (ntt L (invF (inF w)) N)))), (some (.fl [(.ob (.s (invF (Fin.ofNat rN ((IntKind.wrap .u64 ((N : Nat) : Int))).toNat))))])), (some (.fl [(.ob (.s (invF (inF s))))]))] 848 [] []) cY aY → Wq Try.prog Q (cgIn_k) ac Exit.normal aY cY.w) : Wq Try.prog Q (lpIn cfIn_k) ac .normal aX cX.w :=
  run_at2 (o := ⟨_, _, _, _, _, _, _⟩) dvR_ok (by kernel_rfl) (cgIn_hk log w s l N L i) ho hs hK
noncomputable def chS (N : Nat) (L : List Fr) (x b : Fr) (i : Nat) : St := mkSt 82 [9, 12, 13, 63, 64] [.v (.c (.slc 400 0 N 4)), (SV.v (V1.c (It.ptr 704 0))), (SV.v (V1.c (It.ptr 768 0))), .v (.c (.int .i64 (N : Int))), .v (.c (.int .i64 (i : Int)))] [400, 704, 768] [some (.sq (.s L)), some (.fl [.ob (.s x)]), some (.fl [.ob (.s b)])] 848 [] []
theorem chN_hk (N : Nat) (L : List Fr) (x b : Fr) (i : Nat) : (run dvR false 3000 ((⟨lpIn cgIn_k, .normal, chS N L x b i⟩ : Cfg)) [true]).cfg.k = lpBk cgIn_k := by kernel_rfl
theorem chN (N : Nat) (L : List Fr) (x b : Fr) (i : Nat) {w0 : World} {F0 : Nat → Prop} {K : Kp} {ac : List Act} {Q : Exit → Act → World → Prop} {cX : Ctx} {aX : Act} (ho : AllP [((decide (((i : Nat) : Int) < ((N : Nat) : Int))) = true), ((0 : Int) ≤ ((i : Nat) : Int)), (((i : Nat) : Int) < ((N : Nat) : Int)), (0 = 0), ((((i : Nat) : Int)).toNat < (List.length L)), ((0 : Int) ≤ ((i : Nat) : Int)), (((i : Nat) : Int) < ((N : Nat) : Int)), (0 = 0), ((((i : Nat) : Int)).toNat < (List.length L))]) (hs : Sim w0 F0 K ac (chS N L x b i) cX aX) (hK : ∀ ac cY aY, Sim w0 F0 K ac (mkSt 82 [9, 12, 13, 63, 64] [(.v (.c (.slc 400 0 N 4))), (.v (.c (.ptr 704 0))), (.v (.c (.ptr 768 0))), (.v (.c (.int .i64 ((N : Nat) : Int)))), (.v (.c (.int .i64 (IntKind.wrap .i64 (((i : Nat) : Int) + (1 : Int))))))] [400, 704, 768] [(some (.sq (.s (List.set L (((i : Nat) : Int)).toNat ((List.getD L (((i : Nat) : Int)).toNat (0 : Fr)) * x))))), (some (.fl [(.ob (.s (x * b)))])), (some (.fl [(.ob (.s b))]))] 1152 [] []) cY aY → Wq Try.prog Q (lpBk cgIn_k) ac Exit.normal aY cY.w) : Wq Try.prog Q (lpIn cgIn_k) ac .normal aX cX.w :=
  run_at2 (o := ⟨_, _, _, _, _, _, _⟩) dvR_ok (by kernel_rfl) (chN_hk N L x b i) ho hs hK
theorem chX_end (N : Nat) (L : List Fr) (x b : Fr) (i : Nat) : runEnd dvR Try.f54 false 3000 (⟨lpIn cgIn_k, .normal, chS N L x b i⟩) [false] [880] [] = (Option.some ([((decide (((i : Nat) : Int) < ((N : Nat) : Int))) = false), (0 = 0), (N = (List.length L)), (4 = 4), ((List.length L) ≤ 8796093022208)], ((SV.t [(V1.c (It.slc 0 0 (List.length L) 4)), (V1.c (It.int IntKind.i64 (0 : Int)))]), [(En.sq (Sq.fr (List.map outF L)))]))) := by kernel_rfl
end Go.Proofs.Ytlfllehomhcbfaa

/- Coefficients of values: contract; values and coefficients, there and back. No conditions. -/
namespace Go.Proofs.Ytlfllehomhcbfaa

theorem pw_powN (x : Fr) : ∀ n, pw x n = powN x n
  | 0 => rfl
  | n + 1 => by
    show pw x n * x = powN x n * x
    rw [pw_powN x n]

theorem invF_mul {x : Fr} (h : x ≠ 0) : x * invF x = 1 := by
  have := pinv_mul x h
  unfold pinv at this
  rw [pw_powN] at this
  exact this

theorem fr_mul_comm (x y : Fr) : x * y = y * x := mul_comm_g x y
theorem fr_mul_assoc (x y z : Fr) : x * y * z = x * (y * z) := mul_assoc_g x y z
theorem fr_one_mul (x : Fr) : 1 * x = x := one_mul_g x
theorem fr_one_ne : (1 : Fr) ≠ 0 := by decide

theorem dom_root {log : Int} {w : U4} (h : domOk log w = true) : powN (inF w) (2 ^ log.toNat) = 1 := by
  obtain ⟨h0, h1, rfl⟩ := domOk_log h
  rw [in_out, sqN_pow, powN_powN, ← Nat.pow_add, show (32 - log).toNat + log.toNat = 32 from by omega, ← sqN_pow]
  exact root32

theorem pow_zero : ∀ {n : Nat}, 0 < n → powN (0 : Fr) n = 0
  | n + 1, _ => by
    show powN 0 n * 0 = 0
    exact fr_mul_zero _

theorem dom_ne {log : Int} {w : U4} (h : domOk log w = true) : inF w ≠ 0 := fun e => by
  have h1 := dom_root h
  rw [e, pow_zero (Nat.two_pow_pos _)] at h1
  exact fr_one_ne h1.symm

theorem neg_inv {a b : Fr} (h : a * b = 1) (hb : b = -1) : a = -1 := neg_inv_g h hb

theorem half_inv {log : Int} {w : U4} (h : domOk log w = true) : halfNeg log (invF (inF w)) := by
  intro hp
  have h1 := dom_half h hp
  have h2 := invF_mul (dom_ne h)
  have h3 : powN (invF (inF w)) (2 ^ (log.toNat - 1)) * powN (inF w) (2 ^ (log.toNat - 1)) = 1 := by
    rw [← powN_mul, fr_mul_comm, h2, ← pw_powN, pw_one_g]
  exact neg_inv h3 h1

/-- The coefficients of values. -/
def coefsF (n : Nat) (w s : Fr) (V : List Fr) : List Fr := tab n (fun i => sm (fun j => V.getD j 0 * powN (invF w) (i * j)) n * (invF (Fin.ofNat rN n) * powN (invF s) i))
theorem coefsF_len (n : Nat) (w s : Fr) (V : List Fr) : (coefsF n w s V).length = n := tab_len _ _

theorem coefs_fnd (log : Int) (w s : U4) (l : List U4) (hd : domOk log w = true) (hl : l.length = 2 ^ log.toNat) (hs0 : inF s ≠ 0) :
    FnD Try.prog 54 [.v (.a [.int .i64 log, .ob (.fr w)]), .v (.a [.ob (.fr s)]), .v (.c (.sl (.fr l)))] (.t [.c (.slc 0 0 (2 ^ log.toNat) 4), .c (.int .i64 0)]) [.sq (.fr ((coefsF (2 ^ log.toNat) (inF w) (inF s) (l.map inF)).map outF))] := by
  obtain ⟨h0, h1, _⟩ := domOk_log hd
  have hhalf := half_inv hd
  have hp2 : 2 ^ log.toNat ≤ 2 ^ 16 := Nat.pow_le_pow_right (by decide) (by omega)
  have hsh := shl3 h0 h1
  obtain ⟨N, hN⟩ : ∃ N, N = 2 ^ log.toNat := ⟨_, rfl⟩
  rw [← hN] at hl hp2 hsh ⊢
  refine fn_start (fn := Try.f54) (c := bodyOf Try.f54) Try.func54 rfl rfl fun x a hk hF hs => ?_
  refine cfIn log w s l ⟨by rw [hd]; rfl, h0, by rw [hsh, hl]; simp, decide_eq_false hs0, by omega, rfl, by omega, by omega, trivial⟩ hs fun ac cY aY hs1 => ?_
  rw [Int.toNat_natCast, hl] at hs1
  refine loop_rule (ι := { i : Nat // i ≤ N }) (fun i => cfS log w s l N ((List.range i.1).map (fun j => inF (l.getD j 0)) ++ List.replicate (N - i.1) 0) i.1) (fun i => N - i.1) (c := lpC cfIn_k) (k := lpR cfIn_k) (by kernel_rfl) (fun i ih ac cY aY hs => ?_) ⟨0, Nat.zero_le _⟩ hs1
  obtain ⟨i, hi⟩ := i
  simp only at ih hs
  have hlen := fill_len (fun j => inF (l.getD j 0)) 0 hi
  by_cases h : i < N
  · refine cfN log w s l N _ i ⟨by simp [h], by omega, by omega, by omega, by omega, rfl, by rw [hlen]; omega, trivial⟩ hs fun ac cZ aZ hs2 => ?_
    rw [Int.toNat_natCast, fill_set (fun j => inF (l.getD j 0)) _ h, wrap_id (by omega) (by omega)] at hs2
    exact ih ⟨i + 1, by omega⟩ (by show N - (i + 1) < N - i; omega) ac cZ aZ (hs2.nx _)
  · have e : i = N := by omega
    subst e
    rw [Nat.sub_self, List.replicate_zero, List.append_nil] at hs
    have hV : (List.range i).map (fun j => inF (l.getD j 0)) = l.map inF := by rw [← hl]; exact range_getD inF l 0
    rw [hV] at hs
    have hVl : (l.map inF).length = i := by rw [List.length_map, hl]
    refine cgIn log w s l i _ i ⟨by simp, h0, h1, hN, hVl, hhalf, by rw [wrap_u (by omega) (by omega)]; omega, by rw [wrap_u (by omega) (by omega)]; omega, trivial⟩ hs fun ac cZ aZ hs2 => ?_
    rw [wrap_u (by omega) (by omega), Int.toNat_natCast] at hs2
    let A : Nat → Fr := fun q => sm (fun j => (l.map inF).getD j 0 * powN (invF (inF w)) (q * j)) i
    have hA : ntt (l.map inF) (invF (inF w)) i = tab i A := rfl
    rw [hA] at hs2
    let X : Nat → Fr := fun q => invF (Fin.ofNat rN i) * powN (invF (inF s)) q
    have hX0 : X 0 = invF (Fin.ofNat rN i) := fr_mul_one _
    rw [← hX0] at hs2
    have e0 : tab i (fun q => if q < 0 then A q * X q else A q) = tab i A := tab_congr fun q _ => if_neg (Nat.not_lt_zero q)
    rw [← e0] at hs2
    refine loop_rule (ι := { q : Nat // q ≤ i }) (fun k => chS i (tab i (fun q => if q < k.1 then A q * X q else A q)) (X k.1) (invF (inF s)) k.1) (fun k => i - k.1) (c := lpC cgIn_k) (k := lpR cgIn_k) (by kernel_rfl) (fun k ih ac cY aY hs => ?_) ⟨0, Nat.zero_le _⟩ (hs2.nx _)
    · obtain ⟨k, hk1⟩ := k
      simp only at ih hs
      have htl : (tab i (fun q => if q < k then A q * X q else A q)).length = i := tab_len _ _
      by_cases h2 : k < i
      · refine chN i _ _ _ k ⟨by simp [h2], by omega, by omega, rfl, by rw [htl]; omega, by omega, by omega, rfl, by rw [htl]; omega, trivial⟩ hs fun ac cV aV hs3 => ?_
        have hX : X k * invF (inF s) = X (k + 1) := fr_mul_assoc _ _ _
        have hset : tab i (fun q => if q = k then (if k < k then A k * X k else A k) * X k else if q < k then A q * X q else A q) = tab i (fun q => if q < k + 1 then A q * X q else A q) := tab_congr fun q _ => by
          by_cases g1 : q = k
          · subst g1; simp
          · by_cases g2 : q < k
            · rw [if_neg g1, if_pos g2, if_pos (by omega)]
            · rw [if_neg g1, if_neg g2, if_neg (by omega)]
        rw [Int.toNat_natCast, tab_get h2, tab_set, hX, hset, wrap_id (by omega) (by omega)] at hs3
        exact ih ⟨k + 1, by omega⟩ (by show i - (k + 1) < i - k; omega) ac cV aV (hs3.nx _)
      · have e2 : k = i := by omega
        subst e2
        have r := chX_end k (tab k (fun q => if q < k then A q * X q else A q)) (X k) (invF (inF s)) k
        have hC : tab k (fun q => if q < k then A q * X q else A q) = coefsF k (inF w) (inF s) (l.map inF) := tab_congr fun q hq => if_pos hq
        rw [htl, hC] at r
        rw [hC] at hs
        exact run_end2 dvR_ok hk hF r ⟨by simp, rfl, rfl, rfl, by omega, trivial⟩ (fun y v hd => hd) hs

/-- What is told of whatever values. -/
def cfE (log : Int) (w s : U4) (l : List U4) : Int := if domOk log w then (if l.length = 2 ^ log.toNat then (if inF s = 0 then 1 else 0) else 3) else 40
def cfL (log : Int) (w s : U4) (l : List U4) : List U4 := if domOk log w = true ∧ l.length = 2 ^ log.toNat ∧ inF s ≠ 0 then (coefsF (2 ^ log.toNat) (inF w) (inF s) (l.map inF)).map outF else []

theorem coefs_all (log : Int) (w s : U4) (l : List U4) :
    FnD Try.prog 54 [.v (.a [.int .i64 log, .ob (.fr w)]), .v (.a [.ob (.fr s)]), .v (.c (.sl (.fr l)))] (.t [.c (.slc 0 0 (cfL log w s l).length 4), .c (.int .i64 (cfE log w s l))]) [.sq (.fr (cfL log w s l))] := by
  unfold cfE cfL
  cases hd : domOk log w with
  | false =>
    rw [if_neg (by simp), if_neg (by simp)]
    exact (fn_sound dvR_ok Try.func54 (kfA log w s l) ⟨by rw [hd]; rfl, trivial⟩).nil2 rfl
  | true =>
    obtain ⟨h0, h1, _⟩ := domOk_log hd
    have hsh := shl3 h0 h1
    by_cases hl : l.length = 2 ^ log.toNat
    · have hne : ((((l.length : Nat) : Int)) != (IntKind.wrap IntKind.i64 ((1 : Int) * ((2 : Int) ^ (Min.min (log).toNat 64))))) = false := by rw [hsh, hl]; simp
      by_cases hs : inF s = 0
      · rw [if_pos rfl, if_pos hl, if_pos hs, if_neg (fun h => h.2.2 hs)]
        exact (fn_sound dvR_ok Try.func54 (kfC log w s l) ⟨by rw [hd]; rfl, h0, hne, decide_eq_true hs, trivial⟩).nil2 rfl
      · rw [if_pos rfl, if_pos hl, if_neg hs, if_pos ⟨rfl, hl, hs⟩, List.length_map, coefsF_len]
        exact coefs_fnd log w s l hd hl hs
    · rw [if_pos rfl, if_neg hl, if_neg (fun h => hl h.2.1)]
      refine (fn_sound dvR_ok Try.func54 (kfB log w s l) ⟨by rw [hd]; rfl, h0, ?_, trivial⟩).nil2 rfl
      rw [hsh]
      simp only [bne_iff_ne, ne_eq]
      omega

/-! There and back. -/
section
variable {log : Int} {w : U4}

theorem dom_two (h : domOk log w = true) {d : Nat} (h0 : 0 < d) (hd : d < 2 ^ log.toNat) : pw (inF w) d ≠ 1 :=
  two_less r_gt log.toNat (fun hk => by rw [pw_powN]; exact dom_half h (by omega)) h0 hd
theorem dom_two_inv (h : domOk log w = true) {d : Nat} (h0 : 0 < d) (hd : d < 2 ^ log.toNat) : pw (invF (inF w)) d ≠ 1 :=
  two_less r_gt log.toNat (fun hk => by rw [pw_powN]; exact half_inv h (by omega)) h0 hd
theorem dom_wn (h : domOk log w = true) : pw (inF w) (2 ^ log.toNat) = 1 := by rw [pw_powN]; exact dom_root h
theorem dom_un (h : domOk log w = true) : pw (invF (inF w)) (2 ^ log.toNat) = 1 := by
  have h1 := pw_both (invF_mul (dom_ne h)) (2 ^ log.toNat)
  rw [dom_wn h, fr_one_mul] at h1
  exact h1

theorem len_inv {n : Nat} (h0 : 0 < n) (h : n < rN) : sm (fun _ => (1 : Fr)) n * invF (Fin.ofNat rN n) = 1 := by
  have e : sm (fun _ => (1 : Fr)) n = Fin.ofNat rN n := by
    apply Fin.ext
    rw [dft_len h n (Nat.le_refl _)]
    exact (Nat.mod_eq_of_lt h).symm
  rw [e]
  refine invF_mul fun he => ?_
  have := congrArg Fin.val he
  have h1 : (Fin.ofNat rN n).val = n := Nat.mod_eq_of_lt h
  have h2 : ((0 : Fr)).val = 0 := rfl
  rw [h1, h2] at this
  omega

theorem dom_lt (h : domOk log w = true) : 2 ^ log.toNat < rN := by
  obtain ⟨h0, h1, _⟩ := domOk_log h
  have hp2 : 2 ^ log.toNat ≤ 2 ^ 16 := Nat.pow_le_pow_right (by decide) (by omega)
  exact Nat.lt_of_le_of_lt hp2 (by decide)

theorem back_alg {S x sj bj c P : Fr} (h1 : S * x = 1) (h2 : sj * bj = 1) (hc : c = P * S) : c * (x * bj) * sj = P := back_alg_g h1 h2 hc
theorem move_alg {A x bj sj W : Fr} (h2 : sj * bj = 1) : A * (x * bj) * (sj * W) = x * (A * W) := move_alg_g h2

/-- The values of the coefficients are the values. -/
theorem vals_of_coefs (h : domOk log w = true) {s : Fr} (hs : s ≠ 0) {V : List Fr} (hV : V.length = 2 ^ log.toNat) : valsF (2 ^ log.toNat) (inF w) s (coefsF (2 ^ log.toNat) (inF w) s V) = V := by
  have hlt := dom_lt h
  have hpos := Nat.two_pow_pos log.toNat
  have hinv := len_inv hpos hlt
  have hdft := fun q (hq : q < 2 ^ log.toNat) => dft_inv r_inv (invF_mul (dom_ne h)) (dom_wn h) (fun d h0 h1 => dom_two h h0 h1) (fun j => V.getD j 0) (q := q) hq
  generalize 2 ^ log.toNat = n at *
  have e1 : V = tab n (fun q => V.getD q 0) := by rw [← hV]; exact tab_self V
  rw [e1]
  unfold valsF
  refine tab_congr fun q hq => ?_
  rw [← e1]
  unfold evalF
  rw [coefsF_len]
  have e2 : ∀ j, j < n → (coefsF n (inF w) s V).getD j 0 * powN (s * powN (inF w) q) j = invF (Fin.ofNat rN n) * (sm (fun k => V.getD k 0 * pw (invF (inF w)) (j * k)) n * pw (inF w) (q * j)) := fun j hj => by
    have hsb : powN s j * powN (invF s) j = 1 := by
      rw [← powN_mul, invF_mul hs, ← pw_powN, pw_one_g]
    unfold coefsF
    rw [tab_get hj, powN_mul, powN_powN, move_alg hsb, pw_powN]
    simp only [pw_powN]
  rw [sm_congr n e2, sm_mul, hdft q hq, fr_mul_comm, fr_mul_assoc, hinv]
  exact fr_mul_one _

/-- The coefficients of the values are the coefficients. -/
theorem coefs_of_vals (h : domOk log w = true) {s : Fr} (hs : s ≠ 0) {L : List Fr} (hL : L.length = 2 ^ log.toNat) : coefsF (2 ^ log.toNat) (inF w) s (valsF (2 ^ log.toNat) (inF w) s L) = L := by
  have hlt := dom_lt h
  have hpos := Nat.two_pow_pos log.toNat
  have hinv := len_inv hpos hlt
  have hdft := fun q (hq : q < 2 ^ log.toNat) => dft_inv r_inv (w := invF (inF w)) (u := inF w) (by rw [fr_mul_comm]; exact invF_mul (dom_ne h)) (dom_un h) (fun d h0 h1 => dom_two_inv h h0 h1) (fun j => L.getD j 0 * powN s j) (q := q) hq
  generalize 2 ^ log.toNat = n at *
  have e1 : L = tab n (fun q => L.getD q 0) := by rw [← hL]; exact tab_self L
  rw [e1]
  unfold coefsF
  refine tab_congr fun i hi => ?_
  rw [← e1]
  have hsb : powN s i * powN (invF s) i = 1 := by
    rw [← powN_mul, invF_mul hs, ← pw_powN, pw_one_g]
  have e2 : ∀ j, j < n → (valsF n (inF w) s L).getD j 0 * powN (invF (inF w)) (i * j) = sm (fun k => L.getD k 0 * powN s k * pw (inF w) (j * k)) n * pw (invF (inF w)) (i * j) := fun j hj => by
    unfold valsF
    rw [tab_get hj, pw_powN]
    unfold evalF
    rw [hL]
    refine congrArg (fun z => z * powN (invF (inF w)) (i * j)) (sm_congr n fun k _ => ?_)
    rw [powN_mul, powN_powN, pw_powN]
    exact (fr_mul_assoc _ _ _).symm
  rw [sm_congr n e2, hdft i hi]
  exact fin_alg_g hinv hsb
end

end Go.Proofs.Ytlfllehomhcbfaa

/- DomainCoefs, walked. No conditions. -/
namespace Go.Proofs.Ytlfllehomhcbfaa

def coef54 : FnSpec
  | [.v (.a [.int .i64 log, .ob (.fr w)]), .v (.a [.ob (.fr s)]), .v (.c (.sl (.fr l)))] => some ([], .t [.c (.slc 0 0 (cfL log w s l).length 4), .c (.int .i64 (cfE log w s l))], [.sq (.fr (cfL log w s l))])
  | _ => none
noncomputable def dvS : Env := dvR.set (addT dvR.fn 54 coef54)
theorem dvS_ok : EnvOk Try.prog dvS := env_add dvR_ok 54 coef54 (enters_of Try.func54 rfl rfl) fun args o r es h _ => by
  unfold coef54 at h
  split at h
  · cases h; exact coefs_all _ _ _ _
  · cases h
--@env dvS dvS_ok
theorem lcA (log : Int) (w s : U4) (l : List U4) : fnRes dvS Try.f11 3000 [.v (.a [.int .i64 log, .ob (.fr w)]), .v (.a [.ob (.fr s)]), .v (.c (.sl (.fr l)))] [true, true] [] [] = (Option.some ([((decide (log > (5 : Int))) = true), ((domOk log w) = true)], ((SV.v (V1.c (It.lit true))), []))) := by kernel_rfl
theorem lcB (log : Int) (w s : U4) (l : List U4) : fnRes dvS Try.f11 3000 [.v (.a [.int .i64 log, .ob (.fr w)]), .v (.a [.ob (.fr s)]), .v (.c (.sl (.fr l)))] [true, false, true, true, true, true] [] [] = (Option.some ([((decide (log > (5 : Int))) = true), ((domOk log w) = false), ((Bool.not (domOk log w)) = true), (((cfE log w s l) == (40 : Int)) = true)], ((SV.v (V1.c (It.bool ((((List.length (cfL log w s l)) : Nat) : Int) == (0 : Int))))), []))) := by kernel_rfl
theorem lcB2 (log : Int) (w s : U4) (l : List U4) : fnRes dvS Try.f11 3000 [.v (.a [.int .i64 log, .ob (.fr w)]), .v (.a [.ob (.fr s)]), .v (.c (.sl (.fr l)))] [false, true, true, true] [] [] = (Option.some ([((decide (log > (5 : Int))) = false), ((Bool.not (domOk log w)) = true), (((cfE log w s l) == (40 : Int)) = true)], ((SV.v (V1.c (It.bool ((((List.length (cfL log w s l)) : Nat) : Int) == (0 : Int))))), []))) := by kernel_rfl
theorem lcC (log : Int) (w s : U4) (l : List U4) : fnRes dvS Try.f11 3000 [.v (.a [.int .i64 log, .ob (.fr w)]), .v (.a [.ob (.fr s)]), .v (.c (.sl (.fr l)))] [false, false, true, true, true] [] [] = (Option.some ([((decide (log > (5 : Int))) = false), ((Bool.not (domOk log w)) = false), ((0 : Int) ≤ log), (((((List.length l) : Nat) : Int) != (IntKind.wrap IntKind.i64 ((1 : Int) * ((2 : Int) ^ (Min.min (log).toNat 64))))) = true), (((cfE log w s l) == (3 : Int)) = true)], ((SV.v (V1.c (It.bool ((((List.length (cfL log w s l)) : Nat) : Int) == (0 : Int))))), []))) := by kernel_rfl
theorem lcD (log : Int) (w s : U4) (l : List U4) : fnRes dvS Try.f11 3000 [.v (.a [.int .i64 log, .ob (.fr w)]), .v (.a [.ob (.fr s)]), .v (.c (.sl (.fr l)))] [false, false, false, true, true, true] [] [] = (Option.some ([((decide (log > (5 : Int))) = false), ((Bool.not (domOk log w)) = false), ((0 : Int) ≤ log), (((((List.length l) : Nat) : Int) != (IntKind.wrap IntKind.i64 ((1 : Int) * ((2 : Int) ^ (Min.min (log).toNat 64))))) = false), ((ite (true = true) (decide ((cleanU s) = (0 : U4))) (Bool.not (decide ((cleanU s) = (0 : U4))))) = true), (((cfE log w s l) == (1 : Int)) = true)], ((SV.v (V1.c (It.bool ((((List.length (cfL log w s l)) : Nat) : Int) == (0 : Int))))), []))) := by kernel_rfl
noncomputable def lcIn_k : List KI := (run dvS false 3000 ((fun (log : Int) (w s : U4) (l : List U4) => (⟨[.code (bodyOf Try.f11)], .normal, initSt Try.f11.ntmps [.v (.a [.int .i64 log, .ob (.fr w)]), .v (.a [.ob (.fr s)]), .v (.c (.sl (.fr l)))]⟩ : Cfg)) default default default default) [false, false, false, false, false, false]).cfg.k
theorem lcIn_hk (log : Int) (w s : U4) (l : List U4) : (run dvS false 3000 ((⟨[.code (bodyOf Try.f11)], .normal, initSt Try.f11.ntmps [.v (.a [.int .i64 log, .ob (.fr w)]), .v (.a [.ob (.fr s)]), .v (.c (.sl (.fr l)))]⟩ : Cfg)) [false, false, false, false, false, false]).cfg.k = lcIn_k := by kernel_rfl
theorem lcIn (log : Int) (w s : U4) (l : List U4) {w0 : World} {F0 : Nat → Prop} {K : Kp} {ac : List Act} {Q : Exit → Act → World → Prop} {cX : Ctx} {aX : Act} (ho : AllP [((decide (log > (5 : Int))) = false), ((Bool.not (domOk log w)) = false), ((0 : Int) ≤ log), (((((List.length l) : Nat) : Int) != (IntKind.wrap .i64 ((1 : Int) * ((2 : Int) ^ (Min.min (log).toNat 64))))) = false), ((ite (true = true) (decide ((cleanU s) = (0 : U4))) (Bool.not (decide ((cleanU s) = (0 : U4))))) = false), (((cfE log w s l) != (0 : Int)) = false), (((((List.length (cfL log w s l)) : Nat) : Int) != (((List.length l) : Nat) : Int)) = false)]) (hs : Sim w0 F0 K ac (initSt Try.f11.ntmps [.v (.a [.int .i64 log, .ob (.fr w)]), .v (.a [.ob (.fr s)]), .v (.c (.sl (.fr l)))]) cX aX) (hK : ∀ ac cY aY, Sim w0 F0 K ac (mkSt 116 [2, 3, 4, 7, 87, 88, 89] [(.v (.c (.sl (.fr l)))), (.v (.c (.ptr 16 0))), (.v (.c (.ptr 32 0))), (.v (.c (.slc 224 0 (List.length (cfL log w s l)) 4))), (.v (.c (.slc 224 0 (List.length (cfL log w s l)) 4))), (.v (.c (.int .i64 (((List.length (cfL log w s l)) : Nat) : Int)))), (.v (.c (.int .i64 (0 : Int))))] [16, 32, 224] [(some (.fl [(.int .i64 log), (.ob (.fr w))])), (some (.fl [(.ob (.fr s))])), (some (.sq (.fr (cfL log w s l))))] 832 [] []) cY aY → Wq Try.prog Q (lcIn_k) ac Exit.normal aY cY.w) : Wq Try.prog Q ([.code (bodyOf Try.f11)]) ac .normal aX cX.w :=
  run_at2 (o := ⟨_, _, _, _, _, _, _⟩) dvS_ok (by kernel_rfl) (lcIn_hk log w s l) ho hs hK
noncomputable def ldS (log : Int) (w s : U4) (l C : List U4) (n i : Nat) : St := mkSt 116 [2, 3, 4, 7, 87, 88, 89] [(SV.v (V1.c (It.sl (Sq.fr l)))), (SV.v (V1.c (It.ptr 16 0))), (SV.v (V1.c (It.ptr 32 0))), .v (.c (.slc 224 0 n 4)), .v (.c (.slc 224 0 n 4)), .v (.c (.int .i64 (n : Int))), .v (.c (.int .i64 (i : Int)))] [16, 32, 224] [(Option.some (En.fl [(It.int IntKind.i64 log), (It.ob (Ob.fr w))])), (Option.some (En.fl [(It.ob (Ob.fr s))])), some (.sq (.fr C))] 832 [] []
theorem ldN_hk (log : Int) (w s : U4) (l C : List U4) (n i : Nat) : (run dvS false 3000 ((⟨lpIn lcIn_k, .normal, ldS log w s l C n i⟩ : Cfg)) [true, false]).cfg.k = lpBk lcIn_k := by kernel_rfl
theorem ldN (log : Int) (w s : U4) (l C : List U4) (n i : Nat) {w0 : World} {F0 : Nat → Prop} {K : Kp} {ac : List Act} {Q : Exit → Act → World → Prop} {cX : Ctx} {aX : Act} (ho : AllP [((decide (((i : Nat) : Int) < ((n : Nat) : Int))) = true), ((0 : Int) ≤ ((i : Nat) : Int)), (((i : Nat) : Int) < ((n : Nat) : Int)), (0 = 0), ((((i : Nat) : Int)).toNat < (List.length C)), ((Bool.not (decide ((Fin.val (List.getD C (((i : Nat) : Int)).toNat (0 : U4))) < 52435875175126190479447740508185965837690552500527637822603658699938581184513))) = false)]) (hs : Sim w0 F0 K ac (ldS log w s l C n i) cX aX) (hK : ∀ ac cY aY, Sim w0 F0 K ac (mkSt 116 [2, 3, 4, 7, 87, 88, 89] [(.v (.c (.sl (.fr l)))), (.v (.c (.ptr 16 0))), (.v (.c (.ptr 32 0))), (.v (.c (.slc 224 0 n 4))), (.v (.c (.slc 224 0 n 4))), (.v (.c (.int .i64 ((n : Nat) : Int)))), (.v (.c (.int .i64 (IntKind.wrap .i64 (((i : Nat) : Int) + (1 : Int))))))] [16, 32, 224] [(some (.fl [(.int .i64 log), (.ob (.fr w))])), (some (.fl [(.ob (.fr s))])), (some (.sq (.fr C)))] 1008 [] []) cY aY → Wq Try.prog Q (lpBk lcIn_k) ac Exit.normal aY cY.w) : Wq Try.prog Q (lpIn lcIn_k) ac .normal aX cX.w :=
  run_at2 (o := ⟨_, _, _, _, _, _, _⟩) dvS_ok (by kernel_rfl) (ldN_hk log w s l C n i) ho hs hK
noncomputable def leIn_k : List KI := (run dvS false 3000 ((fun (log : Int) (w s : U4) (l C : List U4) (n i : Nat) => (⟨lpIn lcIn_k, .normal, ldS log w s l C n i⟩ : Cfg)) default default default default default default default) [false]).cfg.k
theorem leIn_hk (log : Int) (w s : U4) (l C : List U4) (n i : Nat) : (run dvS false 3000 ((⟨lpIn lcIn_k, .normal, ldS log w s l C n i⟩ : Cfg)) [false]).cfg.k = leIn_k := by kernel_rfl
theorem leIn (log : Int) (w s : U4) (l C : List U4) (n i : Nat) {w0 : World} {F0 : Nat → Prop} {K : Kp} {ac : List Act} {Q : Exit → Act → World → Prop} {cX : Ctx} {aX : Act} (ho : AllP [((decide (((i : Nat) : Int) < ((n : Nat) : Int))) = false), (0 = 0), (n = (List.length C)), (4 = 4), ((0 : Int) ≤ log), (log ≤ (16 : Int)), ((Fin.val w) < rN)]) (hs : Sim w0 F0 K ac (ldS log w s l C n i) cX aX) (hK : ∀ ac cY aY, Sim w0 F0 K ac (mkSt 116 [2, 101, 102, 103] [(.v (.c (.sl (.fr l)))), (.v (.c (.slc 896 0 (2 ^ (log).toNat) 4))), (.v (.c (.int .i64 (((2 ^ (log).toNat) : Nat) : Int)))), (.v (.c (.int .i64 (0 : Int))))] [896] [(some (.sq (.fr (List.map outF (valsF (2 ^ (log).toNat) (inF w) (inF s) (List.map inF C))))))] 944 [] []) cY aY → Wq Try.prog Q (leIn_k) ac Exit.normal aY cY.w) : Wq Try.prog Q (lpIn lcIn_k) ac .normal aX cX.w :=
  run_at2 (o := ⟨_, _, _, _, _, _, _⟩) dvS_ok (by kernel_rfl) (leIn_hk log w s l C n i) ho hs hK
noncomputable def leS (l V : List U4) (n i : Nat) : St := mkSt 116 [2, 101, 102, 103] [(SV.v (V1.c (It.sl (Sq.fr l)))), .v (.c (.slc 896 0 n 4)), .v (.c (.int .i64 (n : Int))), .v (.c (.int .i64 (i : Int)))] [896] [some (.sq (.fr V))] 944 [] []
theorem leN_hk (l V : List U4) (n i : Nat) : (run dvS false 3000 ((⟨lpIn leIn_k, .normal, leS l V n i⟩ : Cfg)) [true, false]).cfg.k = lpBk leIn_k := by kernel_rfl
theorem leN (l V : List U4) (n i : Nat) {w0 : World} {F0 : Nat → Prop} {K : Kp} {ac : List Act} {Q : Exit → Act → World → Prop} {cX : Ctx} {aX : Act} (ho : AllP [((decide (((i : Nat) : Int) < ((n : Nat) : Int))) = true), ((0 : Int) ≤ ((i : Nat) : Int)), (((i : Nat) : Int) < ((n : Nat) : Int)), (0 = 0), ((((i : Nat) : Int)).toNat < (List.length V)), ((0 : Int) ≤ ((i : Nat) : Int)), (((i : Nat) : Int) < (((List.length l) : Nat) : Int)), ((ite (false = true) (decide ((List.getD V (((i : Nat) : Int)).toNat (0 : U4)) = (cleanU (List.getD l (((i : Nat) : Int)).toNat (0 : U4))))) (Bool.not (decide ((List.getD V (((i : Nat) : Int)).toNat (0 : U4)) = (cleanU (List.getD l (((i : Nat) : Int)).toNat (0 : U4))))))) = false)]) (hs : Sim w0 F0 K ac (leS l V n i) cX aX) (hK : ∀ ac cY aY, Sim w0 F0 K ac (mkSt 116 [2, 101, 102, 103] [(.v (.c (.sl (.fr l)))), (.v (.c (.slc 896 0 n 4))), (.v (.c (.int .i64 ((n : Nat) : Int)))), (.v (.c (.int .i64 (IntKind.wrap .i64 (((i : Nat) : Int) + (1 : Int))))))] [896] [(some (.sq (.fr V)))] 1200 [] []) cY aY → Wq Try.prog Q (lpBk leIn_k) ac Exit.normal aY cY.w) : Wq Try.prog Q (lpIn leIn_k) ac .normal aX cX.w :=
  run_at2 (o := ⟨_, _, _, _, _, _, _⟩) dvS_ok (by kernel_rfl) (leN_hk l V n i) ho hs hK
theorem leX_end (l V : List U4) (n i : Nat) : runEnd dvS Try.f11 false 3000 (⟨lpIn leIn_k, .normal, leS l V n i⟩) [false] [] [] = (Option.some ([((decide (((i : Nat) : Int) < ((n : Nat) : Int))) = false)], ((SV.v (V1.c (It.lit true))), []))) := by kernel_rfl
end Go.Proofs.Ytlfllehomhcbfaa

/- DomainCoefs answers true for every domain, shift and values. No conditions. -/
namespace Go.Proofs.Ytlfllehomhcbfaa

theorem clean_zero (s : U4) : (cleanU s = 0) = (inF s = 0) := by
  apply propext
  constructor
  · intro h
    have := congrArg Fin.val h
    apply Fin.ext
    rw [cleanU_val] at this
    exact this
  · intro h
    have := congrArg Fin.val h
    apply Fin.ext
    rw [cleanU_val]
    exact this

theorem dcoefs_fnd (log : Int) (w s : U4) (l : List U4) : FnD Try.prog 11 [.v (.a [.int .i64 log, .ob (.fr w)]), .v (.a [.ob (.fr s)]), .v (.c (.sl (.fr l)))] (.v (.c (.bool true))) [] := by
  cases hd : domOk log w with
  | false =>
    have hE : cfE log w s l = 40 := by unfold cfE; rw [hd]; rfl
    have hL : cfL log w s l = [] := by unfold cfL; rw [if_neg (by simp [hd])]
    have hE2 : (cfE log w s l == (40 : Int)) = true := by rw [hE]; rfl
    have hn : (!(domOk log w)) = true := by rw [hd]; rfl
    by_cases h5 : log > 5
    · have r := lcB log w s l
      rw [hL] at r
      exact fn_sound dvS_ok Try.func11 r ⟨decide_eq_true h5, hd, hn, hE2, trivial⟩
    · have r := lcB2 log w s l
      rw [hL] at r
      exact fn_sound dvS_ok Try.func11 r ⟨decide_eq_false h5, hn, hE2, trivial⟩
  | true =>
    have hn : (!(domOk log w)) = false := by rw [hd]; rfl
    by_cases h5 : log > 5
    · exact (fn_sound dvS_ok Try.func11 (lcA log w s l) ⟨decide_eq_true h5, hd, trivial⟩).conv (fun _ _ h => h) fun y v hd => lit_bool rfl hd
    obtain ⟨h0, h1, hw⟩ := domOk_log hd
    have hsh := shl3 h0 h1
    have hlt : w.val < rN := by rw [hw]; exact outF_lt _
    by_cases hl : l.length = 2 ^ log.toNat
    · have hne : ((((l.length : Nat) : Int)) != (IntKind.wrap IntKind.i64 ((1 : Int) * ((2 : Int) ^ (Min.min (log).toNat 64))))) = false := by rw [hsh, hl]; simp
      by_cases hs : inF s = 0
      · have hE : cfE log w s l = 1 := by unfold cfE; rw [hd, if_pos rfl, if_pos hl, if_pos hs]
        have hL : cfL log w s l = [] := by unfold cfL; rw [if_neg (fun h => h.2.2 hs)]
        have hc : (if (true = true) then (decide (cleanU s = (0 : U4))) else (!(decide (cleanU s = (0 : U4))))) = true := by rw [if_pos rfl, decide_eq_true_eq, clean_zero]; exact hs
        have r := lcD log w s l
        rw [hL, hE] at r
        exact fn_sound dvS_ok Try.func11 r ⟨decide_eq_false h5, hn, h0, hne, hc, rfl, trivial⟩
      · have hE : cfE log w s l = 0 := by unfold cfE; rw [hd, if_pos rfl, if_pos hl, if_neg hs]
        have hL : cfL log w s l = (coefsF (2 ^ log.toNat) (inF w) (inF s) (l.map inF)).map outF := by unfold cfL; rw [if_pos ⟨hd, hl, hs⟩]
        have hc : (if (true = true) then (decide (cleanU s = (0 : U4))) else (!(decide (cleanU s = (0 : U4))))) = false := by rw [if_pos rfl, decide_eq_false_iff_not, clean_zero]; exact hs
        have hV : (valsF (2 ^ log.toNat) (inF w) (inF s) ((cfL log w s l).map inF)).map outF = l.map cleanU := by
          have e1 : (cfL log w s l).map inF = coefsF (2 ^ log.toNat) (inF w) (inF s) (l.map inF) := by
            rw [hL, List.map_map]
            have : (inF ∘ outF) = id := funext in_out
            rw [this, List.map_id]
          rw [e1, vals_of_coefs hd hs (by rw [List.length_map, hl]), List.map_map]
          exact List.map_congr_left fun a _ => (clean_out a).symm
        have hCl : (cfL log w s l).length = 2 ^ log.toNat := by rw [hL, List.length_map, coefsF_len]
        have hCr : ∀ i, ((cfL log w s l).getD i 0).val < rN := fun i => by
          rw [hL]
          by_cases hi : i < (coefsF (2 ^ log.toNat) (inF w) (inF s) (l.map inF)).length
          · simp only [List.getD, List.getElem?_map, hi, List.getElem?_eq_getElem, Option.map_some, Option.getD_some]
            exact outF_lt _
          · simp only [List.getD, List.getElem?_map, List.getElem?_eq_none (Nat.le_of_not_lt hi), Option.map_none, Option.getD_none]
            decide
        have hp2 : 2 ^ log.toNat ≤ 2 ^ 5 := Nat.pow_le_pow_right (by decide) (by omega)
        refine fn_start (fn := Try.f11) (c := bodyOf Try.f11) Try.func11 rfl rfl fun x a hk hF hs1 => ?_
        refine lcIn log w s l ⟨decide_eq_false h5, hn, h0, hne, hc, by rw [hE]; rfl, by rw [hCl, hl]; simp, trivial⟩ hs1 fun ac cY aY hs2 => ?_
        generalize cfL log w s l = C at *
        rw [hCl] at hs2
        refine loop_rule (ι := { i : Nat // i ≤ 2 ^ log.toNat }) (fun i => ldS log w s l C (2 ^ log.toNat) i.1) (fun i => 2 ^ log.toNat - i.1) (c := lpC lcIn_k) (k := lpR lcIn_k) (by kernel_rfl) (fun i ih ac cY aY hs => ?_) ⟨0, Nat.zero_le _⟩ (hs2.nx _)
        obtain ⟨i, hi⟩ := i
        simp only at ih hs
        by_cases h : i < 2 ^ log.toNat
        · refine ldN log w s l C _ i ⟨decide_eq_true (Int.ofNat_lt.2 h), by omega, Int.ofNat_lt.2 h, rfl, by rw [Int.toNat_natCast, hCl]; exact h, ?_, trivial⟩ hs fun ac cZ aZ hs3 => ?_
          · have hcr : (C.getD i 0).val < 52435875175126190479447740508185965837690552500527637822603658699938581184513 := hCr i
            rw [Int.toNat_natCast, decide_eq_true hcr]; rfl
          · rw [wrap_id (by omega) (by omega)] at hs3
            exact ih ⟨i + 1, by omega⟩ (by show 2 ^ log.toNat - (i + 1) < 2 ^ log.toNat - i; omega) ac cZ aZ (hs3.nx _)
        · have ei : i = 2 ^ log.toNat := by omega
          refine leIn log w s l C _ i ⟨decide_eq_false (by rw [ei]; omega), rfl, hCl.symm, rfl, h0, h1, hlt, trivial⟩ hs fun ac cZ aZ hs3 => ?_
          rw [hV] at hs3
          clear ih hs hs2 hV hL hCr hCl
          generalize 2 ^ log.toNat = n at *
          refine loop_rule (ι := { i : Nat // i ≤ n }) (fun i => leS l (l.map cleanU) n i.1) (fun i => n - i.1) (c := lpC leIn_k) (k := lpR leIn_k) (by kernel_rfl) (fun j ih ac cY aY hs => ?_) ⟨0, Nat.zero_le _⟩ (hs3.nx _)
          obtain ⟨j, hj⟩ := j
          simp only at ih hs
          by_cases h : j < n
          · have hg : (l.map cleanU).getD j 0 = cleanU (l.getD j 0) := by simp [List.getD, show j < l.length by omega]
            refine leN l _ n j ?_ hs fun ac cV aV hs4 => ?_
            · rw [Int.toNat_natCast, hg, decide_eq_true rfl]
              and_intros <;> first | rfl | trivial | omega | (apply decide_eq_true; omega) | (rw [List.length_map]; omega)
            · rw [wrap_id (by omega) (by omega)] at hs4
              exact ih ⟨j + 1, by omega⟩ (by show n - (j + 1) < n - j; omega) ac cV aV (hs4.nx _)
          · exact run_end2 dvS_ok hk hF (leX_end l _ n j) ⟨decide_eq_false (by omega), trivial⟩ (fun y v hd => lit_bool rfl hd) hs
    · have hE : cfE log w s l = 3 := by unfold cfE; rw [hd, if_pos rfl, if_neg hl]
      have hL : cfL log w s l = [] := by unfold cfL; rw [if_neg (fun h => hl h.2.1)]
      have r := lcC log w s l
      rw [hL, hE] at r
      refine fn_sound dvS_ok Try.func11 r ⟨decide_eq_false h5, hn, h0, ?_, rfl, trivial⟩
      rw [hsh]
      simp only [bne_iff_ne, ne_eq]
      omega

end Go.Proofs.Ytlfllehomhcbfaa

/- Polynomials by their values: the plain law. No conditions. -/
namespace Go.Proofs.Ytlfllehomhcbfaa

theorem sumF_sm (f : Nat → Fr) : ∀ n, sumF f n = sm f n
  | 0 => rfl
  | n + 1 => by
    show sumF f n + f n = sm f n + f n
    rw [sumF_sm f n]

section
variable {r : Nat} [NeZero r]
theorem sm_shift (g : Nat → Fin r) (k : Nat) : ∀ n, sm (fun i => if k ≤ i then g (i - k) else 0) n = sm g (n - k)
  | 0 => by rw [Nat.zero_sub]; rfl
  | n + 1 => by
    show sm (fun i => if k ≤ i then g (i - k) else 0) n + (if k ≤ n then g (n - k) else 0) = _
    rw [sm_shift g k n]
    by_cases h : k ≤ n
    · rw [if_pos h, show n + 1 - k = (n - k) + 1 from by omega]
      rfl
    · rw [if_neg h, show n - k = 0 from by omega, show n + 1 - k = 0 from by omega]
      exact Fin.add_zero _
theorem pv_alg (a b x y : Fin r) : a * b * (x * y) = a * x * (b * y) := by grind
theorem pv_add (a b x : Fin r) : (a + b) * x = a * x + b * x := by grind
theorem pv_sub (a b x : Fin r) : (a - b) * x = a * x + (0 - 1) * (b * x) := by grind
theorem pv_sub2 (a b : Fin r) : a + (0 - 1) * b = a - b := by grind
end

theorem evalF_long {L : List Fr} {n : Nat} (h : L.length ≤ n) (x : Fr) : evalF L x = sm (fun j => cf L j * powN x j) n := by
  unfold evalF
  symm
  exact sm_trunc h fun j h1 _ => by rw [cf_out h1]; exact fr_zero_mul _

theorem evalF_cf {A B : List Fr} (h : ∀ i, cf A i = cf B i) (x : Fr) : evalF A x = evalF B x := by
  rw [evalF_long (Nat.le_add_right A.length B.length), evalF_long (Nat.le_add_left B.length A.length)]
  exact sm_congr _ fun j _ => by rw [h]

theorem evalF_mul (a b : List Fr) (x : Fr) : evalF (mulL a b) x = evalF a x * evalF b x := by
  have hlen : (mulL a b).length = a.length + b.length := by simp [mulL]
  rw [evalF_long (Nat.le_of_eq hlen)]
  have e1 : ∀ i, i < a.length + b.length → cf (mulL a b) i * powN x i = sm (fun k => cf a k * powN x k * (if k ≤ i then cf b (i - k) * powN x (i - k) else 0)) (a.length + b.length) := fun i hi => by
    rw [mulL_cf, mulC, sumF_sm, ← sm_mulr]
    have et := sm_trunc (f := fun k => cf a k * powN x k * (if k ≤ i then cf b (i - k) * powN x (i - k) else 0)) (m := i + 1) (n := a.length + b.length) (by omega) (fun j h1 _ => by
      show _ * (if j ≤ i then _ else 0) = 0
      rw [if_neg (by omega)]
      exact fr_mul_zero _)
    rw [et]
    refine sm_congr _ fun k hk => ?_
    rw [if_pos (by omega)]
    have : powN x i = powN x k * powN x (i - k) := by rw [← powN_add, show k + (i - k) = i from by omega]
    rw [this]
    exact pv_alg _ _ _ _
  rw [sm_congr _ e1, sm_swap (fun i k => cf a k * powN x k * (if k ≤ i then cf b (i - k) * powN x (i - k) else 0))]
  have e2 : ∀ k, k < a.length + b.length → sm (fun i => cf a k * powN x k * (if k ≤ i then cf b (i - k) * powN x (i - k) else 0)) (a.length + b.length) = cf a k * powN x k * evalF b x := fun k hk => by
    rw [sm_mul, sm_shift (fun j => cf b j * powN x j) k]
    by_cases h : k < a.length
    · rw [← evalF_long (L := b) (by omega)]
    · rw [cf_out (l := a) (by omega), fr_zero_mul, fr_zero_mul, fr_zero_mul]
  rw [sm_congr _ e2, sm_mulr, ← evalF_long (L := a) (by omega)]

theorem evalF_add (a b : List Fr) (x : Fr) : evalF (addL a b) x = evalF a x + evalF b x := by
  have hlen : (addL a b).length = Nat.max a.length b.length := by simp [addL]
  have h1 := Nat.le_max_left a.length b.length
  have h2 := Nat.le_max_right a.length b.length
  rw [evalF_long (Nat.le_of_eq hlen), evalF_long (L := a) (n := Nat.max a.length b.length) h1, evalF_long (L := b) (n := Nat.max a.length b.length) h2, ← sm_add]
  exact sm_congr _ fun j _ => by rw [addL_cf]; exact pv_add _ _ _

/-- What has the same values is the same. -/
theorem poly_ext {A B : List Fr} (hA : A.length ≤ 65536) (hB : B.length ≤ 65536) (h : ∀ x, evalF A x = evalF B x) (i : Nat) : cf A i = cf B i := by
  have hd : domOk 16 (newRoot 16) = true := dom_self (by decide)
  have h16 : 2 ^ (16 : Int).toNat = 65536 := by decide
  have hpad : ∀ L : List Fr, L.length ≤ 65536 → ∀ x, evalF (tab 65536 (cf L)) x = evalF L x := fun L hL x => evalF_cf (fun i => by
    by_cases hi : i < 65536
    · exact tab_get hi
    · rw [cf_out (l := L) (by omega)]
      exact cf_out (by rw [tab_len]; omega)) x
  have hv : valsF 65536 (inF (newRoot 16)) 1 (tab 65536 (cf A)) = valsF 65536 (inF (newRoot 16)) 1 (tab 65536 (cf B)) := by
    unfold valsF
    exact tab_congr fun q _ => by rw [hpad A hA, hpad B hB, h]
  have c1 := coefs_of_vals hd fr_one_ne (L := tab 65536 (cf A)) (by rw [tab_len, h16])
  have c2 := coefs_of_vals hd fr_one_ne (L := tab 65536 (cf B)) (by rw [tab_len, h16])
  rw [h16] at c1 c2
  rw [hv, c2] at c1
  by_cases hi : i < 65536
  · have := congrArg (fun L => cf L i) c1
    simp only [cf] at this
    rw [tab_get hi, tab_get hi] at this
    exact this.symm
  · rw [cf_out (by omega), cf_out (by omega)]

theorem trim_eq {A B : List Fr} (hA : A.length ≤ 65536) (hB : B.length ≤ 65536) (h : ∀ x, evalF A x = evalF B x) : trimF A = trimF B := trim_ext (poly_ext hA hB h)
theorem evalF_trim (A : List Fr) (x : Fr) : evalF (trimF A) x = evalF A x := evalF_cf (trim_cf A) x

end Go.Proofs.Ytlfllehomhcbfaa

/- Products of polynomials by values, walked. No conditions. -/
namespace Go.Proofs.Ytlfllehomhcbfaa

/-- The contracts of both. -/
def orE {α : Type} (a b : Nat → Option α) (f : Nat) : Option α := match a f with
  | some x => some x
  | none => b f
theorem orE_some {α : Type} {a b : Nat → Option α} {f : Nat} {x : α} (h : orE a b f = some x) : a f = some x ∨ b f = some x := by
  unfold orE at h
  split at h
  · rename_i y hy
    exact .inl (hy.trans h)
  · exact .inr h
noncomputable def pvE : Env := { dvS with fn := orE dvS.fn envT.fn, mu := orE dvS.mu envT.mu, inl := orE dvS.inl envT.inl }
theorem pvE_ok : EnvOk Try.prog pvE :=
  ⟨dvS_ok.ty, dvS_ok.mixed, fun f s h => (orE_some (a := dvS.fn) (b := envT.fn) h).elim (dvS_ok.fn f s) (envT_ok.fn f s), fun f s h => (orE_some (a := dvS.mu) (b := envT.mu) h).elim (dvS_ok.mu f s) (envT_ok.mu f s),
    fun f s h => (orE_some (a := dvS.inl) (b := envT.inl) h).elim (dvS_ok.inl f s) (envT_ok.inl f s), dvS_ok.ex, dvS_ok.inv⟩

--@env pvE pvE_ok
theorem ln93 (n : Int) : fnRes pvE Try.f93 3000 [.v (.c (.int .u64 n))] [] [] [] = (Option.some ([((0 : Int) ≤ n), (n < (18446744073709551616 : Int))], ((SV.v (V1.c (It.int IntKind.i64 (((Lib.bitLen (n).toNat) : Nat) : Int)))), []))) := by kernel_rfl
theorem sm109  : fnRes pvE Try.f109 3000 [.v (.c (.int .i64 1))] [false] [] [] = (Option.some ([((decide ((1 : Int) < (0 : Int))) = false), ((0 : Int) ≤ (1 : Int)), ((1 : Int) < (18446744073709551616 : Int))], ((SV.v (V1.a [(It.ob (Ob.fr (outF (Fin.ofNat rN 1))))])), []))) := by kernel_rfl
noncomputable def qaA_k : List KI := (run pvE false 3000 ((fun (a : List U4) (x : U4) => (⟨[.code (bodyOf Try.f59)], .normal, initSt Try.f59.ntmps [.v (.c (.sl (.fr a))), .v (.a [.ob (.fr x)])]⟩ : Cfg)) default default) []).cfg.k
theorem qaA_hk (a : List U4) (x : U4) : (run pvE false 3000 ((⟨[.code (bodyOf Try.f59)], .normal, initSt Try.f59.ntmps [.v (.c (.sl (.fr a))), .v (.a [.ob (.fr x)])]⟩ : Cfg)) []).cfg.k = qaA_k := by kernel_rfl
theorem qaA (a : List U4) (x : U4) {w0 : World} {F0 : Nat → Prop} {K : Kp} {ac : List Act} {Q : Exit → Act → World → Prop} {cX : Ctx} {aX : Act} (ho : AllP [((0 : Int) ≤ (1 : Int)), ((1 : Int) < (18446744073709551616 : Int)), ((0 : Int) ≤ (0 : Int)), ((0 : Int) < (18446744073709551616 : Int)), ((0 : Int) ≤ (0 : Int)), ((0 : Int) < (18446744073709551616 : Int)), ((0 : Int) ≤ (0 : Int)), ((0 : Int) < (18446744073709551616 : Int))]) (hs : Sim w0 F0 K ac (initSt Try.f59.ntmps [.v (.c (.sl (.fr a))), .v (.a [.ob (.fr x)])]) cX aX) (hK : ∀ ac cY aY, Sim w0 F0 K ac (mkSt 28 [0, 3, 4, 5, 6, 11, 12] [(.v (.c (.sl (.fr a)))), (.v (.c (.ptr 16 0))), (.v (.c (.ptr 32 0))), (.v (.c (.ptr 64 0))), (.v (.c (.ptr 112 0))), (.v (.c (.int .i64 (((List.length a) : Nat) : Int)))), (.v (.c (.int .i64 (0 : Int))))] [16, 32, 64, 112] [(some (.fl [(.ob (.fr x))])), (some (.fl [(.ob (.fr (0 : U4)))])), (some (.fl [(.ob (.fr (0 : U4)))])), (some (.fl [(.ob (.fr (Fin.ofNat B4 1)))]))] 192 [] []) cY aY → Wq Try.prog Q (qaA_k) ac Exit.normal aY cY.w) : Wq Try.prog Q ([.code (bodyOf Try.f59)]) ac .normal aX cX.w :=
  run_at2 (o := ⟨_, _, _, _, _, _, _⟩) pvE_ok (by kernel_rfl) (qaA_hk a x) ho hs hK
noncomputable def qaS (a : List U4) (x : U4) (o p : Fr) (i : Nat) : St := mkSt 28 [0, 3, 4, 5, 6, 11, 12] [(SV.v (V1.c (It.sl (Sq.fr a)))), (SV.v (V1.c (It.ptr 16 0))), (SV.v (V1.c (It.ptr 32 0))), (SV.v (V1.c (It.ptr 64 0))), (SV.v (V1.c (It.ptr 112 0))), (SV.v (V1.c (It.int IntKind.i64 (((List.length a) : Nat) : Int)))), .v (.c (.int .i64 (i : Int)))] [16, 32, 64, 112] [(Option.some (En.fl [(It.ob (Ob.fr x))])), (Option.some (En.fl [(It.ob (Ob.fr (0 : U4)))])), some (.fl [.ob (.fr (outF o))]), some (.fl [.ob (.fr (outF p))])] 192 [] []
theorem qaN_hk (a : List U4) (x : U4) (o p : Fr) (i : Nat) : (run pvE false 3000 ((⟨lpIn qaA_k, .normal, qaS a x o p i⟩ : Cfg)) [true]).cfg.k = lpBk qaA_k := by kernel_rfl
theorem qaN (a : List U4) (x : U4) (o p : Fr) (i : Nat) {w0 : World} {F0 : Nat → Prop} {K : Kp} {ac : List Act} {Q : Exit → Act → World → Prop} {cX : Ctx} {aX : Act} (ho : AllP [((decide (((i : Nat) : Int) < (((List.length a) : Nat) : Int))) = true), ((0 : Int) ≤ ((i : Nat) : Int)), ((Fin.val (outF p)) < rN), ((Fin.val (cleanU x)) < rN)]) (hs : Sim w0 F0 K ac (qaS a x o p i) cX aX) (hK : ∀ ac cY aY, Sim w0 F0 K ac (mkSt 28 [0, 3, 4, 5, 6, 11, 12] [(.v (.c (.sl (.fr a)))), (.v (.c (.ptr 16 0))), (.v (.c (.ptr 32 0))), (.v (.c (.ptr 64 0))), (.v (.c (.ptr 112 0))), (.v (.c (.int .i64 (((List.length a) : Nat) : Int)))), (.v (.c (.int .i64 (IntKind.wrap .i64 (((i : Nat) : Int) + (1 : Int))))))] [16, 32, 64, 112] [(some (.fl [(.ob (.fr x))])), (some (.fl [(.ob (.fr (0 : U4)))])), (some (.fl [(.ob (.fr (cleanU ((outF o) + (mulU (outF (List.getD (List.map inF a) (((i : Nat) : Int)).toNat (0 : Fr))) (outF p))))))])), (some (.fl [(.ob (.fr (mulU (outF p) (cleanU x))))]))] 480 [] []) cY aY → Wq Try.prog Q (lpBk qaA_k) ac Exit.normal aY cY.w) : Wq Try.prog Q (lpIn qaA_k) ac .normal aX cX.w :=
  run_at2 (o := ⟨_, _, _, _, _, _, _⟩) pvE_ok (by kernel_rfl) (qaN_hk a x o p i) ho hs hK
theorem qaX_end (a : List U4) (x : U4) (o p : Fr) (i : Nat) : runEnd pvE Try.f59 false 3000 (⟨lpIn qaA_k, .normal, qaS a x o p i⟩) [false] [] [] = (Option.some ([((decide (((i : Nat) : Int) < (((List.length a) : Nat) : Int))) = false)], ((SV.v (V1.a [(It.ob (Ob.fr (outF o)))])), []))) := by kernel_rfl
theorem small109_fnd : FnD Try.prog 109 [.v (.c (.int .i64 1))] (.v (.a [.ob (.fr (outF 1))])) [] := fn_sound pvE_ok Try.func109 sm109 ⟨rfl, by decide, by decide, trivial⟩
def len93 : FnSpec
  | [.v (.c (.int .u64 n))] => some ([0 ≤ n, n < 18446744073709551616], .v (.c (.int .i64 (Lib.bitLen n.toNat : Nat))), [])
  | _ => none
noncomputable def pvE1 : Env := pvE.set (addT pvE.fn 93 len93)
theorem pvE1_ok : EnvOk Try.prog pvE1 := env_add pvE_ok 93 len93 (enters_of Try.func93 rfl rfl) fun args o r es h ho => by
  unfold len93 at h
  split at h
  · cases h; exact fn_sound pvE_ok Try.func93 (ln93 _) ho
  · cases h
def small109 : FnSpec
  | [.v (.c (.int .i64 n))] => some ([n = 1], .v (.a [.ob (.fr (outF 1))]), [])
  | _ => none
noncomputable def pvE2 : Env := pvE1.set (addT pvE1.fn 109 small109)
theorem pvE2_ok : EnvOk Try.prog pvE2 := env_add pvE1_ok 109 small109 (enters_of Try.func109 rfl rfl) fun args o r es h ho => by
  unfold small109 at h
  split at h
  · cases h; exact (by obtain ⟨rfl, _⟩ := ho; exact small109_fnd)
  · cases h
--@env pvE2 pvE2_ok
noncomputable def vbA_k : List KI := (run pvE2 false 22 ((fun (a b : List U4) (log : Int) => (⟨[.code (bodyOf Try.f92)], .normal, initSt Try.f92.ntmps [.v (.c (.sl (.fr a))), .v (.c (.sl (.fr b))), .v (.c (.int .i64 log))]⟩ : Cfg)) default default default) []).cfg.k
theorem vbA_hk (a b : List U4) (log : Int) : (run pvE2 false 22 ((⟨[.code (bodyOf Try.f92)], .normal, initSt Try.f92.ntmps [.v (.c (.sl (.fr a))), .v (.c (.sl (.fr b))), .v (.c (.int .i64 log))]⟩ : Cfg)) []).cfg.k = vbA_k := by kernel_rfl
theorem vbA (a b : List U4) (log : Int) {w0 : World} {F0 : Nat → Prop} {K : Kp} {ac : List Act} {Q : Exit → Act → World → Prop} {cX : Ctx} {aX : Act} (ho : AllP [((1 : Int) = (1 : Int))]) (hs : Sim w0 F0 K ac (initSt Try.f92.ntmps [.v (.c (.sl (.fr a))), .v (.c (.sl (.fr b))), .v (.c (.int .i64 log))]) cX aX) (hK : ∀ ac cY aY, Sim w0 F0 K ac (mkSt 72 [0, 1, 8, 9, 10] [(.v (.c (.sl (.fr a)))), (.v (.c (.sl (.fr b)))), (.v (.c (.ptr 64 0))), (.v (.c (.ptr 176 0))), (.v (.c (.int .i64 (ite ((okLog log) = true) (0 : Int) (40 : Int)))))] [64, 176] [(some (.fl [(.ob (.fr (outF (1 : Fr))))])), (some (.fl [(.int .i64 (ite ((okLog log) = true) log (0 : Int))), (.ob (.fr (newRoot log)))]))] 224 [] []) cY aY → Wq Try.prog Q (vbA_k) ac Exit.normal aY cY.w) : Wq Try.prog Q ([.code (bodyOf Try.f92)]) ac .normal aX cX.w :=
  run_at2 (o := ⟨_, _, _, _, _, _, _⟩) pvE2_ok (by kernel_rfl) (vbA_hk a b log) ho hs hK
noncomputable def vbAS (m : Int) (w : U4) (a b : List U4) : St := mkSt 72 [0, 1, 8, 9, 10] [(SV.v (V1.c (It.sl (Sq.fr a)))), (SV.v (V1.c (It.sl (Sq.fr b)))), (SV.v (V1.c (It.ptr 64 0))), (SV.v (V1.c (It.ptr 176 0))), .v (.c (.int .i64 0))] [64, 176] [(Option.some (En.fl [(It.ob (Ob.fr (outF (1 : Fr))))])), some (.fl [.int .i64 m, .ob (.fr w)])] 224 [] []
noncomputable def vbB_k : List KI := (run pvE2 false 3000 ((fun (m : Int) (w : U4) (a b : List U4) => (⟨vbA_k, .normal, vbAS m w a b⟩ : Cfg)) default default default default) [false, false, false]).cfg.k
theorem vbB_hk (m : Int) (w : U4) (a b : List U4) : (run pvE2 false 3000 ((⟨vbA_k, .normal, vbAS m w a b⟩ : Cfg)) [false, false, false]).cfg.k = vbB_k := by kernel_rfl
theorem vbB (m : Int) (w : U4) (a b : List U4) {w0 : World} {F0 : Nat → Prop} {K : Kp} {ac : List Act} {Q : Exit → Act → World → Prop} {cX : Ctx} {aX : Act} (ho : AllP [(((0 : Int) != (0 : Int)) = false), (((valE m w a) != (0 : Int)) = false), (((valE m w b) != (0 : Int)) = false)]) (hs : Sim w0 F0 K ac (vbAS m w a b) cX aX) (hK : ∀ ac cY aY, Sim w0 F0 K ac (mkSt 72 [8, 9, 11, 12, 45, 46] [(.v (.c (.ptr 64 0))), (.v (.c (.ptr 176 0))), (.v (.c (.slc 304 0 (List.length (valL m w (outF (1 : Fr)) a)) 4))), (.v (.c (.slc 480 0 (List.length (valL m w (outF (1 : Fr)) b)) 4))), (.v (.c (.int .i64 (((List.length (valL m w (outF (1 : Fr)) a)) : Nat) : Int)))), (.v (.c (.int .i64 (0 : Int))))] [64, 176, 304, 480] [(some (.fl [(.ob (.fr (outF (1 : Fr))))])), (some (.fl [(.int .i64 m), (.ob (.fr w))])), (some (.sq (.fr (valL m w (outF (1 : Fr)) a)))), (some (.sq (.fr (valL m w (outF (1 : Fr)) b))))] 656 [] []) cY aY → Wq Try.prog Q (vbB_k) ac Exit.normal aY cY.w) : Wq Try.prog Q (vbA_k) ac .normal aX cX.w :=
  run_at2 (o := ⟨_, _, _, _, _, _, _⟩) pvE2_ok (by kernel_rfl) (vbB_hk m w a b) ho hs hK
noncomputable def vbS (m : Int) (w : U4) (n : Nat) (U V : List U4) (i : Nat) : St := mkSt 72 [8, 9, 11, 12, 45, 46] [(SV.v (V1.c (It.ptr 64 0))), (SV.v (V1.c (It.ptr 176 0))), .v (.c (.slc 304 0 n 4)), .v (.c (.slc 480 0 n 4)), .v (.c (.int .i64 (n : Int))), .v (.c (.int .i64 (i : Int)))] [64, 176, 304, 480] [(Option.some (En.fl [(It.ob (Ob.fr (outF (1 : Fr))))])), (Option.some (En.fl [(It.int IntKind.i64 m), (It.ob (Ob.fr w))])), some (.sq (.fr U)), some (.sq (.fr V))] 656 [] []
theorem vbN_hk (m : Int) (w : U4) (n : Nat) (U V : List U4) (i : Nat) : (run pvE2 false 3000 ((⟨lpIn vbB_k, .normal, vbS m w n U V i⟩ : Cfg)) [true]).cfg.k = lpBk vbB_k := by kernel_rfl
theorem vbN (m : Int) (w : U4) (n : Nat) (U V : List U4) (i : Nat) {w0 : World} {F0 : Nat → Prop} {K : Kp} {ac : List Act} {Q : Exit → Act → World → Prop} {cX : Ctx} {aX : Act} (ho : AllP [((decide (((i : Nat) : Int) < ((n : Nat) : Int))) = true), ((0 : Int) ≤ ((i : Nat) : Int)), (((i : Nat) : Int) < ((n : Nat) : Int)), (0 = 0), ((((i : Nat) : Int)).toNat < (List.length U)), ((0 : Int) ≤ ((i : Nat) : Int)), (((i : Nat) : Int) < ((n : Nat) : Int)), (0 = 0), ((((i : Nat) : Int)).toNat < (List.length V)), ((0 : Int) ≤ ((i : Nat) : Int)), (((i : Nat) : Int) < ((n : Nat) : Int)), (0 = 0), ((((i : Nat) : Int)).toNat < (List.length U))]) (hs : Sim w0 F0 K ac (vbS m w n U V i) cX aX) (hK : ∀ ac cY aY, Sim w0 F0 K ac (mkSt 72 [8, 9, 11, 12, 45, 46] [(.v (.c (.ptr 64 0))), (.v (.c (.ptr 176 0))), (.v (.c (.slc 304 0 n 4))), (.v (.c (.slc 480 0 n 4))), (.v (.c (.int .i64 ((n : Nat) : Int)))), (.v (.c (.int .i64 (IntKind.wrap .i64 (((i : Nat) : Int) + (1 : Int))))))] [64, 176, 304, 480] [(some (.fl [(.ob (.fr (outF (1 : Fr))))])), (some (.fl [(.int .i64 m), (.ob (.fr w))])), (some (.sq (.fr (List.set U (((i : Nat) : Int)).toNat (outF ((inF (List.getD U (((i : Nat) : Int)).toNat (0 : U4))) * (inF (List.getD V (((i : Nat) : Int)).toNat (0 : U4))))))))), (some (.sq (.fr V)))] 944 [] []) cY aY → Wq Try.prog Q (lpBk vbB_k) ac Exit.normal aY cY.w) : Wq Try.prog Q (lpIn vbB_k) ac .normal aX cX.w :=
  run_at2 (o := ⟨_, _, _, _, _, _, _⟩) pvE2_ok (by kernel_rfl) (vbN_hk m w n U V i) ho hs hK
theorem vbX_end (m : Int) (w : U4) (n : Nat) (U V : List U4) (i : Nat) : runEnd pvE2 Try.f92 false 3000 (⟨lpIn vbB_k, .normal, vbS m w n U V i⟩) [false] [832] [] = (Option.some ([((decide (((i : Nat) : Int) < ((n : Nat) : Int))) = false), (0 = 0), (n = (List.length U)), (4 = 4), (0 = 0), ((List.length (cfL m w (outF (1 : Fr)) U)) = (List.length (cfL m w (outF (1 : Fr)) U))), (4 = 4), ((List.length (cfL m w (outF (1 : Fr)) U)) ≤ 8796093022208)], ((SV.t [(V1.c (It.slc 0 0 (List.length (trimF (List.map inF (cfL m w (outF (1 : Fr)) U)))) 4)), (V1.c (It.int IntKind.i64 (cfE m w (outF (1 : Fr)) U)))]), [(En.sq (Sq.fr (List.map outF (trimF (List.map inF (cfL m w (outF (1 : Fr)) U))))))]))) := by kernel_rfl
end Go.Proofs.Ytlfllehomhcbfaa

/- Polynomials: the value as what is left, how many coefficients products and quotients have. No conditions. -/
namespace Go.Proofs.Ytlfllehomhcbfaa

section
variable {r : Nat} [NeZero r]
theorem pq_cons (c w x : Fin r) : c * 1 + w * x = w * x + c := by grind
theorem pq_step (a z q : Fin r) (h : q * (0 - z) + a + 0 = 0) (hq : q = 0) : a = 0 := by grind
theorem pq_top (a z q c : Fin r) (h : q * (0 - z) + a + 0 = c) (hq : q = 0) : a = c := by grind
end

theorem evalF_cons (c : Fr) (l : List Fr) (x : Fr) : evalF (c :: l) x = evalF l x * x + c := by
  unfold evalF
  show sm (fun j => (c :: l).getD j 0 * powN x j) (l.length + 1) = _
  rw [sm_front]
  have e1 : (c :: l).getD 0 0 * powN x 0 = c * 1 := rfl
  have e2 : ∀ i, i < l.length → (c :: l).getD (i + 1) 0 * powN x (i + 1) = l.getD i 0 * powN x i * x := fun i _ => by
    show l.getD i 0 * (powN x i * x) = _
    exact (fr_mul_assoc _ _ _).symm
  rw [e1, sm_congr _ e2, sm_mulr]
  exact pq_cons _ _ _

theorem divL_eval (z : Fr) : ∀ l, (divL z l).2 = evalF l z
  | [] => rfl
  | c :: l => by
    rw [evalF_cons, ← divL_eval z l]
    rfl

theorem fr_mul_ne {a b : Fr} (ha : a ≠ 0) (hb : b ≠ 0) : a * b ≠ 0 := fun h => by
  refine hb ?_
  have h1 : invF a * (a * b) = 0 := by rw [h]; exact fr_mul_zero _
  rw [← fr_mul_assoc, fr_mul_comm (invF a), invF_mul ha, fr_one_mul] at h1
  exact h1

theorem trim_len_eq {L : List Fr} {d : Nat} (h1 : cf L d ≠ 0) (h2 : ∀ i, d < i → cf L i = 0) : (trimF L).length = d + 1 := by
  rw [trimF_len]
  have hz := trim_zero L
  have hl := trimN_last L L.length
  generalize trimN L L.length = t at *
  rcases Nat.lt_trichotomy t (d + 1) with h | h | h
  · exact absurd (hz d (by omega)) h1
  · exact h
  · rcases hl with h3 | h3
    · omega
    · exact absurd (h2 (t - 1) (by omega)) h3

theorem trim_len_zero {L : List Fr} (h : ∀ i, cf L i = 0) : (trimF L).length = 0 := by
  rw [trimF_len]
  rcases trimN_last L L.length with h3 | h3
  · exact h3
  · exact absurd (h _) h3

/-- The highest coefficient. -/
theorem trim_top {L : List Fr} {d : Nat} (h : (trimF L).length = d + 1) : cf L d ≠ 0 ∧ ∀ i, d < i → cf L i = 0 := by
  rw [trimF_len] at h
  constructor
  · rcases trimN_last L L.length with h3 | h3
    · omega
    · rw [h] at h3
      exact h3
  · intro i hi
    exact trim_zero L i (by omega)
theorem trim_none {L : List Fr} (h : (trimF L).length = 0) (i : Nat) : cf L i = 0 := by
  rw [trimF_len] at h
  exact trim_zero L i (by omega)

theorem mul_len (a b : List Fr) : (trimF (mulL a b)).length = if (trimF a).length = 0 ∨ (trimF b).length = 0 then 0 else (trimF a).length + (trimF b).length - 1 := by
  by_cases ha : (trimF a).length = 0
  · rw [if_pos (.inl ha)]
    refine trim_len_zero fun i => ?_
    rw [mulL_cf]
    exact sumF_zero fun k _ => by rw [trim_none ha]; exact fr_zero_mul _
  by_cases hb : (trimF b).length = 0
  · rw [if_pos (.inr hb)]
    refine trim_len_zero fun i => ?_
    rw [mulL_cf]
    exact sumF_zero fun k _ => by rw [trim_none hb]; exact fr_mul_zero _
  rw [if_neg (by omega)]
  obtain ⟨n, hn⟩ : ∃ n, (trimF a).length = n + 1 := ⟨(trimF a).length - 1, by omega⟩
  obtain ⟨m, hm⟩ : ∃ m, (trimF b).length = m + 1 := ⟨(trimF b).length - 1, by omega⟩
  obtain ⟨a1, a2⟩ := trim_top hn
  obtain ⟨b1, b2⟩ := trim_top hm
  rw [hn, hm, show n + 1 + (m + 1) - 1 = (n + m) + 1 from by omega]
  refine trim_len_eq ?_ fun i hi => ?_
  · rw [mulL_cf]
    have : mulC a b (n + m) = cf a n * cf b m := by
      unfold mulC
      rw [sumF_one n (by omega) fun k hk hne => ?_]
      · rw [show n + m - n = m from by omega]
      · by_cases h : n < k
        · rw [a2 k h]; exact fr_zero_mul _
        · rw [b2 (n + m - k) (by omega)]; exact fr_mul_zero _
    rw [this]
    exact fr_mul_ne a1 b1
  · rw [mulL_cf]
    refine sumF_zero fun k hk => ?_
    by_cases h : n < k
    · rw [a2 k h]; exact fr_zero_mul _
    · rw [b2 (i - k) (by omega)]; exact fr_mul_zero _

theorem div_zero (z : Fr) {l : List Fr} {d : Nat} (h : ∀ i, d < i → cf l i = 0) : ∀ k j, d ≤ j → (divL z l).1.length ≤ j + k → cf (divL z l).1 j = 0
  | 0, j, _, hk => cf_out (by omega)
  | k + 1, j, hj, hk => by
    have ih := div_zero z h k (j + 1) (by omega) (by omega)
    have hc := divL_cf z l (j + 1)
    rw [if_pos (by omega), if_neg (by omega), Nat.add_sub_cancel, h (j + 1) (by omega)] at hc
    exact pq_step _ _ _ hc ih

/-- The quotient by X - z has a coefficient less. -/
theorem div_len (z : Fr) (l : List Fr) : (trimF (divL z l).1).length = (trimF l).length - 1 := by
  by_cases h0 : (trimF l).length = 0
  · rw [h0]
    exact trim_len_zero fun j => div_zero z (d := 0) (fun i _ => trim_none h0 i) _ j (Nat.zero_le _) (Nat.le_add_left _ _)
  obtain ⟨d, hd⟩ : ∃ d, (trimF l).length = d + 1 := ⟨(trimF l).length - 1, by omega⟩
  obtain ⟨h1, h2⟩ := trim_top hd
  have hz := fun j (hj : d ≤ j) => div_zero z h2 _ j hj (Nat.le_add_left (divL z l).1.length j)
  rw [hd, Nat.add_sub_cancel]
  cases d with
  | zero => exact trim_len_zero fun j => hz j (Nat.zero_le _)
  | succ d =>
    refine trim_len_eq ?_ fun i hi => hz i (by omega)
    have hc := divL_cf z l (d + 1)
    rw [if_pos (by omega), if_neg (by omega), Nat.add_sub_cancel] at hc
    have := pq_top _ _ _ _ hc (hz (d + 1) (Nat.le_refl _))
    rw [this]
    exact h1

end Go.Proofs.Ytlfllehomhcbfaa

/- Products of polynomials by values: contracts. No conditions. -/
namespace Go.Proofs.Ytlfllehomhcbfaa

theorem refAt_fnd (a : List U4) (x : U4) : FnD Try.prog 59 [.v (.c (.sl (.fr a))), .v (.a [.ob (.fr x)])] (.v (.a [.ob (.fr (outF (evalF (a.map inF) (inF x))))])) [] := by
  have hz : (0 : U4) = outF 0 := by apply Fin.ext; rw [outF_val]; rfl
  refine fn_start (fn := Try.f59) (c := bodyOf Try.f59) Try.func59 rfl rfl fun c act hk hF hs => ?_
  have hla := sl_len (q := .fr a) (hs.t 0)
  have hla : a.length ≤ maxLen := hla
  unfold maxLen at hla
  refine qaA a x ⟨by decide, by decide, by decide, by decide, by decide, by decide, by decide, by decide, trivial⟩ hs fun ac cY aY hs1 => ?_
  have e1 : (Fin.ofNat B4 1 : U4) = outF (powN (inF x) 0) := out_one1.symm
  rw [e1] at hs1
  have hs2 : Sim c.w c.F kAll ac (qaS a x (sm (fun j => (a.map inF).getD j 0 * powN (inF x) j) 0) (powN (inF x) 0) 0) cY aY := by
    show Sim c.w c.F kAll ac (qaS a x 0 (powN (inF x) 0) 0) cY aY
    unfold qaS
    rw [← hz]
    exact hs1.nx _
  refine loop_rule (ι := { i : Nat // i ≤ a.length }) (fun i => qaS a x (sm (fun j => (a.map inF).getD j 0 * powN (inF x) j) i.1) (powN (inF x) i.1) i.1) (fun i => a.length - i.1) (c := lpC qaA_k) (k := lpR qaA_k) (by kernel_rfl) (fun i ih ac cY aY hs => ?_) ⟨0, Nat.zero_le _⟩ hs2
  obtain ⟨i, hi⟩ := i
  simp only at ih hs
  by_cases h : i < a.length
  · refine qaN a x _ _ i ⟨decide_eq_true (by omega), by omega, outF_lt _, by rw [clean_out]; exact outF_lt _, trivial⟩ hs fun ac cZ aZ hs3 => ?_
    have ep : mulU (outF (powN (inF x) i)) (cleanU x) = outF (powN (inF x) (i + 1)) := by
      rw [clean_out, mulU_out]
      rfl
    have hit : ((i : Nat) : Int).toNat = i := Int.toNat_natCast i
    rw [hit, mulU_out, addU_out, ep, wrap_id (by omega) (by omega)] at hs3
    exact ih ⟨i + 1, by omega⟩ (by show a.length - (i + 1) < a.length - i; omega) ac cZ aZ (hs3.nx _)
  · have ei : i = (a.map inF).length := by rw [List.length_map]; omega
    have hv : sm (fun j => (a.map inF).getD j 0 * powN (inF x) j) i = evalF (a.map inF) (inF x) := by rw [ei]; rfl
    have r := qaX_end a x (sm (fun j => (a.map inF).getD j 0 * powN (inF x) j) i) (powN (inF x) i) i
    rw [hv] at r hs
    exact run_end2 pvE_ok hk hF r ⟨decide_eq_false (by rw [List.length_map] at ei; omega), trivial⟩ (fun y v hd => hd) hs

theorem bitLenAux_small : ∀ (f x k : Nat), x < 2 ^ k → Lib.bitLenAux f x ≤ k
  | 0, _, _, _ => Nat.zero_le _
  | f + 1, x, k, h => by
    unfold Lib.bitLenAux
    by_cases h0 : x = 0
    · rw [if_pos h0]; omega
    · rw [if_neg h0]
      cases k with
      | zero => omega
      | succ k =>
        have := bitLenAux_small f (x / 2) k (by rw [Nat.pow_succ] at h; omega)
        omega
theorem bitLen_small {x k : Nat} (h : x < 2 ^ k) : Lib.bitLen x ≤ k := bitLenAux_small 64 x k h

/-- The product's values, point by point, back. -/
theorem by_values {log : Int} {w : U4} {A B : List Fr} (hd : domOk log w = true) (hab : A.length + B.length ≤ 2 ^ log.toNat + 1) :
    trimF (coefsF (2 ^ log.toNat) (inF w) 1 (tab (2 ^ log.toNat) (fun q => evalF A (1 * powN (inF w) q) * evalF B (1 * powN (inF w) q)))) = trimF (mulL A B) := by
  have hc := coefs_of_vals hd fr_one_ne (L := tab (2 ^ log.toNat) (cf (mulL A B))) (tab_len _ _)
  generalize 2 ^ log.toNat = n at *
  have hz : ∀ i, n ≤ i → cf (mulL A B) i = 0 := fun i hi => by
    rw [mulL_cf]
    refine sumF_zero fun k hk => ?_
    by_cases h : A.length ≤ k
    · rw [cf_out h]; exact fr_zero_mul _
    · rw [cf_out (l := B) (by omega)]; exact fr_mul_zero _
  have hcf : ∀ i, cf (tab n (cf (mulL A B))) i = cf (mulL A B) i := fun i => by
    by_cases hi : i < n
    · exact tab_get hi
    · rw [hz i (by omega)]
      exact cf_out (by rw [tab_len]; omega)
  have hv : valsF n (inF w) 1 (tab n (cf (mulL A B))) = tab n (fun q => evalF A (1 * powN (inF w) q) * evalF B (1 * powN (inF w) q)) := by
    unfold valsF
    exact tab_congr fun q _ => by rw [evalF_cf hcf, evalF_mul]
  rw [hv] at hc
  rw [hc]
  exact trim_ext hcf

theorem byValues_fnd (a b : List U4) (m : Nat) (hm : m ≤ 16) (ha : a.length ≤ 2 ^ m) (hb : b.length ≤ 2 ^ m) (hab : a.length + b.length ≤ 2 ^ m + 1) :
    FnD Try.prog 92 [.v (.c (.sl (.fr a))), .v (.c (.sl (.fr b))), .v (.c (.int .i64 (m : Int)))] (.t [.c (.slc 0 0 (trimF (mulL (a.map inF) (b.map inF))).length 4), .c (.int .i64 0)]) [.sq (.fr ((trimF (mulL (a.map inF) (b.map inF))).map outF))] := by
  have hok : okLog (m : Int) = true := by
    simp only [okLog, Bool.and_eq_true, decide_eq_true_eq]
    omega
  have hd := dom_self hok
  have hmt : (m : Int).toNat = m := Int.toNat_natCast m
  have hp2 : 2 ^ m ≤ 2 ^ 16 := Nat.pow_le_pow_right (by decide) hm
  refine fn_start (fn := Try.f92) (c := bodyOf Try.f92) Try.func92 rfl rfl fun x act hk hF hs => ?_
  refine vbA a b (m : Int) ⟨rfl, trivial⟩ hs fun ac cY aY hs1 => ?_
  rw [hok, if_pos rfl, if_pos rfl] at hs1
  generalize hw : newRoot (m : Int) = w at *
  have hbv := by_values (A := a.map inF) (B := b.map inF) hd (by rw [hmt, List.length_map, List.length_map]; exact hab)
  have h1 : inF (outF 1) = 1 := in_out 1
  have hval : ∀ l : List U4, l.length ≤ 2 ^ m → valL (m : Int) w (outF 1) l = (valsF (2 ^ (m : Int).toNat) (inF w) 1 (l.map inF)).map outF ∧ valE (m : Int) w l = 0 := fun l hl => by
    unfold valL valE
    rw [if_pos ⟨hd, by rw [hmt]; exact hl⟩, hd, if_pos rfl, if_pos (by rw [hmt]; exact hl), h1]
    exact ⟨rfl, rfl⟩
  refine vbB (m : Int) w a b ⟨rfl, by rw [(hval a ha).2]; rfl, by rw [(hval b hb).2]; rfl, trivial⟩ hs1 fun ac cY aY hs2 => ?_
  have hlen : ∀ l : List U4, ((valsF (2 ^ (m : Int).toNat) (inF w) 1 (l.map inF)).map outF).length = 2 ^ (m : Int).toNat := fun l => by rw [List.length_map, valsF_len]
  rw [(hval a ha).1, (hval b hb).1, hlen, hlen] at hs2
  have hcf : ∀ L : List Fr, L.length = 2 ^ (m : Int).toNat → cfL (m : Int) w (outF 1) (L.map outF) = (coefsF (2 ^ (m : Int).toNat) (inF w) 1 L).map outF ∧ cfE (m : Int) w (outF 1) (L.map outF) = 0 := fun L hL => by
    have hne : inF (outF 1) ≠ 0 := by rw [h1]; exact fr_one_ne
    unfold cfL cfE
    have e1 : (L.map outF).map inF = L := by
      rw [List.map_map]
      have : (inF ∘ outF) = id := funext in_out
      rw [this, List.map_id]
    rw [if_pos ⟨hd, by rw [List.length_map]; exact hL, hne⟩, e1, hd, if_pos rfl, if_pos (by rw [List.length_map]; exact hL), if_neg hne, h1]
    exact ⟨rfl, rfl⟩
  have hn : 2 ^ (m : Int).toNat = 2 ^ m := by rw [hmt]
  have hnb : 2 ^ (m : Int).toNat ≤ 65536 := by rw [hn]; exact hp2
  generalize 2 ^ (m : Int).toNat = n at *
  let f : Nat → Fr := fun q => evalF (a.map inF) (1 * powN (inF w) q) * evalF (b.map inF) (1 * powN (inF w) q)
  let g : Nat → Fr := fun q => evalF (a.map inF) (1 * powN (inF w) q)
  have hV : ∀ (l : List U4) (i : Nat), i < n → ((valsF n (inF w) 1 (l.map inF)).map outF).getD i 0 = outF (evalF (l.map inF) (1 * powN (inF w) i)) := fun l i hi => by
    have hlt : i < (valsF n (inF w) 1 (l.map inF)).length := by rw [valsF_len]; exact hi
    have e1 : ((valsF n (inF w) 1 (l.map inF)).map outF).getD i 0 = outF ((valsF n (inF w) 1 (l.map inF)).getD i 0) := by simp [List.getD, hlt]
    rw [e1]
    unfold valsF
    rw [tab_get hi]
  have hset : ∀ i, i < n → ((tab n (fun q => if q < i then f q else g q)).map outF).set i (outF (f i)) = (tab n (fun q => if q < i + 1 then f q else g q)).map outF := fun i hi => by
    rw [← List.map_set, tab_set]
    congr 1
    refine tab_congr fun q _ => ?_
    by_cases g1 : q = i
    · subst g1; simp
    · by_cases g2 : q < i
      · rw [if_neg g1, if_pos g2, if_pos (by omega)]
      · rw [if_neg g1, if_neg g2, if_neg (by omega)]
  have hget : ∀ i, i < n → ((tab n (fun q => if q < i then f q else g q)).map outF).getD i 0 = outF (g i) := fun i hi => by
    have hlt : i < (tab n (fun q => if q < i then f q else g q)).length := by rw [tab_len]; exact hi
    have e1 : ((tab n (fun q => if q < i then f q else g q)).map outF).getD i 0 = outF ((tab n (fun q => if q < i then f q else g q)).getD i 0) := by simp [List.getD, hlt]
    rw [e1, tab_get hi, if_neg (Nat.lt_irrefl i)]
  have h0 : valsF n (inF w) 1 (a.map inF) = tab n (fun q => if q < 0 then f q else g q) := tab_congr fun q _ => (if_neg (Nat.not_lt_zero q)).symm
  have hVl := hlen b
  have hVb := hV b
  rw [h0] at hs2
  generalize (valsF n (inF w) 1 (b.map inF)).map outF = V at *
  refine loop_rule (ι := { i : Nat // i ≤ n }) (fun i => vbS (m : Int) w n ((tab n (fun q => if q < i.1 then f q else g q)).map outF) V i.1) (fun i => n - i.1) (c := lpC vbB_k) (k := lpR vbB_k) (by kernel_rfl) (fun i ih ac cY aY hs => ?_) ⟨0, Nat.zero_le _⟩ (hs2.nx _)
  obtain ⟨i, hi⟩ := i
  simp only at ih hs
  have hUl : ((tab n (fun q => if q < i then f q else g q)).map outF).length = n := by rw [List.length_map, tab_len]
  by_cases h : i < n
  · refine vbN (m : Int) w n _ V i ?_ hs fun ac cZ aZ hs3 => ?_
    · rw [hUl, hVl]
      and_intros <;> first | rfl | trivial | omega | (apply decide_eq_true; omega)
    · have hit : ((i : Nat) : Int).toNat = i := Int.toNat_natCast i
      rw [hit, hget i h, hVb i h, in_out, in_out, wrap_id (by omega) (by omega)] at hs3
      have hs4 := hset i h
      rw [show outF (g i * evalF (b.map inF) (1 * powN (inF w) i)) = outF (f i) from rfl, hs4] at hs3
      exact ih ⟨i + 1, by omega⟩ (by show n - (i + 1) < n - i; omega) ac cZ aZ (hs3.nx _)
  · have ei : i = n := by omega
    subst ei
    have hU : tab i (fun q => if q < i then f q else g q) = tab i f := tab_congr fun q hq => if_pos hq
    rw [hU] at hs hUl
    have r := vbX_end (m : Int) w i ((tab i f).map outF) V i
    have hc := hcf (tab i f) (tab_len _ _)
    have e1 : ((coefsF i (inF w) 1 (tab i f)).map outF).map inF = coefsF i (inF w) 1 (tab i f) := by
      rw [List.map_map]
      have : (inF ∘ outF) = id := funext in_out
      rw [this, List.map_id]
    have hcl : ((coefsF i (inF w) 1 (tab i f)).map outF).length = i := by rw [List.length_map, coefsF_len]
    rw [hc.1, hc.2, hcl, e1] at r
    rw [show trimF (coefsF i (inF w) 1 (tab i f)) = trimF (mulL (a.map inF) (b.map inF)) from hbv] at r
    exact run_end2 pvE2_ok hk hF r ⟨decide_eq_false (by omega), rfl, hUl.symm, rfl, rfl, rfl, rfl, by omega, trivial⟩ (fun y v hd => hd) hs

end Go.Proofs.Ytlfllehomhcbfaa

/- Products of polynomials; PolyMuls, walked. No conditions. -/
namespace Go.Proofs.Ytlfllehomhcbfaa

def refAt59 : FnSpec
  | [.v (.c (.sl (.fr a))), .v (.a [.ob (.fr x)])] => some ([], .v (.a [.ob (.fr (outF (evalF (a.map inF) (inF x))))]), [])
  | _ => none
noncomputable def pvE3 : Env := pvE2.set (addT pvE2.fn 59 refAt59)
theorem pvE3_ok : EnvOk Try.prog pvE3 := env_add pvE2_ok 59 refAt59 (enters_of Try.func59 rfl rfl) fun args o r es h _ => by
  unfold refAt59 at h
  split at h
  · cases h; exact refAt_fnd _ _
  · cases h
def byVal92 : FnSpec
  | [.v (.c (.sl (.fr a))), .v (.c (.sl (.fr b))), .v (.c (.int .i64 n))] => some ([0 ≤ n, n ≤ 16, a.length ≤ 2 ^ n.toNat, b.length ≤ 2 ^ n.toNat, a.length + b.length ≤ 2 ^ n.toNat + 1], .t [.c (.slc 0 0 (trimF (mulL (a.map inF) (b.map inF))).length 4), .c (.int .i64 0)], [.sq (.fr ((trimF (mulL (a.map inF) (b.map inF))).map outF))])
  | _ => none
noncomputable def pvE4 : Env := pvE3.set (addT pvE3.fn 92 byVal92)
theorem pvE4_ok : EnvOk Try.prog pvE4 := env_add pvE3_ok 92 byVal92 (enters_of Try.func92 rfl rfl) fun args o r es h ho => by
  unfold byVal92 at h
  split at h
  · cases h; exact (by rename_i a b n; obtain ⟨m, rfl⟩ := Int.eq_ofNat_of_zero_le ho.1; exact byValues_fnd a b m (by have := ho.2.1; omega) ho.2.2.1 ho.2.2.2.1 ho.2.2.2.2.1)
  · cases h
def plain91 : FnSpec
  | [.v (.c (.sl (.s A))), .v (.c (.sl (.s B)))] => some ([0 < A.length, 0 < B.length, A.length ≤ 1073741824, B.length ≤ 1073741824], .v (.c (.slc 0 0 (trimF (mulL A B)).length 4)), [.sq (.fr ((trimF (mulL A B)).map outF))])
  | _ => none
noncomputable def pvE5 : Env := pvE4.set (addT pvE4.fn 91 plain91)
theorem pvE5_ok : EnvOk Try.prog pvE5 := env_add pvE4_ok 91 plain91 (enters_of Try.func91 rfl rfl) fun args o r es h ho => by
  unfold plain91 at h
  split at h
  · cases h; exact plain_fnd _ _ ho.1 ho.2.1 ho.2.2.1 ho.2.2.2.1
  · cases h
--@env pvE5 pvE5_ok
theorem m57A (a b : List U4) : fnRes pvE5 Try.f57 3000 [.v (.c (.sl (.fr a))), .v (.c (.sl (.fr b)))] [false, false, false, true] [] [] = (Option.some ([(0 = 0), (2 = (List.length ([a] ++ [b]))), (1 = 1), ((longB ([a] ++ [b])) = false), ((decide ((((List.length a) : Nat) : Int) > (0 : Int))) = false), (((((List.length a) : Nat) : Int) == (0 : Int)) = true)], ((SV.t [(V1.c (It.val (Value.slice Option.none 0 0))), (V1.c (It.int IntKind.i64 (0 : Int)))]), []))) := by kernel_rfl
theorem m57B (a b : List U4) : fnRes pvE5 Try.f57 3000 [.v (.c (.sl (.fr a))), .v (.c (.sl (.fr b)))] [true, false, false, false, true] [] [] = (Option.some ([(0 = 0), (2 = (List.length ([a] ++ [b]))), (1 = 1), ((longB ([a] ++ [b])) = false), ((decide ((((List.length a) : Nat) : Int) > (0 : Int))) = true), ((decide ((((List.length b) : Nat) : Int) > (0 : Int))) = false), (((((List.length a) : Nat) : Int) == (0 : Int)) = false), (((((List.length b) : Nat) : Int) == (0 : Int)) = true)], ((SV.t [(V1.c (It.val (Value.slice Option.none 0 0))), (V1.c (It.int IntKind.i64 (0 : Int)))]), []))) := by kernel_rfl
theorem m57C (a b : List U4) : fnRes pvE5 Try.f57 3000 [.v (.c (.sl (.fr a))), .v (.c (.sl (.fr b)))] [true, true, false, false, false, false, true] [752] [] = (Option.some ([(0 = 0), (2 = (List.length ([a] ++ [b]))), (1 = 1), ((longB ([a] ++ [b])) = false), ((decide ((((List.length a) : Nat) : Int) > (0 : Int))) = true), ((decide ((((List.length b) : Nat) : Int) > (0 : Int))) = true), ((decide ((IntKind.wrap IntKind.i64 ((((List.length a) : Nat) : Int) + (((List.length b) : Nat) : Int))) > (16384 : Int))) = false), (((((List.length a) : Nat) : Int) == (0 : Int)) = false), (((((List.length b) : Nat) : Int) == (0 : Int)) = false), ((decide ((ite ((((List.length b) : Nat) : Int) < (((List.length a) : Nat) : Int)) (((List.length b) : Nat) : Int) (((List.length a) : Nat) : Int)) ≤ (8 : Int))) = true), ((List.length a) ≤ 8796093022208), ((List.length b) ≤ 8796093022208), (0 = 0), ((List.length a) = (List.length (List.map inF a))), (4 = 4), (0 = 0), ((List.length b) = (List.length (List.map inF b))), (4 = 4), (0 < (List.length (List.map inF a))), (0 < (List.length (List.map inF b))), ((List.length (List.map inF a)) ≤ 1073741824), ((List.length (List.map inF b)) ≤ 1073741824)], ((SV.t [(V1.c (It.slc 0 0 (List.length (trimF (mulL (List.map inF a) (List.map inF b)))) 4)), (V1.c (It.int IntKind.i64 (0 : Int)))]), [(En.sq (Sq.fr (List.map outF (trimF (mulL (List.map inF a) (List.map inF b))))))]))) := by kernel_rfl
theorem m57D (a b : List U4) : fnRes pvE5 Try.f57 3000 [.v (.c (.sl (.fr a))), .v (.c (.sl (.fr b)))] [true, true, false, false, false, false, false] [784] [] = (Option.some ([(0 = 0), (2 = (List.length ([a] ++ [b]))), (1 = 1), ((longB ([a] ++ [b])) = false), ((decide ((((List.length a) : Nat) : Int) > (0 : Int))) = true), ((decide ((((List.length b) : Nat) : Int) > (0 : Int))) = true), ((decide ((IntKind.wrap IntKind.i64 ((((List.length a) : Nat) : Int) + (((List.length b) : Nat) : Int))) > (16384 : Int))) = false), (((((List.length a) : Nat) : Int) == (0 : Int)) = false), (((((List.length b) : Nat) : Int) == (0 : Int)) = false), ((decide ((ite ((((List.length b) : Nat) : Int) < (((List.length a) : Nat) : Int)) (((List.length b) : Nat) : Int) (((List.length a) : Nat) : Int)) ≤ (8 : Int))) = false), ((0 : Int) ≤ (IntKind.wrap IntKind.u64 (IntKind.wrap IntKind.i64 ((IntKind.wrap IntKind.i64 ((((List.length a) : Nat) : Int) + (((List.length b) : Nat) : Int))) - (2 : Int))))), ((IntKind.wrap IntKind.u64 (IntKind.wrap IntKind.i64 ((IntKind.wrap IntKind.i64 ((((List.length a) : Nat) : Int) + (((List.length b) : Nat) : Int))) - (2 : Int)))) < (18446744073709551616 : Int)), ((0 : Int) ≤ (((Lib.bitLen ((IntKind.wrap IntKind.u64 (IntKind.wrap IntKind.i64 ((IntKind.wrap IntKind.i64 ((((List.length a) : Nat) : Int) + (((List.length b) : Nat) : Int))) - (2 : Int))))).toNat) : Nat) : Int)), ((((Lib.bitLen ((IntKind.wrap IntKind.u64 (IntKind.wrap IntKind.i64 ((IntKind.wrap IntKind.i64 ((((List.length a) : Nat) : Int) + (((List.length b) : Nat) : Int))) - (2 : Int))))).toNat) : Nat) : Int) ≤ (16 : Int)), ((List.length a) ≤ (2 ^ ((((Lib.bitLen ((IntKind.wrap IntKind.u64 (IntKind.wrap IntKind.i64 ((IntKind.wrap IntKind.i64 ((((List.length a) : Nat) : Int) + (((List.length b) : Nat) : Int))) - (2 : Int))))).toNat) : Nat) : Int)).toNat)), ((List.length b) ≤ (2 ^ ((((Lib.bitLen ((IntKind.wrap IntKind.u64 (IntKind.wrap IntKind.i64 ((IntKind.wrap IntKind.i64 ((((List.length a) : Nat) : Int) + (((List.length b) : Nat) : Int))) - (2 : Int))))).toNat) : Nat) : Int)).toNat)), (((List.length a) + (List.length b)) ≤ ((2 ^ ((((Lib.bitLen ((IntKind.wrap IntKind.u64 (IntKind.wrap IntKind.i64 ((IntKind.wrap IntKind.i64 ((((List.length a) : Nat) : Int) + (((List.length b) : Nat) : Int))) - (2 : Int))))).toNat) : Nat) : Int)).toNat) + 1))], ((SV.t [(V1.c (It.slc 0 0 (List.length (trimF (mulL (List.map inF a) (List.map inF b)))) 4)), (V1.c (It.int IntKind.i64 (0 : Int)))]), [(En.sq (Sq.fr (List.map outF (trimF (mulL (List.map inF a) (List.map inF b))))))]))) := by kernel_rfl
theorem mul_nil {A B : List Fr} (h : A.length = 0 ∨ B.length = 0) : trimF (mulL A B) = [] := by
  have e : trimF (mulL A B) = trimF [] := trim_ext fun i => by
    rw [mulL_cf]
    refine sumF_zero fun k _ => ?_
    rcases h with h | h
    · rw [cf_out (l := A) (by omega), fr_zero_mul]
    · rw [cf_out (l := B) (by omega), fr_mul_zero]
  exact e

theorem mul57_fnd (a b : List U4) (ha0 : a.length ≤ 300) (hb0 : b.length ≤ 300) : FnD Try.prog 57 [.v (.c (.sl (.fr a))), .v (.c (.sl (.fr b)))] (.t [.c (.slc 0 0 (trimF (mulL (a.map inF) (b.map inF))).length 4), .c (.int .i64 0)]) [.sq (.fr ((trimF (mulL (a.map inF) (b.map inF))).map outF))] := by
  have hla : (a.map inF).length = a.length := List.length_map ..
  have hlb : (b.map inF).length = b.length := List.length_map ..
  have hl : longB ([a] ++ [b]) = false := by
    unfold longB
    simp
    omega
  by_cases ha : a.length = 0
  · rw [mul_nil (.inl (by omega))]
    exact (fn_sound pvE5_ok Try.func57 (m57A a b) ⟨rfl, rfl, rfl, hl, by simp [ha], by simp [ha], trivial⟩).nil2 rfl
  by_cases hb : b.length = 0
  · rw [mul_nil (.inr (by omega))]
    exact (fn_sound pvE5_ok Try.func57 (m57B a b) ⟨rfl, rfl, rfl, hl, decide_eq_true (by omega), by simp [hb], by simp [ha], by simp [hb], trivial⟩).nil2 rfl
  have hw : IntKind.wrap IntKind.i64 ((a.length : Int) + (b.length : Int)) = ((a.length + b.length : Nat) : Int) := by rw [wrap_id (by omega) (by omega)]; omega
  by_cases h8 : a.length ≤ 8 ∨ b.length ≤ 8
  · refine fn_sound pvE5_ok Try.func57 (m57C a b) ⟨rfl, rfl, rfl, hl, decide_eq_true (by omega), decide_eq_true (by omega), by rw [hw]; exact decide_eq_false (by omega), by simp [ha], by simp [hb], ?_, by omega, by omega, rfl, hla.symm, rfl, rfl, hlb.symm, rfl, by omega, by omega, by omega, by omega, trivial⟩
    refine decide_eq_true ?_
    split <;> omega
  · have hw2 : IntKind.wrap IntKind.u64 (IntKind.wrap IntKind.i64 (((a.length + b.length : Nat) : Int) - 2)) = ((a.length + b.length - 2 : Nat) : Int) := by rw [wrap_id (by omega) (by omega), wrap_u (by omega) (by omega)]; omega
    have r := m57D a b
    rw [hw, hw2, Int.toNat_natCast, Int.toNat_natCast] at r
    have hb1 := bitLen_lt (x := a.length + b.length - 2) (by omega)
    have hb2 := bitLen_small (x := a.length + b.length - 2) (k := 16) (by omega)
    generalize Lib.bitLen (a.length + b.length - 2) = m at *
    have hne : (decide ((if ((b.length : Nat) : Int) < ((a.length : Nat) : Int) then ((b.length : Nat) : Int) else ((a.length : Nat) : Int)) ≤ (8 : Int))) = false := by
      refine decide_eq_false ?_
      split <;> omega
    exact fn_sound pvE5_ok Try.func57 r ⟨rfl, rfl, rfl, hl, decide_eq_true (by omega), decide_eq_true (by omega), decide_eq_false (by omega), by simp [ha], by simp [hb], hne, by omega, by omega, by omega, by omega, by omega, by omega, by omega, trivial⟩
def mul57 : FnSpec
  | [.v (.c (.sl (.fr a))), .v (.c (.sl (.fr b)))] => some ([a.length ≤ 300, b.length ≤ 300], .t [.c (.slc 0 0 (trimF (mulL (a.map inF) (b.map inF))).length 4), .c (.int .i64 0)], [.sq (.fr ((trimF (mulL (a.map inF) (b.map inF))).map outF))])
  | _ => none
noncomputable def pvE6 : Env := pvE5.set (addT pvE5.fn 57 mul57)
theorem pvE6_ok : EnvOk Try.prog pvE6 := env_add pvE5_ok 57 mul57 (enters_of Try.func57 rfl rfl) fun args o r es h ho => by
  unfold mul57 at h
  split at h
  · cases h; exact mul57_fnd _ _ ho.1 ho.2.1
  · cases h
theorem alive39 : FnD Try.prog 39 [] (.v (.c (.lit true))) [] := alive39_fnd
def alive39Spec : FnSpec
  | [] => some ([], .v (.c (.lit true)), [])
  | _ => none
noncomputable def pvE7 : Env := pvE6.set (addT pvE6.fn 39 alive39Spec)
theorem pvE7_ok : EnvOk Try.prog pvE7 := env_add pvE6_ok 39 alive39Spec (enters_of Try.func39 rfl rfl) fun args o r es h _ => by
  unfold alive39Spec at h
  split at h
  · cases h; exact alive39
  · cases h
def at58Spec : FnSpec
  | [.v (.c (.sl (.fr a))), .v (.a [.ob (.fr z)])] => some ([longB [a] = false], .t [.a [.ob (.fr (outF (divL (inF z) (a.map inF)).2))], .c (.int .i64 0)], [])
  | _ => none
noncomputable def pvE8 : Env := pvE7.set (addT pvE7.fn 58 at58Spec)
theorem pvE8_ok : EnvOk Try.prog pvE8 := env_add pvE7_ok 58 at58Spec (enters_of Try.func58 rfl rfl) fun args o r es h ho => by
  unfold at58Spec at h
  split at h
  · cases h; exact at58_fnd _ _ ho.1
  · cases h
def refMul34 : FnSpec
  | [.v (.c (.sl (.fr a))), .v (.c (.sl (.fr b)))] => some ([a.length ≤ 1073741824, b.length ≤ 1073741824], .v (.c (.slc 0 0 (trimF (mulL (a.map inF) (b.map inF))).length 4)), [.sq (.fr ((trimF (mulL (a.map inF) (b.map inF))).map outF))])
  | _ => none
noncomputable def pvE9 : Env := pvE8.set (addT pvE8.fn 34 refMul34)
theorem pvE9_ok : EnvOk Try.prog pvE9 := env_add pvE8_ok 34 refMul34 (enters_of Try.func34 rfl rfl) fun args o r es h ho => by
  unfold refMul34 at h
  split at h
  · cases h; exact refMul_fnd _ _ ho.1 ho.2.1
  · cases h
--@env pvE9 pvE9_ok
theorem lpM (a b : List U4) (x : U4) : fnRes pvE9 Try.f14 3000 [.v (.c (.sl (.fr a))), .v (.c (.sl (.fr b))), .v (.a [.ob (.fr x)])] [true, true, true, true] [] [] = (Option.some ([((List.length (List.take 40 a)) ≤ 300), ((List.length (List.take 40 b)) ≤ 300), ((longB [(List.take 40 a)]) = false), (((0 : Int) == (0 : Int)) = true), (((0 : Int) == (0 : Int)) = true), ((List.length (List.take 40 a)) ≤ 1073741824), ((List.length (List.take 40 b)) ≤ 1073741824), (0 = 0), ((List.length (trimF (mulL (List.map inF (List.take 40 a)) (List.map inF (List.take 40 b))))) = (List.length (List.map outF (trimF (mulL (List.map inF (List.take 40 a)) (List.map inF (List.take 40 b))))))), (4 = 4), (0 = 0), ((List.length (trimF (mulL (List.map inF (List.take 40 a)) (List.map inF (List.take 40 b))))) = (List.length (List.map outF (trimF (mulL (List.map inF (List.take 40 a)) (List.map inF (List.take 40 b))))))), (4 = 4), ((decide ((List.map outF (trimF (mulL (List.map inF (List.take 40 a)) (List.map inF (List.take 40 b))))) = (List.map outF (trimF (mulL (List.map inF (List.take 40 a)) (List.map inF (List.take 40 b))))))) = true)], ((SV.v (V1.c (It.bool (ite (true = true) (decide ((outF (Prod.snd (divL (inF x) (List.map inF (List.take 40 a))))) = (outF (evalF (List.map inF (List.take 40 a)) (inF x))))) (Bool.not (decide ((outF (Prod.snd (divL (inF x) (List.map inF (List.take 40 a))))) = (outF (evalF (List.map inF (List.take 40 a)) (inF x)))))))))), []))) := by kernel_rfl
end Go.Proofs.Ytlfllehomhcbfaa

/- Sums, products and differences of the laws on polynomials: contracts. No conditions. -/
namespace Go.Proofs.Ytlfllehomhcbfaa

--@env pvE9 pvE9_ok
theorem ad60 (a b : List U4) : fnRes pvE9 Try.f60 3000 [.v (.c (.sl (.fr a))), .v (.c (.sl (.fr b)))] [] [64] [] = (Option.some ([((List.length a) ≤ 262144), ((List.length b) ≤ 262144)], ((SV.v (V1.c (It.slc 0 0 (List.length (trimF (addL (List.map inF a) (List.map inF b)))) 4))), [(En.sq (Sq.fr (List.map outF (trimF (addL (List.map inF a) (List.map inF b))))))]))) := by kernel_rfl
theorem mu61 (a b : List U4) : fnRes pvE9 Try.f61 3000 [.v (.c (.sl (.fr a))), .v (.c (.sl (.fr b)))] [] [64] [] = (Option.some ([((List.length a) ≤ 300), ((List.length b) ≤ 300)], ((SV.v (V1.c (It.slc 0 0 (List.length (trimF (mulL (List.map inF a) (List.map inF b)))) 4))), [(En.sq (Sq.fr (List.map outF (trimF (mulL (List.map inF a) (List.map inF b))))))]))) := by kernel_rfl
theorem su63 (a b : U4) : fnRes pvE9 Try.f63 3000 [.v (.a [.ob (.fr a)]), .v (.a [.ob (.fr b)])] [] [] [] = (Option.some ([], ((SV.v (V1.a [(It.ob (Ob.fr (outF ((inF a) - (inF b)))))])), []))) := by kernel_rfl
def add60 : FnSpec
  | [.v (.c (.sl (.fr a))), .v (.c (.sl (.fr b)))] => some ([a.length ≤ 262144, b.length ≤ 262144], .v (.c (.slc 0 0 (trimF (addL (a.map inF) (b.map inF))).length 4)), [.sq (.fr ((trimF (addL (a.map inF) (b.map inF))).map outF))])
  | _ => none
noncomputable def pvF1 : Env := pvE9.set (addT pvE9.fn 60 add60)
theorem pvF1_ok : EnvOk Try.prog pvF1 := env_add pvE9_ok 60 add60 (enters_of Try.func60 rfl rfl) fun args o r es h ho => by
  unfold add60 at h
  split at h
  · cases h; exact fn_sound pvE9_ok Try.func60 (ad60 _ _) ho
  · cases h
def mul61 : FnSpec
  | [.v (.c (.sl (.fr a))), .v (.c (.sl (.fr b)))] => some ([a.length ≤ 300, b.length ≤ 300], .v (.c (.slc 0 0 (trimF (mulL (a.map inF) (b.map inF))).length 4)), [.sq (.fr ((trimF (mulL (a.map inF) (b.map inF))).map outF))])
  | _ => none
noncomputable def pvF2 : Env := pvF1.set (addT pvF1.fn 61 mul61)
theorem pvF2_ok : EnvOk Try.prog pvF2 := env_add pvF1_ok 61 mul61 (enters_of Try.func61 rfl rfl) fun args o r es h ho => by
  unfold mul61 at h
  split at h
  · cases h; exact fn_sound pvE9_ok Try.func61 (mu61 _ _) ho
  · cases h
def sub63 : FnSpec
  | [.v (.a [.ob (.fr a)]), .v (.a [.ob (.fr b)])] => some ([], .v (.a [.ob (.fr (outF (inF a - inF b)))]), [])
  | _ => none
noncomputable def pvF3 : Env := pvF2.set (addT pvF2.fn 63 sub63)
theorem pvF3_ok : EnvOk Try.prog pvF3 := env_add pvF2_ok 63 sub63 (enters_of Try.func63 rfl rfl) fun args o r es h _ => by
  unfold sub63 at h
  split at h
  · cases h; exact fn_sound pvE9_ok Try.func63 (su63 _ _) trivial
  · cases h
end Go.Proofs.Ytlfllehomhcbfaa

/- Polynomials that are trimmed: sums and products. No conditions. -/
namespace Go.Proofs.Ytlfllehomhcbfaa

theorem pol_in_out (L : List Fr) : (L.map outF).map inF = L := by
  rw [List.map_map]
  have : (inF ∘ outF) = id := funext in_out
  rw [this, List.map_id]

theorem add_le {P Q : List Fr} {n : Nat} (hP : P.length ≤ n) (hQ : Q.length ≤ n) : (trimF (addL P Q)).length ≤ n := by
  have h := trim_le (addL P Q)
  rw [addL_len] at h
  exact Nat.le_trans h (Nat.max_le.2 ⟨hP, hQ⟩)
theorem mul_le {P Q : List Fr} {n m k : Nat} (hP : P.length ≤ n) (hQ : Q.length ≤ m) (h : n + m ≤ k) : (trimF (mulL P Q)).length ≤ k := by
  have h1 := trim_le (mulL P Q)
  rw [mulL_len] at h1
  omega
theorem add_eq {P Q P' Q' : List Fr} {n : Nat} (hn : n ≤ 65536) (hP : P.length ≤ n) (hQ : Q.length ≤ n) (hP' : P'.length ≤ n) (hQ' : Q'.length ≤ n) (h : ∀ x, evalF P x + evalF Q x = evalF P' x + evalF Q' x) : trimF (addL P Q) = trimF (addL P' Q') := by
  refine trim_eq ?_ ?_ fun x => by rw [evalF_add, evalF_add, h]
  · rw [addL_len]; exact Nat.le_trans (Nat.max_le.2 ⟨hP, hQ⟩) hn
  · rw [addL_len]; exact Nat.le_trans (Nat.max_le.2 ⟨hP', hQ'⟩) hn
theorem mul_eq {P Q P' Q' : List Fr} {n : Nat} (hn : n + n ≤ 65536) (hP : P.length ≤ n) (hQ : Q.length ≤ n) (hP' : P'.length ≤ n) (hQ' : Q'.length ≤ n) (h : ∀ x, evalF P x * evalF Q x = evalF P' x * evalF Q' x) : trimF (mulL P Q) = trimF (mulL P' Q') := by
  refine trim_eq ?_ ?_ fun x => by rw [evalF_mul, evalF_mul, h]
  · rw [mulL_len]; omega
  · rw [mulL_len]; omega

section
variable {r : Nat} [NeZero r]
theorem rg_add2 (a b : Fin r) : a + b = b + a := by grind
theorem rg_add3 (a b c : Fin r) : a + b + c = a + (b + c) := by grind
theorem rg_dist (a b c : Fin r) : a * (b + c) = a * b + a * c := by grind
end

theorem few_len (k : Int) (n : Nat) (h : k = n) (a : List U4) : (List.take (if k < ((a.length : Nat) : Int) then k else ((a.length : Nat) : Int)).toNat (List.drop 0 a)).length ≤ n := by
  rw [List.length_take]
  split <;> omega

end Go.Proofs.Ytlfllehomhcbfaa

/- PolyValues, walked. No conditions. -/
namespace Go.Proofs.Ytlfllehomhcbfaa

--@env pvF3 pvF3_ok
theorem at62 (l : List U4) (x : U4) : fnRes pvF3 Try.f62 20000 [.v (.c (.sl (.fr l))), .v (.c (.rp (.fr [x]) 0 0))] [] [] [] = (Option.some ([((longB [l]) = false)], ((SV.v (V1.a [(It.ob (Ob.fr (outF (Prod.snd (divL (inF x) (List.map inF l))))))])), []))) := by kernel_rfl
def at62Spec : FnSpec
  | [.v (.c (.sl (.fr l))), .v (.c (.rp (.fr [x]) 0 0))] => some ([longB [l] = false], .v (.a [.ob (.fr (outF (divL (inF x) (l.map inF)).2))]), [])
  | _ => none
noncomputable def pvG : Env := pvF3.set (addT pvF3.fn 62 at62Spec)
theorem pvG_ok : EnvOk Try.prog pvG := env_add pvF3_ok 62 at62Spec (enters_of Try.func62 rfl rfl) fun args o r es h ho => by
  unfold at62Spec at h
  split at h
  · cases h; exact fn_sound pvF3_ok Try.func62 (at62 _ _) ho
  · cases h
--@env pvG pvG_ok
noncomputable def zvA_k : List KI := (run pvG false 8 ((fun (a b : List U4) (k x : U4) => (⟨[.code (bodyOf Try.f16)], .normal, initSt Try.f16.ntmps [.v (.c (.sl (.fr a))), .v (.c (.sl (.fr b))), .v (.a [.ob (.fr k)]), .v (.a [.ob (.fr x)])]⟩ : Cfg)) default default default default) []).cfg.k
theorem zvA_hk (a b : List U4) (k x : U4) : (run pvG false 8 ((⟨[.code (bodyOf Try.f16)], .normal, initSt Try.f16.ntmps [.v (.c (.sl (.fr a))), .v (.c (.sl (.fr b))), .v (.a [.ob (.fr k)]), .v (.a [.ob (.fr x)])]⟩ : Cfg)) []).cfg.k = zvA_k := by kernel_rfl
theorem zvA (a b : List U4) (k x : U4) {w0 : World} {F0 : Nat → Prop} {K : Kp} {ac : List Act} {Q : Exit → Act → World → Prop} {cX : Ctx} {aX : Act} (ho : AllP [((0 : Int) ≤ (ite ((300 : Int) < (((List.length a) : Nat) : Int)) (300 : Int) (((List.length a) : Nat) : Int))), ((ite ((300 : Int) < (((List.length a) : Nat) : Int)) (300 : Int) (((List.length a) : Nat) : Int)) ≤ (((List.length a) : Nat) : Int)), ((0 : Int) ≤ (ite ((300 : Int) < (((List.length b) : Nat) : Int)) (300 : Int) (((List.length b) : Nat) : Int))), ((ite ((300 : Int) < (((List.length b) : Nat) : Int)) (300 : Int) (((List.length b) : Nat) : Int)) ≤ (((List.length b) : Nat) : Int))]) (hs : Sim w0 F0 K ac (initSt Try.f16.ntmps [.v (.c (.sl (.fr a))), .v (.c (.sl (.fr b))), .v (.a [.ob (.fr k)]), .v (.a [.ob (.fr x)])]) cX aX) (hK : ∀ ac cY aY, Sim w0 F0 K ac (mkSt 153 [0, 1, 6, 7] [(.v (.c (.sl (.fr (List.take ((ite ((300 : Int) < (((List.length a) : Nat) : Int)) (300 : Int) (((List.length a) : Nat) : Int))).toNat (List.drop 0 a)))))), (.v (.c (.sl (.fr (List.take ((ite ((300 : Int) < (((List.length b) : Nat) : Int)) (300 : Int) (((List.length b) : Nat) : Int))).toNat (List.drop 0 b)))))), (.v (.c (.ptr 16 0))), (.v (.c (.ptr 32 0)))] [16, 32] [(some (.fl [(.ob (.fr k))])), (some (.fl [(.ob (.fr x))]))] 256 [] []) cY aY → Wq Try.prog Q (zvA_k) ac Exit.normal aY cY.w) : Wq Try.prog Q ([.code (bodyOf Try.f16)]) ac .normal aX cX.w :=
  run_at2 (o := ⟨_, _, _, _, _, _, _⟩) pvG_ok (by kernel_rfl) (zvA_hk a b k x) ho hs hK
noncomputable def zvS (A B : List U4) (k x : U4) : St := mkSt 153 [0, 1, 6, 7] [.v (.c (.sl (.fr A))), .v (.c (.sl (.fr B))), (SV.v (V1.c (It.ptr 16 0))), (SV.v (V1.c (It.ptr 32 0)))] [16, 32] [(Option.some (En.fl [(It.ob (Ob.fr k))])), (Option.some (En.fl [(It.ob (Ob.fr x))]))] 256 [] []
theorem zvX_end (A B : List U4) (k x : U4) : runEnd pvG Try.f16 false 20000 (⟨zvA_k, .normal, zvS A B k x⟩) [true, true, true, true, true, true, true, true, true, true, true] [] [] = (Option.some ([((List.length A) ≤ 262144), ((List.length B) ≤ 262144), ((List.length A) ≤ 262144), ((List.length B) ≤ 262144), ((List.length A) ≤ 300), ((List.length B) ≤ 300), ((List.length A) ≤ 262144), ((List.length A) ≤ 262144), (((0 : Int) == (0 : Int)) = true), (((0 : Int) == (0 : Int)) = true), (((0 : Int) == (0 : Int)) = true), (((0 : Int) == (0 : Int)) = true), (((0 : Int) == (0 : Int)) = true), (0 = 0), ((List.length (trimF (addL (List.map inF A) (List.map inF B)))) = (List.length (List.map outF (trimF (addL (List.map inF A) (List.map inF B)))))), (4 = 4), ((longB [(List.map outF (trimF (addL (List.map inF A) (List.map inF B))))]) = false), ((longB [A]) = false), ((longB [B]) = false), ((ite (true = true) (decide ((outF (Prod.snd (divL (inF x) (List.map inF (List.map outF (trimF (addL (List.map inF A) (List.map inF B)))))))) = (outF ((inF (outF (Prod.snd (divL (inF x) (List.map inF A))))) + (inF (outF (Prod.snd (divL (inF x) (List.map inF B))))))))) (Bool.not (decide ((outF (Prod.snd (divL (inF x) (List.map inF (List.map outF (trimF (addL (List.map inF A) (List.map inF B)))))))) = (outF ((inF (outF (Prod.snd (divL (inF x) (List.map inF A))))) + (inF (outF (Prod.snd (divL (inF x) (List.map inF B))))))))))) = true), (0 = 0), ((List.length (trimF (subL (List.map inF A) (List.map inF B)))) = (List.length (List.map outF (trimF (subL (List.map inF A) (List.map inF B)))))), (4 = 4), ((longB [(List.map outF (trimF (subL (List.map inF A) (List.map inF B))))]) = false), ((longB [A]) = false), ((longB [B]) = false), ((ite (true = true) (decide ((outF (Prod.snd (divL (inF x) (List.map inF (List.map outF (trimF (subL (List.map inF A) (List.map inF B)))))))) = (outF ((inF (outF (Prod.snd (divL (inF x) (List.map inF A))))) - (inF (outF (Prod.snd (divL (inF x) (List.map inF B))))))))) (Bool.not (decide ((outF (Prod.snd (divL (inF x) (List.map inF (List.map outF (trimF (subL (List.map inF A) (List.map inF B)))))))) = (outF ((inF (outF (Prod.snd (divL (inF x) (List.map inF A))))) - (inF (outF (Prod.snd (divL (inF x) (List.map inF B))))))))))) = true), (0 = 0), ((List.length (trimF (mulL (List.map inF A) (List.map inF B)))) = (List.length (List.map outF (trimF (mulL (List.map inF A) (List.map inF B)))))), (4 = 4), ((longB [(List.map outF (trimF (mulL (List.map inF A) (List.map inF B))))]) = false), ((longB [A]) = false), ((longB [B]) = false), ((ite (true = true) (decide ((outF (Prod.snd (divL (inF x) (List.map inF (List.map outF (trimF (mulL (List.map inF A) (List.map inF B)))))))) = (outF ((inF (outF (Prod.snd (divL (inF x) (List.map inF A))))) * (inF (outF (Prod.snd (divL (inF x) (List.map inF B))))))))) (Bool.not (decide ((outF (Prod.snd (divL (inF x) (List.map inF (List.map outF (trimF (mulL (List.map inF A) (List.map inF B)))))))) = (outF ((inF (outF (Prod.snd (divL (inF x) (List.map inF A))))) * (inF (outF (Prod.snd (divL (inF x) (List.map inF B))))))))))) = true), (0 = 0), ((List.length (trimF (scaleL (List.map inF A) (inF k)))) = (List.length (List.map outF (trimF (scaleL (List.map inF A) (inF k)))))), (4 = 4), ((longB [(List.map outF (trimF (scaleL (List.map inF A) (inF k))))]) = false), ((longB [A]) = false), ((ite (true = true) (decide ((outF (Prod.snd (divL (inF x) (List.map inF (List.map outF (trimF (scaleL (List.map inF A) (inF k)))))))) = (outF ((inF k) * (inF (outF (Prod.snd (divL (inF x) (List.map inF A))))))))) (Bool.not (decide ((outF (Prod.snd (divL (inF x) (List.map inF (List.map outF (trimF (scaleL (List.map inF A) (inF k)))))))) = (outF ((inF k) * (inF (outF (Prod.snd (divL (inF x) (List.map inF A))))))))))) = true), ((longB [A]) = false), ((ite (true = true) (decide ((outF (Prod.snd (divL (inF x) (List.map inF A)))) = (outF (Prod.snd (divL (inF x) (List.map inF A)))))) (Bool.not (decide ((outF (Prod.snd (divL (inF x) (List.map inF A)))) = (outF (Prod.snd (divL (inF x) (List.map inF A)))))))) = true), ((List.length A) ≤ 8796093022208)], ((SV.v (V1.c (It.bool ((((List.length (trimF (Prod.fst (divL (inF x) (List.map inF A))))) : Nat) : Int) == (ite ((0 : Int) > (IntKind.wrap IntKind.i64 ((((List.length (trimF (List.map inF A))) : Nat) : Int) - (1 : Int)))) (0 : Int) (IntKind.wrap IntKind.i64 ((((List.length (trimF (List.map inF A))) : Nat) : Int) - (1 : Int)))))))), []))) := by kernel_rfl
end Go.Proofs.Ytlfllehomhcbfaa

/- PolyValues answers true for every two polynomials, number and place. No conditions. -/
namespace Go.Proofs.Ytlfllehomhcbfaa

section
variable {r : Nat} [NeZero r]
theorem vv_sub (a b x : Fin r) : (a - b) * x = a * x + (0 - 1) * (b * x) := by grind
theorem vv_sub2 (a b : Fin r) : a + (0 - 1) * b = a - b := by grind
theorem vv_scale (a k x : Fin r) : a * k * x = k * (a * x) := by grind
end

theorem evalF_sub (a b : List Fr) (x : Fr) : evalF (subL a b) x = evalF a x - evalF b x := by
  have hlen : (subL a b).length = Nat.max a.length b.length := by simp [subL]
  have h1 := Nat.le_max_left a.length b.length
  have h2 := Nat.le_max_right a.length b.length
  rw [evalF_long (Nat.le_of_eq hlen), evalF_long (L := a) (n := Nat.max a.length b.length) h1, evalF_long (L := b) (n := Nat.max a.length b.length) h2, ← vv_sub2, ← sm_mul, ← sm_add]
  exact sm_congr _ fun j _ => by rw [subL_cf]; exact vv_sub _ _ _

theorem evalF_scale (a : List Fr) (k x : Fr) : evalF (scaleL a k) x = k * evalF a x := by
  have hlen : (scaleL a k).length = a.length := by simp [scaleL]
  rw [evalF_long (Nat.le_of_eq hlen), evalF_long (L := a) (Nat.le_refl _), ← sm_mul]
  exact sm_congr _ fun j _ => by rw [scaleL_cf]; exact vv_scale _ _ _

theorem long_one {A : List U4} (h : A.length ≤ 262144) : longB [A] = false := by
  unfold longB
  simp
  omega

theorem sub_le {P Q : List Fr} {n : Nat} (hP : P.length ≤ n) (hQ : Q.length ≤ n) : (trimF (subL P Q)).length ≤ n := by
  have h := trim_le (subL P Q)
  have hlen : (subL P Q).length = Nat.max P.length Q.length := by simp [subL]
  rw [hlen] at h
  exact Nat.le_trans h (Nat.max_le.2 ⟨hP, hQ⟩)

theorem scale_le {P : List Fr} {k : Fr} {n : Nat} (hP : P.length ≤ n) : (trimF (scaleL P k)).length ≤ n := by
  have h := trim_le (scaleL P k)
  have hlen : (scaleL P k).length = P.length := by simp [scaleL]
  omega

theorem values_fnd16 (a b : List U4) (k x : U4) : FnD Try.prog 16 [.v (.c (.sl (.fr a))), .v (.c (.sl (.fr b))), .v (.a [.ob (.fr k)]), .v (.a [.ob (.fr x)])] (.v (.c (.bool true))) [] := by
  refine fn_start (fn := Try.f16) (c := bodyOf Try.f16) Try.func16 rfl rfl fun y act hk hF hs => ?_
  refine zvA a b k x ?_ hs fun ac cY aY hs1 => ?_
  · and_intros <;> first | (split <;> omega) | exact True.intro
  have gen : ∀ (A B : List U4), A.length ≤ 300 → B.length ≤ 300 → Sim y.w y.F kAll ac (zvS A B k x) cY aY → Wq Try.prog (Post Try.prog Try.f16 y (.v (.c (.bool true))) []) zvA_k ac .normal aY cY.w := ?_
  · exact gen _ _ (few_len 300 300 rfl a) (few_len 300 300 rfl b) hs1
  intro A B hA hB hs
  have hP : (A.map inF).length ≤ 300 := by rw [List.length_map]; exact hA
  have hQ : (B.map inF).length ≤ 300 := by rw [List.length_map]; exact hB
  have r1 := zvX_end A B k x
  simp only [pol_in_out, divL_eval, in_out, evalF_trim] at r1
  have lA := long_one (A := A) (by omega)
  have lB := long_one (A := B) (by omega)
  generalize A.map inF = P at *
  generalize B.map inF = Q at *
  have tPQ := add_le hP hQ
  have sPQ := sub_le hP hQ
  have mPQ := mul_le (k := 600) hP hQ (by omega)
  have cP := scale_le (k := inF k) hP
  have l1 := long_one (A := (trimF (addL P Q)).map outF) (by rw [List.length_map]; omega)
  have l2 := long_one (A := (trimF (subL P Q)).map outF) (by rw [List.length_map]; omega)
  have l3 := long_one (A := (trimF (mulL P Q)).map outF) (by rw [List.length_map]; omega)
  have l4 := long_one (A := (trimF (scaleL P (inF k))).map outF) (by rw [List.length_map]; omega)
  have e1 := evalF_add P Q (inF x)
  have e2 := evalF_sub P Q (inF x)
  have e3 := evalF_mul P Q (inF x)
  have e4 := evalF_scale P (inF k) (inF x)
  have hq := div_len (inF x) P
  have tP := trim_le P
  have hb : ((((trimF (divL (inF x) P).1).length : Nat) : Int) == (if (0 : Int) > (IntKind.wrap IntKind.i64 ((((trimF P).length : Nat) : Int) - (1 : Int))) then (0 : Int) else (IntKind.wrap IntKind.i64 ((((trimF P).length : Nat) : Int) - (1 : Int))))) = true := by
    rw [hq, wrap_id (by omega) (by omega)]
    simp only [beq_iff_eq]
    split <;> omega
  rw [hb] at r1
  have e00 : ((0 : Int) == (0 : Int)) = true := rfl
  refine run_end2 pvG_ok hk hF r1 ?_ (fun y v hd => hd) hs
  and_intros <;> first | with_reducible rfl | exact True.intro | (rw [List.length_map]; done) | (rw [if_pos True.intro]; refine decide_eq_true ?_; first | (rw [e1]; done) | (rw [e2]; done) | (rw [e3]; done) | (rw [e4]; done) | exact True.intro | with_reducible rfl) | with_reducible exact lA | with_reducible exact lB | with_reducible exact l1 | with_reducible exact l2 | with_reducible exact l3 | with_reducible exact l4 | with_reducible exact e00 | omega

end Go.Proofs.Ytlfllehomhcbfaa
