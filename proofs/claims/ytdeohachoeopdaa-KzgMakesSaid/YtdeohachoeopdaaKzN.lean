/- Parts of a proof, one behind the other: WPu, PPu, WPi, Pf, WCp, PCp, WCo1, WCo2, PCo2, WCo3, PCo3, WPa, Ga, WOa, POa, WMd, PMd, WMy, PMz, Tc, PPa, WPb, PPb, WSpw, PSpw, WPc, PPc, WPd, PPd, WDa, WDb, PDb, WDc, PDc, WDd, PDd, WDe, PDe. No conditions. -/
import Derived.Shelf.Strconv.Itoa0
import Derived.Test.YtdeohachoeopdaaKzM
/- Bits of a number, powers of an element of the greater field: the functions, walked. No conditions. -/
namespace Go.Proofs.Ytdeohachoeopdaa
section
variable {w0 : World} {F0 : Nat → Prop} {K : Kp} {ac : List Act} {Q : Exit → Act → World → Prop} {cX : Ctx} {aX : Act}
open Go.Shelf

theorem inP_ofNat {n : Nat} (h : n < B6) : inP (Fin.ofNat B6 n) = Fin.ofNat pN n := by
  apply Fin.ext
  show (n % B6) % pN = n % pN
  rw [Nat.mod_eq_of_lt h]
theorem smallP_fnd (n : Int) (h1 : 0 ≤ n) (h2 : n < 18446744073709551616) : FnD Try.prog 40 [.v (.c (.int .u64 n))] (.v (.a [.ob (.p (Fin.ofNat pN n.toNat))])) [] := by
  refine (fn_sound qeF_ok Try.func40 (smallP0 n) ⟨h1, h2, by decide, by decide, by decide, by decide, by decide, by decide, by decide, by decide, by decide, by decide, trivial⟩).conv (fun _ _ h => h) fun y v hd => ?_
  rw [Nat.add_zero, inP_ofNat (by unfold B6; omega)] at hd
  exact hd
theorem zeroP_fnd (x : Fp) : FnD Try.prog 101 [.v (.a [.ob (.p x)])] (.v (.c (.bool (decide (x = 0))))) [] := by
  refine (fn_sound qeF_ok Try.func101 (zeroP0 _) trivial).conv (fun _ _ h => h) fun y v hd => ?_
  rw [if_pos rfl] at hd
  exact hd
def smallPSpec : FnSpec
  | [.v (.c (.int .u64 n))] => some ([0 ≤ n, n < 18446744073709551616], .v (.a [.ob (.p (Fin.ofNat pN n.toNat))]), [])
  | _ => none
noncomputable def qeG1 : Env := qeF.set (addT qeF.fn 40 smallPSpec)
theorem qeG1_ok : EnvOk Try.prog qeG1 := env_add qeF_ok 40 smallPSpec (enters_of Try.func40 rfl rfl) fun args o r es h ho => by
  unfold smallPSpec at h
  split at h
  · cases h; exact smallP_fnd _ ho.1 ho.2.1
  · cases h
def negPSpec : FnSpec
  | [.v (.a [.ob (.p x)])] => some ([], .v (.a [.ob (.p (0 - x))]), [])
  | _ => none
noncomputable def qeG2 : Env := qeG1.set (addT qeG1.fn 102 negPSpec)
theorem qeG2_ok : EnvOk Try.prog qeG2 := env_add qeG1_ok 102 negPSpec (enters_of Try.func102 rfl rfl) fun args o r es h _ => by
  unfold negPSpec at h
  split at h
  · cases h; exact fn_sound qeF_ok Try.func102 (negP0 _) trivial
  · cases h
def zeroPSpec : FnSpec
  | [.v (.a [.ob (.p x)])] => some ([], .v (.c (.bool (decide (x = 0)))), [])
  | _ => none
noncomputable def qeG : Env := qeG2.set (addT qeG2.fn 101 zeroPSpec)
theorem qeG_ok : EnvOk Try.prog qeG := env_add qeG2_ok 101 zeroPSpec (enters_of Try.func101 rfl rfl) fun args o r es h _ => by
  unfold zeroPSpec at h
  split at h
  · cases h; exact zeroP_fnd _
  · cases h

def renL : Ren := ⟨fun n => if n = 129 then 108 else 0, fun t => if t = 46 then 130 else if t = 53 then 22 else t, fun g => g⟩
theorem laysL : Lays.n129 Try.prog renL :=
  { mixed := by kernel_rfl
    f129 := by kernel_rfl
    t3 := by kernel_rfl
    a3 := fun _ => by kernel_rfl
    z3 := fun _ => by kernel_rfl
    v3 := fun _ => by kernel_rfl
    t4 := by kernel_rfl
    a4 := fun _ => by kernel_rfl
    z4 := fun _ => by kernel_rfl
    v4 := fun _ => by kernel_rfl
    t5 := by kernel_rfl
    a5 := fun _ => by kernel_rfl
    z5 := fun _ => by kernel_rfl
    v5 := fun _ => by kernel_rfl
    t9 := by kernel_rfl
    a9 := fun _ => by kernel_rfl
    z9 := fun _ => by kernel_rfl
    v9 := fun _ => by kernel_rfl
    t46 := by kernel_rfl
    a46 := fun _ => by kernel_rfl
    z46 := fun _ => by kernel_rfl
    v46 := fun _ => by kernel_rfl
    t53 := by kernel_rfl
    a53 := fun _ => by kernel_rfl
    z53 := fun _ => by kernel_rfl
    v53 := fun _ => by kernel_rfl }
theorem len64_fnd (n : Int) (h0 : 0 ≤ n) (h1 : n < 18446744073709551616) : FnD Try.prog 108 [.v (.c (.int .u64 n))] (.v (.c (.int .i64 (Lib.bitLen n.toNat : Nat)))) [] :=
  fnd_same fun x vs hd => by
    cases hd with | cons d1 hd =>
    cases hd
    rw [D_int d1]
    exact ⟨_, Any.bits_Len64 laysL n x.w h0 (by omega), ⟨rfl, 0, rfl⟩⟩
def lenSpec : FnSpec
  | [.v (.c (.int .u64 n))] => some ([0 ≤ n, n < 18446744073709551616], .v (.c (.int .i64 (Lib.bitLen n.toNat : Nat))), [])
  | _ => none
noncomputable def qeH1 : Env := qeG.set (addT qeG.fn 108 lenSpec)
theorem qeH1_ok : EnvOk Try.prog qeH1 := env_add qeG_ok 108 lenSpec (enters_of Try.func108 rfl rfl) fun args o r es h ho => by
  unfold lenSpec at h
  split at h
  · cases h; exact len64_fnd _ ho.1 ho.2.1
  · cases h
--@env qeH1 qeH1_ok
theorem ct (l : List Int) : fnRes qeH1 Try.f107 3000 [.v (.c (.sl (.u64 l)))] [] [] [] = (some ([((0:Int) ≤ (ite ((16:Int) < (((List.length l) : Nat):Int)) (16:Int) (((List.length l) : Nat):Int))),((ite ((16:Int) < (((List.length l) : Nat):Int)) (16:Int) (((List.length l) : Nat):Int)) ≤ (ite ((16:Int) < (((List.length l) : Nat):Int)) (16:Int) (((List.length l) : Nat):Int))),((ite ((16:Int) < (((List.length l) : Nat):Int)) (16:Int) (((List.length l) : Nat):Int)) ≤ (((List.length l) : Nat):Int))],((.v (.c (.sl (.u64 (List.take ((ite ((16:Int) < (((List.length l) : Nat):Int)) (16:Int) (((List.length l) : Nat):Int))).toNat (List.drop 0 l)))))),[]))) := by kernel_rfl

theorem cut_fnd (l : List Int) (hl : l.length ≤ 16) : FnD Try.prog 107 [.v (.c (.sl (.u64 l)))] (.v (.c (.sl (.u64 l)))) [] := by
  have r := ct l
  have e : (if (16 : Int) < ((l.length : Nat) : Int) then (16 : Int) else ((l.length : Nat) : Int)) = ((l.length : Nat) : Int) := if_neg (by omega)
  rw [e, Int.toNat_natCast, List.drop_zero, List.take_length] at r
  exact fn_sound qeH1_ok Try.func107 r ⟨by omega, Int.le_refl _, Int.le_refl _, trivial⟩
def cutSpec : FnSpec
  | [.v (.c (.sl (.u64 l)))] => some ([l.length ≤ 16], .v (.c (.sl (.u64 l))), [])
  | _ => none
noncomputable def qeH2 : Env := qeH1.set (addT qeH1.fn 107 cutSpec)
theorem qeH2_ok : EnvOk Try.prog qeH2 := env_add qeH1_ok 107 cutSpec (enters_of Try.func107 rfl rfl) fun args o r es h ho => by
  unfold cutSpec at h
  split at h
  · cases h; exact cut_fnd _ ho.1
  · cases h
--@env qeH2 qeH2_ok
noncomputable def nbIn_k : List KI := (run qeH2 false 3000 ((fun (l : List Int) => (⟨[.code (bodyOf Try.f106)], .normal, initSt Try.f106.ntmps [.v (.c (.sl (.u64 l)))]⟩ : Cfg)) default) []).cfg.k
theorem nbIn_hk (l : List Int) : (run qeH2 false 3000 ((⟨[.code (bodyOf Try.f106)], .normal, initSt Try.f106.ntmps [.v (.c (.sl (.u64 l)))]⟩ : Cfg)) []).cfg.k = nbIn_k := by kernel_rfl
theorem nbIn (l : List Int) (ho : AllP [((List.length l) ≤ 16)]) (hs : Sim w0 F0 K ac (initSt Try.f106.ntmps [.v (.c (.sl (.u64 l)))]) cX aX) (hK : ∀ ac cY aY,Sim w0 F0 K ac (mkSt 26 [0,3] [(.v (.c (.sl (.u64 l)))),(.ii (IntKind.wrap .i64 ((((List.length l) : Nat):Int) - (1:Int))))] [] [] 144 [] []) cY aY → Wq Try.prog Q (nbIn_k) ac Exit.normal aY cY.w) : Wq Try.prog Q ([.code (bodyOf Try.f106)]) ac .normal aX cX.w :=
  run_at2 (o := ⟨_, _, _, _, _, _, _⟩) qeH2_ok (by kernel_rfl) (nbIn_hk l) ho hs hK
noncomputable def nbS (l : List Int) (i:Int) : St := mkSt 26 [0,3] [(.v (.c (.sl (.u64 l)))),.v (.c (.int .i64 i))] [] [] 144 [] []
theorem nbN_hk (l : List Int) (i : Int) : (run qeH2 false 3000 ((⟨lpIn nbIn_k, .normal, nbS l i⟩ : Cfg)) [true, false]).cfg.k = lpBk nbIn_k := by kernel_rfl
theorem nbN (l : List Int) (i:Int) (ho : AllP [((decide (i ≥ (0:Int))) = true),((0:Int) ≤ i),(i < (((List.length l) : Nat):Int)),(((List.getD l (i).toNat (0:Int)) != (0:Int)) = false)]) (hs : Sim w0 F0 K ac (nbS l i) cX aX) (hK : ∀ ac cY aY,Sim w0 F0 K ac (mkSt 26 [0,3] [(.v (.c (.sl (.u64 l)))),(.ii (IntKind.wrap .i64 (i - (1:Int))))] [] [] 304 [] []) cY aY → Wq Try.prog Q (lpBk nbIn_k) ac Exit.normal aY cY.w) : Wq Try.prog Q (lpIn nbIn_k) ac .normal aX cX.w :=
  run_at2 (o := ⟨_, _, _, _, _, _, _⟩) qeH2_ok (by kernel_rfl) (nbN_hk l i) ho hs hK
theorem nbY_end (l : List Int) (i:Int) : runEnd qeH2 Try.f106 false 3000 (⟨lpIn nbIn_k,.normal,nbS l i⟩) [true,true] [] [] = (some ([((decide (i ≥ (0:Int))) = true),((0:Int) ≤ i),(i < (((List.length l) : Nat):Int)),(((List.getD l (i).toNat (0:Int)) != (0:Int)) = true),((0:Int) ≤ i),(i < (((List.length l) : Nat):Int)),((0:Int) ≤ (List.getD l (i).toNat (0:Int))),((List.getD l (i).toNat (0:Int)) < (18446744073709551616:Int))],((.ii (IntKind.wrap .i64 ((IntKind.wrap .i64 ((64:Int) * i)) + (((Lib.bitLen ((List.getD l (i).toNat (0:Int))).toNat) : Nat):Int)))),[]))) := by kernel_rfl
theorem nbX_end (l : List Int) (i:Int) : runEnd qeH2 Try.f106 false 3000 (⟨lpIn nbIn_k,.normal,nbS l i⟩) [false] [] [] = (some ([((decide (i ≥ (0:Int))) = false)],((.ii (0:Int)),[]))) := by kernel_rfl
theorem bits_fnd (l : List Int) (hl : l.length ≤ 16) (hlim : lims l) : FnD Try.prog 106 [.v (.c (.sl (.u64 l)))] (.v (.c (.int .i64 (bitsC l l.length : Nat)))) [] := by
  refine fn_start (fn := Try.f106) (c := bodyOf Try.f106) Try.func106 rfl rfl fun x a hk hF hs => ?_
  refine nbIn l ⟨hl, trivial⟩ hs fun ac cY aY hs1 => ?_
  rw [wrap_id (by omega) (by omega)] at hs1
  refine loop_rule (ι := { n : Nat // n ≤ l.length ∧ bitsC l n = bitsC l l.length }) (fun n => nbS l ((n.1 : Int) - 1)) (fun n => n.1) (c := lpC nbIn_k) (k := lpR nbIn_k) (by kernel_rfl) (fun n ih ac cY aY hs => ?_) ⟨l.length, Nat.le_refl _, rfl⟩ (hs1.nx _)
  obtain ⟨n, hn, he⟩ := n
  simp only at ih hs
  cases n with
  | zero =>
    rw [← he]
    exact run_end2 qeH2_ok hk hF (nbX_end l _) ⟨by simp, trivial⟩ (fun y v hd => hd) hs
  | succ n =>
    have e1 : ((n + 1 : Nat) : Int) - 1 = (n : Int) := by omega
    rw [e1] at hs
    have hg := lims_get hlim n
    by_cases h0 : l.getD n 0 = 0
    · refine nbN l _ ⟨by simp, by omega, by omega, by rw [Int.toNat_natCast, h0]; rfl, trivial⟩ hs fun ac cZ aZ hs2 => ?_
      rw [wrap_id (by omega) (by omega)] at hs2
      refine ih ⟨n, by omega, ?_⟩ (Nat.lt_succ_self n) ac cZ aZ (hs2.nx _)
      rw [← he]
      show _ = if l.getD n 0 ≠ 0 then _ else bitsC l n
      rw [if_neg (by simpa using h0)]
    · have r := nbY_end l (n : Int)
      have hb : bitsC l l.length = 64 * n + Lib.bitLen (l.getD n 0).toNat := by
        rw [← he]
        show (if l.getD n 0 ≠ 0 then _ else bitsC l n) = _
        rw [if_pos h0]
      have hle := bitLen_le (l.getD n 0).toNat
      rw [Int.toNat_natCast] at r
      have e2 : IntKind.wrap IntKind.i64 (IntKind.wrap IntKind.i64 ((64 : Int) * (n : Int)) + ((Lib.bitLen (l.getD n 0).toNat : Nat) : Int)) = ((bitsC l l.length : Nat) : Int) := by
        rw [hb]
        generalize Lib.bitLen (l.getD n 0).toNat = B at *
        rw [wrap_id (n := (64 : Int) * (n : Int)) (by omega) (by omega), wrap_id (by omega) (by omega)]
        omega
      rw [e2] at r
      have hne : (l.getD n 0 != (0 : Int)) = true := by simpa using h0
      exact run_end2 qeH2_ok hk hF r ⟨by simp, by omega, by omega, hne, by omega, by omega, hg.1, hg.2, trivial⟩ (fun y v hd => hd) hs
def bitsSpec : FnSpec
  | [.v (.c (.sl (.u64 l)))] => some ([l.length ≤ 16, lims l], .v (.c (.int .i64 (bitsC l l.length : Nat))), [])
  | _ => none
noncomputable def qeH : Env := qeH2.set (addT qeH2.fn 106 bitsSpec)
theorem qeH_ok : EnvOk Try.prog qeH := env_add qeH2_ok 106 bitsSpec (enters_of Try.func106 rfl rfl) fun args o r es h ho => by
  unfold bitsSpec at h
  split at h
  · cases h; exact bits_fnd _ ho.1 ho.2.1
  · cases h
--@env qeH qeH_ok
noncomputable def bt_k : List KI := (run qeH false 3000 ((fun (l : Nat) (v : Value) => (⟨[.code (bodyOf Try.f105)], .normal, ⟨argT [.v (.c (.val (.func (.yield l) #[] #[]))), .v (.c (.ptr 0 0))], one (.fl [.val v]), Try.f105.ntmps, 16, []⟩⟩ : Cfg)) default default) []).cfg.k
theorem bt_hk (l : Nat) (v : Value) : (run qeH false 3000 ((⟨[.code (bodyOf Try.f105)], .normal, ⟨argT [.v (.c (.val (.func (.yield l) #[] #[]))), .v (.c (.ptr 0 0))], one (.fl [.val v]), Try.f105.ntmps, 16, []⟩⟩ : Cfg)) []).cfg.k = bt_k := by kernel_rfl
theorem bt (l : Nat) (v : Value) (ho : AllP []) (hs : Sim w0 F0 K ac (⟨argT [.v (.c (.val (.func (.yield l) #[] #[]))),.v (.c (.ptr 0 0))],one (.fl [.val v]),Try.f105.ntmps,16,[]⟩) cX aX) (hK : ∀ ac cY aY,Sim w0 F0 K ac (mkSt 24 [0,1,4] [(.v (.c (.val (Value.func (Fn.yield l) (Array.mk ([] : List Value)) (Array.mk ([] : List Value)))))),.pt 0 0,(.v (.c (.val v)))] [0] [(some (.fl [(.val v)]))] 32 [] []) cY aY → Wq Try.prog Q (bt_k) ac Exit.normal aY cY.w) : Wq Try.prog Q ([.code (bodyOf Try.f105)]) ac .normal aX cX.w :=
  run_at2 (o := ⟨_, _, _, _, _, _, _⟩) qeH_ok (by kernel_rfl) (bt_hk l v) ho hs hK
noncomputable def btA (l : Nat) (v : Value) (e : List Int) : St := mkSt 24 [0,1,4] [(.v (.c (.val (Value.func (Fn.yield l) (Array.mk ([] : List Value)) (Array.mk ([] : List Value)))))),.pt 0 0,.v (.c (.sl (.u64 e)))] [0] [(some (.fl [(.val v)]))] 32 [] []
noncomputable def bu_k : List KI := (run qeH false 3000 ((fun (l : Nat) (v : Value) (e : List Int) => (⟨bt_k, .normal, btA l v e⟩ : Cfg)) default default default) []).cfg.k
theorem bu_hk (l : Nat) (v : Value) (e : List Int) : (run qeH false 3000 ((⟨bt_k, .normal, btA l v e⟩ : Cfg)) []).cfg.k = bu_k := by kernel_rfl
theorem bu (l : Nat) (v : Value) (e : List Int) (ho : AllP [((List.length e) ≤ 16),(lims e)]) (hs : Sim w0 F0 K ac (btA l v e) cX aX) (hK : ∀ ac cY aY,Sim w0 F0 K ac (mkSt 24 [0,1,3] [(.v (.c (.val (Value.func (Fn.yield l) (Array.mk ([] : List Value)) (Array.mk ([] : List Value)))))),.pt 0 0,(.ii (IntKind.wrap .i64 ((((bitsC e (List.length e)) : Nat):Int) - (1:Int))))] [0] [(some (.fl [(.val v)]))] 80 [] []) cY aY → Wq Try.prog Q (bu_k) ac Exit.normal aY cY.w) : Wq Try.prog Q (bt_k) ac .normal aX cX.w :=
  run_at2 (o := ⟨_, _, _, _, _, _, _⟩) qeH_ok (by kernel_rfl) (bu_hk l v e) ho hs hK
noncomputable def buS (l : Nat) (v : Value) (i:Int) : St := mkSt 24 [0,1,3] [(.v (.c (.val (Value.func (Fn.yield l) (Array.mk ([] : List Value)) (Array.mk ([] : List Value)))))),.pt 0 0,.v (.c (.int .i64 i))] [0] [(some (.fl [(.val v)]))] 80 [] []
noncomputable def bv_k : List KI := (run qeH false 3000 ((fun (l : Nat) (v : Value) (i : Int) => (⟨lpIn bu_k, .normal, buS l v i⟩ : Cfg)) default default default) [true]).cfg.k
theorem bv_hk (l : Nat) (v : Value) (i : Int) : (run qeH false 3000 ((⟨lpIn bu_k, .normal, buS l v i⟩ : Cfg)) [true]).cfg.k = bv_k := by kernel_rfl
theorem bv (l : Nat) (v : Value) (i:Int) (ho : AllP [((decide (i ≥ (0:Int))) = true),((64:Int) ≠ (0:Int))]) (hs : Sim w0 F0 K ac (buS l v i) cX aX) (hK : ∀ ac cY aY,Sim w0 F0 K ac (mkSt 24 [0,1,3,11,12,14] [(.v (.c (.val (Value.func (Fn.yield l) (Array.mk ([] : List Value)) (Array.mk ([] : List Value)))))),.pt 0 0,.ii i,(.v (.c (.val (Value.func (Fn.yield l) (Array.mk ([] : List Value)) (Array.mk ([] : List Value)))))),(.v (.c (.val v))),(.ii (IntKind.wrap .i64 (Int.tdiv i (64:Int))))] [0] [(some (.fl [(.val v)]))] 176 [] []) cY aY → Wq Try.prog Q (bv_k) ac Exit.normal aY cY.w) : Wq Try.prog Q (lpIn bu_k) ac .normal aX cX.w :=
  run_at2 (o := ⟨_, _, _, _, _, _, _⟩) qeH_ok (by kernel_rfl) (bv_hk l v i) ho hs hK
noncomputable def bvA (l : Nat) (v : Value) (e : List Int) (i:Int) : St := mkSt 24 [0,1,3,11,12,14] [(.v (.c (.val (Value.func (Fn.yield l) (Array.mk ([] : List Value)) (Array.mk ([] : List Value)))))),.pt 0 0,.ii i,(.v (.c (.val (Value.func (Fn.yield l) (Array.mk ([] : List Value)) (Array.mk ([] : List Value)))))),.v (.c (.sl (.u64 e))),(.ii (IntKind.wrap .i64 (Int.tdiv i (64:Int))))] [0] [(some (.fl [(.val v)]))] 176 [] []
noncomputable def bw_k : List KI := (run qeH false 3000 ((fun (l : Nat) (v : Value) (e : List Int) (i : Int) => (⟨bv_k, .normal, bvA l v e i⟩ : Cfg)) default default default default) []).cfg.k
theorem bw_hk (l : Nat) (v : Value) (e : List Int) (i : Int) : (run qeH false 3000 ((⟨bv_k, .normal, bvA l v e i⟩ : Cfg)) []).cfg.k = bw_k := by kernel_rfl
theorem bw (l : Nat) (v : Value) (e : List Int) (i:Int) (ho : AllP [((0:Int) ≤ (IntKind.wrap .i64 (Int.tdiv i (64:Int)))),((IntKind.wrap .i64 (Int.tdiv i (64:Int))) < (((List.length e) : Nat):Int)),((64:Int) ≠ (0:Int)),((0:Int) ≤ (Int.tmod i (64:Int)))]) (hs : Sim w0 F0 K ac (bvA l v e i) cX aX) (hK : ∀ ac cY aY,Sim w0 F0 K ac (mkSt 24 [0,1,3,11,21] [(.v (.c (.val (Value.func (Fn.yield l) (Array.mk ([] : List Value)) (Array.mk ([] : List Value)))))),.pt 0 0,.ii i,(.v (.c (.val (Value.func (Fn.yield l) (Array.mk ([] : List Value)) (Array.mk ([] : List Value)))))),(.v (.c (.bool ((bitsOp BinOp.and IntKind.u64 (Int.fdiv (List.getD e ((IntKind.wrap .i64 (Int.tdiv i (64:Int)))).toNat (0:Int)) ((2:Int) ^ (Min.min ((Int.tmod i (64:Int))).toNat 64))) (1:Int)) == (1:Int)))))] [0] [(some (.fl [(.val v)]))] 288 [] []) cY aY → Wq Try.prog Q (bw_k) ac Exit.normal aY cY.w) : Wq Try.prog Q (bv_k) ac .normal aX cX.w :=
  run_at2 (o := ⟨_, _, _, _, _, _, _⟩) qeH_ok (by kernel_rfl) (bw_hk l v e i) ho hs hK
theorem bX_hk (l : Nat) (v : Value) (i : Int) : (run qeH false 3000 ((⟨lpIn bu_k, .normal, buS l v i⟩ : Cfg)) [false]).cfg.k = [] := by kernel_rfl
theorem bX (l : Nat) (v : Value) (i:Int) (ho : AllP [((decide (i ≥ (0:Int))) = false)]) (hs : Sim w0 F0 K ac (buS l v i) cX aX) (hK : ∀ ac cY aY,Sim w0 F0 K ac (mkSt 24 [] [] [0] [(some (.fl [(.val v)]))] 112 [] []) cY aY → Wq Try.prog Q ([]) ac Exit.normal aY cY.w) : Wq Try.prog Q (lpIn bu_k) ac .normal aX cX.w :=
  run_at2 (o := ⟨_, _, _, _, _, _, _⟩) qeH_ok (by kernel_rfl) (bX_hk l v i) ho hs hK
theorem bB_hk (l : Nat) (v : Value) (i : Int) (b : Bool) : (run qeH false 3000 ((⟨opsNext bw_k, .normal, ⟨setT (look .top [0, 1, 3, 11, 21] [(.v (.c (.val (.func (.yield l) #[] #[])))), .v (.c (.ptr 0 0)), .v (.c (.int .i64 i)), (.v (.c (.val (.func (.yield l) #[] #[])))), .v (.c (.bool b))]) 22 (.v (.c (.lit true))), one (.fl [.val v]), 24, 400, []⟩⟩ : Cfg)) []).cfg.k = lpBk bu_k := by kernel_rfl
theorem bB (l : Nat) (v : Value) (i:Int) (b : Bool) (ho : AllP []) (hs : Sim w0 F0 K ac (⟨setT (look .top [0,1,3,11,21] [(.v (.c (.val (.func (.yield l) #[] #[])))),.v (.c (.ptr 0 0)),.v (.c (.int .i64 i)),(.v (.c (.val (.func (.yield l) #[] #[])))),.v (.c (.bool b))]) 22 (.v (.c (.lit true))),one (.fl [.val v]),24,400,[]⟩) cX aX) (hK : ∀ ac cY aY,Sim w0 F0 K ac (mkSt 24 [0,1,3] [(.v (.c (.val (Value.func (Fn.yield l) (Array.mk ([] : List Value)) (Array.mk ([] : List Value)))))),.pt 0 0,(.ii (IntKind.wrap .i64 (i - (1:Int))))] [0] [(some (.fl [(.val v)]))] 464 [] []) cY aY → Wq Try.prog Q (lpBk bu_k) ac Exit.normal aY cY.w) : Wq Try.prog Q (opsNext bw_k) ac .normal aX cX.w :=
  run_at2 (o := ⟨_, _, _, _, _, _, _⟩) qeH_ok (by kernel_rfl) (bB_hk l v i b) ho hs hK

theorem meth61_Times (v : Value) (w : World) : (method (Try.prog.types.size + Made.depth) 61 v "Times").run Try.prog w = .ok (67, v) w := by kernel_rfl
theorem meth61_Plus (v : Value) (w : World) : (method (Try.prog.types.size + Made.depth) 61 v "Plus").run Try.prog w = .ok (68, v) w := by kernel_rfl
theorem meth61_Minus (v : Value) (w : World) : (method (Try.prog.types.size + Made.depth) 61 v "Minus").run Try.prog w = .ok (81, v) w := by kernel_rfl
theorem meth61_IsZero (v : Value) (w : World) : (method (Try.prog.types.size + Made.depth) 61 v "IsZero").run Try.prog w = .ok (101, v) w := by kernel_rfl
theorem meth61_Negative (v : Value) (w : World) : (method (Try.prog.types.size + Made.depth) 61 v "Negative").run Try.prog w = .ok (102, v) w := by kernel_rfl
theorem meth61_Inverse (v : Value) (w : World) : (method (Try.prog.types.size + Made.depth) 61 v "Inverse").run Try.prog w = .ok (100, v) w := by kernel_rfl
noncomputable def invP (t : Nat) : Option (List (String × Nat)) := if t = 61 then some [("Times", 67), ("Plus", 68), ("Minus", 81), ("IsZero", 101), ("Negative", 102), ("Inverse", 100)] else none
noncomputable def qeI : Env := { qeH with inv := invP }
theorem qeI_ok : EnvOk Try.prog qeI := by
  refine ⟨qeH_ok.ty, qeH_ok.mixed, qeH_ok.fn, qeH_ok.mu, qeH_ok.inl, qeH_ok.ex, fun t l h => ?_⟩
  have h : invP t = some l := h
  unfold invP at h
  split at h
  · rename_i ht
    cases h
    subst ht
    refine ⟨by kernel_rfl, fun name g hg v args w => ?_⟩
    unfold lookM at hg
    split at hg
    · rename_i hn
      cases hg
      subst hn
      simp only [callMethod, Sem.run_bind, run_program, Result.andThen_ok, meth61_Times]
    unfold lookM at hg
    split at hg
    · rename_i hn
      cases hg
      subst hn
      simp only [callMethod, Sem.run_bind, run_program, Result.andThen_ok, meth61_Plus]
    unfold lookM at hg
    split at hg
    · rename_i hn
      cases hg
      subst hn
      simp only [callMethod, Sem.run_bind, run_program, Result.andThen_ok, meth61_Minus]
    unfold lookM at hg
    split at hg
    · rename_i hn
      cases hg
      subst hn
      simp only [callMethod, Sem.run_bind, run_program, Result.andThen_ok, meth61_IsZero]
    unfold lookM at hg
    split at hg
    · rename_i hn
      cases hg
      subst hn
      simp only [callMethod, Sem.run_bind, run_program, Result.andThen_ok, meth61_Negative]
    unfold lookM at hg
    split at hg
    · rename_i hn
      cases hg
      subst hn
      simp only [callMethod, Sem.run_bind, run_program, Result.andThen_ok, meth61_Inverse]
    cases hg
  · cases h
--@env qeI qeI_ok
noncomputable def qp_k : List KI := (run qeI false 3000 ((fun (a : Fp) (e : List Int) => (⟨[.code (bodyOf Try.f103)], .normal, initSt Try.f103.ntmps [.v (.a [.ob (.p a)]), .v (.a [.ob (.p 1)]), .v (.c (.sl (.u64 e)))]⟩ : Cfg)) default default) []).cfg.k
theorem qp_hk (a : Fp) (e : List Int) : (run qeI false 3000 ((⟨[.code (bodyOf Try.f103)], .normal, initSt Try.f103.ntmps [.v (.a [.ob (.p a)]), .v (.a [.ob (.p 1)]), .v (.c (.sl (.u64 e)))]⟩ : Cfg)) []).cfg.k = qp_k := by kernel_rfl
theorem qp (a : Fp) (e : List Int) (ho : AllP []) (hs : Sim w0 F0 K ac (initSt Try.f103.ntmps [.v (.a [.ob (.p a)]),.v (.a [.ob (.p 1)]),.v (.c (.sl (.u64 e)))]) cX aX) (hK : ∀ ac cY aY,Sim w0 F0 K ac (mkSt 23 [3,6,7,11] [.pt 16 0,.pt 48 0,.pt 80 0,(.v (.c (.clo 105 [(128,0)])))] [16,48,80,128] [(some (.fl [.ob (.p a)])),(some (.fl [(.ob (.p (0:Fp)))])),(some (.fl [(.ob (.p (1:Fp)))])),(some (.fl [.sl (.u64 e)]))] 192 [] []) cY aY → Wq Try.prog Q (qp_k) ac Exit.normal aY cY.w) : Wq Try.prog Q ([.code (bodyOf Try.f103)]) ac .normal aX cX.w :=
  run_at2 (o := ⟨_, _, _, _, _, _, _⟩) qeI_ok (by kernel_rfl) (qp_hk a e) ho hs hK
noncomputable def qpS (a : Fp) (e : List Int) (o : Fp) : St := mkSt 23 [3,6,7,11] [.pt 16 0,.pt 48 0,.pt 80 0,(.v (.c (.clo 105 [(128,0)])))] [16,48,80,128] [(some (.fl [.ob (.p a)])),(some (.fl [(.ob (.p (0:Fp)))])),some (.fl [.ob (.p o)]),(some (.fl [.sl (.u64 e)]))] 192 [] []
theorem qpA_hk (a : Fp) (e : List Int) (o : Fp) (z : Bool) : (run qeI false 3000 ((⟨[.code (rfA qp_k)], .normal, roundSt (qpS a e o) [(12, .v (.c (.bool z)))]⟩ : Cfg)) []).cfg.k = [] := by kernel_rfl
theorem qpA (a : Fp) (e : List Int) (o : Fp) (z : Bool) {ρ : Option Nat} (ho : AllP []) (hs : Sim w0 F0 K ac (roundSt (qpS a e o) [(12,.v (.c (.bool z)))]) cX aX) (hK : ∀ cY aY,Sim w0 F0 K ac (mkSt 23 [3,6,7,8] [.pt 16 0,.pt 48 0,.pt 80 0,(.v (.c (.bool z)))] [16,48,80,128] [(some (.fl [.ob (.p a)])),(some (.fl [(.ob (.p (0:Fp)))])),(some (.fl [.ob (.p o)])),(some (.fl [.sl (.u64 e)]))] 208 [[3,6,7,11]] [([.pt 16 0,.pt 48 0,.pt 80 0,(.v (.c (.clo 105 [(128,0)])))],23)]) cY aY → Wq Try.prog Q ([]) ac Exit.normal aY cY.w ρ) : Wq Try.prog Q ([.code (rfA qp_k)]) ac .normal aX cX.w ρ :=
  run_atT (o := ⟨_, _, _, _, _, _, _⟩) qeI_ok (by kernel_rfl) (qpA_hk a e o z) ho (by kernel_rfl) (by kernel_rfl) hs hK
noncomputable def qpB (a : Fp) (e : List Int) (o : Fp) (z : Bool) : St := mkSt 23 [3,6,7,8] [.pt 16 0,.pt 48 0,.pt 80 0,(.v (.c (.bool z)))] [16,48,80,128] [(some (.fl [.ob (.p a)])),(some (.fl [(.ob (.p (0:Fp)))])),some (.fl [.ob (.p o)]),(some (.fl [.sl (.u64 e)]))] 208 [[3,6,7,11]] [([.pt 16 0,.pt 48 0,.pt 80 0,(.v (.c (.clo 105 [(128,0)])))],23)]
theorem qpC_hk (a : Fp) (e : List Int) (o : Fp) (z : Bool) : (run qeI false 3000 ((⟨[.code (rfB qp_k)], .normal, qpB a e o z⟩ : Cfg)) [true]).cfg.k = [] := by kernel_rfl
theorem qpC (a : Fp) (e : List Int) (o : Fp) (z : Bool) {ρ : Option Nat} (ho : AllP [(z = true)]) (hs : Sim w0 F0 K ac (qpB a e o z) cX aX) (hK : ∀ cY aY,Sim w0 F0 K ac (mkSt 23 [6] [.pt 48 0] [16,48,80,128] [(some (.fl [.ob (.p a)])),(some (.fl [(.ob (.p (0:Fp)))])),(some (.fl [(.ob (.p ((o * o) * a)))])),(some (.fl [.sl (.u64 e)]))] 384 [[3,6,7,11]] [([.pt 16 0,.pt 48 0,.pt 80 0,(.v (.c (.clo 105 [(128,0)])))],23)]) cY aY → Wq Try.prog Q ([]) ac Exit.normal aY cY.w ρ) : Wq Try.prog Q ([.code (rfB qp_k)]) ac .normal aX cX.w ρ :=
  run_atT (o := ⟨_, _, _, _, _, _, _⟩) qeI_ok (by kernel_rfl) (qpC_hk a e o z) ho (by kernel_rfl) (by kernel_rfl) hs hK
theorem qpD_hk (a : Fp) (e : List Int) (o : Fp) (z : Bool) : (run qeI false 3000 ((⟨[.code (rfB qp_k)], .normal, qpB a e o z⟩ : Cfg)) [false]).cfg.k = [] := by kernel_rfl
theorem qpD (a : Fp) (e : List Int) (o : Fp) (z : Bool) {ρ : Option Nat} (ho : AllP [(z = false)]) (hs : Sim w0 F0 K ac (qpB a e o z) cX aX) (hK : ∀ cY aY,Sim w0 F0 K ac (mkSt 23 [6] [.pt 48 0] [16,48,80,128] [(some (.fl [.ob (.p a)])),(some (.fl [(.ob (.p (0:Fp)))])),(some (.fl [(.ob (.p (o * o)))])),(some (.fl [.sl (.u64 e)]))] 304 [[3,6,7,11]] [([.pt 16 0,.pt 48 0,.pt 80 0,(.v (.c (.clo 105 [(128,0)])))],23)]) cY aY → Wq Try.prog Q ([]) ac Exit.normal aY cY.w ρ) : Wq Try.prog Q ([.code (rfB qp_k)]) ac .normal aX cX.w ρ :=
  run_atT (o := ⟨_, _, _, _, _, _, _⟩) qeI_ok (by kernel_rfl) (qpD_hk a e o z) ho (by kernel_rfl) (by kernel_rfl) hs hK
theorem qpX_hk (a : Fp) (e : List Int) (o : Fp) : (run qeI false 3000 ((⟨rfR qp_k, .normal, qpS a e o⟩ : Cfg)) []).cfg.k = [] := by kernel_rfl
theorem qpX (a : Fp) (e : List Int) (o : Fp) (ho : AllP []) (hs : Sim w0 F0 K ac (qpS a e o) cX aX) (hK : ∀ ac cY aY,Sim w0 F0 K ac (mkSt 23 [6] [.pt 48 0] [48] [(some (.fl [.ob (.p o)]))] 224 [] []) cY aY → Wq Try.prog Q ([]) ac Exit.ret aY cY.w) : Wq Try.prog Q (rfR qp_k) ac .normal aX cX.w :=
  run_at2 (o := ⟨_, _, _, _, _, _, _⟩) qeI_ok (by kernel_rfl) (qpX_hk a e o) ho hs hK
noncomputable def qpE (a : Fp) (e : List Int) (o : Fp) : St := mkSt 23 [6] [.pt 48 0] [16,48,80,128] [(some (.fl [.ob (.p a)])),(some (.fl [(.ob (.p (0:Fp)))])),some (.fl [.ob (.p o)]),(some (.fl [.sl (.u64 e)]))] 384 [[3,6,7,11]] [([.pt 16 0,.pt 48 0,.pt 80 0,(.v (.c (.clo 105 [(128,0)])))],23)]
noncomputable def qpZ (o : Fp) : St := mkSt 23 [6] [.pt 48 0] [48] [some (.fl [.ob (.p o)])] 224 [] []
theorem qpR_end (o : Fp) : runEnd qeI Try.f103 false 3000 (⟨[],.ret,qpZ o⟩) [] [] [] = (some ([],((.v (.a [.ob (.p o)])),[]))) := by kernel_rfl
end
end Go.Proofs.Ytdeohachoeopdaa

/- Bits handed on; powers of an element. No conditions. -/
namespace Go.Proofs.Ytdeohachoeopdaa

theorem and1 {m : Nat} : bitsOp BinOp.and IntKind.u64 (m : Int) (1 : Int) = ((m % 2 : Nat) : Int) := by
  show IntKind.wrap IntKind.u64 ((BitVec.ofInt 64 (m : Int) &&& BitVec.ofInt 64 ((1 : Nat) : Int)).toNat : Int) = _
  rw [BitVec.ofInt_natCast, BitVec.ofInt_natCast, BitVec.toNat_and, BitVec.toNat_ofNat, BitVec.toNat_ofNat]
  have e : 1 % 2 ^ 64 = 2 ^ 1 - 1 := by decide
  rw [e, Nat.and_two_pow_sub_one_eq_mod, wrap_u64]
  omega

theorem bit_expr {e : List Int} (h : lims e) {i : Nat} (hi : i < 1024) : (bitsOp BinOp.and IntKind.u64 (Int.fdiv (List.getD e (IntKind.wrap IntKind.i64 (Int.tdiv (i : Int) (64 : Int))).toNat (0 : Int)) ((2 : Int) ^ (Min.min (Int.tmod (i : Int) (64 : Int)).toNat 64))) (1 : Int) == (1 : Int)) = decide (numL e / 2 ^ i % 2 = 1) := by
  have e1 : Int.tdiv (i : Int) (64 : Int) = ((i / 64 : Nat) : Int) := Int.tdiv_eq_ediv_of_nonneg (by omega)
  have e2 : Int.tmod (i : Int) (64 : Int) = ((i % 64 : Nat) : Int) := Int.tmod_eq_emod_of_nonneg (by omega)
  have e3 : Min.min (((i % 64 : Nat) : Int)).toNat 64 = i % 64 := by omega
  have hg := lims_get h (i / 64)
  rw [e1, wrap_id (by omega) (by omega), Int.toNat_natCast, e2, e3, numL_bit h i]
  obtain ⟨g, hg2⟩ := Int.eq_ofNat_of_zero_le hg.1
  have hp : ((2 : Int) ^ (i % 64)) = ((2 ^ (i % 64) : Nat) : Int) := by simp
  rw [hg2, hp, Int.fdiv_eq_ediv_of_nonneg _ (Int.natCast_nonneg _), ← Int.natCast_ediv, and1, Int.toNat_natCast]
  generalize g / 2 ^ (i % 64) = m
  by_cases hm : m % 2 = 1
  · rw [hm]; rfl
  · have : m % 2 = 0 := by omega
    rw [this]; rfl

def btEnc (z : Bool) : List Value := [.bool z]

theorem bits_iter {x : Ctx} {p : Nat} {e : List Int} {M : List Bool → Nat → Option En} (hl : e.length ≤ 16) (hlim : lims e) (hM : ∀ s, M s p = some (.fl [.sl (.u64 e)])) :
    IterC Try.prog x 105 [(p, 0)] btEnc (btL (numL e) (bitsC e e.length) (bitsC e e.length)) M := by
  intro l J W hgrow hread hyield hJ
  have hcl := bitsC_le e e.length
  generalize hc : bitsC e e.length = c at *
  generalize hN : numL e = N at *
  have key : Wq Try.prog (bodyPost Try.prog Try.f105 fun e' W' => (∃ v, e' = Ending.returned v) ∧ J (btL N c c) W') [.code (bodyOf Try.f105)] [] .normal { tmps := [Value.func (.yield l) #[] #[], .pointer (some ⟨x.β p, 0, none⟩)].toArray ++ Array.replicate 22 undef, defers := [] } W := ?_
  · exact calls_of_wp (c := bodyOf Try.f105) Try.func105 rfl ((wpIn_wide (n := 0)).1 key.wp)
  obtain ⟨y, rfl, hm, hcp⟩ := hread [] W hJ
  obtain ⟨hr, hβ⟩ := hcp (p, 0) List.mem_cons_self
  have hr : y.k p = .real := hr
  have hβ : y.β p = x.β p := hβ
  have hargs : denSs (itCtx y p) [.v (.c (.val (.func (.yield l) #[] #[]))), .v (.c (.ptr 0 0))] [.func (.yield l) #[] #[], .pointer (some ⟨x.β p, 0, none⟩)] :=
    .cons ⟨rfl, 0, rfl, rfl⟩ (.cons ⟨rfl, 0, rfl, by show _ = [Value.pointer (some ⟨y.β p, 0, none⟩)]; rw [hβ]⟩ .nil)
  obtain ⟨v, hv, hbox⟩ := box_sl hm (hM []) hr
  have hs := it_sim (nx := 16) (nt := 24) (a := { tmps := [Value.func (.yield l) #[] #[], .pointer (some ⟨x.β p, 0, none⟩)].toArray ++ Array.replicate 22 undef, defers := [] }) hm (hM []) hr hbox rfl (by simp) (argT_den hargs 22)
  change Wq Try.prog _ _ _ _ _ (itCtx y p).w
  refine bt l v trivial hs fun ac cY aY hs1 => ?_
  have hmb : Mem (itCtx y p) (one (.fl [.val v])) := it_mem hm (hM _) hr hbox
  obtain ⟨hg1, _, _⟩ := it_back hmb rfl hs1 rfl
  have hsl : cY.D (.sl (.u64 e)) [v] := data_grow hg1 (fun b hb => hs1.base.f0 b hb) hm.fw rfl hv
  have hs2 := hs1.slots (svs' := [.v (.c (.val (.func (.yield l) #[] #[]))), .v (.c (.ptr 0 0)), .v (.c (.sl (.u64 e)))]) ⟨fun _ h => h, fun _ h => h, conv_val rfl hsl, trivial⟩
  refine bu l v e ⟨hl, hlim, trivial⟩ hs2 fun ac cZ aZ hs3 => ?_
  rw [hc, wrap_id (by omega) (by omega)] at hs3
  let I : { t : Nat // t ≤ c } → List Act → Act → World → Prop := fun t ac a w => ∃ y z v, z.w = w ∧ y.k p = .real ∧ y.β p = x.β p ∧ Mem y (M (btL N c t.1)) ∧ J (btL N c t.1) y.w ∧ y.D (.sl (.u64 e)) [v] ∧ Mem (itCtx y p) (one (.fl [.val v])) ∧ Sim y.w y.F (kPin (itCtx y p)) ac (buS l v ((c : Int) - 1 - (t.1 : Int))) z a
  refine loop_inv I (fun t => c - t.1) (c := lpC bu_k) (k := lpR bu_k) (by kernel_rfl) (fun t ih ac b w hI => ?_) ⟨0, Nat.zero_le _⟩ ⟨y, cZ, v, rfl, hr, hβ, hm, hJ, hv, hmb, by
      show Sim _ _ _ _ (buS l v ((c : Int) - 1 - ((0 : Nat) : Int))) _ _
      rw [show (c : Int) - 1 - ((0 : Nat) : Int) = (c : Int) - 1 from by omega]
      exact hs3.nx _⟩
  obtain ⟨t, ht⟩ := t
  obtain ⟨y, z, v, rfl, hr, hβ, hm, hJ, hv, hmb, hs⟩ := hI
  simp only at hm hJ hs ih
  by_cases h : t < c
  · obtain ⟨i, hi⟩ : ∃ i : Nat, i = c - 1 - t := ⟨_, rfl⟩
    have ei : (c : Int) - 1 - (t : Int) = (i : Int) := by omega
    rw [ei] at hs
    refine bv l v _ ⟨by simp, by decide, trivial⟩ hs fun ac cV aV hs4 => ?_
    obtain ⟨hg4, _, _⟩ := it_back hmb rfl hs4 rfl
    have hsl4 : cV.D (.sl (.u64 e)) [v] := data_grow hg4 (fun b hb => hs4.base.f0 b hb) hm.fw rfl hv
    have hs5 := hs4.slots (svs' := [.v (.c (.val (.func (.yield l) #[] #[]))), .v (.c (.ptr 0 0)), .v (.c (.int .i64 (i : Int))), .v (.c (.val (.func (.yield l) #[] #[]))), .v (.c (.sl (.u64 e))), .v (.c (.int .i64 (IntKind.wrap IntKind.i64 (Int.tdiv (i : Int) (64 : Int)))))])
      ⟨fun _ h => h, fun _ h => h, fun _ h => h, fun _ h => h, conv_val rfl hsl4, fun _ h => h, trivial⟩
    have e1 : Int.tdiv (i : Int) (64 : Int) = ((i / 64 : Nat) : Int) := Int.tdiv_eq_ediv_of_nonneg (by omega)
    have e2 : Int.tmod (i : Int) (64 : Int) = ((i % 64 : Nat) : Int) := Int.tmod_eq_emod_of_nonneg (by omega)
    refine bw l v e _ ⟨by rw [e1, wrap_id (by omega) (by omega)]; omega, by rw [e1, wrap_id (by omega) (by omega)]; omega, by decide, by rw [e2]; omega, trivial⟩ hs5 fun ac cU aU hs6 => ?_
    rw [bit_expr hlim (by omega : i < 1024), hN] at hs6
    obtain ⟨hg, hk2, hβ2⟩ := it_back hmb rfl hs6 rfl
    have hJ2 := hgrow _ _ _ hJ hg
    have e3 : btL N c (t + 1) = btL N c t ++ [decide (N / 2 ^ i % 2 = 1)] := by rw [btL_succ, hi]
    obtain ⟨r, hr1⟩ := btL_pre N c (n := c) (t := t + 1) h
    refine yield_at (R := fun W' => J (btL N c (t + 1)) W') (dst := some 22) (f := .tmp 11) (args := [.tmp 21]) (by kernel_rfl) hs6 (l := l) rfl (vs := btEnc (decide (N / 2 ^ i % 2 = 1))) ?_ ?_ fun W' hJ3 => ?_
    · have h21 := D_bool (hs6.t 21)
      show [aU.tmps.getD 21 undef] = _
      rw [h21]
      rfl
    · have := hyield (btL N c t) (decide (N / 2 ^ i % 2 = 1)) _ hJ2 ⟨r, by rw [hr1, e3, List.append_assoc]; rfl⟩
      rw [← e3] at this
      exact this
    · obtain ⟨y3, rfl, hm3, hc3⟩ := hread _ _ hJ3
      obtain ⟨hr3, hβ3⟩ := hc3 (p, 0) List.mem_cons_self
      have hr3 : y3.k p = .real := hr3
      have hβ3 : y3.β p = x.β p := hβ3
      obtain ⟨v3, hv3, hbox3⟩ := box_sl hm3 (hM _) hr3
      have hmb3 : Mem (itCtx y3 p) (one (.fl [.val v3])) := it_mem hm3 (hM _) hr3 hbox3
      have hs7 := it_again (nx' := 400) (dst := 22) (b := true) hs6 (by kernel_rfl) rfl hm3 (hM _) hr3 hbox3 (by rw [hβ2, hβ]; exact hβ3.symm) (by decide)
      change Wq Try.prog _ _ _ _ _ (itCtx y3 p).w
      refine bB l v3 _ _ trivial hs7 fun ac cT aT hs8 => ?_
      have e4 : IntKind.wrap IntKind.i64 ((i : Int) - 1) = (c : Int) - 1 - ((t + 1 : Nat) : Int) := by rw [wrap_id (by omega) (by omega)]; omega
      rw [e4] at hs8
      exact ih ⟨t + 1, by omega⟩ (by show c - (t + 1) < c - t; omega) ac aT _ ⟨y3, cT, v3, rfl, hr3, hβ3, hm3, hJ3, hv3, hmb3, hs8.nx _⟩
  · have e5 : t = c := by omega
    subst e5
    refine bX l v _ ⟨by simp; omega, trivial⟩ hs fun ac cV aV hs4 => ?_
    obtain ⟨hg, _, _⟩ := it_back hmb rfl hs4 rfl
    exact ⟨it_end qeH_ok hs4 rfl rfl rfl (fun v => ⟨⟨v, rfl⟩, hgrow _ _ _ hJ hg⟩) (.inr rfl)⟩

def btVals (z : Bool) : List SV := [.v (.c (.bool z))]

theorem pw_bit (a : Fp) (l : List Bool) (z : Bool) : pw a (pv (l ++ [z])) = if z = true then pw a (pv l) * pw a (pv l) * a else pw a (pv l) * pw a (pv l) := by
  rw [pv_snoc, Nat.two_mul]
  cases z with
  | true =>
    rw [if_pos rfl, ← pw_add_g]
    rfl
  | false =>
    rw [if_neg (by decide), ← pw_add_g]
    rfl

theorem powerP_fnd (a : Fp) (e : List Int) (hl : e.length ≤ 16) (hlim : lims e) :
    FnD Try.prog 103 [.v (.a [.ob (.p a)]), .v (.a [.ob (.p 1)]), .v (.c (.sl (.u64 e)))] (.v (.a [.ob (.p (pw a (numL e)))])) [] := by
  refine fn_start_m (fn := Try.f103) (c := bodyOf Try.f103) Try.func103 rfl rfl fun x b hk hF hs => ?_
  refine qp a e trivial hs fun ac cY aY hs1 => ?_
  obtain ⟨e1, e2⟩ := isRf_eq (k := qp_k) (by kernel_rfl)
  rw [e1]
  have eP : (rfP qp_k).toList = [12] := by kernel_rfl
  have eG : rfG qp_k = .tmp 11 := by kernel_rfl
  refine range_rule (ps := rfP qp_k) e2 hs1 (gf := 105) (caps := [(128, 0)]) (enters_of Try.func105 rfl rfl) (fun pre => qpS a e (pw a (pv pre))) (fun s => by rw [eG]; rfl) ⟨_, rfl⟩ (btL (numL e) (bitsC e e.length) (bitsC e e.length)) btVals btEnc
    (fun y z => .cons ⟨rfl, 0, rfl⟩ .nil) (fun z => by rw [← Array.length_toList, eP]; rfl) (fun pre p hp => ?_) (bits_iter hl hlim fun s => rfl) (fun pre z => qpB a e (pw a (pv pre)) z)
    (fun pre z => qpE a e (pw a (pv (pre ++ [z])))) (fun pre z => ⟨_, rfl⟩) (fun pre z hz w1 F1 K1 as1 Q1 l y b hs2 hQ => ?_) (fun pre z hz w1 F1 K1 as1 Q1 l y b hs2 hQ => ?_) fun D y hs2 hD hFD hd => ?_
  · rw [eP] at hp
    have h23 : (qpS a e (pw a (pv pre))).nt = 23 := rfl
    rw [h23]
    simp only [List.mem_cons, List.not_mem_nil, or_false] at hp
    subst hp
    decide
  · rw [eP] at hs2
    exact qpA a e _ z trivial hs2 fun cZ aZ hs3 => ⟨hQ _ _ (hs3.nx _)⟩
  · rw [pw_bit] at hQ
    cases z with
    | true => exact qpC a e _ true ⟨rfl, trivial⟩ hs2 fun cZ aZ hs3 => ⟨hQ _ _ (hs3.nx _)⟩
    | false => exact qpD a e _ false ⟨rfl, trivial⟩ hs2 fun cZ aZ hs3 => ⟨hQ _ _ (hs3.nx _)⟩
  · have hs3 := hs2.marked rfl rfl D
    have hN : numL e < 2 ^ bitsC e e.length := by
      have := numL_lt hlim e.length (Nat.le_refl _)
      rwa [List.take_length] at this
    rw [pv_bits hN _ (Nat.le_refl _), Nat.sub_self, Nat.pow_zero, Nat.div_one] at hs2 hs3
    generalize pw a (numL e) = o at hs2 hs3 ⊢
    refine qpX a e o trivial hs3 fun ac cV aV hs6 => ⟨?_⟩
    have hs7 : Sim y.w y.F (kOwn y kAll (markOf D)) ac (qpZ o) cV aV := hs6
    exact fn_finish qeI_ok hk hF (qpR_end o) trivial (fun y v hd => hd) hs2 hD hFD hd rfl hs7

end Go.Proofs.Ytdeohachoeopdaa

/- The inverse in the greater field; sums and doubles of points, walked. No conditions. -/
namespace Go.Proofs.Ytdeohachoeopdaa

theorem powerP_fnd2 (a u : Fp) (e : List Int) (hu : u = 1) (hl : e.length ≤ 16) (hlim : lims e) :
    FnD Try.prog 103 [.v (.a [.ob (.p a)]), .v (.a [.ob (.p u)]), .v (.c (.sl (.u64 e)))] (.v (.a [.ob (.p (pw a (numL e)))])) [] := by
  subst hu
  exact powerP_fnd a e hl hlim
def powerPSpec : FnSpec
  | [.v (.a [.ob (.p a)]), .v (.a [.ob (.p u)]), .v (.c (.sl (.u64 e)))] => some ([u = 1, e.length ≤ 16, lims e], .v (.a [.ob (.p (pw a (numL e)))]), [])
  | _ => none
noncomputable def qeI1 : Env := qeI.set (addT qeI.fn 103 powerPSpec)
theorem qeI1_ok : EnvOk Try.prog qeI1 := env_add qeI_ok 103 powerPSpec (enters_of Try.func103 rfl rfl) fun args o r es h ho => by
  unfold powerPSpec at h
  split at h
  · cases h; exact powerP_fnd2 _ _ _ ho.1 ho.2.1 ho.2.2.1
  · cases h
--@env qeI1 qeI1_ok
theorem invP0 (a : Fp) : fnRes qeI1 Try.f100 3000 [.v (.a [.ob (.p a)])] [] [] [] = (some ([((0:Int) ≤ (0:Int)),((0:Int) < (6:Int)),(0 < 6),((0:Int) ≤ (0:Int)),((0:Int) < (6:Int)),((0:Int) ≤ (1:Int)),((1:Int) < (18446744073709551616:Int)),((Fin.ofNat pN 1) = (1:Fp)),(6 ≤ 16),(lims [(13402431016077863593:Int),(2210141511517208575:Int),(7435674573564081700:Int),(7239337960414712511:Int),(5412103778470702295:Int),(1873798617647539866:Int)])],((.v (.a [(.ob (.p (pw a 4002409555221667393417789825735904156556882819939007885332058136124031650490837864442687629129015664037894272559785)))])),[]))) := by kernel_rfl
/-- 1 divided by it; 0 of 0. -/
def ivP (a : Fp) : Fp := pw a (pN - 2)
theorem ivP_mul (x : Fp) (hx : x ≠ 0) : x * ivP x = 1 := by
  have h := fermat_p x hx
  have e : pN - 1 = (pN - 2) + 1 := by decide
  rw [e] at h
  have h2 : ivP x * x = 1 := h
  rw [mul_comm_g]
  exact h2
theorem invP_fnd (a : Fp) : FnD Try.prog 100 [.v (.a [.ob (.p a)])] (.v (.a [.ob (.p (ivP a))])) [] := by
  have e : 4002409555221667393417789825735904156556882819939007885332058136124031650490837864442687629129015664037894272559785 = pN - 2 := by decide +kernel
  have r := invP0 a
  rw [e] at r
  refine fn_sound qeI1_ok Try.func100 r ⟨by decide, by decide, by decide, by decide, by decide, by decide, by decide, rfl, by decide, ?_, trivial⟩
  intro x hx
  simp only [List.mem_cons, List.not_mem_nil, or_false] at hx
  rcases hx with rfl | rfl | rfl | rfl | rfl | rfl <;> decide
def invPSpec : FnSpec
  | [.v (.a [.ob (.p a)])] => some ([], .v (.a [.ob (.p (ivP a))]), [])
  | _ => none
noncomputable def qeJ : Env := qeI1.set (addT qeI1.fn 100 invPSpec)
theorem qeJ_ok : EnvOk Try.prog qeJ := env_add qeI1_ok 100 invPSpec (enters_of Try.func100 rfl rfl) fun args o r es h _ => by
  unfold invPSpec at h
  split at h
  · cases h; exact invP_fnd _
  · cases h
--@env qeJ qeJ_ok
theorem twA (x y z : Fp) : fnRes qeJ Try.f66 3000 [.v (.a [.ob (.p x),.ob (.p y),.ob (.p z)])] [true] [] [] = (some ([((decide (z = (0:Fp))) = true)],((.v (.a [.ob (.p x),.ob (.p y),.ob (.p z)])),[]))) := by kernel_rfl
theorem twB (x y z : Fp) : fnRes qeJ Try.f66 3000 [.v (.a [.ob (.p x),.ob (.p y),.ob (.p z)])] [false] [] [] = (some ([((decide (z = (0:Fp))) = false)],((.v (.a [(.ob (.p ((((((x * x) + (x * x)) + (x * x)) * (((x * x) + (x * x)) + (x * x))) - (((((x + (y * y)) * (x + (y * y))) - (x * x)) - ((y * y) * (y * y))) + ((((x + (y * y)) * (x + (y * y))) - (x * x)) - ((y * y) * (y * y))))) - (((((x + (y * y)) * (x + (y * y))) - (x * x)) - ((y * y) * (y * y))) + ((((x + (y * y)) * (x + (y * y))) - (x * x)) - ((y * y) * (y * y))))))),(.ob (.p (((((x * x) + (x * x)) + (x * x)) * ((((((x + (y * y)) * (x + (y * y))) - (x * x)) - ((y * y) * (y * y))) + ((((x + (y * y)) * (x + (y * y))) - (x * x)) - ((y * y) * (y * y)))) - ((((((x * x) + (x * x)) + (x * x)) * (((x * x) + (x * x)) + (x * x))) - (((((x + (y * y)) * (x + (y * y))) - (x * x)) - ((y * y) * (y * y))) + ((((x + (y * y)) * (x + (y * y))) - (x * x)) - ((y * y) * (y * y))))) - (((((x + (y * y)) * (x + (y * y))) - (x * x)) - ((y * y) * (y * y))) + ((((x + (y * y)) * (x + (y * y))) - (x * x)) - ((y * y) * (y * y))))))) - (((((y * y) * (y * y)) + ((y * y) * (y * y))) + (((y * y) * (y * y)) + ((y * y) * (y * y)))) + ((((y * y) * (y * y)) + ((y * y) * (y * y))) + (((y * y) * (y * y)) + ((y * y) * (y * y)))))))),(.ob (.p ((y * z) + (y * z))))])),[]))) := by kernel_rfl
theorem ngP (x y z : Fp) : fnRes qeJ Try.f82 3000 [.v (.a [.ob (.p x),.ob (.p y),.ob (.p z)])] [] [] [] = (some ([],((.v (.a [.ob (.p x),(.ob (.p ((0:Fp) - y))),.ob (.p z)])),[]))) := by kernel_rfl
end Go.Proofs.Ytdeohachoeopdaa

/- Elements of the greater field, inside and outside; the field; lines. No conditions. -/
namespace Go.Proofs.Ytdeohachoeopdaa

def fp1 : Fp := Fin.ofNat pN 1
def fp4 : Fp := Fin.ofNat pN 4
theorem fin_mul_val {r : Nat} (x y : Fin r) : x.val * y.val % r = (x * y).val := rfl
theorem fin_add_val {r : Nat} (x y : Fin r) : (x.val + y.val) % r = (x + y).val := rfl
section
variable {r : Nat} [NeZero r]
theorem add_neg_g (x y : Fin r) : x + (0 - y) = x - y := by grind
theorem fin_neg_val (x : Fin r) : (r - x.val) % r = (0 - x).val := by
  show _ = (r - x.val + (0 : Fin r).val) % r
  have e : (0 : Fin r).val = 0 := Nat.zero_mod r
  rw [e, Nat.add_zero]
theorem fin_of_val (n : Nat) : (Fin.ofNat r n).val = n % r := rfl
end

theorem inP_val (x : U6) : (inP x).val = x.val % pN := fin_of_val _
theorem inP_lt {x : U6} (h : x.val < pN) : (inP x).val = x.val := Nat.mod_eq_of_lt h
theorem outP_lt (x : Fp) : (outP x).val < pN := by rw [outP_val]; exact x.isLt
theorem in_out (x : Fp) : inP (outP x) = x := by
  apply Fin.ext
  rw [inP_val, outP_val]
  exact Nat.mod_eq_of_lt x.isLt
theorem outP_inj {x y : Fp} (h : outP x = outP y) : x = y := by rw [← in_out x, h, in_out]
section
variable {r : Nat} [NeZero r]
theorem mul6_g (a b c d e f : Fin r) : a * b * c * (d * e * f) = a * d * (b * e) * (c * f) := by grind
theorem pw_cube (x : Fin r) : ∀ n, pw (x * x * x) n = pw x n * pw x n * pw x n
  | 0 => by show (1 : Fin r) = 1 * 1 * 1; grind
  | n + 1 => by
    show pw (x * x * x) n * (x * x * x) = pw x n * x * (pw x n * x) * (pw x n * x)
    rw [pw_cube x n]
    grind
theorem pw_three (x : Fin r) (n : Nat) : pw (x * x * x) n = pw x (n + n + n) := by
  rw [pw_add_g, pw_add_g, pw_cube]
theorem neg_of_sum {a b : Fin r} (h : a + b = 0) : a = 0 - b := by grind
theorem zero_cube (b : Fin r) : (0 : Fin r) * 0 * 0 + b = b := by grind
end

theorem one_ne_p : (1 : Fp) ≠ 0 := by decide +kernel
theorem two_ne_p : (1 : Fp) + 1 ≠ 0 := by decide +kernel
theorem fp1_one : fp1 = 1 := by decide +kernel
theorem fp4_ne : fp4 ≠ 0 := by decide +kernel
theorem neg4 : (0 : Fp) - fp4 = Fin.ofNat pN (pN - 4) := by decide +kernel
theorem thirds : pN - 1 = (pN - 1) / 3 + (pN - 1) / 3 + (pN - 1) / 3 := by decide +kernel
theorem neg4_val : (Fin.ofNat pN (pN - 4)).val = pN - 4 := by decide +kernel
theorem neg4_pow : mpow pN (pN - 4) 384 ((pN - 1) / 3) ≠ 1 := by decide +kernel
theorem third_lt : (pN - 1) / 3 < 2 ^ 384 := by decide +kernel
theorem one_val_p : ((1 : Fp) : Nat) = 1 := by decide +kernel

theorem cube_ne (c : Fp) (hc : pw c ((pN - 1) / 3) ≠ 1) (h0 : c ≠ 0) (x : Fp) : x * x * x ≠ c := by
  intro h
  by_cases hx : x = 0
  · apply h0
    rw [← h, hx]
    exact mul_zero6
  · apply hc
    rw [← h, pw_three, ← thirds]
    exact fermat_p x hx
where mul_zero6 : (0 : Fp) * 0 * 0 = 0 := by decide +kernel

instance fldP : Fld Fp :=
  { (inferInstance : CRing (Fin pN)) with
    inv := ivP
    mul_inv := ivP_mul
    one_ne := one_ne_p }

section
variable {F : Type} [Fld F]
theorem line1 (e d x1 x2 y1 : F) (hd : d ≠ 0) : ((thr e d x1 x2 y1).1 + (x1 + x2)) * (d * d) = e * e := by
  have h := thr1 e d x1 x2 y1 hd
  unfold nX at h
  grind
theorem line2 (e d x1 x2 y1 : F) (hd : d ≠ 0) : ((thr e d x1 x2 y1).2 + y1) * d = e * (x1 - (thr e d x1 x2 y1).1) := by
  have h := Fld.mul_inv d hd
  unfold thr
  dsimp only
  grind
theorem opp_y {y1 y2 : F} (h : y1 * y1 = y2 * y2) (hn : ¬ y1 = 0 - y2) : y1 = y2 ∧ y1 ≠ 0 := by
  have h0 : y1 = y2 := by
    by_cases e : y1 = y2
    · exact e
    · have hd : y1 - y2 ≠ 0 := fun h => e (by grind)
      exfalso
      apply hn
      have : y1 + y2 = 0 := fcan hd (by grind)
      grind
  refine ⟨h0, fun e => hn ?_⟩
  rw [← h0, e]
  grind
theorem opp_none {y : F} (two : (1 : F) + 1 ≠ 0) (h : y = 0 - y) : y = 0 := fcan two (by grind)
end

end Go.Proofs.Ytdeohachoeopdaa

/- Points of the first curve: twice, negative, sums, walked. No conditions. -/
namespace Go.Proofs.Ytdeohachoeopdaa

theorem twice_fnd (x y z : Fp) : FnD Try.prog 66 [.v (.a [.ob (.p x), .ob (.p y), .ob (.p z)])] (.v (.a (ptIts (jtw (x, y, z))))) [] := by
  by_cases h : z = 0
  · have e : jtw (x, y, z) = (x, y, z) := if_pos h
    rw [e]
    exact fn_sound qeJ_ok Try.func66 (twA x y z) ⟨decide_eq_true h, trivial⟩
  · unfold jtw
    rw [if_neg h]
    exact fn_sound qeJ_ok Try.func66 (twB x y z) ⟨decide_eq_false h, trivial⟩
def twPSpec : FnSpec
  | [.v (.a [.ob (.p x), .ob (.p y), .ob (.p z)])] => some ([], .v (.a (ptIts (jtw (x, y, z)))), [])
  | _ => none
noncomputable def qsA : Env := qeJ.set (addT qeJ.fn 66 twPSpec)
theorem qsA_ok : EnvOk Try.prog qsA := env_add qeJ_ok 66 twPSpec (enters_of Try.func66 rfl rfl) fun args o r es h _ => by
  unfold twPSpec at h
  split at h
  · cases h; exact twice_fnd _ _ _
  · cases h
def ngPSpec : FnSpec
  | [.v (.a [.ob (.p x), .ob (.p y), .ob (.p z)])] => some ([], .v (.a (ptIts (jng (x, y, z)))), [])
  | _ => none
noncomputable def qsB : Env := qsA.set (addT qsA.fn 82 ngPSpec)
theorem qsB_ok : EnvOk Try.prog qsB := env_add qsA_ok 82 ngPSpec (enters_of Try.func82 rfl rfl) fun args o r es h _ => by
  unfold ngPSpec at h
  split at h
  · cases h; exact fn_sound qeJ_ok Try.func82 (ngP _ _ _) trivial
  · cases h
--@env qsB qsB_ok
theorem plA (x y z u v w : Fp) : fnRes qsB Try.f37 3000 [.v (.a [.ob (.p x),.ob (.p y),.ob (.p z)]),.v (.a [.ob (.p u),.ob (.p v),.ob (.p w)])] [true] [] [] = (some ([((decide (z = (0:Fp))) = true)],((.v (.a [.ob (.p u),.ob (.p v),.ob (.p w)])),[]))) := by kernel_rfl
theorem plB (x y z u v w : Fp) : fnRes qsB Try.f37 3000 [.v (.a [.ob (.p x),.ob (.p y),.ob (.p z)]),.v (.a [.ob (.p u),.ob (.p v),.ob (.p w)])] [false,true] [] [] = (some ([((decide (z = (0:Fp))) = false),((decide (w = (0:Fp))) = true)],((.v (.a [.ob (.p x),.ob (.p y),.ob (.p z)])),[]))) := by kernel_rfl
theorem plC (x y z u v w : Fp) : fnRes qsB Try.f37 3000 [.v (.a [.ob (.p x),.ob (.p y),.ob (.p z)]),.v (.a [.ob (.p u),.ob (.p v),.ob (.p w)])] [false,false,true,true] [] [] = (some ([((decide (z = (0:Fp))) = false),((decide (w = (0:Fp))) = false),((decide (((u * (z * z)) - (x * (w * w))) = (0:Fp))) = true),((decide ((((v * (z * z)) * z) - ((y * (w * w)) * w)) = (0:Fp))) = true)],((.v (.a [(.ob (.p (Prod.fst (jtw (x,(y,z)))))),(.ob (.p (Prod.fst (Prod.snd (jtw (x,(y,z))))))),(.ob (.p (Prod.snd (Prod.snd (jtw (x,(y,z)))))))])),[]))) := by kernel_rfl
theorem plD (x y z u v w : Fp) : fnRes qsB Try.f37 3000 [.v (.a [.ob (.p x),.ob (.p y),.ob (.p z)]),.v (.a [.ob (.p u),.ob (.p v),.ob (.p w)])] [false,false,true,false] [] [] = (some ([((decide (z = (0:Fp))) = false),((decide (w = (0:Fp))) = false),((decide (((u * (z * z)) - (x * (w * w))) = (0:Fp))) = true),((decide ((((v * (z * z)) * z) - ((y * (w * w)) * w)) = (0:Fp))) = false)],((.v (.a [.ob (.p x),.ob (.p y),(.ob (.p (0:Fp)))])),[]))) := by kernel_rfl
theorem plE (x y z u v w : Fp) : fnRes qsB Try.f37 3000 [.v (.a [.ob (.p x),.ob (.p y),.ob (.p z)]),.v (.a [.ob (.p u),.ob (.p v),.ob (.p w)])] [false,false,false] [] [] = (some ([((decide (z = (0:Fp))) = false),((decide (w = (0:Fp))) = false),((decide (((u * (z * z)) - (x * (w * w))) = (0:Fp))) = false)],((.v (.a [(.ob (.p (((((((v * (z * z)) * z) - ((y * (w * w)) * w)) * (((v * (z * z)) * z) - ((y * (w * w)) * w))) - ((((u * (z * z)) - (x * (w * w))) * ((u * (z * z)) - (x * (w * w)))) * ((u * (z * z)) - (x * (w * w))))) - ((x * (w * w)) * (((u * (z * z)) - (x * (w * w))) * ((u * (z * z)) - (x * (w * w)))))) - ((x * (w * w)) * (((u * (z * z)) - (x * (w * w))) * ((u * (z * z)) - (x * (w * w)))))))),(.ob (.p (((((v * (z * z)) * z) - ((y * (w * w)) * w)) * (((x * (w * w)) * (((u * (z * z)) - (x * (w * w))) * ((u * (z * z)) - (x * (w * w))))) - (((((((v * (z * z)) * z) - ((y * (w * w)) * w)) * (((v * (z * z)) * z) - ((y * (w * w)) * w))) - ((((u * (z * z)) - (x * (w * w))) * ((u * (z * z)) - (x * (w * w)))) * ((u * (z * z)) - (x * (w * w))))) - ((x * (w * w)) * (((u * (z * z)) - (x * (w * w))) * ((u * (z * z)) - (x * (w * w)))))) - ((x * (w * w)) * (((u * (z * z)) - (x * (w * w))) * ((u * (z * z)) - (x * (w * w)))))))) - (((y * (w * w)) * w) * ((((u * (z * z)) - (x * (w * w))) * ((u * (z * z)) - (x * (w * w)))) * ((u * (z * z)) - (x * (w * w)))))))),(.ob (.p ((((u * (z * z)) - (x * (w * w))) * z) * w)))])),[]))) := by kernel_rfl
end Go.Proofs.Ytdeohachoeopdaa

/- Points of the first curve: sums, contract. No conditions. -/
namespace Go.Proofs.Ytdeohachoeopdaa

theorem plusPt_fnd (x y z u v w : Fp) : FnD Try.prog 37 [.v (.a [.ob (.p x), .ob (.p y), .ob (.p z)]), .v (.a [.ob (.p u), .ob (.p v), .ob (.p w)])] (.v (.a (ptIts (jpl (x, y, z) (u, v, w))))) [] := by
  by_cases h : z = 0
  · have e : jpl (x, y, z) (u, v, w) = (u, v, w) := if_pos h
    rw [e]
    exact fn_sound qsB_ok Try.func37 (plA x y z u v w) ⟨decide_eq_true h, trivial⟩
  · by_cases h2 : w = 0
    · have e : jpl (x, y, z) (u, v, w) = (x, y, z) := (if_neg h).trans (if_pos h2)
      rw [e]
      exact fn_sound qsB_ok Try.func37 (plB x y z u v w) ⟨decide_eq_false h, decide_eq_true h2, trivial⟩
    · unfold jpl
      rw [if_neg h, if_neg h2]
      dsimp only
      by_cases h3 : u * (z * z) - x * (w * w) = 0
      · rw [if_pos h3]
        by_cases h4 : v * (z * z) * z - y * (w * w) * w = 0
        · rw [if_pos h4]
          exact fn_sound qsB_ok Try.func37 (plC x y z u v w) ⟨decide_eq_false h, decide_eq_false h2, decide_eq_true h3, decide_eq_true h4, trivial⟩
        · rw [if_neg h4]
          exact fn_sound qsB_ok Try.func37 (plD x y z u v w) ⟨decide_eq_false h, decide_eq_false h2, decide_eq_true h3, decide_eq_false h4, trivial⟩
      · rw [if_neg h3]
        exact fn_sound qsB_ok Try.func37 (plE x y z u v w) ⟨decide_eq_false h, decide_eq_false h2, decide_eq_false h3, trivial⟩

end Go.Proofs.Ytdeohachoeopdaa

/- Points of the first curve, in and out, walked. No conditions. -/
namespace Go.Proofs.Ytdeohachoeopdaa

def plPSpec : FnSpec
  | [.v (.a [.ob (.p x), .ob (.p y), .ob (.p z)]), .v (.a [.ob (.p u), .ob (.p v), .ob (.p w)])] => some ([], .v (.a (ptIts (jpl (x, y, z) (u, v, w)))), [])
  | _ => none
noncomputable def qsC : Env := qsB.set (addT qsB.fn 37 plPSpec)
theorem qsC_ok : EnvOk Try.prog qsC := env_add qsB_ok 37 plPSpec (enters_of Try.func37 rfl rfl) fun args o r es h _ => by
  unfold plPSpec at h
  split at h
  · cases h; exact plusPt_fnd _ _ _ _ _ _
  · cases h
noncomputable def inlAf (T : Nat → Option Func) (f : Nat) : Option Func := if f = 44 then some Try.f44 else T f
noncomputable def qsD : Env := { qsC with inl := inlAf qsC.inl }
theorem qsD_ok : EnvOk Try.prog qsD := by
  refine ⟨qsC_ok.ty, qsC_ok.mixed, qsC_ok.fn, qsC_ok.mu, fun f fn h => ?_, qsC_ok.ex, qsC_ok.inv⟩
  have h : inlAf qsC.inl f = some fn := h
  unfold inlAf at h
  split at h
  · rename_i hf; cases h; subst hf; exact ⟨Try.func44, enters_of Try.func44 rfl rfl⟩
  exact qsC_ok.inl f fn h
--@env qsD qsD_ok
theorem igA (x y : U6) (i : Bool) : fnRes qsD Try.f19 3000 [.v (.a [.ob (.fp x),.ob (.fp y),.bool i])] [true] [] [] = (some ([(i = true),((0:Int) ≤ (1:Int)),((1:Int) < (18446744073709551616:Int)),((0:Int) ≤ (1:Int)),((1:Int) < (18446744073709551616:Int))],((.v (.a [(.ob (.p (Fin.ofNat pN 1))),(.ob (.p (Fin.ofNat pN 1))),(.ob (.p (0:Fp)))])),[]))) := by kernel_rfl
theorem igB (x y : U6) (i : Bool) : fnRes qsD Try.f19 3000 [.v (.a [.ob (.fp x),.ob (.fp y),.bool i])] [false] [] [] = (some ([(i = false),((0:Int) ≤ (1:Int)),((1:Int) < (18446744073709551616:Int))],((.v (.a [(.ob (.p (inP x))),(.ob (.p (inP y))),(.ob (.p (Fin.ofNat pN 1)))])),[]))) := by kernel_rfl
theorem ogA (x y z : Fp) : fnRes qsD Try.f22 3000 [.v (.a [.ob (.p x),.ob (.p y),.ob (.p z)])] [true,true] [] [] = (some ([((decide (z = (0:Fp))) = true)],((.v (.a [(.ob (.fp (0:U6))),(.ob (.fp (0:U6))),(.lit true)])),[]))) := by kernel_rfl
theorem ogB (x y z : Fp) : fnRes qsD Try.f22 3000 [.v (.a [.ob (.p x),.ob (.p y),.ob (.p z)])] [false,false] [] [] = (some ([((decide (z = (0:Fp))) = false)],((.v (.a [(.ob (.fp (outP (x * ((ivP z) * (ivP z)))))),(.ob (.fp (outP ((y * ((ivP z) * (ivP z))) * (ivP z))))),(.lit false)])),[]))) := by kernel_rfl
theorem onA (x y : U6) (i : Bool) : fnRes qsD Try.f39 3000 [.v (.a [.ob (.fp x),.ob (.fp y),.bool i])] [true] [] [] = (some ([(i = true)],((.v (.c (.bool (ite (true = true) (Bool.and (decide (x = (0:U6))) (Bool.and (decide (y = (0:U6))) (i == true))) (Bool.not (Bool.and (decide (x = (0:U6))) (Bool.and (decide (y = (0:U6))) (i == true)))))))),[]))) := by kernel_rfl
theorem onB (x y : U6) (i : Bool) : fnRes qsD Try.f39 3000 [.v (.a [.ob (.fp x),.ob (.fp y),.bool i])] [false,true,true] [] [] = (some ([(i = false),((ite (true = true) (decide ((outP (inP x)) = x)) (Bool.not (decide ((outP (inP x)) = x)))) = true),((ite (true = true) (decide ((outP (inP y)) = y)) (Bool.not (decide ((outP (inP y)) = y)))) = true),((0:Int) ≤ (4:Int)),((4:Int) < (18446744073709551616:Int))],((.v (.c (.bool (ite (true = true) (decide (((inP y) * (inP y)) = ((((inP x) * (inP x)) * (inP x)) + (Fin.ofNat pN 4)))) (Bool.not (decide (((inP y) * (inP y)) = ((((inP x) * (inP x)) * (inP x)) + (Fin.ofNat pN 4))))))))),[]))) := by kernel_rfl
theorem onC (x y : U6) (i : Bool) : fnRes qsD Try.f39 3000 [.v (.a [.ob (.fp x),.ob (.fp y),.bool i])] [false,true,false] [] [] = (some ([(i = false),((ite (true = true) (decide ((outP (inP x)) = x)) (Bool.not (decide ((outP (inP x)) = x)))) = true),((ite (true = true) (decide ((outP (inP y)) = y)) (Bool.not (decide ((outP (inP y)) = y)))) = false)],((.v (.c (.lit false))),[]))) := by kernel_rfl
theorem onD (x y : U6) (i : Bool) : fnRes qsD Try.f39 3000 [.v (.a [.ob (.fp x),.ob (.fp y),.bool i])] [false,false,false] [] [] = (some ([(i = false),((ite (true = true) (decide ((outP (inP x)) = x)) (Bool.not (decide ((outP (inP x)) = x)))) = false)],((.v (.c (.lit false))),[]))) := by kernel_rfl
end Go.Proofs.Ytdeohachoeopdaa

/- Points of the first curve, in and out: contracts; the functions outside, walked. No conditions. -/
namespace Go.Proofs.Ytdeohachoeopdaa

/-- Which points may be. -/
def onG (a : G1D) : Bool :=
  if a.inf then decide (a.x = 0) && decide (a.y = 0)
  else decide (outP (inP a.x) = a.x) && (decide (outP (inP a.y) = a.y) && decide (inP a.y * inP a.y = inP a.x * inP a.x * inP a.x + fp4))
def inG (a : G1D) : Fp × Fp × Fp := if a.inf then (fp1, fp1, 0) else (inP a.x, inP a.y, fp1)
def outG (t : Fp × Fp × Fp) : G1D :=
  if t.2.2 = 0 then ⟨0, 0, true⟩ else ⟨outP (t.1 * (ivP t.2.2 * ivP t.2.2)), outP (t.2.1 * (ivP t.2.2 * ivP t.2.2) * ivP t.2.2), false⟩

theorem lit_third {x : Ctx} {i j : It} {b : Bool} {v : Value} (h : denS x (.v (.a [i, j, .lit b])) v) : denS x (.v (.a [i, j, .bool b])) v := by
  obtain ⟨cs, e, c1, r1, e1, h1, c2, r2, e2, h2, c3, r3, e3, ⟨d, h3⟩, h4⟩ := h
  refine ⟨cs, e, c1, r1, e1, h1, c2, r2, e2, h2, c3, r3, e3, ⟨d, ?_⟩, h4⟩
  cases d <;> exact h3
theorem third_lit {x : Ctx} {i j : It} {b : Bool} {v : Value} (h : denS x (.v (.a [i, j, .bool b])) v) : denS x (.v (.a [i, j, .lit b])) v := by
  obtain ⟨cs, e, c1, r1, e1, h1, c2, r2, e2, h2, c3, r3, e3, ⟨d, h3⟩, h4⟩ := h
  refine ⟨cs, e, c1, r1, e1, h1, c2, r2, e2, h2, c3, r3, e3, ⟨d, ?_⟩, h4⟩
  cases d <;> exact h3

theorem inG_fnd (x y : U6) (i : Bool) : FnD Try.prog 19 [.v (.a [.ob (.fp x), .ob (.fp y), .bool i])] (.v (.a (ptIts (inG ⟨x, y, i⟩)))) [] := by
  cases i with
  | true => exact fn_sound qsD_ok Try.func19 (igA x y true) ⟨rfl, by decide, by decide, by decide, by decide, trivial⟩
  | false => exact fn_sound qsD_ok Try.func19 (igB x y false) ⟨rfl, by decide, by decide, trivial⟩

theorem outG_fnd (x y z : Fp) : FnD Try.prog 22 [.v (.a [.ob (.p x), .ob (.p y), .ob (.p z)])] (.v (.a (outG (x, y, z)).its)) [] := by
  by_cases h : z = 0
  · have e : outG (x, y, z) = ⟨0, 0, true⟩ := if_pos h
    rw [e]
    exact (fn_sound qsD_ok Try.func22 (ogA x y z) ⟨decide_eq_true h, trivial⟩).conv (fun _ _ h => h) fun y v hd => lit_third hd
  · unfold outG
    rw [if_neg h]
    exact (fn_sound qsD_ok Try.func22 (ogB x y z) ⟨decide_eq_false h, trivial⟩).conv (fun _ _ h => h) fun y v hd => lit_third hd

theorem onG_fnd (x y : U6) (i : Bool) : FnD Try.prog 39 [.v (.a [.ob (.fp x), .ob (.fp y), .bool i])] (.v (.c (.bool (onG ⟨x, y, i⟩)))) [] := by
  cases i with
  | true =>
    have r := onA x y true
    rw [if_pos rfl] at r
    have e : onG ⟨x, y, true⟩ = ((decide (x = 0)) && ((decide (y = 0)) && (true == true))) := by
      show (decide (x = 0) && decide (y = 0)) = _
      simp
    rw [e]
    exact fn_sound qsD_ok Try.func39 r ⟨rfl, trivial⟩
  | false =>
    by_cases h1 : outP (inP x) = x
    · by_cases h2 : outP (inP y) = y
      · have r := onB x y false
        rw [if_pos rfl, if_pos rfl, if_pos rfl] at r
        have e : onG ⟨x, y, false⟩ = decide (inP y * inP y = inP x * inP x * inP x + Fin.ofNat pN 4) := by
          show (decide (outP (inP x) = x) && (decide (outP (inP y) = y) && decide (inP y * inP y = inP x * inP x * inP x + fp4))) = _
          rw [decide_eq_true h1, decide_eq_true h2]; rfl
        rw [e]
        exact fn_sound qsD_ok Try.func39 r ⟨rfl, decide_eq_true h1, decide_eq_true h2, by decide, by decide, trivial⟩
      · have r := onC x y false
        rw [if_pos rfl, if_pos rfl] at r
        have e : onG ⟨x, y, false⟩ = false := by
          show (decide (outP (inP x) = x) && (decide (outP (inP y) = y) && decide (inP y * inP y = inP x * inP x * inP x + fp4))) = _
          rw [decide_eq_false h2, Bool.false_and, Bool.and_false]
        rw [e]
        exact (fn_sound qsD_ok Try.func39 r ⟨rfl, decide_eq_true h1, decide_eq_false h2, trivial⟩).conv (fun _ _ h => h) fun y v hd => lit_bool rfl hd
    · have r := onD x y false
      rw [if_pos rfl] at r
      have e : onG ⟨x, y, false⟩ = false := by
        show (decide (outP (inP x) = x) && (decide (outP (inP y) = y) && decide (inP y * inP y = inP x * inP x * inP x + fp4))) = _
        rw [decide_eq_false h1, Bool.false_and]
      rw [e]
      exact (fn_sound qsD_ok Try.func39 r ⟨rfl, decide_eq_false h1, trivial⟩).conv (fun _ _ h => h) fun y v hd => lit_bool rfl hd
def inGSpec : FnSpec
  | [.v (.a [.ob (.fp x), .ob (.fp y), .bool i])] => some ([], .v (.a (ptIts (inG ⟨x, y, i⟩))), [])
  | _ => none
noncomputable def qsE : Env := qsD.set (addT qsD.fn 19 inGSpec)
theorem qsE_ok : EnvOk Try.prog qsE := env_add qsD_ok 19 inGSpec (enters_of Try.func19 rfl rfl) fun args o r es h _ => by
  unfold inGSpec at h
  split at h
  · cases h; exact inG_fnd _ _ _
  · cases h
def outGSpec : FnSpec
  | [.v (.a [.ob (.p x), .ob (.p y), .ob (.p z)])] => some ([], .v (.a (outG (x, y, z)).its), [])
  | _ => none
noncomputable def qsF : Env := qsE.set (addT qsE.fn 22 outGSpec)
theorem qsF_ok : EnvOk Try.prog qsF := env_add qsE_ok 22 outGSpec (enters_of Try.func22 rfl rfl) fun args o r es h _ => by
  unfold outGSpec at h
  split at h
  · cases h; exact outG_fnd _ _ _
  · cases h
def onGSpec : FnSpec
  | [.v (.a [.ob (.fp x), .ob (.fp y), .bool i])] => some ([], .v (.c (.bool (onG ⟨x, y, i⟩))), [])
  | _ => none
noncomputable def qsG : Env := qsF.set (addT qsF.fn 39 onGSpec)
theorem qsG_ok : EnvOk Try.prog qsG := env_add qsF_ok 39 onGSpec (enters_of Try.func39 rfl rfl) fun args o r es h _ => by
  unfold onGSpec at h
  split at h
  · cases h; exact onG_fnd _ _ _
  · cases h
--@env qsG qsG_ok
theorem riR (x y : U6) (i : Bool) : fnRes qsG Try.f17 3000 [.v (.a [.ob (.fp x),.ob (.fp y),.bool i])] [] [] [] = (some ([],((.v (.c (.bool (onG (G1D.mk x y i))))),[]))) := by kernel_rfl
theorem geR  : fnRes qsG Try.f8 3000 [] [] [] [] = (some ([((0:Int) ≤ (18103045581585958587:Int)),((18103045581585958587:Int) < (18446744073709551616:Int)),((0:Int) ≤ (7806400890582735599:Int)),((7806400890582735599:Int) < (18446744073709551616:Int)),((0:Int) ≤ (11623291730934869080:Int)),((11623291730934869080:Int) < (18446744073709551616:Int)),((0:Int) ≤ (14080658508445169925:Int)),((14080658508445169925:Int) < (18446744073709551616:Int)),((0:Int) ≤ (2780237799254240271:Int)),((2780237799254240271:Int) < (18446744073709551616:Int)),((0:Int) ≤ (1725392847304644500:Int)),((1725392847304644500:Int) < (18446744073709551616:Int)),((0:Int) ≤ (912580534683953121:Int)),((912580534683953121:Int) < (18446744073709551616:Int)),((0:Int) ≤ (15005087156090211044:Int)),((15005087156090211044:Int) < (18446744073709551616:Int)),((0:Int) ≤ (61670280795567085:Int)),((61670280795567085:Int) < (18446744073709551616:Int)),((0:Int) ≤ (18227722000993880822:Int)),((18227722000993880822:Int) < (18446744073709551616:Int)),((0:Int) ≤ (11573741888802228964:Int)),((11573741888802228964:Int) < (18446744073709551616:Int)),((0:Int) ≤ (627113611842199793:Int)),((627113611842199793:Int) < (18446744073709551616:Int))],((.v (.a [(.ob (.fp (Fin.ofNat B6 3685416753713387016781088315183077757961620795782546409894578378688607592378376318836054947676345821548104185464507))),(.ob (.fp (Fin.ofNat B6 1339506544944476473020471379941921221584933875938349620426543736416511423956333506472724655353366534992391756441569))),(.lit false)])),[]))) := by kernel_rfl
end Go.Proofs.Ytdeohachoeopdaa

/- The reference's functions on points of the first curve: contracts. No conditions. -/
namespace Go.Proofs.Ytdeohachoeopdaa

def genX : U6 := Fin.ofNat B6 3685416753713387016781088315183077757961620795782546409894578378688607592378376318836054947676345821548104185464507
def genY : U6 := Fin.ofNat B6 1339506544944476473020471379941921221584933875938349620426543736416511423956333506472724655353366534992391756441569
def genG : G1D := ⟨genX, genY, false⟩

theorem gen_fnd : FnD Try.prog 8 [] (.v (.a genG.its)) [] :=
  (fn_sound qsG_ok Try.func8 geR (by simp [AllP])).conv (fun _ _ h => h) fun y v hd => lit_third hd
end Go.Proofs.Ytdeohachoeopdaa

/- Points of the first curve outside, and the reference's: sums, walked. No conditions. -/
namespace Go.Proofs.Ytdeohachoeopdaa

def rightSpec1 : FnSpec
  | [.v (.a [.ob (.fp x), .ob (.fp y), .bool i])] => some ([], .v (.c (.bool (onG ⟨x, y, i⟩))), [])
  | _ => none
noncomputable def qtA : Env := qsG.set (addT qsG.fn 17 rightSpec1)
theorem qtA_ok : EnvOk Try.prog qtA := env_add qsG_ok 17 rightSpec1 (enters_of Try.func17 rfl rfl) fun args o r es h _ => by
  unfold rightSpec1 at h
  split at h
  · cases h; exact fn_sound qsG_ok Try.func17 (riR _ _ _) trivial
  · cases h
def genSpec1 : FnSpec
  | [] => some ([], .v (.a genG.its), [])
  | _ => none
noncomputable def qtC : Env := qtA.set (addT qtA.fn 8 genSpec1)
theorem qtC_ok : EnvOk Try.prog qtC := env_add qtA_ok 8 genSpec1 (enters_of Try.func8 rfl rfl) fun args o r es h _ => by
  unfold genSpec1 at h
  split at h
  · cases h; exact gen_fnd
  · cases h
noncomputable def qtG : Env := qtC
theorem qtG_ok : EnvOk Try.prog qtG := qtC_ok
theorem adA (a b c d : U6) (i j : Bool) : fnRes qtG Try.f15 3000 [.v (.a [.ob (.fp a),.ob (.fp b),.bool i]),.v (.a [.ob (.fp c),.ob (.fp d),.bool j])] [true,true] [] [] = (some ([((Bool.not (onG (G1D.mk a b i))) = true)],((.t [(.a [(.ob (.fp (0:U6))),(.ob (.fp (0:U6))),(.lit false)]),(.c (.int .i64 (30:Int)))]),[]))) := by kernel_rfl
theorem adB (a b c d : U6) (i j : Bool) : fnRes qtG Try.f15 3000 [.v (.a [.ob (.fp a),.ob (.fp b),.bool i]),.v (.a [.ob (.fp c),.ob (.fp d),.bool j])] [false,true] [] [] = (some ([((Bool.not (onG (G1D.mk a b i))) = false),((Bool.not (onG (G1D.mk c d j))) = true)],((.t [(.a [(.ob (.fp (0:U6))),(.ob (.fp (0:U6))),(.lit false)]),(.c (.int .i64 (30:Int)))]),[]))) := by kernel_rfl
theorem adC (a b c d : U6) (i j : Bool) : fnRes qtG Try.f15 3000 [.v (.a [.ob (.fp a),.ob (.fp b),.bool i]),.v (.a [.ob (.fp c),.ob (.fp d),.bool j])] [false,false] [] [] = (some ([((Bool.not (onG (G1D.mk a b i))) = false),((Bool.not (onG (G1D.mk c d j))) = false)],((.t [(.a [(.ob (.fp (G1D.x (outG (jpl (inG (G1D.mk a b i)) (inG (G1D.mk c d j))))))),(.ob (.fp (G1D.y (outG (jpl (inG (G1D.mk a b i)) (inG (G1D.mk c d j))))))),(.bool (G1D.inf (outG (jpl (inG (G1D.mk a b i)) (inG (G1D.mk c d j))))))]),(.c (.int .i64 (0:Int)))]),[]))) := by kernel_rfl
end Go.Proofs.Ytdeohachoeopdaa

/- Sums and negatives of points of the first curve outside: contracts. No conditions. -/
namespace Go.Proofs.Ytdeohachoeopdaa

def addG (a b : G1D) : G1D := outG (jpl (inG a) (inG b))
def negG (a : G1D) : G1D := outG (jng (inG a))
/-- What Add and Neg tell. -/
def adR (a b : G1D) : G1D × Int := if onG a && onG b then (addG a b, 0) else (g10, 30)
def neR (a : G1D) : G1D × Int := if onG a then (negG a, 0) else (g10, 30)

theorem lit_third_t {x : Ctx} {i j k : It} {b : Bool} {v : Value} (h : denS x (.t [.a [i, j, .lit b], .c k]) v) : denS x (.t [.a [i, j, .bool b], .c k]) v := by
  obtain ⟨vs, e, h1⟩ := h
  cases h1 with | cons d1 ds =>
  exact ⟨_, e, .cons (lit_third d1) ds⟩

theorem add_fnd1 (a b c d : U6) (i j : Bool) : FnD Try.prog 15 [.v (.a [.ob (.fp a), .ob (.fp b), .bool i]), .v (.a [.ob (.fp c), .ob (.fp d), .bool j])] (.t [.a (adR ⟨a, b, i⟩ ⟨c, d, j⟩).1.its, .c (.int .i64 (adR ⟨a, b, i⟩ ⟨c, d, j⟩).2)]) [] := by
  by_cases h1 : onG ⟨a, b, i⟩ = true
  · by_cases h2 : onG ⟨c, d, j⟩ = true
    · have e : adR ⟨a, b, i⟩ ⟨c, d, j⟩ = (addG ⟨a, b, i⟩ ⟨c, d, j⟩, 0) := by unfold adR; rw [h1, h2]; rfl
      rw [e]
      exact fn_sound qtG_ok Try.func15 (adC a b c d i j) ⟨by rw [h1]; rfl, by rw [h2]; rfl, trivial⟩
    · have h2 : onG ⟨c, d, j⟩ = false := Bool.eq_false_iff.2 h2
      have e : adR ⟨a, b, i⟩ ⟨c, d, j⟩ = (g10, 30) := by unfold adR; rw [h1, h2]; rfl
      rw [e]
      exact (fn_sound qtG_ok Try.func15 (adB a b c d i j) ⟨by rw [h1]; rfl, by rw [h2]; rfl, trivial⟩).conv (fun _ _ h => h) fun y v hd => lit_third_t hd
  · have h1 : onG ⟨a, b, i⟩ = false := Bool.eq_false_iff.2 h1
    have e : adR ⟨a, b, i⟩ ⟨c, d, j⟩ = (g10, 30) := by unfold adR; rw [h1]; rfl
    rw [e]
    exact (fn_sound qtG_ok Try.func15 (adA a b c d i j) ⟨by rw [h1]; rfl, trivial⟩).conv (fun _ _ h => h) fun y v hd => lit_third_t hd

end Go.Proofs.Ytdeohachoeopdaa

/- A table of multiples of a point, and one of each row added up, walked. No conditions. -/
namespace Go.Proofs.Ytdeohachoeopdaa
section
variable {w0 : World} {F0 : Nat → Prop} {K : Kp} {ac : List Act} {Q : Exit → Act → World → Prop} {cX : Ctx} {aX : Act}

--@env qtG qtG_ok
noncomputable def mv_k : List KI := (run qtG false 3000 ((fun (a : Fp × Fp × Fp) => (⟨[.code (bodyOf Try.f18)], .normal, initSt Try.f18.ntmps [.v (.a [.ob (.p a.1), .ob (.p a.2.1), .ob (.p a.2.2)])]⟩ : Cfg)) default) []).cfg.k
theorem mv_hk (a : Fp × Fp × Fp) : (run qtG false 3000 ((⟨[.code (bodyOf Try.f18)], .normal, initSt Try.f18.ntmps [.v (.a [.ob (.p a.1), .ob (.p a.2.1), .ob (.p a.2.2)])]⟩ : Cfg)) []).cfg.k = mv_k := by kernel_rfl
theorem mv (a : Fp × Fp × Fp) (ho : AllP []) (hs : Sim w0 F0 K ac (initSt Try.f18.ntmps [.v (.a [.ob (.p a.1),.ob (.p a.2.1),.ob (.p a.2.2)])]) cX aX) (hK : ∀ ac cY aY,Sim w0 F0 K ac (mkSt 30 [1,3,6] [.pt 16 0,(.v (.c (.val (Value.slice Option.none 0 0)))),.ii (0:Int)] [16] [(some (.fl [(.ob (.p (Prod.fst a))),(.ob (.p (Prod.fst (Prod.snd a)))),(.ob (.p (Prod.snd (Prod.snd a))))]))] 80 [] []) cY aY → Wq Try.prog Q (mv_k) ac Exit.normal aY cY.w) : Wq Try.prog Q ([.code (bodyOf Try.f18)]) ac .normal aX cX.w :=
  run_at2 (o := ⟨_, _, _, _, _, _, _⟩) qtG_ok (by kernel_rfl) (mv_hk a) ho hs hK
noncomputable def mvS (a : Fp × Fp × Fp) (R : List (List (Fp × Fp × Fp))) (n : Nat) (i:Int) : St := mkSt 30 [1,3,6] [.pt 16 0,.v (.c (.slc 17 0 n 288)),.v (.c (.int .i64 i))] [16,17] [(some (.fl [(.ob (.p (Prod.fst a))),(.ob (.p (Prod.fst (Prod.snd a)))),(.ob (.p (Prod.snd (Prod.snd a))))])),some (.sq (.ptt R))] 80 [] []
noncomputable def mvA_k : List KI := (run qtG false 3000 ((fun (a : Fp × Fp × Fp) (R : List (List (Fp × Fp × Fp))) (n : Nat) (i : Int) => (⟨lpIn mv_k, .normal, mvS a R n i⟩ : Cfg)) default default default default) [true]).cfg.k
theorem mvA_hk (a : Fp × Fp × Fp) (R : List (List (Fp × Fp × Fp))) (n : Nat) (i : Int) : (run qtG false 3000 ((⟨lpIn mv_k, .normal, mvS a R n i⟩ : Cfg)) [true]).cfg.k = mvA_k := by kernel_rfl
theorem mvA (a : Fp × Fp × Fp) (R : List (List (Fp × Fp × Fp))) (n : Nat) (i:Int) (ho : AllP [((decide (i < (64:Int))) = true)]) (hs : Sim w0 F0 K ac (mvS a R n i) cX aX) (hK : ∀ ac cY aY,Sim w0 F0 K ac (mkSt 30 [1,3,4,5,6] [.pt 16 0,(.v (.c (.slc 17 0 n 288))),.pt 96 0,.ii (1:Int),.ii i] [16,17,96] [(some (.fl [(.ob (.p (Prod.fst a))),(.ob (.p (Prod.fst (Prod.snd a)))),(.ob (.p (Prod.snd (Prod.snd a))))])),(some (.sq (Sq.ptt R))),(some (.fl [(.ob (.p (0:Fp))),(.ob (.p (0:Fp))),(.ob (.p (0:Fp))),(.ob (.p (0:Fp))),(.ob (.p (0:Fp))),(.ob (.p (0:Fp))),(.ob (.p (0:Fp))),(.ob (.p (0:Fp))),(.ob (.p (0:Fp))),(.ob (.p (0:Fp))),(.ob (.p (0:Fp))),(.ob (.p (0:Fp))),(.ob (.p (0:Fp))),(.ob (.p (0:Fp))),(.ob (.p (0:Fp))),(.ob (.p (0:Fp))),(.ob (.p (0:Fp))),(.ob (.p (0:Fp))),(.ob (.p (0:Fp))),(.ob (.p (0:Fp))),(.ob (.p (0:Fp))),(.ob (.p (0:Fp))),(.ob (.p (0:Fp))),(.ob (.p (0:Fp))),(.ob (.p (0:Fp))),(.ob (.p (0:Fp))),(.ob (.p (0:Fp))),(.ob (.p (0:Fp))),(.ob (.p (0:Fp))),(.ob (.p (0:Fp))),(.ob (.p (0:Fp))),(.ob (.p (0:Fp))),(.ob (.p (0:Fp))),(.ob (.p (0:Fp))),(.ob (.p (0:Fp))),(.ob (.p (0:Fp))),(.ob (.p (0:Fp))),(.ob (.p (0:Fp))),(.ob (.p (0:Fp))),(.ob (.p (0:Fp))),(.ob (.p (0:Fp))),(.ob (.p (0:Fp))),(.ob (.p (0:Fp))),(.ob (.p (0:Fp))),(.ob (.p (0:Fp))),(.ob (.p (0:Fp))),(.ob (.p (0:Fp))),(.ob (.p (0:Fp)))]))] 128 [] []) cY aY → Wq Try.prog Q (mvA_k) ac Exit.normal aY cY.w) : Wq Try.prog Q (lpIn mv_k) ac .normal aX cX.w :=
  run_at2 (o := ⟨_, _, _, _, _, _, _⟩) qtG_ok (by kernel_rfl) (mvA_hk a R n i) ho hs hK
theorem mvX_end (a : Fp × Fp × Fp) (R : List (List (Fp × Fp × Fp))) (n : Nat) (i:Int) : runEnd qtG Try.f18 false 3000 (⟨lpIn mv_k,.normal,mvS a R n i⟩) [false] [] [17] = (some ([((decide (i < (64:Int))) = false),(n = (List.length R))],((.v (.c (.sl (Sq.ptt R)))),[]))) := by kernel_rfl
noncomputable def mvT (a : Fp × Fp × Fp) (R : List (List (Fp × Fp × Fp))) (n : Nat) (i:Int) (L : List (Fp × Fp × Fp)) (d:Int) : St := mkSt 30 [1,3,4,5,6] [.pt 16 0,(.v (.c (.slc 17 0 n 288))),.pt 96 0,.v (.c (.int .i64 d)),.ii i] [16,17,96] [(some (.fl [(.ob (.p (Prod.fst a))),(.ob (.p (Prod.fst (Prod.snd a)))),(.ob (.p (Prod.snd (Prod.snd a))))])),(some (.sq (Sq.ptt R))),some (.sq (.pt L))] 128 [] []
theorem mvB_hk (a : Fp × Fp × Fp) (R : List (List (Fp × Fp × Fp))) (n : Nat) (i : Int) (L : List (Fp × Fp × Fp)) (d : Int) : (run qtG false 3000 ((⟨lpIn mvA_k, .normal, mvT a R n i L d⟩ : Cfg)) [true]).cfg.k = lpBk mvA_k := by kernel_rfl
theorem mvB (a : Fp × Fp × Fp) (R : List (List (Fp × Fp × Fp))) (n : Nat) (i:Int) (L : List (Fp × Fp × Fp)) (d:Int) (ho : AllP [((decide (d < (16:Int))) = true),((0:Int) ≤ (IntKind.wrap .i64 (d - (1:Int)))),((IntKind.wrap .i64 (d - (1:Int))) < (16:Int)),(0 = 0),(((IntKind.wrap .i64 (d - (1:Int)))).toNat < (List.length L)),((0:Int) ≤ d),(d < (16:Int)),(0 = 0),((d).toNat < (List.length L))]) (hs : Sim w0 F0 K ac (mvT a R n i L d) cX aX) (hK : ∀ ac cY aY,Sim w0 F0 K ac (mkSt 30 [1,3,4,5,6] [.pt 16 0,(.v (.c (.slc 17 0 n 288))),.pt 96 0,(.ii (IntKind.wrap .i64 (d + (1:Int)))),.ii i] [16,17,96] [(some (.fl [(.ob (.p (Prod.fst a))),(.ob (.p (Prod.fst (Prod.snd a)))),(.ob (.p (Prod.snd (Prod.snd a))))])),(some (.sq (Sq.ptt R))),(some (.sq (Sq.pt (List.set L (d).toNat (jpl (List.getD L ((IntKind.wrap .i64 (d - (1:Int)))).toNat pt0) a)))))] 352 [] []) cY aY → Wq Try.prog Q (lpBk mvA_k) ac Exit.normal aY cY.w) : Wq Try.prog Q (lpIn mvA_k) ac .normal aX cX.w :=
  run_at2 (o := ⟨_, _, _, _, _, _, _⟩) qtG_ok (by kernel_rfl) (mvB_hk a R n i L d) ho hs hK
noncomputable def mvU (a : Fp × Fp × Fp) (R : List (List (Fp × Fp × Fp))) (n : Nat) (i:Int) (L : List (Fp × Fp × Fp)) (d:Int) : St := mkSt 30 [1,3,4,5,6] [.pt 16 0,(.v (.c (.slc 17 0 n 288))),.pt 96 0,.v (.c (.int .i64 d)),.ii i] [16,17,96] [(some (.fl [(.ob (.p (Prod.fst a))),(.ob (.p (Prod.fst (Prod.snd a)))),(.ob (.p (Prod.snd (Prod.snd a))))])),(some (.sq (Sq.ptt R))),some (.sq (.ptt [L]))] 128 [] []
noncomputable def mvC_k : List KI := (run qtG false 19 ((fun (a : Fp × Fp × Fp) (R : List (List (Fp × Fp × Fp))) (n : Nat) (i : Int) (L : List (Fp × Fp × Fp)) (d : Int) => (⟨lpIn mvA_k, .normal, mvU a R n i L d⟩ : Cfg)) default default default default default default) [false]).cfg.k
theorem mvC_hk (a : Fp × Fp × Fp) (R : List (List (Fp × Fp × Fp))) (n : Nat) (i : Int) (L : List (Fp × Fp × Fp)) (d : Int) : (run qtG false 19 ((⟨lpIn mvA_k, .normal, mvU a R n i L d⟩ : Cfg)) [false]).cfg.k = mvC_k := by kernel_rfl
theorem mvC (a : Fp × Fp × Fp) (R : List (List (Fp × Fp × Fp))) (n : Nat) (i:Int) (L : List (Fp × Fp × Fp)) (d:Int) (ho : AllP [((decide (d < (16:Int))) = false),(0 < 1),((((List.length R) + 1) * 2304) ≤ 140737488355328),(((List.length R) + 1) ≤ maxLen),(n = (List.length R)),(1 = 1)]) (hs : Sim w0 F0 K ac (mvU a R n i L d) cX aX) (hK : ∀ ac cY aY,Sim w0 F0 K ac (mkSt 30 [1,3,4,6] [.pt 16 0,(.v (.c (.slc 17 0 ((List.length R) + 1) 288))),.pt 96 0,.ii i] [16,17,96] [(some (.fl [(.ob (.p (Prod.fst a))),(.ob (.p (Prod.fst (Prod.snd a)))),(.ob (.p (Prod.snd (Prod.snd a))))])),(some (.sq (Sq.ptt (R ++ [[(List.getD L 0 pt0),(List.getD L 1 pt0),(List.getD L 2 pt0),(List.getD L 3 pt0),(List.getD L 4 pt0),(List.getD L 5 pt0),(List.getD L 6 pt0),(List.getD L 7 pt0),(List.getD L 8 pt0),(List.getD L 9 pt0),(List.getD L 10 pt0),(List.getD L 11 pt0),(List.getD L 12 pt0),(List.getD L 13 pt0),(List.getD L 14 pt0),(List.getD L 15 pt0)]])))),(some (.sq (Sq.ptt [L])))] 240 [] []) cY aY → Wq Try.prog Q (mvC_k) ac Exit.normal aY cY.w) : Wq Try.prog Q (lpIn mvA_k) ac .normal aX cX.w :=
  run_at2 (o := ⟨_, _, _, _, _, _, _⟩) qtG_ok (by kernel_rfl) (mvC_hk a R n i L d) ho hs hK
noncomputable def mvV (a : Fp × Fp × Fp) (R : List (List (Fp × Fp × Fp))) (n : Nat) (i:Int) (L : List (Fp × Fp × Fp)) (d:Int) : St := mkSt 30 [1,3,4,6] [.pt 16 0,(.v (.c (.slc 17 0 ((List.length R) + 1) 288))),.pt 96 0,.ii i] [16,17,96] [(some (.fl [(.ob (.p (Prod.fst a))),(.ob (.p (Prod.fst (Prod.snd a)))),(.ob (.p (Prod.snd (Prod.snd a))))])),(some (.sq (Sq.ptt (R ++ [[(List.getD L 0 pt0),(List.getD L 1 pt0),(List.getD L 2 pt0),(List.getD L 3 pt0),(List.getD L 4 pt0),(List.getD L 5 pt0),(List.getD L 6 pt0),(List.getD L 7 pt0),(List.getD L 8 pt0),(List.getD L 9 pt0),(List.getD L 10 pt0),(List.getD L 11 pt0),(List.getD L 12 pt0),(List.getD L 13 pt0),(List.getD L 14 pt0),(List.getD L 15 pt0)]])))),some (.sq (.pt L))] 240 [] []
theorem mvD_hk (a : Fp × Fp × Fp) (R : List (List (Fp × Fp × Fp))) (n : Nat) (i : Int) (L : List (Fp × Fp × Fp)) (d : Int) : (run qtG false 3000 ((⟨mvC_k, .normal, mvV a R n i L d⟩ : Cfg)) []).cfg.k = lpBk mv_k := by kernel_rfl
theorem mvD (a : Fp × Fp × Fp) (R : List (List (Fp × Fp × Fp))) (n : Nat) (i:Int) (L : List (Fp × Fp × Fp)) (d:Int) (ho : AllP [((0:Int) ≤ (15:Int)),((15:Int) < (16:Int)),(0 = 0),(15 < (List.length L))]) (hs : Sim w0 F0 K ac (mvV a R n i L d) cX aX) (hK : ∀ ac cY aY,Sim w0 F0 K ac (mkSt 30 [1,3,6] [.pt 16 0,(.v (.c (.slc 17 0 ((List.length R) + 1) 288))),(.ii (IntKind.wrap .i64 (i + (1:Int))))] [16,17] [(some (.fl [(.ob (.p (Prod.fst (jpl (List.getD L 15 pt0) a)))),(.ob (.p (Prod.fst (Prod.snd (jpl (List.getD L 15 pt0) a))))),(.ob (.p (Prod.snd (Prod.snd (jpl (List.getD L 15 pt0) a)))))])),(some (.sq (Sq.ptt (R ++ [[(List.getD L 0 pt0),(List.getD L 1 pt0),(List.getD L 2 pt0),(List.getD L 3 pt0),(List.getD L 4 pt0),(List.getD L 5 pt0),(List.getD L 6 pt0),(List.getD L 7 pt0),(List.getD L 8 pt0),(List.getD L 9 pt0),(List.getD L 10 pt0),(List.getD L 11 pt0),(List.getD L 12 pt0),(List.getD L 13 pt0),(List.getD L 14 pt0),(List.getD L 15 pt0)]]))))] 352 [] []) cY aY → Wq Try.prog Q (lpBk mv_k) ac Exit.normal aY cY.w) : Wq Try.prog Q (mvC_k) ac .normal aX cX.w :=
  run_at2 (o := ⟨_, _, _, _, _, _, _⟩) qtG_ok (by kernel_rfl) (mvD_hk a R n i L d) ho hs hK
end
end Go.Proofs.Ytdeohachoeopdaa

/- The first curve is a group: points inside and outside; the plain law. No conditions. -/
namespace Go.Proofs.Ytdeohachoeopdaa

theorem no2_p (x : Fp) : x * x * x + fp4 ≠ 0 := by
  intro h
  have h := neg_of_sum h
  rw [neg4] at h
  refine cube_ne _ (fun e => ?_) (fun e => ?_) x h
  · have := congrArg Fin.val e
    rw [pw_mpow _ 384 _ third_lt, neg4_val, one_val_p] at this
    exact neg4_pow this
  · have := congrArg Fin.val e
    rw [neg4_val] at this
    revert this
    decide +kernel

theorem cv1 : Cv fp4 := ⟨two_ne_p, no2_p⟩

/-- A point outside, as a point; and back. -/
def pG (a : G1D) : Pt Fp := if a.inf then none else some (inP a.x, inP a.y)
def gP : Pt Fp → G1D
  | none => ⟨0, 0, true⟩
  | some p => ⟨outP p.1, outP p.2, false⟩

theorem pG_gP : ∀ P : Pt Fp, pG (gP P) = P
  | none => rfl
  | some p => by
    show some (inP (outP p.1), inP (outP p.2)) = some p
    rw [in_out, in_out]

theorem onG_is {a : G1D} (h : onG a = true) : gP (pG a) = a ∧ OnC fp4 (pG a) := by
  obtain ⟨x, y, i⟩ := a
  cases i with
  | true =>
    have h : (decide (x = 0) && decide (y = 0)) = true := h
    rw [Bool.and_eq_true, decide_eq_true_eq, decide_eq_true_eq] at h
    obtain ⟨rfl, rfl⟩ := h
    exact ⟨rfl, True.intro⟩
  | false =>
    have h : (decide (outP (inP x) = x) && (decide (outP (inP y) = y) && decide (inP y * inP y = inP x * inP x * inP x + fp4))) = true := h
    rw [Bool.and_eq_true, Bool.and_eq_true, decide_eq_true_eq, decide_eq_true_eq, decide_eq_true_eq] at h
    obtain ⟨h1, h2, h3⟩ := h
    refine ⟨?_, h3⟩
    show (⟨outP (inP x), outP (inP y), false⟩ : G1D) = ⟨x, y, false⟩
    rw [h1, h2]

theorem onG_gP : ∀ {P : Pt Fp}, OnC fp4 P → onG (gP P) = true
  | none, _ => by
    show (decide ((0 : U6) = 0) && decide ((0 : U6) = 0)) = true
    rw [decide_eq_true rfl]; rfl
  | some p, h => by
    have h : p.2 * p.2 = p.1 * p.1 * p.1 + fp4 := h
    show (decide (outP (inP (outP p.1)) = outP p.1) && (decide (outP (inP (outP p.2)) = outP p.2) && decide (inP (outP p.2) * inP (outP p.2) = inP (outP p.1) * inP (outP p.1) * inP (outP p.1) + fp4))) = true
    rw [in_out, in_out, decide_eq_true rfl, decide_eq_true rfl, decide_eq_true h]
    rfl

theorem one_sq : (1 : Fp) * 1 = 1 := by decide +kernel
theorem inG_jc (a : G1D) : Jc (pG a) (inG a) := by
  obtain ⟨x, y, i⟩ := a
  cases i with
  | true => exact (rfl : (0 : Fp) = 0)
  | false =>
    show Jc (some (inP x, inP y)) (inP x, inP y, fp1)
    rw [fp1_one]
    refine ⟨one_ne_p, ?_, ?_⟩
    · show inP x = inP x * (1 * 1)
      rw [one_sq]
      exact (mul_one_g _).symm
    · show inP y = inP y * (1 * 1 * 1)
      rw [one_sq, one_sq]
      exact (mul_one_g _).symm

theorem outG_jc {P : Pt Fp} {t : Fp × Fp × Fp} (h : Jc P t) : outG t = gP P := by
  rw [← jpt_of P t h]
  unfold outG jpt
  by_cases hz : t.2.2 = 0
  · rw [if_pos hz, if_pos hz]; rfl
  · rw [if_neg hz, if_neg hz]; rfl

theorem addG_is (a b : G1D) : addG a b = gP (gadd (pG a) (pG b)) := outG_jc (jpl_ok two_ne_p _ _ _ _ (inG_jc a) (inG_jc b))
theorem negG_is (a : G1D) : negG a = gP (gneg (pG a)) := outG_jc (jng_ok _ _ (inG_jc a))

theorem pG_add (a b : G1D) : pG (addG a b) = gadd (pG a) (pG b) := by rw [addG_is, pG_gP]
theorem pG_neg (a : G1D) : pG (negG a) = gneg (pG a) := by rw [negG_is, pG_gP]
theorem on_add {a b : G1D} (ha : onG a = true) (hb : onG b = true) : onG (addG a b) = true := by
  rw [addG_is]
  exact onG_gP (gadd_on cv1 _ _ (onG_is ha).2 (onG_is hb).2)
theorem on_neg {a : G1D} (ha : onG a = true) : onG (negG a) = true := by
  rw [negG_is]
  exact onG_gP (gneg_on _ (onG_is ha).2)
theorem addG_comm {a b : G1D} (ha : onG a = true) (hb : onG b = true) : addG a b = addG b a := by
  rw [addG_is, addG_is, gadd_comm cv1 _ _ (onG_is ha).2 (onG_is hb).2]
theorem addG_assoc {a b c : G1D} (ha : onG a = true) (hb : onG b = true) (hc : onG c = true) : addG (addG a b) c = addG a (addG b c) := by
  rw [addG_is (addG a b), pG_add, addG_is a (addG b c), pG_add, gadd_assoc cv1 _ _ _ (onG_is ha).2 (onG_is hb).2 (onG_is hc).2]
theorem addG_zero {a : G1D} (ha : onG a = true) : addG a ⟨0, 0, true⟩ = a := by
  rw [addG_is]
  show gP (gadd (pG a) none) = a
  rw [gadd_none, (onG_is ha).1]
theorem addG_neg {a : G1D} (ha : onG a = true) : addG a (negG a) = ⟨0, 0, true⟩ := by
  rw [addG_is, pG_neg, gadd_gneg cv1 _ (onG_is ha).2]
  rfl
theorem on_zero : onG ⟨0, 0, true⟩ = true := onG_gP (P := none) True.intro

end Go.Proofs.Ytdeohachoeopdaa

/- Sums and negatives of points: contracts. No conditions. -/
namespace Go.Proofs.Ytdeohachoeopdaa

def addSpec1 : FnSpec
  | [.v (.a [.ob (.fp a), .ob (.fp b), .bool i]), .v (.a [.ob (.fp c), .ob (.fp d), .bool j])] => some ([], .t [.a (adR ⟨a, b, i⟩ ⟨c, d, j⟩).1.its, .c (.int .i64 (adR ⟨a, b, i⟩ ⟨c, d, j⟩).2)], [])
  | _ => none
noncomputable def qvA : Env := qtG.set (addT qtG.fn 15 addSpec1)
theorem qvA_ok : EnvOk Try.prog qvA := env_add qtG_ok 15 addSpec1 (enters_of Try.func15 rfl rfl) fun args o r es h _ => by
  unfold addSpec1 at h
  split at h
  · cases h; exact add_fnd1 _ _ _ _ _ _
  · cases h
noncomputable def qvF : Env := qvA
theorem qvF_ok : EnvOk Try.prog qvF := qvA_ok
end Go.Proofs.Ytdeohachoeopdaa

/- What Add and Neg tell. No conditions. -/
namespace Go.Proofs.Ytdeohachoeopdaa

theorem eq_bits {a b : G1D} (h : a = b) : (decide (a.x = b.x) && (decide (a.y = b.y) && (a.inf == b.inf))) = true := by
  subst h
  simp


theorem adR_on {a b : G1D} (ha : onG a = true) (hb : onG b = true) : adR a b = (addG a b, 0) := by unfold adR; rw [ha, hb]; rfl
theorem adR_off1 {a b : G1D} (ha : onG a = false) : adR a b = (g10, 30) := by unfold adR; rw [ha]; rfl
theorem adR_off2 {a b : G1D} (hb : onG b = false) : adR a b = (g10, 30) := by unfold adR; rw [hb, Bool.and_false]; rfl
theorem neR_on {a : G1D} (ha : onG a = true) : neR a = (negG a, 0) := by unfold neR; rw [ha]; rfl
theorem neR_off {a : G1D} (ha : onG a = false) : neR a = (g10, 30) := by unfold neR; rw [ha]; rfl

end Go.Proofs.Ytdeohachoeopdaa

/- Digits of a number, handed on: walked. No conditions. -/
namespace Go.Proofs.Ytdeohachoeopdaa
section
variable {w0 : World} {F0 : Nat → Prop} {K : Kp} {ac : List Act} {Q : Exit → Act → World → Prop} {cX : Ctx} {aX : Act}

--@env qeJ qeJ_ok
noncomputable def dg_k : List KI := (run qeJ false 3000 ((fun (l : Nat) (k : U4) => (⟨[.code (bodyOf Try.f73)], .normal, ⟨argT [.v (.c (.val (.func (.yield l) #[] #[]))), .v (.c (.ptr 0 0))], one (.fl [.ob (.fr k)]), Try.f73.ntmps, 16, []⟩⟩ : Cfg)) default default) []).cfg.k
theorem dg_hk (l : Nat) (k : U4) : (run qeJ false 3000 ((⟨[.code (bodyOf Try.f73)], .normal, ⟨argT [.v (.c (.val (.func (.yield l) #[] #[]))), .v (.c (.ptr 0 0))], one (.fl [.ob (.fr k)]), Try.f73.ntmps, 16, []⟩⟩ : Cfg)) []).cfg.k = dg_k := by kernel_rfl
theorem dg (l : Nat) (k : U4) (ho : AllP []) (hs : Sim w0 F0 K ac (⟨argT [.v (.c (.val (.func (.yield l) #[] #[]))),.v (.c (.ptr 0 0))],one (.fl [.ob (.fr k)]),Try.f73.ntmps,16,[]⟩) cX aX) (hK : ∀ ac cY aY,Sim w0 F0 K ac (mkSt 32 [0,1,3,4] [(.v (.c (.val (Value.func (Fn.yield l) (Array.mk ([] : List Value)) (Array.mk ([] : List Value)))))),.pt 0 0,(.v (.c (.lit false))),.ii (63:Int)] [0] [(some (.fl [.ob (.fr k)]))] 48 [] []) cY aY → Wq Try.prog Q (dg_k) ac Exit.normal aY cY.w) : Wq Try.prog Q ([.code (bodyOf Try.f73)]) ac .normal aX cX.w :=
  run_at2 (o := ⟨_, _, _, _, _, _, _⟩) qeJ_ok (by kernel_rfl) (dg_hk l k) ho hs hK
noncomputable def dgS (l : Nat) (k : U4) (g : Bool) (i:Int) : St := mkSt 32 [0,1,3,4] [(.v (.c (.val (Value.func (Fn.yield l) (Array.mk ([] : List Value)) (Array.mk ([] : List Value)))))),.pt 0 0,.v (.c (.bool g)),.v (.c (.int .i64 i))] [0] [(some (.fl [.ob (.fr k)]))] 48 [] []
noncomputable def dgY_k : List KI := (run qeJ false 3000 ((fun (l : Nat) (k : U4) (g : Bool) (i : Int) => (⟨lpIn dg_k, .normal, dgS l k g i⟩ : Cfg)) default default default default) [true, true, true]).cfg.k
theorem dgY_hk (l : Nat) (k : U4) (g : Bool) (i : Int) : (run qeJ false 3000 ((⟨lpIn dg_k, .normal, dgS l k g i⟩ : Cfg)) [true, true, true]).cfg.k = dgY_k := by kernel_rfl
theorem dgY (l : Nat) (k : U4) (g : Bool) (i:Int) (ho : AllP [((decide (i ≥ (0:Int))) = true),((16:Int) ≠ (0:Int)),((0:Int) ≤ (IntKind.wrap .i64 (Int.tdiv i (16:Int)))),((IntKind.wrap .i64 (Int.tdiv i (16:Int))) < (4:Int)),((0 + (((IntKind.wrap .i64 (Int.tdiv i (16:Int)))).toNat * 1)) < (Ob.k (.fr k))),((16:Int) ≠ (0:Int)),((0:Int) ≤ (IntKind.wrap .i64 ((4:Int) * (Int.tmod i (16:Int))))),(g = true)]) (hs : Sim w0 F0 K ac (dgS l k g i) cX aX) (hK : ∀ ac cY aY,Sim w0 F0 K ac (mkSt 32 [0,1,3,4,26,27,28] [(.v (.c (.val (Value.func (Fn.yield l) (Array.mk ([] : List Value)) (Array.mk ([] : List Value)))))),.pt 0 0,(.v (.c (.lit true))),.ii i,(.v (.c (.lit true))),(.v (.c (.val (Value.func (Fn.yield l) (Array.mk ([] : List Value)) (Array.mk ([] : List Value)))))),(.ii (IntKind.wrap .i64 (bitsOp BinOp.and IntKind.u64 (Int.fdiv (limb (Ob.n (.fr k)) (0 + (((IntKind.wrap .i64 (Int.tdiv i (16:Int)))).toNat * 1))) ((2:Int) ^ (Min.min ((IntKind.wrap .i64 ((4:Int) * (Int.tmod i (16:Int))))).toNat 64))) (15:Int))))] [0] [(some (.fl [.ob (.fr k)]))] 416 [] []) cY aY → Wq Try.prog Q (dgY_k) ac Exit.normal aY cY.w) : Wq Try.prog Q (lpIn dg_k) ac .normal aX cX.w :=
  run_at2 (o := ⟨_, _, _, _, _, _, _⟩) qeJ_ok (by kernel_rfl) (dgY_hk l k g i) ho hs hK
theorem dgZ_hk (l : Nat) (k : U4) (g : Bool) (i : Int) : (run qeJ false 3000 ((⟨lpIn dg_k, .normal, dgS l k g i⟩ : Cfg)) [true, false, true]).cfg.k = dgY_k := by kernel_rfl
theorem dgZ (l : Nat) (k : U4) (g : Bool) (i:Int) (ho : AllP [((decide (i ≥ (0:Int))) = true),((16:Int) ≠ (0:Int)),((0:Int) ≤ (IntKind.wrap .i64 (Int.tdiv i (16:Int)))),((IntKind.wrap .i64 (Int.tdiv i (16:Int))) < (4:Int)),((0 + (((IntKind.wrap .i64 (Int.tdiv i (16:Int)))).toNat * 1)) < (Ob.k (.fr k))),((16:Int) ≠ (0:Int)),((0:Int) ≤ (IntKind.wrap .i64 ((4:Int) * (Int.tmod i (16:Int))))),(g = false),((decide ((IntKind.wrap .i64 (bitsOp BinOp.and IntKind.u64 (Int.fdiv (limb (Ob.n (.fr k)) (0 + (((IntKind.wrap .i64 (Int.tdiv i (16:Int)))).toNat * 1))) ((2:Int) ^ (Min.min ((IntKind.wrap .i64 ((4:Int) * (Int.tmod i (16:Int))))).toNat 64))) (15:Int))) > (0:Int))) = true)]) (hs : Sim w0 F0 K ac (dgS l k g i) cX aX) (hK : ∀ ac cY aY,Sim w0 F0 K ac (mkSt 32 [0,1,3,4,26,27,28] [(.v (.c (.val (Value.func (Fn.yield l) (Array.mk ([] : List Value)) (Array.mk ([] : List Value)))))),.pt 0 0,(.v (.c (.bool (decide ((IntKind.wrap .i64 (bitsOp BinOp.and IntKind.u64 (Int.fdiv (limb (Ob.n (.fr k)) (0 + (((IntKind.wrap .i64 (Int.tdiv i (16:Int)))).toNat * 1))) ((2:Int) ^ (Min.min ((IntKind.wrap .i64 ((4:Int) * (Int.tmod i (16:Int))))).toNat 64))) (15:Int))) > (0:Int)))))),.ii i,(.v (.c (.lit true))),(.v (.c (.val (Value.func (Fn.yield l) (Array.mk ([] : List Value)) (Array.mk ([] : List Value)))))),(.ii (IntKind.wrap .i64 (bitsOp BinOp.and IntKind.u64 (Int.fdiv (limb (Ob.n (.fr k)) (0 + (((IntKind.wrap .i64 (Int.tdiv i (16:Int)))).toNat * 1))) ((2:Int) ^ (Min.min ((IntKind.wrap .i64 ((4:Int) * (Int.tmod i (16:Int))))).toNat 64))) (15:Int))))] [0] [(some (.fl [.ob (.fr k)]))] 416 [] []) cY aY → Wq Try.prog Q (dgY_k) ac Exit.normal aY cY.w) : Wq Try.prog Q (lpIn dg_k) ac .normal aX cX.w :=
  run_at2 (o := ⟨_, _, _, _, _, _, _⟩) qeJ_ok (by kernel_rfl) (dgZ_hk l k g i) ho hs hK
theorem dgN_hk (l : Nat) (k : U4) (g : Bool) (i : Int) : (run qeJ false 3000 ((⟨lpIn dg_k, .normal, dgS l k g i⟩ : Cfg)) [true, false, false]).cfg.k = lpBk dg_k := by kernel_rfl
theorem dgN (l : Nat) (k : U4) (g : Bool) (i:Int) (ho : AllP [((decide (i ≥ (0:Int))) = true),((16:Int) ≠ (0:Int)),((0:Int) ≤ (IntKind.wrap .i64 (Int.tdiv i (16:Int)))),((IntKind.wrap .i64 (Int.tdiv i (16:Int))) < (4:Int)),((0 + (((IntKind.wrap .i64 (Int.tdiv i (16:Int)))).toNat * 1)) < (Ob.k (.fr k))),((16:Int) ≠ (0:Int)),((0:Int) ≤ (IntKind.wrap .i64 ((4:Int) * (Int.tmod i (16:Int))))),(g = false),((decide ((IntKind.wrap .i64 (bitsOp BinOp.and IntKind.u64 (Int.fdiv (limb (Ob.n (.fr k)) (0 + (((IntKind.wrap .i64 (Int.tdiv i (16:Int)))).toNat * 1))) ((2:Int) ^ (Min.min ((IntKind.wrap .i64 ((4:Int) * (Int.tmod i (16:Int))))).toNat 64))) (15:Int))) > (0:Int))) = false)]) (hs : Sim w0 F0 K ac (dgS l k g i) cX aX) (hK : ∀ ac cY aY,Sim w0 F0 K ac (mkSt 32 [0,1,3,4] [(.v (.c (.val (Value.func (Fn.yield l) (Array.mk ([] : List Value)) (Array.mk ([] : List Value)))))),.pt 0 0,(.v (.c (.bool (decide ((IntKind.wrap .i64 (bitsOp BinOp.and IntKind.u64 (Int.fdiv (limb (Ob.n (.fr k)) (0 + (((IntKind.wrap .i64 (Int.tdiv i (16:Int)))).toNat * 1))) ((2:Int) ^ (Min.min ((IntKind.wrap .i64 ((4:Int) * (Int.tmod i (16:Int))))).toNat 64))) (15:Int))) > (0:Int)))))),(.ii (IntKind.wrap .i64 (i - (1:Int))))] [0] [(some (.fl [.ob (.fr k)]))] 512 [] []) cY aY → Wq Try.prog Q (lpBk dg_k) ac Exit.normal aY cY.w) : Wq Try.prog Q (lpIn dg_k) ac .normal aX cX.w :=
  run_at2 (o := ⟨_, _, _, _, _, _, _⟩) qeJ_ok (by kernel_rfl) (dgN_hk l k g i) ho hs hK
theorem dgX_hk (l : Nat) (k : U4) (g : Bool) (i : Int) : (run qeJ false 3000 ((⟨lpIn dg_k, .normal, dgS l k g i⟩ : Cfg)) [false]).cfg.k = [] := by kernel_rfl
theorem dgX (l : Nat) (k : U4) (g : Bool) (i:Int) (ho : AllP [((decide (i ≥ (0:Int))) = false)]) (hs : Sim w0 F0 K ac (dgS l k g i) cX aX) (hK : ∀ ac cY aY,Sim w0 F0 K ac (mkSt 32 [] [] [0] [(some (.fl [.ob (.fr k)]))] 80 [] []) cY aY → Wq Try.prog Q ([]) ac Exit.normal aY cY.w) : Wq Try.prog Q (lpIn dg_k) ac .normal aX cX.w :=
  run_at2 (o := ⟨_, _, _, _, _, _, _⟩) qeJ_ok (by kernel_rfl) (dgX_hk l k g i) ho hs hK
theorem dgB_hk (l : Nat) (k : U4) (i d : Int) : (run qeJ false 3000 ((⟨opsNext dgY_k, .normal, ⟨setT (look .top [0, 1, 3, 4, 26, 27, 28] [(.v (.c (.val (.func (.yield l) #[] #[])))), (.v (.c (.ptr 0 0))), (.v (.c (.bool true))), (.v (.c (.int .i64 i))), (.v (.c (.lit true))), (.v (.c (.val (.func (.yield l) #[] #[])))), (.v (.c (.int .i64 d)))]) 29 (.v (.c (.lit true))), one (.fl [.ob (.fr k)]), 32, 400, []⟩⟩ : Cfg)) []).cfg.k = lpBk dg_k := by kernel_rfl
theorem dgB (l : Nat) (k : U4) (i d:Int) (ho : AllP []) (hs : Sim w0 F0 K ac (⟨setT (look .top [0,1,3,4,26,27,28] [(.v (.c (.val (.func (.yield l) #[] #[])))),.pt 0 0,(.v (.c (.bool true))),.ii i,(.v (.c (.lit true))),(.v (.c (.val (.func (.yield l) #[] #[])))),.ii d]) 29 (.v (.c (.lit true))),one (.fl [.ob (.fr k)]),32,400,[]⟩) cX aX) (hK : ∀ ac cY aY,Sim w0 F0 K ac (mkSt 32 [0,1,3,4] [(.v (.c (.val (Value.func (Fn.yield l) (Array.mk ([] : List Value)) (Array.mk ([] : List Value)))))),.pt 0 0,(.v (.c (.bool true))),(.ii (IntKind.wrap .i64 (i - (1:Int))))] [0] [(some (.fl [.ob (.fr k)]))] 480 [] []) cY aY → Wq Try.prog Q (lpBk dg_k) ac Exit.normal aY cY.w) : Wq Try.prog Q (opsNext dgY_k) ac .normal aX cX.w :=
  run_at2 (o := ⟨_, _, _, _, _, _, _⟩) qeJ_ok (by kernel_rfl) (dgB_hk l k i d) ho hs hK
end
end Go.Proofs.Ytdeohachoeopdaa

/- Digits handed on: contract. No conditions. -/
namespace Go.Proofs.Ytdeohachoeopdaa

def dgEnc (d : Nat) : List Value := [.int .i64 (d : Int)]
def dgVals (d : Nat) : List SV := [.v (.c (.int .i64 (d : Int)))]

theorem digits_iter {x : Ctx} {p : Nat} {k : U4} {M : List Nat → Nat → Option En} (hM : ∀ s, M s p = some (.fl [.ob (.fr k)])) :
    IterC Try.prog x 73 [(p, 0)] dgEnc (dgT k.val 64) M := by
  intro l J W hgrow hread hyield hJ
  have key : Wq Try.prog (bodyPost Try.prog Try.f73 fun e' W' => (∃ v, e' = Ending.returned v) ∧ J (dgT k.val 64) W') [.code (bodyOf Try.f73)] [] .normal { tmps := [Value.func (.yield l) #[] #[], .pointer (some ⟨x.β p, 0, none⟩)].toArray ++ Array.replicate 30 undef, defers := [] } W := ?_
  · exact calls_of_wp (c := bodyOf Try.f73) Try.func73 rfl ((wpIn_wide (n := 0)).1 key.wp)
  obtain ⟨y, rfl, hm, hcp⟩ := hread [] W hJ
  obtain ⟨hr, hβ⟩ := hcp (p, 0) List.mem_cons_self
  have hr : y.k p = .real := hr
  have hβ : y.β p = x.β p := hβ
  have hargs : denSs (itCtx y p) [.v (.c (.val (.func (.yield l) #[] #[]))), .v (.c (.ptr 0 0))] [.func (.yield l) #[] #[], .pointer (some ⟨x.β p, 0, none⟩)] :=
    .cons ⟨rfl, 0, rfl, rfl⟩ (.cons ⟨rfl, 0, rfl, by show _ = [Value.pointer (some ⟨y.β p, 0, none⟩)]; rw [hβ]⟩ .nil)
  have hpure : ∀ y : Ctx, ∀ (cs : Array Value) ty, y.w.heap[y.β p]? = some (.cells cs ty (0, 0)) → denEn y (.fl [.ob (.fr k)]) cs.toList → denEn (itCtx y p) (.fl [.ob (.fr k)]) cs.toList := fun y cs ty _ h => pure_En rfl h
  have hs := it_sim (nx := 16) (nt := 32) (a := { tmps := [Value.func (.yield l) #[] #[], .pointer (some ⟨x.β p, 0, none⟩)].toArray ++ Array.replicate 30 undef, defers := [] }) hm (hM []) hr (hpure y) rfl (by simp) (argT_den hargs 30)
  change Wq Try.prog _ _ _ _ _ (itCtx y p).w
  refine dg l k trivial hs fun ac cY aY hs1 => ?_
  have hmb : Mem (itCtx y p) (one (.fl [.ob (.fr k)])) := it_mem hm (hM _) hr (hpure y)
  have hs2 := hs1.slots (svs' := [.v (.c (.val (.func (.yield l) #[] #[]))), .v (.c (.ptr 0 0)), .v (.c (.bool false)), .v (.c (.int .i64 63))]) ⟨fun _ h => h, fun _ h => h, fun _ h => lit_bool rfl h, fun _ h => h, trivial⟩
  let I : { t : Nat // t ≤ 64 } → List Act → Act → World → Prop := fun t ac a w => ∃ y z, z.w = w ∧ y.k p = .real ∧ y.β p = x.β p ∧ Mem y (M (dgT k.val t.1)) ∧ J (dgT k.val t.1) y.w ∧ Mem (itCtx y p) (one (.fl [.ob (.fr k)])) ∧ Sim y.w y.F (kPin (itCtx y p)) ac (dgS l k (!(dgT k.val t.1).isEmpty) ((63 : Int) - (t.1 : Int))) z a
  refine loop_inv I (fun t => 64 - t) (c := lpC dg_k) (k := lpR dg_k) (by kernel_rfl) (fun t ih ac b w hI => ?_) ⟨0, Nat.zero_le _⟩ ⟨y, cY, rfl, hr, hβ, hm, hJ, hmb, hs2.nx _⟩
  obtain ⟨t, ht⟩ := t
  obtain ⟨y, z, rfl, hr, hβ, hm, hJ, hmb, hs⟩ := hI
  simp only at hm hJ hs ih
  by_cases h : t < 64
  · obtain ⟨i, hi⟩ : ∃ i : Nat, i = 63 - t := ⟨_, rfl⟩
    have ei : (63 : Int) - (t : Int) = (i : Int) := by omega
    have hi64 : i < 64 := by omega
    rw [ei] at hs
    have hdig := dig_expr k hi64
    have hpl := dig_place hi64
    have ho1 : decide ((i : Int) ≥ 0) = true := decide_eq_true (by omega)
    have ho2 : (0 : Int) ≤ IntKind.wrap IntKind.i64 (Int.tdiv (i : Int) 16) := by rw [hpl]; omega
    have ho3 : IntKind.wrap IntKind.i64 (Int.tdiv (i : Int) 16) < 4 := by rw [hpl]; omega
    have ho4 : 0 + (IntKind.wrap IntKind.i64 (Int.tdiv (i : Int) 16)).toNat * 1 < Ob.k (Ob.fr k) := by rw [hpl]; show _ < 4; omega
    have ho5 := dig_shift i
    have e4 : IntKind.wrap IntKind.i64 ((i : Int) - 1) = (63 : Int) - ((t + 1 : Nat) : Int) := by rw [wrap_id (by omega) (by omega)]; omega
    obtain ⟨d, hd⟩ : ∃ d, k.val / 16 ^ i % 16 = d := ⟨_, rfl⟩
    rw [hd] at hdig
    have hd' : k.val / 16 ^ (63 - t) % 16 = d := by rw [← hi]; exact hd
    -- what is handed on
    have give : ∀ (ac : List Act) (cU : Ctx) (aU : Act), dgT k.val (t + 1) = dgT k.val t ++ [d] → Sim y.w y.F (kPin (itCtx y p)) ac (mkSt 32 [0, 1, 3, 4, 26, 27, 28] [.v (.c (.val (.func (.yield l) #[] #[]))), .v (.c (.ptr 0 0)), .v (.c (.bool true)), .v (.c (.int .i64 (i : Int))), .v (.c (.lit true)), .v (.c (.val (.func (.yield l) #[] #[]))), .v (.c (.int .i64 (d : Int)))] [0] [some (.fl [.ob (.fr k)])] 416 [] []) cU aU →
        Wq Try.prog (bodyPost Try.prog Try.f73 fun e' W' => (∃ v, e' = Ending.returned v) ∧ J (dgT k.val 64) W') dgY_k ac .normal aU cU.w := by
      intro ac cU aU e3 hs6
      obtain ⟨hg, hk2, hβ2⟩ := it_back hmb rfl hs6 rfl
      have hJ2 := hgrow _ _ _ hJ hg
      obtain ⟨r, hr1⟩ := dgT_pre k.val (m := 64) (t := t + 1) h
      refine yield_at (R := fun W' => J (dgT k.val (t + 1)) W') (dst := some 29) (f := .tmp 27) (args := [.tmp 28]) (by kernel_rfl) hs6 (l := l) rfl (vs := dgEnc d) ?_ ?_ fun W' hJ3 => ?_
      · have h21 := D_int (hs6.t 28)
        show [aU.tmps.getD 28 undef] = _
        rw [h21]
        rfl
      · have := hyield (dgT k.val t) d _ hJ2 ⟨r, by rw [hr1, e3, List.append_assoc]; rfl⟩
        rw [← e3] at this
        exact this
      · obtain ⟨y3, rfl, hm3, hc3⟩ := hread _ _ hJ3
        obtain ⟨hr3, hβ3⟩ := hc3 (p, 0) List.mem_cons_self
        have hr3 : y3.k p = .real := hr3
        have hβ3 : y3.β p = x.β p := hβ3
        have hmb3 : Mem (itCtx y3 p) (one (.fl [.ob (.fr k)])) := it_mem hm3 (hM _) hr3 (hpure y3)
        have hs7 := it_again (nx' := 400) (dst := 29) (b := true) hs6 (by kernel_rfl) rfl hm3 (hM _) hr3 (hpure y3) (by rw [hβ2, hβ]; exact hβ3.symm) (by decide)
        change Wq Try.prog _ _ _ _ _ (itCtx y3 p).w
        refine dgB l k _ _ trivial hs7 fun ac cT aT hs8 => ?_
        rw [e4] at hs8
        have hne : (!(dgT k.val (t + 1)).isEmpty) = true := by rw [e3]; simp
        refine ih ⟨t + 1, by omega⟩ (by show 64 - (t + 1) < 64 - t; omega) ac aT _ ⟨y3, cT, rfl, hr3, hβ3, hm3, hJ3, hmb3, ?_⟩
        show Sim _ _ _ _ (dgS l k (!(dgT k.val (t + 1)).isEmpty) _) _ _
        rw [hne]
        exact hs8.nx _
    by_cases hg : (dgT k.val t).isEmpty = true
    · rw [hg] at hs
      by_cases hz : d = 0
      · have e3 : dgT k.val (t + 1) = [] := dgT_stay hg (by rw [hd', hz])
        refine dgN l k _ _ ⟨ho1, by decide, ho2, ho3, ho4, by decide, ho5, rfl, by rw [hdig, hz]; rfl, trivial⟩ hs fun ac cT aT hs8 => ?_
        rw [e4, hdig, hz] at hs8
        have e5 : dgT k.val (t + 1) = dgT k.val t := by rw [e3, List.isEmpty_iff.1 hg]
        refine ih ⟨t + 1, by omega⟩ (by show 64 - (t + 1) < 64 - t; omega) ac aT _ ⟨y, cT, rfl, hr, hβ, ?_, ?_, hmb, ?_⟩
        · show Mem y (M (dgT k.val (t + 1)))
          rw [e5]; exact hm
        · show J (dgT k.val (t + 1)) y.w
          rw [e5]; exact hJ
        · show Sim _ _ _ _ (dgS l k (!(dgT k.val (t + 1)).isEmpty) _) _ _
          rw [e3]
          exact hs8.nx _
      · have e3 : dgT k.val (t + 1) = dgT k.val t ++ [d] := by
          rw [← hd']
          exact dgT_go fun hc => hz (by rw [← hd']; exact hc.2)
        have hp0 : decide ((d : Int) > 0) = true := decide_eq_true (by omega)
        refine dgZ l k _ _ ⟨ho1, by decide, ho2, ho3, ho4, by decide, ho5, rfl, by rw [hdig]; exact hp0, trivial⟩ hs fun ac cU aU hs6 => ?_
        rw [hdig, hp0] at hs6
        exact give ac cU aU e3 (hs6.nx _)
    · have hg : (dgT k.val t).isEmpty = false := Bool.eq_false_iff.2 hg
      rw [hg] at hs
      have e3 : dgT k.val (t + 1) = dgT k.val t ++ [d] := by
        rw [← hd']
        exact dgT_go fun hc => by rw [hg] at hc; exact absurd hc.1 (by decide)
      refine dgY l k _ _ ⟨ho1, by decide, ho2, ho3, ho4, by decide, ho5, rfl, trivial⟩ hs fun ac cU aU hs6 => ?_
      rw [hdig] at hs6
      have hs6' := hs6.slots (svs' := [.v (.c (.val (.func (.yield l) #[] #[]))), .v (.c (.ptr 0 0)), .v (.c (.bool true)), .v (.c (.int .i64 (i : Int))), .v (.c (.lit true)), .v (.c (.val (.func (.yield l) #[] #[]))), .v (.c (.int .i64 (d : Int)))])
        ⟨fun _ h => h, fun _ h => h, fun _ h => lit_bool rfl h, fun _ h => h, fun _ h => h, fun _ h => h, fun _ h => h, trivial⟩
      exact give ac cU aU e3 (hs6'.nx _)
  · have e5 : t = 64 := by omega
    subst e5
    refine dgX l k _ _ ⟨by decide, trivial⟩ hs fun ac cV aV hs4 => ?_
    obtain ⟨hg, _, _⟩ := it_back hmb rfl hs4 rfl
    exact ⟨it_end qeJ_ok hs4 rfl rfl rfl (fun v => ⟨⟨v, rfl⟩, hgrow _ _ _ hJ hg⟩) (.inr rfl)⟩

end Go.Proofs.Ytdeohachoeopdaa

/- Digits of a number, handed on; a point as often as a number says: the functions, walked. No conditions. -/
namespace Go.Proofs.Ytdeohachoeopdaa
section
variable {w0 : World} {F0 : Nat → Prop} {K : Kp} {ac : List Act} {Q : Exit → Act → World → Prop} {cX : Ctx} {aX : Act}

--@env qvF qvF_ok
noncomputable def my_k : List KI := (run qvF false 3000 ((fun (x y z : Fp) (k : U4) => (⟨[.code (bodyOf Try.f38)], .normal, initSt Try.f38.ntmps [.v (.a [.ob (.p x), .ob (.p y), .ob (.p z)]), .v (.a [.ob (.fr k)])]⟩ : Cfg)) default default default default) []).cfg.k
theorem my_hk (x y z : Fp) (k : U4) : (run qvF false 3000 ((⟨[.code (bodyOf Try.f38)], .normal, initSt Try.f38.ntmps [.v (.a [.ob (.p x), .ob (.p y), .ob (.p z)]), .v (.a [.ob (.fr k)])]⟩ : Cfg)) []).cfg.k = my_k := by kernel_rfl
theorem my (x y z : Fp) (k : U4) (ho : AllP [((0:Int) ≤ (0:Int)),((0:Int) < (16:Int))]) (hs : Sim w0 F0 K ac (initSt Try.f38.ntmps [.v (.a [.ob (.p x),.ob (.p y),.ob (.p z)]),.v (.a [.ob (.fr k)])]) cX aX) (hK : ∀ ac cY aY,Sim w0 F0 K ac (mkSt 43 [2,3,4,5,6] [.pt 16 0,.pt 32 0,.pt 48 0,.pt 64 0,.ii (1:Int)] [16,32,48,64] [(some (.fl [.ob (.p x),.ob (.p y),.ob (.p z)])),(some (.fl [.ob (.fr k)])),(some (.fl [(.ob (.p (0:Fp))),(.ob (.p (0:Fp))),(.ob (.p (0:Fp)))])),(some (.fl [.ob (.p x),.ob (.p y),(.ob (.p (0:Fp))),(.ob (.p (0:Fp))),(.ob (.p (0:Fp))),(.ob (.p (0:Fp))),(.ob (.p (0:Fp))),(.ob (.p (0:Fp))),(.ob (.p (0:Fp))),(.ob (.p (0:Fp))),(.ob (.p (0:Fp))),(.ob (.p (0:Fp))),(.ob (.p (0:Fp))),(.ob (.p (0:Fp))),(.ob (.p (0:Fp))),(.ob (.p (0:Fp))),(.ob (.p (0:Fp))),(.ob (.p (0:Fp))),(.ob (.p (0:Fp))),(.ob (.p (0:Fp))),(.ob (.p (0:Fp))),(.ob (.p (0:Fp))),(.ob (.p (0:Fp))),(.ob (.p (0:Fp))),(.ob (.p (0:Fp))),(.ob (.p (0:Fp))),(.ob (.p (0:Fp))),(.ob (.p (0:Fp))),(.ob (.p (0:Fp))),(.ob (.p (0:Fp))),(.ob (.p (0:Fp))),(.ob (.p (0:Fp))),(.ob (.p (0:Fp))),(.ob (.p (0:Fp))),(.ob (.p (0:Fp))),(.ob (.p (0:Fp))),(.ob (.p (0:Fp))),(.ob (.p (0:Fp))),(.ob (.p (0:Fp))),(.ob (.p (0:Fp))),(.ob (.p (0:Fp))),(.ob (.p (0:Fp))),(.ob (.p (0:Fp))),(.ob (.p (0:Fp))),(.ob (.p (0:Fp))),(.ob (.p (0:Fp))),(.ob (.p (0:Fp))),(.ob (.p (0:Fp)))]))] 208 [] []) cY aY → Wq Try.prog Q (my_k) ac Exit.normal aY cY.w) : Wq Try.prog Q ([.code (bodyOf Try.f38)]) ac .normal aX cX.w :=
  run_at2 (o := ⟨_, _, _, _, _, _, _⟩) qvF_ok (by kernel_rfl) (my_hk x y z k) ho hs hK
noncomputable def myS (x y z : Fp) (k : U4) (L : List (Fp × Fp × Fp)) (i:Int) : St := mkSt 43 [2,3,4,5,6] [.pt 16 0,.pt 32 0,.pt 48 0,.pt 64 0,.v (.c (.int .i64 i))] [16,32,48,64] [(some (.fl [.ob (.p x),.ob (.p y),.ob (.p z)])),(some (.fl [.ob (.fr k)])),(some (.fl [(.ob (.p (0:Fp))),(.ob (.p (0:Fp))),(.ob (.p (0:Fp)))])),some (.sq (.pt L))] 208 [] []
theorem myA_hk (x y z : Fp) (k : U4) (L : List (Fp × Fp × Fp)) (i : Int) : (run qvF false 3000 ((⟨lpIn my_k, .normal, myS x y z k L i⟩ : Cfg)) [true]).cfg.k = lpBk my_k := by kernel_rfl
theorem myA (x y z : Fp) (k : U4) (L : List (Fp × Fp × Fp)) (i:Int) (ho : AllP [((decide (i < (16:Int))) = true),((0:Int) ≤ (IntKind.wrap .i64 (i - (1:Int)))),((IntKind.wrap .i64 (i - (1:Int))) < (16:Int)),(0 = 0),(((IntKind.wrap .i64 (i - (1:Int)))).toNat < (List.length L)),((0:Int) ≤ i),(i < (16:Int)),(0 = 0),((i).toNat < (List.length L))]) (hs : Sim w0 F0 K ac (myS x y z k L i) cX aX) (hK : ∀ ac cY aY,Sim w0 F0 K ac (mkSt 43 [2,3,4,5,6] [.pt 16 0,.pt 32 0,.pt 48 0,.pt 64 0,(.ii (IntKind.wrap .i64 (i + (1:Int))))] [16,32,48,64] [(some (.fl [.ob (.p x),.ob (.p y),.ob (.p z)])),(some (.fl [.ob (.fr k)])),(some (.fl [(.ob (.p (0:Fp))),(.ob (.p (0:Fp))),(.ob (.p (0:Fp)))])),(some (.sq (Sq.pt (List.set L (i).toNat (jpl (List.getD L ((IntKind.wrap .i64 (i - (1:Int)))).toNat pt0) (x,(y,z)))))))] 432 [] []) cY aY → Wq Try.prog Q (lpBk my_k) ac Exit.normal aY cY.w) : Wq Try.prog Q (lpIn my_k) ac .normal aX cX.w :=
  run_at2 (o := ⟨_, _, _, _, _, _, _⟩) qvF_ok (by kernel_rfl) (myA_hk x y z k L i) ho hs hK
noncomputable def myB_k : List KI := (run qvF false 3000 ((fun (x y z : Fp) (k : U4) (L : List (Fp × Fp × Fp)) (i : Int) => (⟨lpIn my_k, .normal, myS x y z k L i⟩ : Cfg)) default default default default default default) [false]).cfg.k
theorem myB_hk (x y z : Fp) (k : U4) (L : List (Fp × Fp × Fp)) (i : Int) : (run qvF false 3000 ((⟨lpIn my_k, .normal, myS x y z k L i⟩ : Cfg)) [false]).cfg.k = myB_k := by kernel_rfl
theorem myB (x y z : Fp) (k : U4) (L : List (Fp × Fp × Fp)) (i:Int) (ho : AllP [((decide (i < (16:Int))) = false),((0:Int) ≤ (0:Int)),((0:Int) < (16:Int)),(0 = 0),(0 < (List.length L))]) (hs : Sim w0 F0 K ac (myS x y z k L i) cX aX) (hK : ∀ ac cY aY,Sim w0 F0 K ac (mkSt 43 [4,5,7,30] [.pt 48 0,.pt 64 0,.pt 272 0,(.v (.c (.clo 73 [(320,0)])))] [48,64,272,320] [(some (.fl [(.ob (.p (0:Fp))),(.ob (.p (0:Fp))),(.ob (.p (0:Fp)))])),(some (.sq (Sq.pt L))),(some (.fl [(.ob (.p (Prod.fst (List.getD L 0 pt0)))),(.ob (.p (Prod.fst (Prod.snd (List.getD L 0 pt0))))),(.ob (.p (Prod.snd (Prod.snd (List.getD L 0 pt0)))))])),(some (.fl [.ob (.fr k)]))] 384 [] []) cY aY → Wq Try.prog Q (myB_k) ac Exit.normal aY cY.w) : Wq Try.prog Q (lpIn my_k) ac .normal aX cX.w :=
  run_at2 (o := ⟨_, _, _, _, _, _, _⟩) qvF_ok (by kernel_rfl) (myB_hk x y z k L i) ho hs hK
noncomputable def myR (k : U4) (L : List (Fp × Fp × Fp)) (o : Fp × Fp × Fp) : St := mkSt 43 [4,5,7,30] [.pt 48 0,.pt 64 0,.pt 272 0,(.v (.c (.clo 73 [(320,0)])))] [48,64,272,320] [(some (.fl [(.ob (.p (0:Fp))),(.ob (.p (0:Fp))),(.ob (.p (0:Fp)))])),(some (.sq (Sq.pt L))),some (.fl [.ob (.p o.1),.ob (.p o.2.1),.ob (.p o.2.2)]),(some (.fl [.ob (.fr k)]))] 384 [] []
theorem mrA_hk (k : U4) (L : List (Fp × Fp × Fp)) (o : Fp × Fp × Fp) (d : Int) : (run qvF false 3000 ((⟨[.code (rfA myB_k)], .normal, roundSt (myR k L o) [(31, .v (.c (.int .i64 d)))]⟩ : Cfg)) []).cfg.k = [] := by kernel_rfl
theorem mrA (k : U4) (L : List (Fp × Fp × Fp)) (o : Fp × Fp × Fp) (d:Int) {ρ : Option Nat} (ho : AllP []) (hs : Sim w0 F0 K ac (roundSt (myR k L o) [(31,.v (.c (.int .i64 d)))]) cX aX) (hK : ∀ cY aY,Sim w0 F0 K ac (mkSt 43 [4,5,7,8] [.pt 48 0,.pt 64 0,.pt 272 0,.ii d] [48,64,272,320] [(some (.fl [(.ob (.p (0:Fp))),(.ob (.p (0:Fp))),(.ob (.p (0:Fp)))])),(some (.sq (Sq.pt L))),(some (.fl [(.ob (.p (Prod.fst o))),(.ob (.p (Prod.fst (Prod.snd o)))),(.ob (.p (Prod.snd (Prod.snd o))))])),(some (.fl [.ob (.fr k)]))] 400 [[4,5,7,30]] [([.pt 48 0,.pt 64 0,.pt 272 0,(.v (.c (.clo 73 [(320,0)])))],43)]) cY aY → Wq Try.prog Q ([]) ac Exit.normal aY cY.w ρ) : Wq Try.prog Q ([.code (rfA myB_k)]) ac .normal aX cX.w ρ :=
  run_atT (o := ⟨_, _, _, _, _, _, _⟩) qvF_ok (by kernel_rfl) (mrA_hk k L o d) ho (by kernel_rfl) (by kernel_rfl) hs hK
noncomputable def mrB (k : U4) (L : List (Fp × Fp × Fp)) (o : Fp × Fp × Fp) (d:Int) : St := mkSt 43 [4,5,7,8] [.pt 48 0,.pt 64 0,.pt 272 0,.ii d] [48,64,272,320] [(some (.fl [(.ob (.p (0:Fp))),(.ob (.p (0:Fp))),(.ob (.p (0:Fp)))])),(some (.sq (Sq.pt L))),some (.fl [.ob (.p o.1),.ob (.p o.2.1),.ob (.p o.2.2)]),(some (.fl [.ob (.fr k)]))] 400 [[4,5,7,30]] [([.pt 48 0,.pt 64 0,.pt 272 0,(.v (.c (.clo 73 [(320,0)])))],43)]
noncomputable def mrC_k : List KI := (run qvF false 3000 ((fun (k : U4) (L : List (Fp × Fp × Fp)) (o : Fp × Fp × Fp) (d : Int) => (⟨[.code (rfB myB_k)], .normal, mrB k L o d⟩ : Cfg)) default default default default) []).cfg.k
theorem mrC_hk (k : U4) (L : List (Fp × Fp × Fp)) (o : Fp × Fp × Fp) (d : Int) : (run qvF false 3000 ((⟨[.code (rfB myB_k)], .normal, mrB k L o d⟩ : Cfg)) []).cfg.k = mrC_k := by kernel_rfl
theorem mrC (k : U4) (L : List (Fp × Fp × Fp)) (o : Fp × Fp × Fp) (d:Int) {ρ : Option Nat} (ho : AllP []) (hs : Sim w0 F0 K ac (mrB k L o d) cX aX) (hK : ∀ cY aY,Sim w0 F0 K ac (mkSt 43 [4,5,7,8,32] [.pt 48 0,.pt 64 0,.pt 272 0,.ii d,.ii (0:Int)] [48,64,272,320] [(some (.fl [(.ob (.p (0:Fp))),(.ob (.p (0:Fp))),(.ob (.p (0:Fp)))])),(some (.sq (Sq.pt L))),(some (.fl [(.ob (.p (Prod.fst o))),(.ob (.p (Prod.fst (Prod.snd o)))),(.ob (.p (Prod.snd (Prod.snd o))))])),(some (.fl [.ob (.fr k)]))] 416 [[4,5,7,30]] [([.pt 48 0,.pt 64 0,.pt 272 0,(.v (.c (.clo 73 [(320,0)])))],43)]) cY aY → Wq Try.prog Q (mrC_k) ac Exit.normal aY cY.w ρ) : Wq Try.prog Q ([.code (rfB myB_k)]) ac .normal aX cX.w ρ :=
  run_atT (o := ⟨_, _, _, _, _, _, _⟩) qvF_ok (by kernel_rfl) (mrC_hk k L o d) ho (by kernel_rfl) (by kernel_rfl) hs hK
noncomputable def mrS (k : U4) (L : List (Fp × Fp × Fp)) (o : Fp × Fp × Fp) (d j:Int) : St := mkSt 43 [4,5,7,8,32] [.pt 48 0,.pt 64 0,.pt 272 0,.ii d,.v (.c (.int .i64 j))] [48,64,272,320] [(some (.fl [(.ob (.p (0:Fp))),(.ob (.p (0:Fp))),(.ob (.p (0:Fp)))])),(some (.sq (Sq.pt L))),some (.fl [.ob (.p o.1),.ob (.p o.2.1),.ob (.p o.2.2)]),(some (.fl [.ob (.fr k)]))] 416 [[4,5,7,30]] [([.pt 48 0,.pt 64 0,.pt 272 0,(.v (.c (.clo 73 [(320,0)])))],43)]
theorem mrD_hk (k : U4) (L : List (Fp × Fp × Fp)) (o : Fp × Fp × Fp) (d j : Int) : (run qvF false 3000 ((⟨lpIn mrC_k, .normal, mrS k L o d j⟩ : Cfg)) [true]).cfg.k = lpBk mrC_k := by kernel_rfl
theorem mrD (k : U4) (L : List (Fp × Fp × Fp)) (o : Fp × Fp × Fp) (d j:Int) {ρ : Option Nat} (ho : AllP [((decide (j < (4:Int))) = true)]) (hs : Sim w0 F0 K ac (mrS k L o d j) cX aX) (hK : ∀ cY aY,Sim w0 F0 K ac (mkSt 43 [4,5,7,8,32] [.pt 48 0,.pt 64 0,.pt 272 0,.ii d,(.ii (IntKind.wrap .i64 (j + (1:Int))))] [48,64,272,320] [(some (.fl [(.ob (.p (0:Fp))),(.ob (.p (0:Fp))),(.ob (.p (0:Fp)))])),(some (.sq (Sq.pt L))),(some (.fl [(.ob (.p (Prod.fst (jtw o)))),(.ob (.p (Prod.fst (Prod.snd (jtw o))))),(.ob (.p (Prod.snd (Prod.snd (jtw o)))))])),(some (.fl [.ob (.fr k)]))] 512 [[4,5,7,30]] [([.pt 48 0,.pt 64 0,.pt 272 0,(.v (.c (.clo 73 [(320,0)])))],43)]) cY aY → Wq Try.prog Q (lpBk mrC_k) ac Exit.normal aY cY.w ρ) : Wq Try.prog Q (lpIn mrC_k) ac .normal aX cX.w ρ :=
  run_atT (o := ⟨_, _, _, _, _, _, _⟩) qvF_ok (by kernel_rfl) (mrD_hk k L o d j) ho (by kernel_rfl) (by kernel_rfl) hs hK
theorem mrE_hk (k : U4) (L : List (Fp × Fp × Fp)) (o : Fp × Fp × Fp) (d j : Int) : (run qvF false 3000 ((⟨lpIn mrC_k, .normal, mrS k L o d j⟩ : Cfg)) [false]).cfg.k = [] := by kernel_rfl
theorem mrE (k : U4) (L : List (Fp × Fp × Fp)) (o : Fp × Fp × Fp) (d j:Int) {ρ : Option Nat} (ho : AllP [((decide (j < (4:Int))) = false),((0:Int) ≤ d),(d < (16:Int)),(0 = 0),((d).toNat < (List.length L))]) (hs : Sim w0 F0 K ac (mrS k L o d j) cX aX) (hK : ∀ cY aY,Sim w0 F0 K ac (mkSt 43 [4] [.pt 48 0] [48,64,272,320] [(some (.fl [(.ob (.p (0:Fp))),(.ob (.p (0:Fp))),(.ob (.p (0:Fp)))])),(some (.sq (Sq.pt L))),(some (.fl [(.ob (.p (Prod.fst (jpl o (List.getD L (d).toNat pt0))))),(.ob (.p (Prod.fst (Prod.snd (jpl o (List.getD L (d).toNat pt0)))))),(.ob (.p (Prod.snd (Prod.snd (jpl o (List.getD L (d).toNat pt0))))))])),(some (.fl [.ob (.fr k)]))] 528 [[4,5,7,30]] [([.pt 48 0,.pt 64 0,.pt 272 0,(.v (.c (.clo 73 [(320,0)])))],43)]) cY aY → Wq Try.prog Q ([]) ac Exit.normal aY cY.w ρ) : Wq Try.prog Q (lpIn mrC_k) ac .normal aX cX.w ρ :=
  run_atT (o := ⟨_, _, _, _, _, _, _⟩) qvF_ok (by kernel_rfl) (mrE_hk k L o d j) ho (by kernel_rfl) (by kernel_rfl) hs hK
noncomputable def mrF (k : U4) (L : List (Fp × Fp × Fp)) (o : Fp × Fp × Fp) : St := mkSt 43 [4] [.pt 48 0] [48,64,272,320] [(some (.fl [(.ob (.p (0:Fp))),(.ob (.p (0:Fp))),(.ob (.p (0:Fp)))])),(some (.sq (Sq.pt L))),some (.fl [.ob (.p o.1),.ob (.p o.2.1),.ob (.p o.2.2)]),(some (.fl [.ob (.fr k)]))] 528 [[4,5,7,30]] [([.pt 48 0,.pt 64 0,.pt 272 0,(.v (.c (.clo 73 [(320,0)])))],43)]
theorem mrX_hk (k : U4) (L : List (Fp × Fp × Fp)) (o : Fp × Fp × Fp) : (run qvF false 3000 ((⟨rfR myB_k, .normal, myR k L o⟩ : Cfg)) []).cfg.k = [] := by kernel_rfl
theorem mrX (k : U4) (L : List (Fp × Fp × Fp)) (o : Fp × Fp × Fp) (ho : AllP []) (hs : Sim w0 F0 K ac (myR k L o) cX aX) (hK : ∀ ac cY aY,Sim w0 F0 K ac (mkSt 43 [4] [.pt 48 0] [48] [(some (.fl [(.ob (.p (Prod.fst o))),(.ob (.p (Prod.fst (Prod.snd o)))),(.ob (.p (Prod.snd (Prod.snd o))))]))] 416 [] []) cY aY → Wq Try.prog Q ([]) ac Exit.ret aY cY.w) : Wq Try.prog Q (rfR myB_k) ac .normal aX cX.w :=
  run_at2 (o := ⟨_, _, _, _, _, _, _⟩) qvF_ok (by kernel_rfl) (mrX_hk k L o) ho hs hK
noncomputable def mrZ (o : Fp × Fp × Fp) : St := mkSt 43 [4] [.pt 48 0] [48] [some (.fl [.ob (.p o.1),.ob (.p o.2.1),.ob (.p o.2.2)])] 416 [] []
theorem mrR_end (o : Fp × Fp × Fp) : runEnd qvF Try.f38 false 3000 (⟨[],.ret,mrZ o⟩) [] [] [] = (some ([],((.v (.a [(.ob (.p (Prod.fst o))),(.ob (.p (Prod.fst (Prod.snd o)))),(.ob (.p (Prod.snd (Prod.snd o))))])),[]))) := by kernel_rfl
end
end Go.Proofs.Ytdeohachoeopdaa

/- A point as often as a number says: contract. No conditions. -/
namespace Go.Proofs.Ytdeohachoeopdaa

theorem cat_flat {x : Ctx} (L : List (Fp × Fp × Fp)) : ∀ (n i : Nat) (cs : List Value), catL x.D (flatPt L i n) cs → cs.length = n * 18 ∧ ∀ j, j < n → ∃ c, catL x.D (ptIts (L.getD (i + j) pt0)) c ∧ ∀ (q : Nat) (v : Value), c[q]? = some v → cs[j * 18 + q]? = some v
  | 0, i, cs, h => by
    have h : cs = [] := h
    subst h
    exact ⟨rfl, fun j hj => absurd hj (Nat.not_lt_zero _)⟩
  | n + 1, i, cs, h => by
    obtain ⟨c1, r1, e1, h1, c2, r2, e2, h2, c3, r3, e3, h3, h4⟩ := h
    obtain ⟨hl, hj⟩ := cat_flat L n (i + 1) r3 h4
    have l1 : c1.length = 6 := D_len h1
    have l2 : c2.length = 6 := D_len h2
    have l3 : c3.length = 6 := D_len h3
    subst e1 e2 e3
    refine ⟨by simp only [List.length_append]; omega, fun j hjn => ?_⟩
    cases j with
    | zero =>
      refine ⟨c1 ++ (c2 ++ (c3 ++ [])), ⟨c1, _, rfl, h1, c2, _, rfl, h2, c3, _, rfl, h3, rfl⟩, fun q v hq => ?_⟩
      rw [List.append_nil] at hq
      have hlt : q < (c1 ++ (c2 ++ c3)).length := by
        rcases Nat.lt_or_ge q (c1 ++ (c2 ++ c3)).length with h | h
        · exact h
        · rw [List.getElem?_eq_none h] at hq; cases hq
      rw [Nat.zero_mul, Nat.zero_add, ← hq]
      have e : c1 ++ (c2 ++ (c3 ++ r3)) = (c1 ++ (c2 ++ c3)) ++ r3 := by simp
      rw [e, List.getElem?_append_left hlt]
    | succ j =>
      obtain ⟨c, hc, hv⟩ := hj j (by omega)
      rw [show i + 1 + j = i + (j + 1) from by omega] at hc
      refine ⟨c, hc, fun q v hq => ?_⟩
      have e : c1 ++ (c2 ++ (c3 ++ r3)) = (c1 ++ (c2 ++ c3)) ++ r3 := by simp
      have hl18 : (c1 ++ (c2 ++ c3)).length = 18 := by simp only [List.length_append]; omega
      rw [e, List.getElem?_append_right (by rw [hl18]; omega), hl18, show (j + 1) * 18 + q - 18 = j * 18 + q from by omega]
      exact hv q v hq

theorem tab_conv {x : Ctx} (L : List (Fp × Fp × Fp)) (h : L.length = 16) (cs : List Value) (hc : denEn x (.fl (flatPt L 0 16)) cs) : denEn x (.sq (.pt L)) cs := by
  obtain ⟨hl, hj⟩ := cat_flat L 16 0 cs hc
  refine ⟨?_, fun i hi => ?_⟩
  · show L.length * 18 ≤ cs.length
    rw [h, hl]
    exact Nat.le_refl _
  · have hi : i < L.length := hi
    rw [h] at hi
    obtain ⟨c, h1, h2⟩ := hj i hi
    rw [Nat.zero_add] at h1
    exact ⟨c, h1, h2⟩

def tab0 (x y : Fp) : List (Fp × Fp × Fp) := (x, y, 0) :: List.replicate 15 pt0

theorem many_fnd (x y z : Fp) (k : U4) : FnD Try.prog 38 [.v (.a [.ob (.p x), .ob (.p y), .ob (.p z)]), .v (.a [.ob (.fr k)])] (.v (.a (ptIts (jmn (x, y, z) (dgT k.val 64))))) [] := by
  refine fn_start_m (fn := Try.f38) (c := bodyOf Try.f38) Try.func38 rfl rfl fun x0 a0 hk hF hs => ?_
  refine my x y z k ⟨by decide, by decide, trivial⟩ hs fun ac cY aY hs1 => ?_
  have hs2 := hs1.blocks (ens' := [some (.fl [.ob (.p x), .ob (.p y), .ob (.p z)]), some (.fl [.ob (.fr k)]), some (.fl [.ob (.p 0), .ob (.p 0), .ob (.p 0)]), some (.sq (.pt (tab0 x y)))])
    ⟨.inl rfl, .inl rfl, .inl rfl, .inr ⟨_, _, _, rfl, rfl, rfl, fun cs h => tab_conv _ rfl cs h⟩, trivial⟩
  refine loop_rule (ι := { p : Nat × List (Fp × Fp × Fp) // 1 ≤ p.1 ∧ p.1 ≤ 16 ∧ p.2.length = 16 ∧ ∀ j, j < p.1 → p.2.getD j pt0 = jtab (x, y, z) j }) (fun p => myS x y z k p.1.2 (p.1.1 : Int)) (fun p => 16 - p.1.1) (c := lpC my_k) (k := lpR my_k) (by kernel_rfl) (fun p ih ac cY aY hs => ?_)
    ⟨(1, tab0 x y), Nat.le_refl 1, by show (1 : Nat) ≤ 16; omega, rfl, fun j hj => by
      have : j = 0 := by have hj : j < 1 := hj; omega
      subst this; rfl⟩ (hs2.nx _)
  obtain ⟨⟨i, L⟩, h1, h16, hL, htab⟩ := p
  simp only at ih hs h1 h16 hL htab
  by_cases hi : i < 16
  · have e1 : IntKind.wrap IntKind.i64 ((i : Int) - 1) = ((i - 1 : Nat) : Int) := by rw [wrap_id (by omega) (by omega)]; omega
    have e2 : IntKind.wrap IntKind.i64 ((i : Int) + 1) = ((i + 1 : Nat) : Int) := by rw [wrap_id (by omega) (by omega)]; omega
    refine myA x y z k L i ⟨decide_eq_true (by omega), by rw [e1]; omega, by rw [e1]; omega, rfl, by rw [e1, Int.toNat_natCast, hL]; omega, by omega, by omega, rfl, by rw [Int.toNat_natCast, hL]; exact hi, trivial⟩ hs fun ac cZ aZ hs3 => ?_
    rw [e1, e2, Int.toNat_natCast, Int.toNat_natCast, htab (i - 1) (by omega)] at hs3
    have e3 : jpl (jtab (x, y, z) (i - 1)) (x, y, z) = jtab (x, y, z) i := by
      obtain ⟨m, rfl⟩ : ∃ m, i = m + 1 := ⟨i - 1, by omega⟩
      rfl
    rw [e3] at hs3
    refine ih ⟨(i + 1, L.set i (jtab (x, y, z) i)), by show 1 ≤ i + 1; omega, hi, by show (L.set i _).length = 16; rw [List.length_set]; exact hL, fun j hj => ?_⟩ (by show 16 - (i + 1) < 16 - i; omega) ac cZ aZ (hs3.nx _)
    have hj : j < i + 1 := hj
    show (L.set i (jtab (x, y, z) i)).getD j pt0 = _
    by_cases e : j = i
    · subst e
      simp [List.getD, hL, hi]
    · have : (L.set i (jtab (x, y, z) i)).getD j pt0 = L.getD j pt0 := by
        simp [List.getD, List.getElem?_set_ne (Ne.symm e)]
      rw [this]
      exact htab j (by omega)
  · have : i = 16 := by omega
    subst this
    refine myB x y z k L _ ⟨by decide, by decide, by decide, rfl, by rw [hL]; decide, trivial⟩ hs fun ac cZ aZ hs3 => ?_
    rw [htab 0 (by decide)] at hs3
    obtain ⟨e1, e2⟩ := isRf_eq (k := myB_k) (by kernel_rfl)
    rw [e1]
    have eP : (rfP myB_k).toList = [31] := by kernel_rfl
    have eG : rfG myB_k = .tmp 30 := by kernel_rfl
    refine range_rule (ps := rfP myB_k) e2 hs3 (gf := 73) (caps := [(320, 0)]) (enters_of Try.func73 rfl rfl) (fun pre => myR k L (pre.foldl (jst (x, y, z)) (jtab (x, y, z) 0))) (fun s => by rw [eG]; rfl) ⟨_, rfl⟩ (dgT k.val 64) dgVals dgEnc
      (fun y z => .cons ⟨rfl, 0, rfl⟩ .nil) (fun z => by rw [← Array.length_toList, eP]; rfl) (fun pre p hp => ?_) (digits_iter fun s => rfl) (fun pre d => mrB k L (pre.foldl (jst (x, y, z)) (jtab (x, y, z) 0)) d)
      (fun pre d => mrF k L ((pre ++ [d]).foldl (jst (x, y, z)) (jtab (x, y, z) 0))) (fun pre d => ⟨_, rfl⟩) (fun pre d hd w1 F1 K1 as1 Q1 l y1 b hs4 hQ => ?_) (fun pre d hd w1 F1 K1 as1 Q1 l y1 b hs4 hQ => ?_) fun D y1 hs4 hD hFD hd => ?_
    · rw [eP] at hp
      have h43 : (myR k L (pre.foldl (jst (x, y, z)) (jtab (x, y, z) 0))).nt = 43 := rfl
      rw [h43]
      simp only [List.mem_cons, List.not_mem_nil, or_false] at hp
      subst hp
      decide
    · rw [eP] at hs4
      exact mrA k L _ d trivial hs4 fun cZ aZ hs5 => ⟨hQ _ _ (hs5.nx _)⟩
    · have hd16 : d < 16 := by
        obtain ⟨r, hr⟩ := hd
        exact dgT_lt (n := k.val) 64 d (by rw [hr]; simp)
      rw [List.foldl_append] at hQ
      generalize pre.foldl (jst (x, y, z)) (jtab (x, y, z) 0) = o at hs4 hQ
      have hst : List.foldl (jst (x, y, z)) o [d] = jpl (jtws 4 o) (L.getD d pt0) := by
        rw [htab d hd16]
        rfl
      rw [hst] at hQ
      refine mrC k L o d trivial hs4 fun cV aV hs5 => ?_
      let I : { j : Nat // j ≤ 4 } → List Act → Act → World → Prop := fun j ac a w => ac = as1 ∧ ∃ z, z.w = w ∧ Sim w1 F1 K1 as1 (mrS k L (jtws j.1 o) d (j.1 : Int)) z a
      refine loop_inv (ρ := some l) I (fun j => 4 - j.1) (c := lpC mrC_k) (k := lpR mrC_k) (by kernel_rfl) (fun j ih ac aV w hI => ?_) ⟨0, Nat.zero_le _⟩ ⟨rfl, cV, rfl, hs5.nx _⟩
      obtain ⟨j, hj⟩ := j
      obtain ⟨rfl, cV, rfl, hs6⟩ := hI
      simp only at ih hs6
      by_cases hj4 : j < 4
      · refine mrD k L _ d j ⟨decide_eq_true (by omega), trivial⟩ hs6 fun cU aU hs7 => ?_
        rw [wrap_id (n := (j : Int) + 1) (by omega) (by omega)] at hs7
        exact ih ⟨j + 1, hj4⟩ (by show 4 - (j + 1) < 4 - j; omega) _ aU _ ⟨rfl, cU, rfl, hs7.nx _⟩
      · have : j = 4 := by omega
        subst this
        refine mrE k L _ d _ ⟨by decide, by omega, by omega, rfl, by rw [Int.toNat_natCast, hL]; exact hd16, trivial⟩ hs6 fun cU aU hs7 => ?_
        rw [Int.toNat_natCast] at hs7
        exact ⟨hQ _ _ (hs7.nx _)⟩
    · have hs5 := hs4.marked rfl rfl D
      show Wq _ _ _ _ _ _ _ _
      have ej : (dgT k.val 64).foldl (jst (x, y, z)) (jtab (x, y, z) 0) = jmn (x, y, z) (dgT k.val 64) := rfl
      rw [ej] at hs4 hs5
      generalize jmn (x, y, z) (dgT k.val 64) = o at hs4 hs5 ⊢
      refine mrX k L o trivial hs5 fun ac cV aV hs6 => ⟨?_⟩
      have hs7 : Sim y1.w y1.F (kOwn y1 kAll (markOf D)) ac (mrZ o) cV aV := hs6
      exact fn_finish qvF_ok hk hF (mrR_end o) trivial (fun y v hd => hd) hs4 hD hFD hd rfl hs7

end Go.Proofs.Ytdeohachoeopdaa

/- Sixteen points in a block: as one element, or as sixteen. No conditions. -/
namespace Go.Proofs.Ytdeohachoeopdaa

theorem tab16 {x : Ctx} (L : List (Fp × Fp × Fp)) (h : L.length = 16) (cs : List Value) (hc : denEn x (.fl (flatPt L 0 16)) cs) : denEn x (.sq (.pt L)) cs := by
  obtain ⟨hl, hj⟩ := cat_flat L 16 0 cs hc
  refine ⟨?_, fun i hi => ?_⟩
  · show L.length * 18 ≤ cs.length
    rw [h, hl]
    exact Nat.le_refl _
  · have hi : i < L.length := hi
    rw [h] at hi
    obtain ⟨c, h1, h2⟩ := hj i hi
    rw [Nat.zero_add] at h1
    exact ⟨c, h1, h2⟩
theorem flat_cat {x : Ctx} (L : List (Fp × Fp × Fp)) : ∀ (n k : Nat) (cs : List Value), (∀ j, j < n → ∃ c, catL x.D (ptIts (L.getD (k + j) pt0)) c ∧ ∀ (q : Nat) (v : Value), c[q]? = some v → cs[j * 18 + q]? = some v) →
    ∃ c, catL x.D (flatPt L k n) c ∧ ∀ (q : Nat) (v : Value), c[q]? = some v → cs[q]? = some v
  | 0, k, cs, _ => ⟨[], rfl, fun q v h => by simp at h⟩
  | n + 1, k, cs, h => by
    obtain ⟨c0, h0, g0⟩ := h 0 (Nat.zero_lt_succ _)
    rw [Nat.add_zero] at h0
    obtain ⟨c, hc, g⟩ := flat_cat L n (k + 1) (cs.drop 18) fun j hj => by
      obtain ⟨c, h1, h2⟩ := h (j + 1) (by omega)
      rw [show k + (j + 1) = k + 1 + j from by omega] at h1
      refine ⟨c, h1, fun q v hq => ?_⟩
      rw [List.getElem?_drop, ← h2 q v hq]
      congr 1
      omega
    obtain ⟨c1, r1, e1, h1, c2, r2, e2, h2, c3, r3, e3, h3, h4⟩ := h0
    have h4 : r3 = [] := h4
    have l1 : c1.length = 6 := D_len h1
    have l2 : c2.length = 6 := D_len h2
    have l3 : c3.length = 6 := D_len h3
    subst e1 e2 e3 h4
    refine ⟨c1 ++ (c2 ++ (c3 ++ c)), ⟨c1, _, rfl, h1, c2, _, rfl, h2, c3, _, rfl, h3, hc⟩, fun q v hq => ?_⟩
    have e : c1 ++ (c2 ++ (c3 ++ c)) = (c1 ++ (c2 ++ (c3 ++ []))) ++ c := by simp
    have hl : (c1 ++ (c2 ++ (c3 ++ []))).length = 18 := by simp only [List.length_append, List.length_nil]; omega
    rw [e] at hq
    by_cases hq18 : q < 18
    · rw [List.getElem?_append_left (by omega)] at hq
      have := g0 q v hq
      rwa [Nat.zero_mul, Nat.zero_add] at this
    · rw [List.getElem?_append_right (by omega), hl] at hq
      have := g _ v hq
      rw [List.getElem?_drop] at this
      rwa [show 18 + (q - 18) = q from by omega] at this
theorem pt_ptt {x : Ctx} (L : List (Fp × Fp × Fp)) (h : L.length = 16) (cs : List Value) (hc : denEn x (.sq (.pt L)) cs) : denEn x (.sq (.ptt [L])) cs := by
  obtain ⟨hl, hj⟩ := hc
  have hl : L.length * 18 ≤ cs.length := hl
  rw [h] at hl
  obtain ⟨c, h1, h2⟩ := flat_cat L 16 0 cs fun j hj16 => by
    obtain ⟨c, g1, g2⟩ := hj j (by show j < L.length; omega)
    refine ⟨c, ?_, g2⟩
    rw [Nat.zero_add]
    exact g1
  refine ⟨by show 1 * 288 ≤ cs.length; omega, fun i hi => ?_⟩
  have hi : i < 1 := hi
  obtain rfl : i = 0 := by omega
  refine ⟨c, h1, fun q v hq => ?_⟩
  rw [Nat.zero_mul, Nat.zero_add]
  exact h2 q v hq
theorem ptt_pt {x : Ctx} (L : List (Fp × Fp × Fp)) (h : L.length = 16) (cs : List Value) (hc : denEn x (.sq (.ptt [L])) cs) : denEn x (.sq (.pt L)) cs := by
  obtain ⟨hl, hj⟩ := hc
  have hl : 1 * 288 ≤ cs.length := hl
  obtain ⟨c, h1, h2⟩ := hj 0 (Nat.zero_lt_succ _)
  obtain ⟨_, g⟩ := cat_flat L 16 0 c h1
  refine ⟨by show L.length * 18 ≤ cs.length; omega, fun i hi => ?_⟩
  have hi : i < L.length := hi
  obtain ⟨c', g1, g2⟩ := g i (by omega)
  rw [Nat.zero_add] at g1
  refine ⟨c', g1, fun q v hq => ?_⟩
  have := h2 _ v (g2 q v hq)
  rwa [Nat.zero_mul, Nat.zero_add] at this

/-- Rows in blocks, told otherwise. -/
def convQ (x : Ctx) : List (Option En) → List (Option En) → Prop
  | [], [] => True
  | e :: l, e' :: l' => (e = e' ∨ ∃ q q', e = some (.sq q) ∧ e' = some (.sq q') ∧ (q.n = 0 → q'.n = 0) ∧ ∀ cs, denEn x (.sq q) cs → denEn x (.sq q') cs) ∧ convQ x l l'
  | _, _ => False
theorem convQ_look {x : Ctx} : ∀ {ml : List Nat} {ens ens' : List (Option En)}, convQ x ens ens' → ∀ p, look none ml ens p = look none ml ens' p ∨ ∃ q q', look none ml ens p = some (.sq q) ∧ look none ml ens' p = some (.sq q') ∧ (q.n = 0 → q'.n = 0) ∧ ∀ cs, denEn x (.sq q) cs → denEn x (.sq q') cs
  | [], _, _, _, _ => .inl rfl
  | _ :: _, [], [], _, _ => .inl rfl
  | _ :: _, [], _ :: _, h, _ => h.elim
  | _ :: _, _ :: _, [], h, _ => h.elim
  | t :: tl, e :: l, e' :: l', h, p => by
    simp only [look]
    by_cases hp : p = t
    · simp only [hp, if_true]; exact h.1
    · simp only [hp, if_false]; exact convQ_look h.2 p
theorem Sim.rows {w0 : World} {F0 : Nat → Prop} {K : Kp} {ac : List Act} {nt nx : Nat} {tl : List Nat} {svs : List SV} {ml : List Nat} {ens ens' : List (Option En)} {ftl : List (List Nat)} {fsv : List (List SV × Nat)} {x : Ctx} {a : Act}
    (hs : Sim w0 F0 K ac (mkSt nt tl svs ml ens nx ftl fsv) x a) (h : convQ x ens ens') : Sim w0 F0 K ac (mkSt nt tl svs ml ens' nx ftl fsv) x a := by
  have hm := hs.mem
  refine ⟨hs.defers, hs.nt, hs.t, ?_, hs.base, hs.frs⟩
  have key := convQ_look (ml := ml) h
  refine ⟨fun p => ?_, fun p l hp => ?_, fun p q hp hn => ?_, fun p e hp hr => ?_, hm.inj, hm.own, hm.fw⟩
  · rw [← hm.dom p]
    show look none ml ens' p = none ↔ look none ml ens p = none
    rcases key p with e | ⟨q, q', e1, e2, _⟩
    · rw [e]
    · rw [e1, e2]
      constructor <;> (intro h; cases h)
  · have hp : look none ml ens' p = some (.fl l) := hp
    rcases key p with e | ⟨q, q', e1, e2, _⟩
    · rw [← e] at hp; exact hm.fl p l hp
    · rw [e2] at hp; cases hp
  · have hp : look none ml ens' p = some (.sq q) := hp
    rcases key p with e | ⟨q1, q', e1, e2, h0, _⟩
    · rw [← e] at hp; exact hm.nil p q hp hn
    · rw [e2] at hp
      cases hp
      exact h0 (hm.nil p q1 e1 hn)
  · have hp : look none ml ens' p = some e := hp
    rcases key p with e0 | ⟨q, q', e1, e2, _, hc⟩
    · rw [← e0] at hp; exact hm.ent p e hp hr
    · rw [e2] at hp
      cases hp
      obtain ⟨cs, ty, h1, h2⟩ := hm.ent p _ e1 hr
      exact ⟨cs, ty, h1, hc _ h2⟩

/-- One row, and all rows. -/
def rwL (a : Fp × Fp × Fp) : List (Fp × Fp × Fp) := (List.range 16).map (rowT pt0 a)
def tbL (a : Fp × Fp × Fp) (n : Nat) : List (List (Fp × Fp × Fp)) := (List.range n).map fun i => rwL (baT pt0 a i)
theorem rwL_len (a : Fp × Fp × Fp) : (rwL a).length = 16 := rfl
theorem rwL_get (a : Fp × Fp × Fp) {d : Nat} (h : d < 16) : (rwL a).getD d pt0 = rowT pt0 a d := by
  unfold rwL
  rw [List.getD_eq_getElem?_getD, List.getElem?_map, List.getElem?_range h]
  rfl
theorem tbL_len (a : Fp × Fp × Fp) (n : Nat) : (tbL a n).length = n := by
  unfold tbL
  rw [List.length_map, List.length_range]
theorem tbL_succ (a : Fp × Fp × Fp) (n : Nat) : tbL a (n + 1) = tbL a n ++ [rwL (baT pt0 a n)] := by
  unfold tbL
  rw [List.range_succ, List.map_append]
  rfl
theorem tbL_get (a : Fp × Fp × Fp) {n i : Nat} (h : i < n) : (tbL a n).getD i [] = rwL (baT pt0 a i) := by
  unfold tbL
  rw [List.getD_eq_getElem?_getD, List.getElem?_map, List.getElem?_range h]
  rfl
theorem rwL_ext {L : List (Fp × Fp × Fp)} {a : Fp × Fp × Fp} (hl : L.length = 16) (hg : ∀ j, j < 16 → L.getD j pt0 = rowT pt0 a j) : L = rwL a := by
  apply List.ext_getElem (by rw [hl, rwL_len])
  intro j h1 h2
  have e := hg j (by omega)
  rw [← rwL_get a (by omega), List.getD_eq_getElem?_getD, List.getD_eq_getElem?_getD, List.getElem?_eq_getElem h1, List.getElem?_eq_getElem h2] at e
  exact e
theorem all16 {L : List (Fp × Fp × Fp)} (h : L.length = 16) : [L.getD 0 pt0, L.getD 1 pt0, L.getD 2 pt0, L.getD 3 pt0, L.getD 4 pt0, L.getD 5 pt0, L.getD 6 pt0, L.getD 7 pt0, L.getD 8 pt0, L.getD 9 pt0, L.getD 10 pt0, L.getD 11 pt0, L.getD 12 pt0, L.getD 13 pt0, L.getD 14 pt0, L.getD 15 pt0] = L := by
  match L, h with
  | [_, _, _, _, _, _, _, _, _, _, _, _, _, _, _, _], _ => rfl
end Go.Proofs.Ytdeohachoeopdaa

/- A table of multiples of a point: contract. No conditions. -/
namespace Go.Proofs.Ytdeohachoeopdaa

theorem mult_fnd (a : Fp × Fp × Fp) {N : Nat} (hN : N = 64) : FnD Try.prog 18 [.v (.a (ptIts a))] (.v (.c (.sl (.ptt (tbL a N))))) [] := by
  refine fn_start (fn := Try.f18) (c := bodyOf Try.f18) Try.func18 rfl rfl fun x0 a0 hk hF hs => ?_
  refine mv a trivial hs fun ac cY aY hs1 => ?_
  have hs2 := hs1.nilRow (p := 17) (q := .ptt []) rfl (by decide) rfl (ml' := [16, 17]) (ens' := [some (.fl (ptIts a)), some (.sq (.ptt []))]) (fun r => fl_look (by decide))
    (svs' := [.v (.c (.ptr 16 0)), .v (.c (.slc 17 0 0 288)), .v (.c (.int .i64 0))]) ⟨.inl rfl, .inr ⟨288, rfl, rfl⟩, .inl rfl, trivial⟩
  have hmax : 65 ≤ maxLen := by decide
  change Wq Try.prog _ _ _ _ _ (nilCtx cY 17).w
  refine loop_rule (ι := { i : Nat // i ≤ N }) (fun i => mvS (baT pt0 a i.1) (tbL a i.1) i.1 (i.1 : Int)) (fun i => N - i.1) (c := lpC mv_k) (k := lpR mv_k) (by kernel_rfl) (fun i ih ac cY aY hs => ?_) ⟨0, Nat.zero_le _⟩ (hs2.nx _)
  obtain ⟨i, hi⟩ := i
  simp only at ih hs
  by_cases h : i < N
  · have hnext : baT pt0 a (i + 1) = jpl (rowT pt0 (baT pt0 a i) 15) (baT pt0 a i) := rfl
    have htab := tbL_succ a i
    have hlen := tbL_len a i
    have ih2 := ih ⟨i + 1, h⟩ (by show N - (i + 1) < N - i; omega)
    dsimp only at ih2
    rw [hnext, htab] at ih2
    clear ih hnext htab
    generalize baT pt0 a i = o at hs ih2
    generalize tbL a i = R at hs ih2 hlen
    refine mvA o R i i ⟨decide_eq_true (by omega), trivial⟩ hs fun ac cU aU hs3 => ?_
    have hs4 := hs3.blocks (ens' := [some (.fl (ptIts o)), some (.sq (.ptt R)), some (.sq (.pt (List.replicate 16 pt0)))])
      ⟨.inl rfl, .inl rfl, .inr ⟨_, _, _, rfl, rfl, rfl, fun cs h => tab16 _ rfl cs h⟩, trivial⟩
    refine loop_rule (ι := { p : Nat × List (Fp × Fp × Fp) // 1 ≤ p.1 ∧ p.1 ≤ 16 ∧ p.2.length = 16 ∧ ∀ j, j < p.1 → p.2.getD j pt0 = rowT pt0 o j }) (fun p => mvT o R i i p.1.2 (p.1.1 : Int)) (fun p => 16 - p.1.1) (c := lpC mvA_k) (k := lpR mvA_k) (by kernel_rfl) (fun p ih ac cY aY hs => ?_)
      ⟨(1, List.replicate 16 pt0), Nat.le_refl _, by decide, rfl, fun j hj => by
        obtain rfl : j = 0 := by have hj : j < 1 := hj; omega
        rfl⟩ (hs4.nx _)
    obtain ⟨⟨d, L⟩, hd1, hd16, hL, hg⟩ := p
    simp only at ih hs hd1 hd16 hL hg
    by_cases hd : d < 16
    · have ed : (IntKind.wrap IntKind.i64 ((d : Int) - 1)) = ((d - 1 : Nat) : Int) := by rw [wrap_id (by omega) (by omega)]; omega
      have ed2 : (IntKind.wrap IntKind.i64 ((d : Int) + 1)) = ((d + 1 : Nat) : Int) := by rw [wrap_id (by omega) (by omega)]; rfl
      refine mvB o R i i L d ⟨decide_eq_true (by omega), by rw [ed]; omega, by rw [ed]; omega, rfl, by rw [ed, Int.toNat_natCast]; omega, by omega, by omega, rfl, by rw [Int.toNat_natCast]; omega, trivial⟩ hs fun ac cV aV hs5 => ?_
      rw [ed, ed2, Int.toNat_natCast, Int.toNat_natCast, hg (d - 1) (by omega)] at hs5
      have er : jpl (rowT pt0 o (d - 1)) o = rowT pt0 o d := by
        obtain ⟨e, rfl⟩ : ∃ e, d = e + 1 := ⟨d - 1, by omega⟩
        rfl
      rw [er] at hs5
      refine ih ⟨(d + 1, L.set d (rowT pt0 o d)), by show 1 ≤ d + 1; omega, hd, (List.length_set ..).trans hL, fun j hj => ?_⟩ (by show 16 - (d + 1) < 16 - d; omega) ac cV aV (hs5.nx _)
      have hj : j < d + 1 := hj
      show (L.set d _).getD j pt0 = _
      rw [set_getD _ _ _ _ _ (by omega)]
      by_cases e : j = d
      · subst e; rw [if_pos rfl]
      · rw [if_neg e]; exact hg j (by omega)
    · obtain rfl : d = 16 := by omega
      have eL : L = rwL o := rwL_ext hL hg
      have h15 := rwL_get o (d := 15) (by decide)
      have h16 := rwL_len o
      rw [← eL] at ih2 h15 h16
      have hs5 := hs.rows (ens' := [some (.fl (ptIts o)), some (.sq (.ptt R)), some (.sq (.ptt [L]))])
        ⟨.inl rfl, .inl rfl, .inr ⟨_, _, rfl, rfl, fun h => by have h : L.length = 0 := h; omega, fun cs h => pt_ptt L h16 cs h⟩, trivial⟩
      refine mvC o R i i L 16 ⟨by decide, by decide, by omega, by omega, by omega, rfl, trivial⟩ (hs5.nx _) fun ac cV aV hs6 => ?_
      rw [all16 h16] at hs6
      have hs7 := hs6.rows (ens' := [some (.fl (ptIts o)), some (.sq (.ptt (R ++ [L]))), some (.sq (.pt L))])
        ⟨.inl rfl, .inl rfl, .inr ⟨_, _, rfl, rfl, fun h => Nat.noConfusion (show 1 = 0 from h), fun cs h => ptt_pt L h16 cs h⟩, trivial⟩
      have hs8 : Sim x0.w x0.F kAll ac (mvV o R i i L 16) cV aV := by
        unfold mvV
        rw [all16 h16]
        exact hs7
      refine mvD o R i i L 16 ⟨by decide, by decide, rfl, by omega, trivial⟩ hs8 fun ac cW aW hs9 => ?_
      rw [all16 h16, h15, wrap_id (n := (i : Int) + 1) (by omega) (by omega), hlen] at hs9
      exact ih2 ac cW aW (hs9.nx _)
  · obtain rfl : i = N := by omega
    exact run_end2 qtG_ok hk hF (mvX_end _ _ _ _) ⟨decide_eq_false (by omega), (tbL_len a i).symm, trivial⟩ (fun y v hd => hd) hs

end Go.Proofs.Ytdeohachoeopdaa

/- One of each row added up, walked. No conditions. -/
namespace Go.Proofs.Ytdeohachoeopdaa
section
variable {w0 : World} {F0 : Nat → Prop} {K : Kp} {ac : List Act} {Q : Exit → Act → World → Prop} {cX : Ctx} {aX : Act}

--@env qtG qtG_ok
noncomputable def pc_k : List KI := (run qtG false 3000 ((fun (T : List (List (Fp × Fp × Fp))) (k : U4) => (⟨[.code (bodyOf Try.f23)], .normal, initSt Try.f23.ntmps [.v (.c (.sl (.ptt T))), .v (.a [.ob (.fr k)])]⟩ : Cfg)) default default) []).cfg.k
theorem pc_hk (T : List (List (Fp × Fp × Fp))) (k : U4) : (run qtG false 3000 ((⟨[.code (bodyOf Try.f23)], .normal, initSt Try.f23.ntmps [.v (.c (.sl (.ptt T))), .v (.a [.ob (.fr k)])]⟩ : Cfg)) []).cfg.k = pc_k := by kernel_rfl
theorem pc (T : List (List (Fp × Fp × Fp))) (k : U4) (ho : AllP []) (hs : Sim w0 F0 K ac (initSt Try.f23.ntmps [.v (.c (.sl (.ptt T))),.v (.a [.ob (.fr k)])]) cX aX) (hK : ∀ ac cY aY,Sim w0 F0 K ac (mkSt 30 [3,4,5,8,9,10] [.pt 16 0,.pt 32 0,.pt 48 0,(.v (.c (.sl (Sq.ptt T)))),(.ii (((List.length T) : Nat):Int)),.ii (0:Int)] [16,32,48] [(some (.fl [.ob (.fr k)])),(some (.fl [(.ob (.p (0:Fp))),(.ob (.p (0:Fp))),(.ob (.p (0:Fp)))])),(some (.fl [(.ob (.p (0:Fp))),(.ob (.p (0:Fp))),(.ob (.p (0:Fp)))]))] 112 [] []) cY aY → Wq Try.prog Q (pc_k) ac Exit.normal aY cY.w) : Wq Try.prog Q ([.code (bodyOf Try.f23)]) ac .normal aX cX.w :=
  run_at2 (o := ⟨_, _, _, _, _, _, _⟩) qtG_ok (by kernel_rfl) (pc_hk T k) ho hs hK
noncomputable def pcS (T : List (List (Fp × Fp × Fp))) (k : U4) (o : Fp × Fp × Fp) (i:Int) : St := mkSt 30 [3,4,5,8,9,10] [.pt 16 0,.pt 32 0,.pt 48 0,(.v (.c (.sl (Sq.ptt T)))),(.ii (((List.length T) : Nat):Int)),.v (.c (.int .i64 i))] [16,32,48] [(some (.fl [.ob (.fr k)])),(some (.fl [(.ob (.p (0:Fp))),(.ob (.p (0:Fp))),(.ob (.p (0:Fp)))])),some (.fl [.ob (.p o.1),.ob (.p o.2.1),.ob (.p o.2.2)])] 112 [] []
noncomputable def pcA_k : List KI := (run qtG false 18 ((fun (T : List (List (Fp × Fp × Fp))) (k : U4) (o : Fp × Fp × Fp) (i : Int) => (⟨lpIn pc_k, .normal, pcS T k o i⟩ : Cfg)) default default default default) [true]).cfg.k
theorem pcA_hk (T : List (List (Fp × Fp × Fp))) (k : U4) (o : Fp × Fp × Fp) (i : Int) : (run qtG false 18 ((⟨lpIn pc_k, .normal, pcS T k o i⟩ : Cfg)) [true]).cfg.k = pcA_k := by kernel_rfl
theorem pcA (T : List (List (Fp × Fp × Fp))) (k : U4) (o : Fp × Fp × Fp) (i:Int) (ho : AllP [((decide (i < (((List.length T) : Nat):Int))) = true),((0:Int) ≤ i),(i < (((List.length T) : Nat):Int))]) (hs : Sim w0 F0 K ac (pcS T k o i) cX aX) (hK : ∀ ac cY aY,Sim w0 F0 K ac (mkSt 30 [3,4,5,6,7,8,9,10] [.pt 16 0,.pt 32 0,.pt 48 0,.ii i,.pt 176 0,(.v (.c (.sl (Sq.ptt T)))),(.ii (((List.length T) : Nat):Int)),.ii i] [16,32,48,176] [(some (.fl [.ob (.fr k)])),(some (.fl [(.ob (.p (0:Fp))),(.ob (.p (0:Fp))),(.ob (.p (0:Fp)))])),(some (.fl [(.ob (.p (Prod.fst o))),(.ob (.p (Prod.fst (Prod.snd o)))),(.ob (.p (Prod.snd (Prod.snd o))))])),(some (.fl [(.ob (.p (Prod.fst (List.getD (List.getD T (i).toNat ([] : List (Prod Fp (Prod Fp Fp)))) 0 pt0)))),(.ob (.p (Prod.fst (Prod.snd (List.getD (List.getD T (i).toNat ([] : List (Prod Fp (Prod Fp Fp)))) 0 pt0))))),(.ob (.p (Prod.snd (Prod.snd (List.getD (List.getD T (i).toNat ([] : List (Prod Fp (Prod Fp Fp)))) 0 pt0))))),(.ob (.p (Prod.fst (List.getD (List.getD T (i).toNat ([] : List (Prod Fp (Prod Fp Fp)))) 1 pt0)))),(.ob (.p (Prod.fst (Prod.snd (List.getD (List.getD T (i).toNat ([] : List (Prod Fp (Prod Fp Fp)))) 1 pt0))))),(.ob (.p (Prod.snd (Prod.snd (List.getD (List.getD T (i).toNat ([] : List (Prod Fp (Prod Fp Fp)))) 1 pt0))))),(.ob (.p (Prod.fst (List.getD (List.getD T (i).toNat ([] : List (Prod Fp (Prod Fp Fp)))) 2 pt0)))),(.ob (.p (Prod.fst (Prod.snd (List.getD (List.getD T (i).toNat ([] : List (Prod Fp (Prod Fp Fp)))) 2 pt0))))),(.ob (.p (Prod.snd (Prod.snd (List.getD (List.getD T (i).toNat ([] : List (Prod Fp (Prod Fp Fp)))) 2 pt0))))),(.ob (.p (Prod.fst (List.getD (List.getD T (i).toNat ([] : List (Prod Fp (Prod Fp Fp)))) 3 pt0)))),(.ob (.p (Prod.fst (Prod.snd (List.getD (List.getD T (i).toNat ([] : List (Prod Fp (Prod Fp Fp)))) 3 pt0))))),(.ob (.p (Prod.snd (Prod.snd (List.getD (List.getD T (i).toNat ([] : List (Prod Fp (Prod Fp Fp)))) 3 pt0))))),(.ob (.p (Prod.fst (List.getD (List.getD T (i).toNat ([] : List (Prod Fp (Prod Fp Fp)))) 4 pt0)))),(.ob (.p (Prod.fst (Prod.snd (List.getD (List.getD T (i).toNat ([] : List (Prod Fp (Prod Fp Fp)))) 4 pt0))))),(.ob (.p (Prod.snd (Prod.snd (List.getD (List.getD T (i).toNat ([] : List (Prod Fp (Prod Fp Fp)))) 4 pt0))))),(.ob (.p (Prod.fst (List.getD (List.getD T (i).toNat ([] : List (Prod Fp (Prod Fp Fp)))) 5 pt0)))),(.ob (.p (Prod.fst (Prod.snd (List.getD (List.getD T (i).toNat ([] : List (Prod Fp (Prod Fp Fp)))) 5 pt0))))),(.ob (.p (Prod.snd (Prod.snd (List.getD (List.getD T (i).toNat ([] : List (Prod Fp (Prod Fp Fp)))) 5 pt0))))),(.ob (.p (Prod.fst (List.getD (List.getD T (i).toNat ([] : List (Prod Fp (Prod Fp Fp)))) 6 pt0)))),(.ob (.p (Prod.fst (Prod.snd (List.getD (List.getD T (i).toNat ([] : List (Prod Fp (Prod Fp Fp)))) 6 pt0))))),(.ob (.p (Prod.snd (Prod.snd (List.getD (List.getD T (i).toNat ([] : List (Prod Fp (Prod Fp Fp)))) 6 pt0))))),(.ob (.p (Prod.fst (List.getD (List.getD T (i).toNat ([] : List (Prod Fp (Prod Fp Fp)))) 7 pt0)))),(.ob (.p (Prod.fst (Prod.snd (List.getD (List.getD T (i).toNat ([] : List (Prod Fp (Prod Fp Fp)))) 7 pt0))))),(.ob (.p (Prod.snd (Prod.snd (List.getD (List.getD T (i).toNat ([] : List (Prod Fp (Prod Fp Fp)))) 7 pt0))))),(.ob (.p (Prod.fst (List.getD (List.getD T (i).toNat ([] : List (Prod Fp (Prod Fp Fp)))) 8 pt0)))),(.ob (.p (Prod.fst (Prod.snd (List.getD (List.getD T (i).toNat ([] : List (Prod Fp (Prod Fp Fp)))) 8 pt0))))),(.ob (.p (Prod.snd (Prod.snd (List.getD (List.getD T (i).toNat ([] : List (Prod Fp (Prod Fp Fp)))) 8 pt0))))),(.ob (.p (Prod.fst (List.getD (List.getD T (i).toNat ([] : List (Prod Fp (Prod Fp Fp)))) 9 pt0)))),(.ob (.p (Prod.fst (Prod.snd (List.getD (List.getD T (i).toNat ([] : List (Prod Fp (Prod Fp Fp)))) 9 pt0))))),(.ob (.p (Prod.snd (Prod.snd (List.getD (List.getD T (i).toNat ([] : List (Prod Fp (Prod Fp Fp)))) 9 pt0))))),(.ob (.p (Prod.fst (List.getD (List.getD T (i).toNat ([] : List (Prod Fp (Prod Fp Fp)))) 10 pt0)))),(.ob (.p (Prod.fst (Prod.snd (List.getD (List.getD T (i).toNat ([] : List (Prod Fp (Prod Fp Fp)))) 10 pt0))))),(.ob (.p (Prod.snd (Prod.snd (List.getD (List.getD T (i).toNat ([] : List (Prod Fp (Prod Fp Fp)))) 10 pt0))))),(.ob (.p (Prod.fst (List.getD (List.getD T (i).toNat ([] : List (Prod Fp (Prod Fp Fp)))) 11 pt0)))),(.ob (.p (Prod.fst (Prod.snd (List.getD (List.getD T (i).toNat ([] : List (Prod Fp (Prod Fp Fp)))) 11 pt0))))),(.ob (.p (Prod.snd (Prod.snd (List.getD (List.getD T (i).toNat ([] : List (Prod Fp (Prod Fp Fp)))) 11 pt0))))),(.ob (.p (Prod.fst (List.getD (List.getD T (i).toNat ([] : List (Prod Fp (Prod Fp Fp)))) 12 pt0)))),(.ob (.p (Prod.fst (Prod.snd (List.getD (List.getD T (i).toNat ([] : List (Prod Fp (Prod Fp Fp)))) 12 pt0))))),(.ob (.p (Prod.snd (Prod.snd (List.getD (List.getD T (i).toNat ([] : List (Prod Fp (Prod Fp Fp)))) 12 pt0))))),(.ob (.p (Prod.fst (List.getD (List.getD T (i).toNat ([] : List (Prod Fp (Prod Fp Fp)))) 13 pt0)))),(.ob (.p (Prod.fst (Prod.snd (List.getD (List.getD T (i).toNat ([] : List (Prod Fp (Prod Fp Fp)))) 13 pt0))))),(.ob (.p (Prod.snd (Prod.snd (List.getD (List.getD T (i).toNat ([] : List (Prod Fp (Prod Fp Fp)))) 13 pt0))))),(.ob (.p (Prod.fst (List.getD (List.getD T (i).toNat ([] : List (Prod Fp (Prod Fp Fp)))) 14 pt0)))),(.ob (.p (Prod.fst (Prod.snd (List.getD (List.getD T (i).toNat ([] : List (Prod Fp (Prod Fp Fp)))) 14 pt0))))),(.ob (.p (Prod.snd (Prod.snd (List.getD (List.getD T (i).toNat ([] : List (Prod Fp (Prod Fp Fp)))) 14 pt0))))),(.ob (.p (Prod.fst (List.getD (List.getD T (i).toNat ([] : List (Prod Fp (Prod Fp Fp)))) 15 pt0)))),(.ob (.p (Prod.fst (Prod.snd (List.getD (List.getD T (i).toNat ([] : List (Prod Fp (Prod Fp Fp)))) 15 pt0))))),(.ob (.p (Prod.snd (Prod.snd (List.getD (List.getD T (i).toNat ([] : List (Prod Fp (Prod Fp Fp)))) 15 pt0)))))]))] 224 [] []) cY aY → Wq Try.prog Q (pcA_k) ac Exit.normal aY cY.w) : Wq Try.prog Q (lpIn pc_k) ac .normal aX cX.w :=
  run_at2 (o := ⟨_, _, _, _, _, _, _⟩) qtG_ok (by kernel_rfl) (pcA_hk T k o i) ho hs hK
theorem pcX_end (T : List (List (Fp × Fp × Fp))) (k : U4) (o : Fp × Fp × Fp) (i:Int) : runEnd qtG Try.f23 false 3000 (⟨lpIn pc_k,.normal,pcS T k o i⟩) [false] [] [] = (some ([((decide (i < (((List.length T) : Nat):Int))) = false)],((.v (.a [(.ob (.p (Prod.fst o))),(.ob (.p (Prod.fst (Prod.snd o)))),(.ob (.p (Prod.snd (Prod.snd o))))])),[]))) := by kernel_rfl
noncomputable def pcT (T : List (List (Fp × Fp × Fp))) (k : U4) (o : Fp × Fp × Fp) (i:Int) (L : List (Fp × Fp × Fp)) : St := mkSt 30 [3,4,5,6,7,8,9,10] [.pt 16 0,.pt 32 0,.pt 48 0,.ii i,.pt 176 0,(.v (.c (.sl (Sq.ptt T)))),(.ii (((List.length T) : Nat):Int)),.ii i] [16,32,48,176] [(some (.fl [.ob (.fr k)])),(some (.fl [(.ob (.p (0:Fp))),(.ob (.p (0:Fp))),(.ob (.p (0:Fp)))])),(some (.fl [(.ob (.p (Prod.fst o))),(.ob (.p (Prod.fst (Prod.snd o)))),(.ob (.p (Prod.snd (Prod.snd o))))])),some (.sq (.pt L))] 224 [] []
theorem pcB_hk (T : List (List (Fp × Fp × Fp))) (k : U4) (o : Fp × Fp × Fp) (i : Int) (L : List (Fp × Fp × Fp)) : (run qtG false 3000 ((⟨pcA_k, .normal, pcT T k o i L⟩ : Cfg)) []).cfg.k = lpBk pc_k := by kernel_rfl
theorem pcB (T : List (List (Fp × Fp × Fp))) (k : U4) (o : Fp × Fp × Fp) (i:Int) (L : List (Fp × Fp × Fp)) (ho : AllP [((16:Int) ≠ (0:Int)),((0:Int) ≤ (IntKind.wrap .i64 (Int.tdiv i (16:Int)))),((IntKind.wrap .i64 (Int.tdiv i (16:Int))) < (4:Int)),((0 + (((IntKind.wrap .i64 (Int.tdiv i (16:Int)))).toNat * 1)) < (Ob.k (.fr k))),((16:Int) ≠ (0:Int)),((0:Int) ≤ (IntKind.wrap .i64 ((4:Int) * (Int.tmod i (16:Int))))),((0:Int) ≤ (bitsOp BinOp.and IntKind.u64 (Int.fdiv (limb (Ob.n (.fr k)) (0 + (((IntKind.wrap .i64 (Int.tdiv i (16:Int)))).toNat * 1))) ((2:Int) ^ (Min.min ((IntKind.wrap .i64 ((4:Int) * (Int.tmod i (16:Int))))).toNat 64))) (15:Int))),((bitsOp BinOp.and IntKind.u64 (Int.fdiv (limb (Ob.n (.fr k)) (0 + (((IntKind.wrap .i64 (Int.tdiv i (16:Int)))).toNat * 1))) ((2:Int) ^ (Min.min ((IntKind.wrap .i64 ((4:Int) * (Int.tmod i (16:Int))))).toNat 64))) (15:Int)) < (16:Int)),(0 = 0),(((bitsOp BinOp.and IntKind.u64 (Int.fdiv (limb (Ob.n (.fr k)) (0 + (((IntKind.wrap .i64 (Int.tdiv i (16:Int)))).toNat * 1))) ((2:Int) ^ (Min.min ((IntKind.wrap .i64 ((4:Int) * (Int.tmod i (16:Int))))).toNat 64))) (15:Int))).toNat < (List.length L))]) (hs : Sim w0 F0 K ac (pcT T k o i L) cX aX) (hK : ∀ ac cY aY,Sim w0 F0 K ac (mkSt 30 [3,4,5,8,9,10] [.pt 16 0,.pt 32 0,.pt 48 0,(.v (.c (.sl (Sq.ptt T)))),(.ii (((List.length T) : Nat):Int)),(.ii (IntKind.wrap .i64 (i + (1:Int))))] [16,32,48] [(some (.fl [.ob (.fr k)])),(some (.fl [(.ob (.p (0:Fp))),(.ob (.p (0:Fp))),(.ob (.p (0:Fp)))])),(some (.fl [(.ob (.p (Prod.fst (jpl o (List.getD L ((bitsOp BinOp.and IntKind.u64 (Int.fdiv (limb (Ob.n (.fr k)) (0 + (((IntKind.wrap .i64 (Int.tdiv i (16:Int)))).toNat * 1))) ((2:Int) ^ (Min.min ((IntKind.wrap .i64 ((4:Int) * (Int.tmod i (16:Int))))).toNat 64))) (15:Int))).toNat pt0))))),(.ob (.p (Prod.fst (Prod.snd (jpl o (List.getD L ((bitsOp BinOp.and IntKind.u64 (Int.fdiv (limb (Ob.n (.fr k)) (0 + (((IntKind.wrap .i64 (Int.tdiv i (16:Int)))).toNat * 1))) ((2:Int) ^ (Min.min ((IntKind.wrap .i64 ((4:Int) * (Int.tmod i (16:Int))))).toNat 64))) (15:Int))).toNat pt0)))))),(.ob (.p (Prod.snd (Prod.snd (jpl o (List.getD L ((bitsOp BinOp.and IntKind.u64 (Int.fdiv (limb (Ob.n (.fr k)) (0 + (((IntKind.wrap .i64 (Int.tdiv i (16:Int)))).toNat * 1))) ((2:Int) ^ (Min.min ((IntKind.wrap .i64 ((4:Int) * (Int.tmod i (16:Int))))).toNat 64))) (15:Int))).toNat pt0))))))]))] 480 [] []) cY aY → Wq Try.prog Q (lpBk pc_k) ac Exit.normal aY cY.w) : Wq Try.prog Q (pcA_k) ac .normal aX cX.w :=
  run_at2 (o := ⟨_, _, _, _, _, _, _⟩) qtG_ok (by kernel_rfl) (pcB_hk T k o i L) ho hs hK
end
end Go.Proofs.Ytdeohachoeopdaa

/- One of each row added up: contract. No conditions. -/
namespace Go.Proofs.Ytdeohachoeopdaa

theorem dig_expr0 (k : U4) {i : Nat} (hi : i < 64) : bitsOp BinOp.and IntKind.u64 (Int.fdiv (limb (Ob.n (Ob.fr k)) (0 + (((IntKind.wrap IntKind.i64 (Int.tdiv (i : Int) (16 : Int)))).toNat * 1))) ((2 : Int) ^ (Min.min ((IntKind.wrap IntKind.i64 ((4 : Int) * (Int.tmod (i : Int) (16 : Int))))).toNat 64))) (15 : Int) = ((k.val / 16 ^ i % 16 : Nat) : Int) := by
  have e1 : Int.tdiv (i : Int) (16 : Int) = ((i / 16 : Nat) : Int) := Int.tdiv_eq_ediv_of_nonneg (by omega)
  have e2 : Int.tmod (i : Int) (16 : Int) = ((i % 16 : Nat) : Int) := Int.tmod_eq_emod_of_nonneg (by omega)
  rw [e1, e2, wrap_id (n := ((i / 16 : Nat) : Int)) (by omega) (by omega), wrap_id (n := (4 : Int) * ((i % 16 : Nat) : Int)) (by omega) (by omega), Int.toNat_natCast]
  have e3 : Min.min ((4 : Int) * ((i % 16 : Nat) : Int)).toNat 64 = 4 * (i % 16) := by omega
  have e4 : 0 + i / 16 * 1 = i / 16 := by omega
  rw [e3, e4]
  have hl : limb (Ob.n (Ob.fr k)) (i / 16) = ((k.val / 2 ^ (64 * (i / 16)) % 18446744073709551616 : Nat) : Int) := rfl
  rw [hl, ← dig_nat k.val i]
  generalize k.val / 2 ^ (64 * (i / 16)) % 18446744073709551616 = m
  have hp : ((2 : Int) ^ (4 * (i % 16))) = ((2 ^ (4 * (i % 16)) : Nat) : Int) := by simp
  rw [hp, Int.fdiv_eq_ediv_of_nonneg _ (Int.natCast_nonneg _), ← Int.natCast_ediv, and15]

/-- One of each row of any table, added up. -/
def pkL (T : List (List (Fp × Fp × Fp))) (v : Nat) : Nat → Fp × Fp × Fp
  | 0 => pt0
  | i + 1 => jpl (pkL T v i) ((T.getD i []).getD (v / 16 ^ i % 16) pt0)
theorem pkL_is (a : Fp × Fp × Fp) (v n : Nat) : ∀ i, i ≤ n → pkL (tbL a n) v i = pkT pt0 a v i
  | 0, _ => rfl
  | i + 1, h => by
    show jpl (pkL (tbL a n) v i) (((tbL a n).getD i []).getD (v / 16 ^ i % 16) pt0) = jpl (pkT pt0 a v i) (rowT pt0 (baT pt0 a i) (v / 16 ^ i % 16))
    rw [pkL_is a v n i (by omega), tbL_get a (by omega), rwL_get _ (Nat.mod_lt _ (by decide))]
theorem pick_fnd (T : List (List (Fp × Fp × Fp))) (k : U4) {N : Nat} (hN : N = 64) (hlen : T.length = N) (h16 : ∀ i, i < N → (T.getD i []).length = 16) : FnD Try.prog 23 [.v (.c (.sl (.ptt T))), .v (.a [.ob (.fr k)])] (.v (.a (ptIts (pkL T k.val N)))) [] := by
  refine fn_start (fn := Try.f23) (c := bodyOf Try.f23) Try.func23 rfl rfl fun x0 a0 hk hF hs => ?_
  refine pc T k trivial hs fun ac cY aY hs1 => ?_
  refine loop_rule (ι := { i : Nat // i ≤ N }) (fun i => pcS T k (pkL T k.val i.1) (i.1 : Int)) (fun i => N - i.1) (c := lpC pc_k) (k := lpR pc_k) (by kernel_rfl) (fun i ih ac cY aY hs => ?_) ⟨0, Nat.zero_le _⟩ (hs1.nx _)
  obtain ⟨i, hi⟩ := i
  simp only at ih hs
  by_cases h : i < N
  · have hnext : pkL T k.val (i + 1) = jpl (pkL T k.val i) ((T.getD i []).getD (k.val / 16 ^ i % 16) pt0) := rfl
    have hdl : k.val / 16 ^ i % 16 < 16 := Nat.mod_lt _ (by decide)
    have h16 := h16 i h
    have hdig := dig_expr0 k (i := i) (by omega)
    have hpl := dig_place (i := i) (by omega)
    have hsh := dig_shift i
    have ih2 := ih ⟨i + 1, h⟩ (by show N - (i + 1) < N - i; omega)
    dsimp only at ih2
    rw [hnext] at ih2
    clear ih hnext
    generalize pkL T k.val i = o at hs ih2
    refine pcA T k o i ⟨decide_eq_true (by omega), by omega, by omega, trivial⟩ hs fun ac cU aU hs3 => ?_
    rw [Int.toNat_natCast] at hs3
    generalize T.getD i [] = L at ih2 h16 hs3
    have hs4 := hs3.blocks (ens' := [some (.fl [.ob (.fr k)]), some (.fl (ptIts pt0)), some (.fl (ptIts o)), some (.sq (.pt L))])
      ⟨.inl rfl, .inl rfl, .inl rfl, .inr ⟨_, _, _, rfl, rfl, rfl, fun cs h => tab16 L h16 cs h⟩, trivial⟩
    refine pcB T k o i L ⟨by decide, by rw [hpl]; omega, by rw [hpl]; omega, by rw [hpl, Int.toNat_natCast]; show 0 + i / 16 * 1 < 4; omega, by decide, hsh, by rw [hdig]; omega, by rw [hdig]; omega, rfl, by rw [hdig, Int.toNat_natCast]; omega, trivial⟩ hs4 fun ac cV aV hs5 => ?_
    rw [hdig, Int.toNat_natCast, wrap_id (n := (i : Int) + 1) (by omega) (by omega)] at hs5
    exact ih2 ac cV aV (hs5.nx _)
  · obtain rfl : i = N := by omega
    generalize pkL T k.val i = o at hs ⊢
    exact run_end2 qtG_ok hk hF (pcX_end _ _ _ _) ⟨decide_eq_false (by omega), trivial⟩ (fun y v hd => hd) hs

end Go.Proofs.Ytdeohachoeopdaa

/- Powers of an element of the lesser field, walked. No conditions. -/
namespace Go.Proofs.Ytdeohachoeopdaa
section
variable {w0 : World} {F0 : Nat → Prop} {K : Kp} {ac : List Act} {Q : Exit → Act → World → Prop} {cX : Ctx} {aX : Act}

noncomputable def pvA : Env := qeI.or S4.gK
theorem pvA_ok : EnvOk Try.prog pvA := env_or qeI_ok S4.gK_ok
theorem meth77_Times (v : Value) (w : World) : (method (Try.prog.types.size + Made.depth) 77 v "Times").run Try.prog w = .ok (33, v) w := by kernel_rfl
noncomputable def invS (T : Nat → Option (List (String × Nat))) (t : Nat) : Option (List (String × Nat)) := if t = 77 then some [("Times", 33)] else T t
noncomputable def pvB : Env := { pvA with inv := invS pvA.inv }
theorem pvB_ok : EnvOk Try.prog pvB := by
  refine ⟨pvA_ok.ty, pvA_ok.mixed, pvA_ok.fn, pvA_ok.mu, pvA_ok.inl, pvA_ok.ex, fun t l h => ?_⟩
  have h : invS pvA.inv t = some l := h
  unfold invS at h
  split at h
  · rename_i ht
    cases h
    subst ht
    refine ⟨by kernel_rfl, fun name g hg v args w => ?_⟩
    unfold lookM at hg
    split at hg
    · rename_i hn
      cases hg
      subst hn
      simp only [callMethod, Sem.run_bind, run_program, Result.andThen_ok, meth77_Times]
    cases hg
  · exact pvA_ok.inv t l h
--@env pvB pvB_ok
noncomputable def pz_k : List KI := (run pvB false 3000 ((fun (a : Fr) (e : List Int) => (⟨[.code (bodyOf Try.f117)], .normal, initSt Try.f117.ntmps [.v (.a [.ob (.s a)]), .v (.a [.ob (.s 1)]), .v (.c (.sl (.u64 e)))]⟩ : Cfg)) default default) []).cfg.k
theorem pz_hk (a : Fr) (e : List Int) : (run pvB false 3000 ((⟨[.code (bodyOf Try.f117)], .normal, initSt Try.f117.ntmps [.v (.a [.ob (.s a)]), .v (.a [.ob (.s 1)]), .v (.c (.sl (.u64 e)))]⟩ : Cfg)) []).cfg.k = pz_k := by kernel_rfl
theorem pz (a : Fr) (e : List Int) (ho : AllP []) (hs : Sim w0 F0 K ac (initSt Try.f117.ntmps [.v (.a [.ob (.s a)]),.v (.a [.ob (.s 1)]),.v (.c (.sl (.u64 e)))]) cX aX) (hK : ∀ ac cY aY,Sim w0 F0 K ac (mkSt 23 [3,6,7,11] [.pt 16 0,.pt 48 0,.pt 80 0,(.v (.c (.clo 105 [(128,0)])))] [16,48,80,128] [(some (.fl [.ob (.s a)])),(some (.fl [(.ob (.s (0:Fr)))])),(some (.fl [(.ob (.s (1:Fr)))])),(some (.fl [.sl (.u64 e)]))] 192 [] []) cY aY → Wq Try.prog Q (pz_k) ac Exit.normal aY cY.w) : Wq Try.prog Q ([.code (bodyOf Try.f117)]) ac .normal aX cX.w :=
  run_at2 (o := ⟨_, _, _, _, _, _, _⟩) pvB_ok (by kernel_rfl) (pz_hk a e) ho hs hK
noncomputable def pzS (a : Fr) (e : List Int) (o : Fr) : St := mkSt 23 [3,6,7,11] [.pt 16 0,.pt 48 0,.pt 80 0,(.v (.c (.clo 105 [(128,0)])))] [16,48,80,128] [(some (.fl [.ob (.s a)])),(some (.fl [(.ob (.s (0:Fr)))])),some (.fl [.ob (.s o)]),(some (.fl [.sl (.u64 e)]))] 192 [] []
theorem pzA_hk (a : Fr) (e : List Int) (o : Fr) (z : Bool) : (run pvB false 3000 ((⟨[.code (rfA pz_k)], .normal, roundSt (pzS a e o) [(12, .v (.c (.bool z)))]⟩ : Cfg)) []).cfg.k = [] := by kernel_rfl
theorem pzA (a : Fr) (e : List Int) (o : Fr) (z : Bool) {ρ : Option Nat} (ho : AllP []) (hs : Sim w0 F0 K ac (roundSt (pzS a e o) [(12,.v (.c (.bool z)))]) cX aX) (hK : ∀ cY aY,Sim w0 F0 K ac (mkSt 23 [3,6,7,8] [.pt 16 0,.pt 48 0,.pt 80 0,(.v (.c (.bool z)))] [16,48,80,128] [(some (.fl [.ob (.s a)])),(some (.fl [(.ob (.s (0:Fr)))])),(some (.fl [.ob (.s o)])),(some (.fl [.sl (.u64 e)]))] 208 [[3,6,7,11]] [([.pt 16 0,.pt 48 0,.pt 80 0,(.v (.c (.clo 105 [(128,0)])))],23)]) cY aY → Wq Try.prog Q ([]) ac Exit.normal aY cY.w ρ) : Wq Try.prog Q ([.code (rfA pz_k)]) ac .normal aX cX.w ρ :=
  run_atT (o := ⟨_, _, _, _, _, _, _⟩) pvB_ok (by kernel_rfl) (pzA_hk a e o z) ho (by kernel_rfl) (by kernel_rfl) hs hK
noncomputable def pzB (a : Fr) (e : List Int) (o : Fr) (z : Bool) : St := mkSt 23 [3,6,7,8] [.pt 16 0,.pt 48 0,.pt 80 0,(.v (.c (.bool z)))] [16,48,80,128] [(some (.fl [.ob (.s a)])),(some (.fl [(.ob (.s (0:Fr)))])),some (.fl [.ob (.s o)]),(some (.fl [.sl (.u64 e)]))] 208 [[3,6,7,11]] [([.pt 16 0,.pt 48 0,.pt 80 0,(.v (.c (.clo 105 [(128,0)])))],23)]
theorem pzC_hk (a : Fr) (e : List Int) (o : Fr) (z : Bool) : (run pvB false 3000 ((⟨[.code (rfB pz_k)], .normal, pzB a e o z⟩ : Cfg)) [true]).cfg.k = [] := by kernel_rfl
theorem pzC (a : Fr) (e : List Int) (o : Fr) (z : Bool) {ρ : Option Nat} (ho : AllP [(z = true)]) (hs : Sim w0 F0 K ac (pzB a e o z) cX aX) (hK : ∀ cY aY,Sim w0 F0 K ac (mkSt 23 [6] [.pt 48 0] [16,48,80,128] [(some (.fl [.ob (.s a)])),(some (.fl [(.ob (.s (0:Fr)))])),(some (.fl [(.ob (.s ((o * o) * a)))])),(some (.fl [.sl (.u64 e)]))] 384 [[3,6,7,11]] [([.pt 16 0,.pt 48 0,.pt 80 0,(.v (.c (.clo 105 [(128,0)])))],23)]) cY aY → Wq Try.prog Q ([]) ac Exit.normal aY cY.w ρ) : Wq Try.prog Q ([.code (rfB pz_k)]) ac .normal aX cX.w ρ :=
  run_atT (o := ⟨_, _, _, _, _, _, _⟩) pvB_ok (by kernel_rfl) (pzC_hk a e o z) ho (by kernel_rfl) (by kernel_rfl) hs hK
theorem pzD_hk (a : Fr) (e : List Int) (o : Fr) (z : Bool) : (run pvB false 3000 ((⟨[.code (rfB pz_k)], .normal, pzB a e o z⟩ : Cfg)) [false]).cfg.k = [] := by kernel_rfl
theorem pzD (a : Fr) (e : List Int) (o : Fr) (z : Bool) {ρ : Option Nat} (ho : AllP [(z = false)]) (hs : Sim w0 F0 K ac (pzB a e o z) cX aX) (hK : ∀ cY aY,Sim w0 F0 K ac (mkSt 23 [6] [.pt 48 0] [16,48,80,128] [(some (.fl [.ob (.s a)])),(some (.fl [(.ob (.s (0:Fr)))])),(some (.fl [(.ob (.s (o * o)))])),(some (.fl [.sl (.u64 e)]))] 304 [[3,6,7,11]] [([.pt 16 0,.pt 48 0,.pt 80 0,(.v (.c (.clo 105 [(128,0)])))],23)]) cY aY → Wq Try.prog Q ([]) ac Exit.normal aY cY.w ρ) : Wq Try.prog Q ([.code (rfB pz_k)]) ac .normal aX cX.w ρ :=
  run_atT (o := ⟨_, _, _, _, _, _, _⟩) pvB_ok (by kernel_rfl) (pzD_hk a e o z) ho (by kernel_rfl) (by kernel_rfl) hs hK
theorem pzX_hk (a : Fr) (e : List Int) (o : Fr) : (run pvB false 3000 ((⟨rfR pz_k, .normal, pzS a e o⟩ : Cfg)) []).cfg.k = [] := by kernel_rfl
theorem pzX (a : Fr) (e : List Int) (o : Fr) (ho : AllP []) (hs : Sim w0 F0 K ac (pzS a e o) cX aX) (hK : ∀ ac cY aY,Sim w0 F0 K ac (mkSt 23 [6] [.pt 48 0] [48] [(some (.fl [.ob (.s o)]))] 224 [] []) cY aY → Wq Try.prog Q ([]) ac Exit.ret aY cY.w) : Wq Try.prog Q (rfR pz_k) ac .normal aX cX.w :=
  run_at2 (o := ⟨_, _, _, _, _, _, _⟩) pvB_ok (by kernel_rfl) (pzX_hk a e o) ho hs hK
noncomputable def pzE (a : Fr) (e : List Int) (o : Fr) : St := mkSt 23 [6] [.pt 48 0] [16,48,80,128] [(some (.fl [.ob (.s a)])),(some (.fl [(.ob (.s (0:Fr)))])),some (.fl [.ob (.s o)]),(some (.fl [.sl (.u64 e)]))] 384 [[3,6,7,11]] [([.pt 16 0,.pt 48 0,.pt 80 0,(.v (.c (.clo 105 [(128,0)])))],23)]
noncomputable def pzZ (o : Fr) : St := mkSt 23 [6] [.pt 48 0] [48] [some (.fl [.ob (.s o)])] 224 [] []
theorem pzR_end (o : Fr) : runEnd pvB Try.f117 false 3000 (⟨[],.ret,pzZ o⟩) [] [] [] = (some ([],((.v (.a [.ob (.s o)])),[]))) := by kernel_rfl
theorem smS (n:Int) : fnRes pvB Try.f42 3000 [.v (.c (.int .u64 n))] [] [] [] = (some ([((0:Int) ≤ n),(n < (18446744073709551616:Int)),((0:Int) ≤ (0:Int)),((0:Int) < (18446744073709551616:Int)),((0:Int) ≤ (0:Int)),((0:Int) < (18446744073709551616:Int)),((0:Int) ≤ (0:Int)),((0:Int) < (18446744073709551616:Int))],((.v (.a [(.ob (.s (S4.inF (Fin.ofNat B4 ((n).toNat + 0)))))])),[]))) := by kernel_rfl
end
end Go.Proofs.Ytdeohachoeopdaa

/- Powers of an element of the lesser field: contract. No conditions. -/
namespace Go.Proofs.Ytdeohachoeopdaa

theorem pw_bitS (a : Fr) (l : List Bool) (z : Bool) : pw a (pv (l ++ [z])) = if z = true then pw a (pv l) * pw a (pv l) * a else pw a (pv l) * pw a (pv l) := by
  rw [pv_snoc, Nat.two_mul]
  cases z with
  | true =>
    rw [if_pos rfl, ← pw_add_g]
    rfl
  | false =>
    rw [if_neg (by decide), ← pw_add_g]
    rfl

theorem powerS_fnd (a : Fr) (e : List Int) (hl : e.length ≤ 16) (hlim : lims e) :
    FnD Try.prog 117 [.v (.a [.ob (.s a)]), .v (.a [.ob (.s 1)]), .v (.c (.sl (.u64 e)))] (.v (.a [.ob (.s (pw a (numL e)))])) [] := by
  refine fn_start_m (fn := Try.f117) (c := bodyOf Try.f117) Try.func117 rfl rfl fun x b hk hF hs => ?_
  refine pz a e trivial hs fun ac cY aY hs1 => ?_
  obtain ⟨e1, e2⟩ := isRf_eq (k := pz_k) (by kernel_rfl)
  rw [e1]
  have eP : (rfP pz_k).toList = [12] := by kernel_rfl
  have eG : rfG pz_k = .tmp 11 := by kernel_rfl
  refine range_rule (ps := rfP pz_k) e2 hs1 (gf := 105) (caps := [(128, 0)]) (enters_of Try.func105 rfl rfl) (fun pre => pzS a e (pw a (pv pre))) (fun s => by rw [eG]; rfl) ⟨_, rfl⟩ (btL (numL e) (bitsC e e.length) (bitsC e e.length)) btVals btEnc
    (fun y z => .cons ⟨rfl, 0, rfl⟩ .nil) (fun z => by rw [← Array.length_toList, eP]; rfl) (fun pre p hp => ?_) (bits_iter hl hlim fun s => rfl) (fun pre z => pzB a e (pw a (pv pre)) z)
    (fun pre z => pzE a e (pw a (pv (pre ++ [z])))) (fun pre z => ⟨_, rfl⟩) (fun pre z hz w1 F1 K1 as1 Q1 l y b hs2 hQ => ?_) (fun pre z hz w1 F1 K1 as1 Q1 l y b hs2 hQ => ?_) fun D y hs2 hD hFD hd => ?_
  · rw [eP] at hp
    have h23 : (pzS a e (pw a (pv pre))).nt = 23 := rfl
    rw [h23]
    simp only [List.mem_cons, List.not_mem_nil, or_false] at hp
    subst hp
    decide
  · rw [eP] at hs2
    exact pzA a e _ z trivial hs2 fun cZ aZ hs3 => ⟨hQ _ _ (hs3.nx _)⟩
  · rw [pw_bitS] at hQ
    cases z with
    | true => exact pzC a e _ true ⟨rfl, trivial⟩ hs2 fun cZ aZ hs3 => ⟨hQ _ _ (hs3.nx _)⟩
    | false => exact pzD a e _ false ⟨rfl, trivial⟩ hs2 fun cZ aZ hs3 => ⟨hQ _ _ (hs3.nx _)⟩
  · have hs3 := hs2.marked rfl rfl D
    have hN : numL e < 2 ^ bitsC e e.length := by
      have := numL_lt hlim e.length (Nat.le_refl _)
      rwa [List.take_length] at this
    rw [pv_bits hN _ (Nat.le_refl _), Nat.sub_self, Nat.pow_zero, Nat.div_one] at hs2 hs3
    generalize pw a (numL e) = o at hs2 hs3 ⊢
    refine pzX a e o trivial hs3 fun ac cV aV hs6 => ⟨?_⟩
    have hs7 : Sim y.w y.F (kOwn y kAll (markOf D)) ac (pzZ o) cV aV := hs6
    exact fn_finish pvB_ok hk hF (pzR_end o) trivial (fun y v hd => hd) hs2 hD hFD hd rfl hs7

end Go.Proofs.Ytdeohachoeopdaa

/- Powers and small numbers of the lesser field, walked. No conditions. -/
namespace Go.Proofs.Ytdeohachoeopdaa

theorem powerS_fnd2 (a u : Fr) (e : List Int) (hu : u = 1) (hl : e.length ≤ 16) (hlim : lims e) :
    FnD Try.prog 117 [.v (.a [.ob (.s a)]), .v (.a [.ob (.s u)]), .v (.c (.sl (.u64 e)))] (.v (.a [.ob (.s (pw a (numL e)))])) [] := by
  subst hu
  exact powerS_fnd a e hl hlim
def powerSSpec : FnSpec
  | [.v (.a [.ob (.s a)]), .v (.a [.ob (.s u)]), .v (.c (.sl (.u64 e)))] => some ([u = 1, e.length ≤ 16, lims e], .v (.a [.ob (.s (pw a (numL e)))]), [])
  | _ => none
noncomputable def pvC : Env := pvB.set (addT pvB.fn 117 powerSSpec)
theorem pvC_ok : EnvOk Try.prog pvC := env_add pvB_ok 117 powerSSpec (enters_of Try.func117 rfl rfl) fun args o r es h ho => by
  unfold powerSSpec at h
  split at h
  · cases h; exact powerS_fnd2 _ _ _ ho.1 ho.2.1 ho.2.2.1
  · cases h
--@env pvC pvC_ok
theorem sm1  : fnRes pvC Try.f42 3000 [.v (.c (.int .u64 1))] [] [] [] = (some ([((0:Int) ≤ (1:Int)),((1:Int) < (18446744073709551616:Int)),((0:Int) ≤ (0:Int)),((0:Int) < (18446744073709551616:Int)),((0:Int) ≤ (0:Int)),((0:Int) < (18446744073709551616:Int)),((0:Int) ≤ (0:Int)),((0:Int) < (18446744073709551616:Int))],((.v (.a [(.ob (.s (S4.inF (Fin.ofNat B4 1))))])),[]))) := by kernel_rfl
theorem small1_fnd {n : Int} (h : n = 1) : FnD Try.prog 42 [.v (.c (.int .u64 n))] (.v (.a [.ob (.s 1)])) [] := by
  subst h
  have r := sm1
  rw [show S4.inF (Fin.ofNat B4 1) = 1 from by decide +kernel] at r
  exact fn_sound pvC_ok Try.func42 r ⟨by decide, by decide, by decide, by decide, by decide, by decide, by decide, by decide, trivial⟩
def small1Spec : FnSpec
  | [.v (.c (.int .u64 n))] => some ([n = 1], .v (.a [.ob (.s 1)]), [])
  | _ => none
noncomputable def pvD : Env := pvC.set (addT pvC.fn 42 small1Spec)
theorem pvD_ok : EnvOk Try.prog pvD := env_add pvC_ok 42 small1Spec (enters_of Try.func42 rfl rfl) fun args o r es h ho => by
  unfold small1Spec at h
  split at h
  · cases h; exact small1_fnd ho.1
  · cases h
--@env pvD pvD_ok
theorem sml  : fnRes pvD Try.f20 3000 [.v (.c (.int .i64 1))] [false] [] [] = (some ([((decide ((1:Int) < (0:Int))) = false),((1:Int) = (1:Int))],((.v (.a [(.ob (.fr (S4.outF (1:Fr))))])),[]))) := by kernel_rfl
end Go.Proofs.Ytdeohachoeopdaa

/- Powers and small numbers of the lesser field: contracts. No conditions. -/
namespace Go.Proofs.Ytdeohachoeopdaa

theorem numL_fr (e : U4) : numL [limb (Ob.n (Ob.fr e)) 0, limb (Ob.n (Ob.fr e)) 1, limb (Ob.n (Ob.fr e)) 2, limb (Ob.n (Ob.fr e)) 3] = e.val := by
  have hb : B4 = 2 ^ 256 := by decide +kernel
  have h : e.val < 2 ^ 256 := by
    rw [← hb]
    exact e.isLt
  show e.val / 2 ^ (64 * 0) % 18446744073709551616 + 18446744073709551616 * (e.val / 2 ^ (64 * 1) % 18446744073709551616 + 18446744073709551616 * (e.val / 2 ^ (64 * 2) % 18446744073709551616 + 18446744073709551616 * (e.val / 2 ^ (64 * 3) % 18446744073709551616 + 18446744073709551616 * 0))) = e.val
  generalize e.val = v at *
  omega
theorem lims_fr (e : U4) : lims [limb (Ob.n (Ob.fr e)) 0, limb (Ob.n (Ob.fr e)) 1, limb (Ob.n (Ob.fr e)) 2, limb (Ob.n (Ob.fr e)) 3] := by
  have hl : ∀ i, 0 ≤ limb (Ob.n (Ob.fr e)) i ∧ limb (Ob.n (Ob.fr e)) i < 18446744073709551616 := fun i => by
    show 0 ≤ ((e.val / 2 ^ (64 * i) % 18446744073709551616 : Nat) : Int) ∧ ((e.val / 2 ^ (64 * i) % 18446744073709551616 : Nat) : Int) < 18446744073709551616
    omega
  intro x hx
  simp only [List.mem_cons, List.not_mem_nil, or_false] at hx
  rcases hx with rfl | rfl | rfl | rfl <;> exact hl _
/-- A power, outside. -/
def frPow (a : U4) (n : Nat) : U4 := S4.outF (pw (S4.inF a) n)
theorem sml_fnd {n : Int} (h : n = 1) : FnD Try.prog 20 [.v (.c (.int .i64 n))] (.v (.a [.ob (.fr (S4.outF 1))])) [] := by
  subst h
  exact fn_sound pvD_ok Try.func20 sml ⟨rfl, rfl, trivial⟩

end Go.Proofs.Ytdeohachoeopdaa

/- A point as often as a number's powers say, walked. No conditions. -/
namespace Go.Proofs.Ytdeohachoeopdaa
section
variable {w0 : World} {F0 : Nat → Prop} {K : Kp} {ac : List Act} {Q : Exit → Act → World → Prop} {cX : Ctx} {aX : Act}

noncomputable def peA : Env := pvD.or qtG
theorem peA_ok : EnvOk Try.prog peA := env_or pvD_ok qtG_ok
/-- The whole table. -/
theorem tb64_ex (a : Fp × Fp × Fp) : ∃ T, T = tbL a 64 := ⟨_, rfl⟩
noncomputable def tb64 (a : Fp × Fp × Fp) : List (List (Fp × Fp × Fp)) := Classical.choose (tb64_ex a)
theorem tb64_is (a : Fp × Fp × Fp) : tb64 a = tbL a 64 := Classical.choose_spec (tb64_ex a)
theorem mult_fnd2 (a : Fp × Fp × Fp) : FnD Try.prog 18 [.v (.a (ptIts a))] (.v (.c (.sl (.ptt (tb64 a))))) [] := by
  rw [tb64_is]
  exact mult_fnd a (Eq.refl 64)
noncomputable def multSpec : FnSpec
  | [.v (.a [.ob (.p a), .ob (.p b), .ob (.p c)])] => some ([], .v (.c (.sl (.ptt (tb64 (a, b, c))))), [])
  | _ => none
noncomputable def peB : Env := peA.set (addT peA.fn 18 multSpec)
theorem peB_ok : EnvOk Try.prog peB := env_add peA_ok 18 multSpec (enters_of Try.func18 rfl rfl) fun args o r es h _ => by
  unfold multSpec at h
  split at h
  · cases h; exact mult_fnd2 (_, _, _)
  · cases h
/-- Each row has sixteen. -/
def rows16 (T : List (List (Fp × Fp × Fp))) : Prop := ∀ i, i < 64 → (T.getD i []).length = 16
theorem pick_fnd2 (T : List (List (Fp × Fp × Fp))) (k : U4) (h : T.length = 64 ∧ rows16 T) : FnD Try.prog 23 [.v (.c (.sl (.ptt T))), .v (.a [.ob (.fr k)])] (.v (.a (ptIts (pkL T k.val 64)))) [] := pick_fnd T k (Eq.refl 64) h.1 h.2
noncomputable def pickSpec : FnSpec
  | [.v (.c (.sl (.ptt T))), .v (.a [.ob (.fr k)])] => some ([T.length = 64, rows16 T], .v (.a (ptIts (pkL T k.val 64))), [])
  | _ => none
noncomputable def peC : Env := peB.set (addT peB.fn 23 pickSpec)
theorem peC_ok : EnvOk Try.prog peC := env_add peB_ok 23 pickSpec (enters_of Try.func23 rfl rfl) fun args o r es h ho => by
  unfold pickSpec at h
  split at h
  · cases h; exact pick_fnd2 _ _ ⟨ho.1, ho.2.1⟩
  · cases h
noncomputable def smlSpec : FnSpec
  | [.v (.c (.int .i64 n))] => some ([n = 1], .v (.a [.ob (.fr (S4.outF 1))]), [])
  | _ => none
noncomputable def peD : Env := peC.set (addT peC.fn 20 smlSpec)
theorem peD_ok : EnvOk Try.prog peD := env_add peC_ok 20 smlSpec (enters_of Try.func20 rfl rfl) fun args o r es h ho => by
  unfold smlSpec at h
  split at h
  · cases h; exact sml_fnd ho.1
  · cases h
noncomputable def peE : Env := peD
theorem peE_ok : EnvOk Try.prog peE := peD_ok
theorem pqA (a : G1D) (k : U4) (n:Int) : fnRes peE Try.f7 3000 [.v (.a a.its),.v (.a [.ob (.fr k)]),.v (.c (.int .i64 n))] [true,true] [] [] = (some ([((decide (n < (0:Int))) = true)],((.t [(.c (.val (Value.slice Option.none 0 0))),(.c (.int .i64 (1:Int)))]),[]))) := by kernel_rfl
theorem pqB (a : G1D) (k : U4) (n:Int) : fnRes peE Try.f7 3000 [.v (.a a.its),.v (.a [.ob (.fr k)]),.v (.c (.int .i64 n))] [false,true] [] [] = (some ([((decide (n < (0:Int))) = false),((decide (n > (4096:Int))) = true)],((.t [(.c (.val (Value.slice Option.none 0 0))),(.c (.int .i64 (1:Int)))]),[]))) := by kernel_rfl
theorem pqC (a : G1D) (k : U4) (n:Int) : fnRes peE Try.f7 3000 [.v (.a a.its),.v (.a [.ob (.fr k)]),.v (.c (.int .i64 n))] [false,false,true] [] [] = (some ([((decide (n < (0:Int))) = false),((decide (n > (4096:Int))) = false),((Bool.not (onG a)) = true)],((.t [(.c (.val (Value.slice Option.none 0 0))),(.c (.int .i64 (30:Int)))]),[]))) := by kernel_rfl
noncomputable def pqD_k : List KI := (run peE false 3000 ((fun (x y : U6) (j : Bool) (k : U4) (n : Int) => (⟨[.code (bodyOf Try.f7)], .normal, initSt Try.f7.ntmps [.v (.a [.ob (.fp x), .ob (.fp y), .bool j]), .v (.a [.ob (.fr k)]), .v (.c (.int .i64 n))]⟩ : Cfg)) default default default default default) [false, false, false]).cfg.k
theorem pqD_hk (x y : U6) (j : Bool) (k : U4) (n : Int) : (run peE false 3000 ((⟨[.code (bodyOf Try.f7)], .normal, initSt Try.f7.ntmps [.v (.a [.ob (.fp x), .ob (.fp y), .bool j]), .v (.a [.ob (.fr k)]), .v (.c (.int .i64 n))]⟩ : Cfg)) [false, false, false]).cfg.k = pqD_k := by kernel_rfl
theorem pqD (x y : U6) (j : Bool) (k : U4) (n:Int) (ho : AllP [((decide (n < (0:Int))) = false),((decide (n > (4096:Int))) = false),((Bool.not (onG (G1D.mk x y j))) = false),((1:Int) = (1:Int))]) (hs : Sim w0 F0 K ac (initSt Try.f7.ntmps [.v (.a [.ob (.fp x),.ob (.fp y),.bool j]),.v (.a [.ob (.fr k)]),.v (.c (.int .i64 n))]) cX aX) (hK : ∀ ac cY aY,Sim w0 F0 K ac (mkSt 42 [2,4,8,9,10] [.ii n,.pt 32 0,(.v (.c (.sl (Sq.ptt (tb64 (inG (G1D.mk x y j))))))),(.v (.c (.val (Value.slice Option.none 0 0)))),.pt 352 0] [32,352] [(some (.fl [.ob (.fr k)])),(some (.fl [(.ob (.fr (S4.outF (1:Fr))))]))] 384 [] []) cY aY → Wq Try.prog Q (pqD_k) ac Exit.normal aY cY.w) : Wq Try.prog Q ([.code (bodyOf Try.f7)]) ac .normal aX cX.w :=
  run_at2 (o := ⟨_, _, _, _, _, _, _⟩) peE_ok (by kernel_rfl) (pqD_hk x y j k n) ho hs hK
noncomputable def pqS (k : U4) (n:Int) (T : List (List (Fp × Fp × Fp))) (L : List G1D) (m : Nat) (q : U4) : St := mkSt 42 [2,4,8,9,10] [.ii n,.pt 32 0,.v (.c (.sl (.ptt T))),.v (.c (.slc 17 0 m 13)),.pt 352 0] [17,32,352] [some (.sq (.g1 L)),(some (.fl [.ob (.fr k)])),some (.fl [.ob (.fr q)])] 384 [] []
theorem pqE_hk (k : U4) (n : Int) (T : List (List (Fp × Fp × Fp))) (L : List G1D) (m : Nat) (q : U4) : (run peE false 3000 ((⟨lpIn pqD_k, .normal, pqS k n T L m q⟩ : Cfg)) [true]).cfg.k = lpBk pqD_k := by kernel_rfl
theorem pqE (k : U4) (n:Int) (T : List (List (Fp × Fp × Fp))) (L : List G1D) (m : Nat) (q : U4) (ho : AllP [((decide (((m : Nat):Int) < n)) = true),((List.length T) = 64),(rows16 T),((((List.length L) + 1) * 104) ≤ 140737488355328),(((List.length L) + 1) ≤ maxLen),(m = (List.length L)),(1 = 1)]) (hs : Sim w0 F0 K ac (pqS k n T L m q) cX aX) (hK : ∀ ac cY aY,Sim w0 F0 K ac (mkSt 42 [2,4,8,9,10] [.ii n,.pt 32 0,(.v (.c (.sl (Sq.ptt T)))),(.v (.c (.slc 17 0 ((List.length L) + 1) 13))),.pt 592 0] [17,32,592] [(some (.sq (Sq.g1 (L ++ [(outG (pkL T (Fin.val q) 64))])))),(some (.fl [.ob (.fr k)])),(some (.fl [(.ob (.fr (S4.outF ((S4.inF q) * (S4.inF k)))))]))] 688 [] []) cY aY → Wq Try.prog Q (lpBk pqD_k) ac Exit.normal aY cY.w) : Wq Try.prog Q (lpIn pqD_k) ac .normal aX cX.w :=
  run_at2 (o := ⟨_, _, _, _, _, _, _⟩) peE_ok (by kernel_rfl) (pqE_hk k n T L m q) ho hs hK
theorem pqX_end (k : U4) (n:Int) (T : List (List (Fp × Fp × Fp))) (L : List G1D) (m : Nat) (q : U4) : runEnd peE Try.f7 false 3000 (⟨lpIn pqD_k,.normal,pqS k n T L m q⟩) [false] [] [17] = (some ([((decide (((m : Nat):Int) < n)) = false),(m = (List.length L))],((.t [(.c (.sl (Sq.g1 L))),(.c (.int .i64 (0:Int)))]),[]))) := by kernel_rfl
end
end Go.Proofs.Ytdeohachoeopdaa

/- A point as often as a number's powers say: contract. No conditions. -/
namespace Go.Proofs.Ytdeohachoeopdaa

/-- The powers of a number, one after the other; what is told of each. -/
def pwK (k : U4) : Nat → U4
  | 0 => S4.outF 1
  | i + 1 => S4.outF (S4.inF (pwK k i) * S4.inF k)
def pwE (T : List (List (Fp × Fp × Fp))) (q : U4) : G1D := outG (pkL T q.val 64)
def pwL (T : List (List (Fp × Fp × Fp))) (k : U4) (n : Nat) : List G1D := (List.range n).map fun i => pwE T (pwK k i)
theorem pwL_len (T : List (List (Fp × Fp × Fp))) (k : U4) (n : Nat) : (pwL T k n).length = n := by
  unfold pwL
  rw [List.length_map, List.length_range]
theorem pwL_succ (T : List (List (Fp × Fp × Fp))) (k : U4) (n : Nat) : pwL T k (n + 1) = pwL T k n ++ [pwE T (pwK k n)] := by
  unfold pwL
  rw [List.range_succ, List.map_append]
  rfl
theorem pwL_get (T : List (List (Fp × Fp × Fp))) (k : U4) {n i : Nat} (h : i < n) : (pwL T k n).getD i g10 = pwE T (pwK k i) := by
  unfold pwL
  rw [List.getD_eq_getElem?_getD, List.getElem?_map, List.getElem?_range h, Option.map_some, Option.getD_some]
theorem tb64_len (a : Fp × Fp × Fp) : (tb64 a).length = 64 := by rw [tb64_is, tbL_len]
theorem tb64_row (a : Fp × Fp × Fp) : rows16 (tb64 a) := fun i hi => by rw [tb64_is, tbL_get a hi, rwL_len]

/-- What Powers tells. -/
noncomputable def pwR (a : G1D) (k : U4) (n : Int) : List G1D × Int := if n < 0 ∨ n > 4096 then ([], 1) else if onG a then (pwL (tb64 (inG a)) k n.toNat, 0) else ([], 30)
theorem pwR_arg {a : G1D} {k : U4} {n : Int} (h : n < 0 ∨ n > 4096) : pwR a k n = ([], 1) := if_pos h
theorem pwR_off {a : G1D} {k : U4} {n : Int} (h : ¬ (n < 0 ∨ n > 4096)) (ha : onG a = false) : pwR a k n = ([], 30) := by unfold pwR; rw [if_neg h, ha]; rfl
theorem pwR_on {a : G1D} {k : U4} {n : Int} (h : ¬ (n < 0 ∨ n > 4096)) (ha : onG a = true) : pwR a k n = (pwL (tb64 (inG a)) k n.toNat, 0) := by unfold pwR; rw [if_neg h, ha]; rfl
theorem nil_t {x : Ctx} {j : V1} {v : Value} (h : denS x (.t [.c (.val (.slice none 0 0)), j]) v) : denS x (.t [.c (.sl (.g1 [])), j]) v := by
  obtain ⟨vs, e, hc⟩ := h
  cases hc with
  | cons h1 h2 => exact ⟨_, e, .cons (nil_is (q := .g1 []) rfl h1) h2⟩

theorem powers_on (x y : U6) (j : Bool) (k : U4) (n : Nat) (h : n ≤ 4096) (ha : onG ⟨x, y, j⟩ = true) : FnD Try.prog 7 [.v (.a [.ob (.fp x), .ob (.fp y), .bool j]), .v (.a [.ob (.fr k)]), .v (.c (.int .i64 (n : Int)))] (.t [.c (.sl (.g1 (pwL (tb64 (inG ⟨x, y, j⟩)) k n))), .c (.int .i64 0)]) [] := by
  refine fn_start (fn := Try.f7) (c := bodyOf Try.f7) Try.func7 rfl rfl fun x0 a0 hk hF hs => ?_
  refine pqD x y j k n ⟨decide_eq_false (by omega), decide_eq_false (by omega), by rw [ha]; rfl, rfl, trivial⟩ hs fun ac cY aY hs1 => ?_
  have h64 := tb64_len (inG ⟨x, y, j⟩)
  have h16 := tb64_row (inG ⟨x, y, j⟩)
  have hmax : 4097 ≤ maxLen := by decide
  generalize tb64 (inG ⟨x, y, j⟩) = T at hs1 h64 h16 ⊢
  have hs2 := hs1.nilRow (p := 17) (q := .g1 []) rfl (by decide) rfl (ml' := [17, 32, 352]) (ens' := [some (.sq (.g1 [])), some (.fl [.ob (.fr k)]), some (.fl [.ob (.fr (S4.outF 1))])]) (fun r => rfl)
    (svs' := [.v (.c (.int .i64 (n : Int))), .v (.c (.ptr 32 0)), .v (.c (.sl (.ptt T))), .v (.c (.slc 17 0 0 13)), .v (.c (.ptr 352 0))]) ⟨.inl rfl, .inl rfl, .inl rfl, .inr ⟨13, rfl, rfl⟩, .inl rfl, trivial⟩
  change Wq Try.prog _ _ _ _ _ (nilCtx cY 17).w
  refine loop_rule (ι := { i : Nat // i ≤ n }) (fun i => pqS k n T (pwL T k i.1) i.1 (pwK k i.1)) (fun i => n - i.1) (c := lpC pqD_k) (k := lpR pqD_k) (by kernel_rfl) (fun i ih ac cY aY hs => ?_) ⟨0, Nat.zero_le _⟩ (hs2.nx _)
  obtain ⟨i, hi⟩ := i
  simp only at ih hs
  have hlen := pwL_len T k i
  by_cases hin : i < n
  · have hnext : pwK k (i + 1) = S4.outF (S4.inF (pwK k i) * S4.inF k) := rfl
    have hL := pwL_succ T k i
    have ih2 := ih ⟨i + 1, hin⟩ (by show n - (i + 1) < n - i; omega)
    dsimp only at ih2
    rw [hnext, hL] at ih2
    clear ih hnext hL
    generalize pwK k i = q at hs ih2
    generalize pwL T k i = L at hs ih2 hlen
    refine pqE k n T L i q ⟨decide_eq_true (by omega), h64, h16, by omega, by omega, hlen.symm, rfl, trivial⟩ hs fun ac cU aU hs3 => ?_
    rw [hlen] at hs3
    have ep : outG (pkL T q.val 64) = pwE T q := rfl
    rw [ep] at hs3
    generalize pwE T q = e at hs3 ih2
    generalize S4.outF (S4.inF q * S4.inF k) = q2 at hs3 ih2
    have hs4 := hs3.move [17, 32] 592 352 rfl ⟨_, rfl⟩ rfl rfl rfl rfl rfl (svs' := [.v (.c (.int .i64 (n : Int))), .v (.c (.ptr 32 0)), .v (.c (.sl (.ptt T))), .v (.c (.slc 17 0 (i + 1) 13)), .v (.c (.ptr 352 0))])
      ⟨.inl ⟨rfl, rfl⟩, .inl ⟨rfl, rfl⟩, .inl ⟨rfl, rfl⟩, .inl ⟨rfl, rfl⟩, .inr ⟨0, rfl, rfl⟩, trivial⟩ (ml' := [17, 32, 352]) (ens' := [some (.sq (.g1 (L ++ [e]))), some (.fl [.ob (.fr k)]), some (.fl [.ob (.fr q2)])]) (fun q => by
        simp only [look]
        by_cases h1 : q = 352 <;> by_cases h2 : q = 592 <;> by_cases h3 : q = 17 <;> by_cases h4 : q = 32 <;> simp_all)
    change Wq Try.prog _ _ _ _ _ (mvCtx cU [17, 32] 592 352).w
    exact ih2 ac _ aU (hs4.nx _)
  · obtain rfl : i = n := by omega
    generalize pwL T k i = L at hs hlen ⊢
    exact run_end2 peE_ok hk hF (pqX_end k i T L i _) ⟨decide_eq_false (by omega), hlen.symm, trivial⟩ (fun y v hd => hd) hs

theorem powers_fnd (a : G1D) (k : U4) (n : Int) : FnD Try.prog 7 [.v (.a a.its), .v (.a [.ob (.fr k)]), .v (.c (.int .i64 n))] (.t [.c (.sl (.g1 (pwR a k n).1)), .c (.int .i64 (pwR a k n).2)]) [] := by
  by_cases h : n < 0 ∨ n > 4096
  · rw [pwR_arg h]
    by_cases h1 : n < 0
    · exact (fn_sound peE_ok Try.func7 (pqA a k n) ⟨decide_eq_true h1, trivial⟩).conv (fun _ _ h => h) fun y v hd => nil_t hd
    · exact (fn_sound peE_ok Try.func7 (pqB a k n) ⟨decide_eq_false h1, decide_eq_true (by omega), trivial⟩).conv (fun _ _ h => h) fun y v hd => nil_t hd
  · cases ha : onG a with
    | false =>
      rw [pwR_off h ha]
      exact (fn_sound peE_ok Try.func7 (pqC a k n) ⟨decide_eq_false (by omega), decide_eq_false (by omega), by rw [ha]; rfl, trivial⟩).conv (fun _ _ h => h) fun y v hd => nil_t hd
    | true =>
      rw [pwR_on h ha]
      obtain ⟨m, rfl⟩ : ∃ m : Nat, n = (m : Int) := ⟨n.toNat, by omega⟩
      rw [Int.toNat_natCast]
      exact powers_on a.x a.y a.inf k m (by omega) ha

end Go.Proofs.Ytdeohachoeopdaa

/- Pairs of elements of the greater field: the functions, walked. No conditions. -/
namespace Go.Proofs.Ytdeohachoeopdaa

abbrev F2 := Q2 pN
def f2I (x : F2) : List It := [.ob (.p x.1), .ob (.p x.2)]
section
variable {r : Nat} [NeZero r]
theorem kar_g (a b c d : Fin r) : (a + b) * (c + d) - a * c - b * d = a * d + b * c := by grind
end
--@env qeJ qeJ_ok
theorem t2A (a b c d : Fp) : fnRes qeJ Try.f71 3000 [.v (.a [.ob (.p a),.ob (.p b)]),.v (.a [.ob (.p c),.ob (.p d)])] [] [] [] = (some ([],((.v (.a [(.ob (.p ((a * c) - (b * d)))),(.ob (.p ((((a + b) * (c + d)) - (a * c)) - (b * d))))])),[]))) := by kernel_rfl
theorem p2A (a b c d : Fp) : fnRes qeJ Try.f72 3000 [.v (.a [.ob (.p a),.ob (.p b)]),.v (.a [.ob (.p c),.ob (.p d)])] [] [] [] = (some ([],((.v (.a [(.ob (.p (a + c))),(.ob (.p (b + d)))])),[]))) := by kernel_rfl
theorem m2A (a b c d : Fp) : fnRes qeJ Try.f112 3000 [.v (.a [.ob (.p a),.ob (.p b)]),.v (.a [.ob (.p c),.ob (.p d)])] [] [] [] = (some ([],((.v (.a [(.ob (.p (a - c))),(.ob (.p (b - d)))])),[]))) := by kernel_rfl
theorem n2A (a b : Fp) : fnRes qeJ Try.f113 3000 [.v (.a [.ob (.p a),.ob (.p b)])] [] [] [] = (some ([],((.v (.a [(.ob (.p ((0:Fp) - a))),(.ob (.p ((0:Fp) - b)))])),[]))) := by kernel_rfl
theorem z2A (a b : Fp) : fnRes qeJ Try.f111 3000 [.v (.a [.ob (.p a),.ob (.p b)])] [] [] [] = (some ([],((.v (.c (.bool (ite (true = true) (Bool.and (decide (a = (0:Fp))) (decide (b = (0:Fp)))) (Bool.not (Bool.and (decide (a = (0:Fp))) (decide (b = (0:Fp))))))))),[]))) := by kernel_rfl
theorem no2A (a b : Fp) : fnRes qeJ Try.f114 3000 [.v (.a [.ob (.p a),.ob (.p b)])] [] [] [] = (some ([],((.v (.a [(.ob (.p ((a * a) + (b * b))))])),[]))) := by kernel_rfl
theorem i2A (a b : U6) : fnRes qeJ Try.f49 3000 [.v (.a [.ob (.fp a),.ob (.fp b)])] [] [] [] = (some ([],((.v (.a [(.ob (.p (inP a))),(.ob (.p (inP b)))])),[]))) := by kernel_rfl
theorem o2A (a b : Fp) : fnRes qeJ Try.f48 3000 [.v (.a [.ob (.p a),.ob (.p b)])] [] [] [] = (some ([],((.v (.a [(.ob (.fp (outP a))),(.ob (.fp (outP b)))])),[]))) := by kernel_rfl
theorem times2_fnd (a b c d : Fp) : FnD Try.prog 71 [.v (.a [.ob (.p a), .ob (.p b)]), .v (.a [.ob (.p c), .ob (.p d)])] (.v (.a (f2I ((a, b) * (c, d))))) [] := by
  have r := t2A a b c d
  rw [kar_g] at r
  exact fn_sound qeJ_ok Try.func71 r trivial
theorem zero2_fnd (a b : Fp) : FnD Try.prog 111 [.v (.a [.ob (.p a), .ob (.p b)])] (.v (.c (.bool (decide (((a, b) : F2) = 0))))) [] := by
  have r := z2A a b
  rw [if_pos rfl] at r
  have e : decide (((a, b) : F2) = 0) = (decide (a = 0) && decide (b = 0)) := pair_dec a 0 b 0
  rw [e]
  exact fn_sound qeJ_ok Try.func111 r trivial
def inP2 (a b : U6) : F2 := (inP a, inP b)
def times2Spec : FnSpec
  | [.v (.a [.ob (.p a), .ob (.p b)]), .v (.a [.ob (.p c), .ob (.p d)])] => some ([], .v (.a (f2I ((a, b) * (c, d)))), [])
  | _ => none
noncomputable def qxA : Env := qeJ.set (addT qeJ.fn 71 times2Spec)
theorem qxA_ok : EnvOk Try.prog qxA := env_add qeJ_ok 71 times2Spec (enters_of Try.func71 rfl rfl) fun args o r es h _ => by
  unfold times2Spec at h
  split at h
  · cases h; exact times2_fnd _ _ _ _
  · cases h
def plus2Spec : FnSpec
  | [.v (.a [.ob (.p a), .ob (.p b)]), .v (.a [.ob (.p c), .ob (.p d)])] => some ([], .v (.a (f2I ((a, b) + (c, d)))), [])
  | _ => none
noncomputable def qxB : Env := qxA.set (addT qxA.fn 72 plus2Spec)
theorem qxB_ok : EnvOk Try.prog qxB := env_add qxA_ok 72 plus2Spec (enters_of Try.func72 rfl rfl) fun args o r es h _ => by
  unfold plus2Spec at h
  split at h
  · cases h; exact fn_sound qeJ_ok Try.func72 (p2A _ _ _ _) trivial
  · cases h
def minus2Spec : FnSpec
  | [.v (.a [.ob (.p a), .ob (.p b)]), .v (.a [.ob (.p c), .ob (.p d)])] => some ([], .v (.a (f2I ((a, b) - (c, d)))), [])
  | _ => none
noncomputable def qxC : Env := qxB.set (addT qxB.fn 112 minus2Spec)
theorem qxC_ok : EnvOk Try.prog qxC := env_add qxB_ok 112 minus2Spec (enters_of Try.func112 rfl rfl) fun args o r es h _ => by
  unfold minus2Spec at h
  split at h
  · cases h; exact fn_sound qeJ_ok Try.func112 (m2A _ _ _ _) trivial
  · cases h
def neg2Spec : FnSpec
  | [.v (.a [.ob (.p a), .ob (.p b)])] => some ([], .v (.a (f2I (0 - (a, b)))), [])
  | _ => none
noncomputable def qxD : Env := qxC.set (addT qxC.fn 113 neg2Spec)
theorem qxD_ok : EnvOk Try.prog qxD := env_add qxC_ok 113 neg2Spec (enters_of Try.func113 rfl rfl) fun args o r es h _ => by
  unfold neg2Spec at h
  split at h
  · cases h; exact fn_sound qeJ_ok Try.func113 (n2A _ _) trivial
  · cases h
def zero2Spec : FnSpec
  | [.v (.a [.ob (.p a), .ob (.p b)])] => some ([], .v (.c (.bool (decide (((a, b) : F2) = 0)))), [])
  | _ => none
noncomputable def qxE : Env := qxD.set (addT qxD.fn 111 zero2Spec)
theorem qxE_ok : EnvOk Try.prog qxE := env_add qxD_ok 111 zero2Spec (enters_of Try.func111 rfl rfl) fun args o r es h _ => by
  unfold zero2Spec at h
  split at h
  · cases h; exact zero2_fnd _ _
  · cases h
def norm2Spec : FnSpec
  | [.v (.a [.ob (.p a), .ob (.p b)])] => some ([], .v (.a [.ob (.p (nQ2 (a, b)))]), [])
  | _ => none
noncomputable def qxF : Env := qxE.set (addT qxE.fn 114 norm2Spec)
theorem qxF_ok : EnvOk Try.prog qxF := env_add qxE_ok 114 norm2Spec (enters_of Try.func114 rfl rfl) fun args o r es h _ => by
  unfold norm2Spec at h
  split at h
  · cases h; exact fn_sound qeJ_ok Try.func114 (no2A _ _) trivial
  · cases h
def in2Spec : FnSpec
  | [.v (.a [.ob (.fp a), .ob (.fp b)])] => some ([], .v (.a (f2I (inP2 a b))), [])
  | _ => none
noncomputable def qxG : Env := qxF.set (addT qxF.fn 49 in2Spec)
theorem qxG_ok : EnvOk Try.prog qxG := env_add qxF_ok 49 in2Spec (enters_of Try.func49 rfl rfl) fun args o r es h _ => by
  unfold in2Spec at h
  split at h
  · cases h; exact fn_sound qeJ_ok Try.func49 (i2A _ _) trivial
  · cases h
def out2Spec : FnSpec
  | [.v (.a [.ob (.p a), .ob (.p b)])] => some ([], .v (.a [.ob (.fp (outP a)), .ob (.fp (outP b))]), [])
  | _ => none
noncomputable def qxH : Env := qxG.set (addT qxG.fn 48 out2Spec)
theorem qxH_ok : EnvOk Try.prog qxH := env_add qxG_ok 48 out2Spec (enters_of Try.func48 rfl rfl) fun args o r es h _ => by
  unfold out2Spec at h
  split at h
  · cases h; exact fn_sound qeJ_ok Try.func48 (o2A _ _) trivial
  · cases h
--@env qxH qxH_ok
theorem v2A (a b : Fp) : fnRes qxH Try.f110 3000 [.v (.a [.ob (.p a),.ob (.p b)])] [] [] [] = (some ([],((.v (.a [(.ob (.p (a * (ivP (nQ2 (a,b)))))),(.ob (.p ((0:Fp) - (b * (ivP (nQ2 (a,b)))))))])),[]))) := by kernel_rfl
def inv2Spec : FnSpec
  | [.v (.a [.ob (.p a), .ob (.p b)])] => some ([], .v (.a (f2I (ivQ2 ivP (a, b)))), [])
  | _ => none
noncomputable def qxI : Env := qxH.set (addT qxH.fn 110 inv2Spec)
theorem qxI_ok : EnvOk Try.prog qxI := env_add qxH_ok 110 inv2Spec (enters_of Try.func110 rfl rfl) fun args o r es h _ => by
  unfold inv2Spec at h
  split at h
  · cases h; exact fn_sound qxH_ok Try.func110 (v2A _ _) trivial
  · cases h
theorem meth72_Times (v : Value) (w : World) : (method (Try.prog.types.size + Made.depth) 72 v "Times").run Try.prog w = .ok (71, v) w := by kernel_rfl
theorem meth72_Plus (v : Value) (w : World) : (method (Try.prog.types.size + Made.depth) 72 v "Plus").run Try.prog w = .ok (72, v) w := by kernel_rfl
theorem meth72_Minus (v : Value) (w : World) : (method (Try.prog.types.size + Made.depth) 72 v "Minus").run Try.prog w = .ok (112, v) w := by kernel_rfl
theorem meth72_IsZero (v : Value) (w : World) : (method (Try.prog.types.size + Made.depth) 72 v "IsZero").run Try.prog w = .ok (111, v) w := by kernel_rfl
theorem meth72_Negative (v : Value) (w : World) : (method (Try.prog.types.size + Made.depth) 72 v "Negative").run Try.prog w = .ok (113, v) w := by kernel_rfl
theorem meth72_Inverse (v : Value) (w : World) : (method (Try.prog.types.size + Made.depth) 72 v "Inverse").run Try.prog w = .ok (110, v) w := by kernel_rfl
noncomputable def inv2T (T : Nat → Option (List (String × Nat))) (t : Nat) : Option (List (String × Nat)) := if t = 72 then some [("Times", 71), ("Plus", 72), ("Minus", 112), ("IsZero", 111), ("Negative", 113), ("Inverse", 110)] else T t
noncomputable def qxJ : Env := { qxI with inv := inv2T qxI.inv }
theorem qxJ_ok : EnvOk Try.prog qxJ := by
  refine ⟨qxI_ok.ty, qxI_ok.mixed, qxI_ok.fn, qxI_ok.mu, qxI_ok.inl, qxI_ok.ex, fun t l h => ?_⟩
  have h : inv2T qxI.inv t = some l := h
  unfold inv2T at h
  split at h
  · rename_i ht
    cases h
    subst ht
    refine ⟨by kernel_rfl, fun name g hg v args w => ?_⟩
    unfold lookM at hg
    split at hg
    · rename_i hn
      cases hg
      subst hn
      simp only [callMethod, Sem.run_bind, run_program, Result.andThen_ok, meth72_Times]
    unfold lookM at hg
    split at hg
    · rename_i hn
      cases hg
      subst hn
      simp only [callMethod, Sem.run_bind, run_program, Result.andThen_ok, meth72_Plus]
    unfold lookM at hg
    split at hg
    · rename_i hn
      cases hg
      subst hn
      simp only [callMethod, Sem.run_bind, run_program, Result.andThen_ok, meth72_Minus]
    unfold lookM at hg
    split at hg
    · rename_i hn
      cases hg
      subst hn
      simp only [callMethod, Sem.run_bind, run_program, Result.andThen_ok, meth72_IsZero]
    unfold lookM at hg
    split at hg
    · rename_i hn
      cases hg
      subst hn
      simp only [callMethod, Sem.run_bind, run_program, Result.andThen_ok, meth72_Negative]
    unfold lookM at hg
    split at hg
    · rename_i hn
      cases hg
      subst hn
      simp only [callMethod, Sem.run_bind, run_program, Result.andThen_ok, meth72_Inverse]
    cases hg
  · exact qxI_ok.inv t l h
--@env qxJ qxJ_ok
theorem tw2A (a b c d e f : Fp) : fnRes qxJ Try.f52 3000 [.v (.a [.ob (.p a),.ob (.p b),.ob (.p c),.ob (.p d),.ob (.p e),.ob (.p f)])] [true] [] [] = (some ([((decide ((e,f) = (0 : (Prod (Fin pN) (Fin pN))))) = true)],((.v (.a [.ob (.p a),.ob (.p b),.ob (.p c),.ob (.p d),.ob (.p e),.ob (.p f)])),[]))) := by kernel_rfl
theorem tw2B (a b c d e f : Fp) : fnRes qxJ Try.f52 3000 [.v (.a [.ob (.p a),.ob (.p b),.ob (.p c),.ob (.p d),.ob (.p e),.ob (.p f)])] [false] [] [] = (some ([((decide ((e,f) = (0 : (Prod (Fin pN) (Fin pN))))) = false)],((.v (.a [(.ob (.p (Prod.fst (((((((a,b) * (a,b)) + ((a,b) * (a,b))) + ((a,b) * (a,b))) * ((((a,b) * (a,b)) + ((a,b) * (a,b))) + ((a,b) * (a,b)))) - ((((((a,b) + ((c,d) * (c,d))) * ((a,b) + ((c,d) * (c,d)))) - ((a,b) * (a,b))) - (((c,d) * (c,d)) * ((c,d) * (c,d)))) + (((((a,b) + ((c,d) * (c,d))) * ((a,b) + ((c,d) * (c,d)))) - ((a,b) * (a,b))) - (((c,d) * (c,d)) * ((c,d) * (c,d)))))) - ((((((a,b) + ((c,d) * (c,d))) * ((a,b) + ((c,d) * (c,d)))) - ((a,b) * (a,b))) - (((c,d) * (c,d)) * ((c,d) * (c,d)))) + (((((a,b) + ((c,d) * (c,d))) * ((a,b) + ((c,d) * (c,d)))) - ((a,b) * (a,b))) - (((c,d) * (c,d)) * ((c,d) * (c,d))))))))),(.ob (.p (Prod.snd (((((((a,b) * (a,b)) + ((a,b) * (a,b))) + ((a,b) * (a,b))) * ((((a,b) * (a,b)) + ((a,b) * (a,b))) + ((a,b) * (a,b)))) - ((((((a,b) + ((c,d) * (c,d))) * ((a,b) + ((c,d) * (c,d)))) - ((a,b) * (a,b))) - (((c,d) * (c,d)) * ((c,d) * (c,d)))) + (((((a,b) + ((c,d) * (c,d))) * ((a,b) + ((c,d) * (c,d)))) - ((a,b) * (a,b))) - (((c,d) * (c,d)) * ((c,d) * (c,d)))))) - ((((((a,b) + ((c,d) * (c,d))) * ((a,b) + ((c,d) * (c,d)))) - ((a,b) * (a,b))) - (((c,d) * (c,d)) * ((c,d) * (c,d)))) + (((((a,b) + ((c,d) * (c,d))) * ((a,b) + ((c,d) * (c,d)))) - ((a,b) * (a,b))) - (((c,d) * (c,d)) * ((c,d) * (c,d))))))))),(.ob (.p (Prod.fst ((((((a,b) * (a,b)) + ((a,b) * (a,b))) + ((a,b) * (a,b))) * (((((((a,b) + ((c,d) * (c,d))) * ((a,b) + ((c,d) * (c,d)))) - ((a,b) * (a,b))) - (((c,d) * (c,d)) * ((c,d) * (c,d)))) + (((((a,b) + ((c,d) * (c,d))) * ((a,b) + ((c,d) * (c,d)))) - ((a,b) * (a,b))) - (((c,d) * (c,d)) * ((c,d) * (c,d))))) - (((((((a,b) * (a,b)) + ((a,b) * (a,b))) + ((a,b) * (a,b))) * ((((a,b) * (a,b)) + ((a,b) * (a,b))) + ((a,b) * (a,b)))) - ((((((a,b) + ((c,d) * (c,d))) * ((a,b) + ((c,d) * (c,d)))) - ((a,b) * (a,b))) - (((c,d) * (c,d)) * ((c,d) * (c,d)))) + (((((a,b) + ((c,d) * (c,d))) * ((a,b) + ((c,d) * (c,d)))) - ((a,b) * (a,b))) - (((c,d) * (c,d)) * ((c,d) * (c,d)))))) - ((((((a,b) + ((c,d) * (c,d))) * ((a,b) + ((c,d) * (c,d)))) - ((a,b) * (a,b))) - (((c,d) * (c,d)) * ((c,d) * (c,d)))) + (((((a,b) + ((c,d) * (c,d))) * ((a,b) + ((c,d) * (c,d)))) - ((a,b) * (a,b))) - (((c,d) * (c,d)) * ((c,d) * (c,d)))))))) - ((((((c,d) * (c,d)) * ((c,d) * (c,d))) + (((c,d) * (c,d)) * ((c,d) * (c,d)))) + ((((c,d) * (c,d)) * ((c,d) * (c,d))) + (((c,d) * (c,d)) * ((c,d) * (c,d))))) + (((((c,d) * (c,d)) * ((c,d) * (c,d))) + (((c,d) * (c,d)) * ((c,d) * (c,d)))) + ((((c,d) * (c,d)) * ((c,d) * (c,d))) + (((c,d) * (c,d)) * ((c,d) * (c,d)))))))))),(.ob (.p (Prod.snd ((((((a,b) * (a,b)) + ((a,b) * (a,b))) + ((a,b) * (a,b))) * (((((((a,b) + ((c,d) * (c,d))) * ((a,b) + ((c,d) * (c,d)))) - ((a,b) * (a,b))) - (((c,d) * (c,d)) * ((c,d) * (c,d)))) + (((((a,b) + ((c,d) * (c,d))) * ((a,b) + ((c,d) * (c,d)))) - ((a,b) * (a,b))) - (((c,d) * (c,d)) * ((c,d) * (c,d))))) - (((((((a,b) * (a,b)) + ((a,b) * (a,b))) + ((a,b) * (a,b))) * ((((a,b) * (a,b)) + ((a,b) * (a,b))) + ((a,b) * (a,b)))) - ((((((a,b) + ((c,d) * (c,d))) * ((a,b) + ((c,d) * (c,d)))) - ((a,b) * (a,b))) - (((c,d) * (c,d)) * ((c,d) * (c,d)))) + (((((a,b) + ((c,d) * (c,d))) * ((a,b) + ((c,d) * (c,d)))) - ((a,b) * (a,b))) - (((c,d) * (c,d)) * ((c,d) * (c,d)))))) - ((((((a,b) + ((c,d) * (c,d))) * ((a,b) + ((c,d) * (c,d)))) - ((a,b) * (a,b))) - (((c,d) * (c,d)) * ((c,d) * (c,d)))) + (((((a,b) + ((c,d) * (c,d))) * ((a,b) + ((c,d) * (c,d)))) - ((a,b) * (a,b))) - (((c,d) * (c,d)) * ((c,d) * (c,d)))))))) - ((((((c,d) * (c,d)) * ((c,d) * (c,d))) + (((c,d) * (c,d)) * ((c,d) * (c,d)))) + ((((c,d) * (c,d)) * ((c,d) * (c,d))) + (((c,d) * (c,d)) * ((c,d) * (c,d))))) + (((((c,d) * (c,d)) * ((c,d) * (c,d))) + (((c,d) * (c,d)) * ((c,d) * (c,d)))) + ((((c,d) * (c,d)) * ((c,d) * (c,d))) + (((c,d) * (c,d)) * ((c,d) * (c,d)))))))))),(.ob (.p (Prod.fst (((c,d) * (e,f)) + ((c,d) * (e,f)))))),(.ob (.p (Prod.snd (((c,d) * (e,f)) + ((c,d) * (e,f))))))])),[]))) := by kernel_rfl
theorem ng2P (a b c d e f : Fp) : fnRes qxJ Try.f115 3000 [.v (.a [.ob (.p a),.ob (.p b),.ob (.p c),.ob (.p d),.ob (.p e),.ob (.p f)])] [] [] [] = (some ([],((.v (.a [.ob (.p a),.ob (.p b),(.ob (.p (Prod.fst ((0 : F2) - (c,d))))),(.ob (.p (Prod.snd ((0 : F2) - (c,d))))),.ob (.p e),.ob (.p f)])),[]))) := by kernel_rfl
end Go.Proofs.Ytdeohachoeopdaa

/- Points of the second curve: twice, negative, sums, walked. No conditions. -/
namespace Go.Proofs.Ytdeohachoeopdaa

theorem twice2_fnd (a b c d e f : Fp) : FnD Try.prog 52 [.v (.a [.ob (.p a), .ob (.p b), .ob (.p c), .ob (.p d), .ob (.p e), .ob (.p f)])] (.v (.a (pt2Its (jtw (F := F2) ((a, b), (c, d), (e, f)))))) [] := by
  by_cases h : ((e, f) : F2) = 0
  · have e0 : jtw (F := F2) ((a, b), (c, d), (e, f)) = ((a, b), (c, d), (e, f)) := if_pos h
    rw [e0]
    exact fn_sound qxJ_ok Try.func52 (tw2A a b c d e f) ⟨decide_eq_true h, trivial⟩
  · unfold jtw
    rw [if_neg h]
    exact fn_sound qxJ_ok Try.func52 (tw2B a b c d e f) ⟨decide_eq_false h, trivial⟩
def tw2Spec : FnSpec
  | [.v (.a [.ob (.p a), .ob (.p b), .ob (.p c), .ob (.p d), .ob (.p e), .ob (.p f)])] => some ([], .v (.a (pt2Its (jtw (F := F2) ((a, b), (c, d), (e, f))))), [])
  | _ => none
noncomputable def qyA : Env := qxJ.set (addT qxJ.fn 52 tw2Spec)
theorem qyA_ok : EnvOk Try.prog qyA := env_add qxJ_ok 52 tw2Spec (enters_of Try.func52 rfl rfl) fun args o r es h _ => by
  unfold tw2Spec at h
  split at h
  · cases h; exact twice2_fnd _ _ _ _ _ _
  · cases h
def ng2Spec : FnSpec
  | [.v (.a [.ob (.p a), .ob (.p b), .ob (.p c), .ob (.p d), .ob (.p e), .ob (.p f)])] => some ([], .v (.a (pt2Its (jng (F := F2) ((a, b), (c, d), (e, f))))), [])
  | _ => none
noncomputable def qyB : Env := qyA.set (addT qyA.fn 115 ng2Spec)
theorem qyB_ok : EnvOk Try.prog qyB := env_add qyA_ok 115 ng2Spec (enters_of Try.func115 rfl rfl) fun args o r es h _ => by
  unfold ng2Spec at h
  split at h
  · cases h; exact fn_sound qxJ_ok Try.func115 (ng2P _ _ _ _ _ _) trivial
  · cases h
--@env qyB qyB_ok
theorem pq2A (a b c d e f a' b' c' d' e' f' : Fp) : fnRes qyB Try.f50 3000 [.v (.a [.ob (.p a),.ob (.p b),.ob (.p c),.ob (.p d),.ob (.p e),.ob (.p f)]),.v (.a [.ob (.p a'),.ob (.p b'),.ob (.p c'),.ob (.p d'),.ob (.p e'),.ob (.p f')])] [true] [] [] = (some ([((decide ((e,f) = (0 : (Prod (Fin pN) (Fin pN))))) = true)],((.v (.a [(.ob (.p a')),(.ob (.p b')),(.ob (.p c')),(.ob (.p d')),(.ob (.p e')),(.ob (.p f'))])),[]))) := by kernel_rfl
theorem pq2B (a b c d e f a' b' c' d' e' f' : Fp) : fnRes qyB Try.f50 3000 [.v (.a [.ob (.p a),.ob (.p b),.ob (.p c),.ob (.p d),.ob (.p e),.ob (.p f)]),.v (.a [.ob (.p a'),.ob (.p b'),.ob (.p c'),.ob (.p d'),.ob (.p e'),.ob (.p f')])] [false,true] [] [] = (some ([((decide ((e,f) = (0 : (Prod (Fin pN) (Fin pN))))) = false),((decide ((e',f') = (0 : (Prod (Fin pN) (Fin pN))))) = true)],((.v (.a [.ob (.p a),.ob (.p b),.ob (.p c),.ob (.p d),.ob (.p e),.ob (.p f)])),[]))) := by kernel_rfl
theorem pq2C (a b c d e f a' b' c' d' e' f' : Fp) : fnRes qyB Try.f50 3000 [.v (.a [.ob (.p a),.ob (.p b),.ob (.p c),.ob (.p d),.ob (.p e),.ob (.p f)]),.v (.a [.ob (.p a'),.ob (.p b'),.ob (.p c'),.ob (.p d'),.ob (.p e'),.ob (.p f')])] [false,false,true,true] [] [] = (some ([((decide ((e,f) = (0 : (Prod (Fin pN) (Fin pN))))) = false),((decide ((e',f') = (0 : (Prod (Fin pN) (Fin pN))))) = false),((decide ((((a',b') * ((e,f) * (e,f))) - ((a,b) * ((e',f') * (e',f')))) = (0 : (Prod (Fin pN) (Fin pN))))) = true),((decide (((((c',d') * ((e,f) * (e,f))) * (e,f)) - (((c,d) * ((e',f') * (e',f'))) * (e',f'))) = (0 : (Prod (Fin pN) (Fin pN))))) = true)],((.v (.a [(.ob (.p (Prod.fst (Prod.fst (jtw ((a,b),((c,d),(e,f)))))))),(.ob (.p (Prod.snd (Prod.fst (jtw ((a,b),((c,d),(e,f)))))))),(.ob (.p (Prod.fst (Prod.fst (Prod.snd (jtw ((a,b),((c,d),(e,f))))))))),(.ob (.p (Prod.snd (Prod.fst (Prod.snd (jtw ((a,b),((c,d),(e,f))))))))),(.ob (.p (Prod.fst (Prod.snd (Prod.snd (jtw ((a,b),((c,d),(e,f))))))))),(.ob (.p (Prod.snd (Prod.snd (Prod.snd (jtw ((a,b),((c,d),(e,f)))))))))])),[]))) := by kernel_rfl
theorem pq2D (a b c d e f a' b' c' d' e' f' : Fp) : fnRes qyB Try.f50 3000 [.v (.a [.ob (.p a),.ob (.p b),.ob (.p c),.ob (.p d),.ob (.p e),.ob (.p f)]),.v (.a [.ob (.p a'),.ob (.p b'),.ob (.p c'),.ob (.p d'),.ob (.p e'),.ob (.p f')])] [false,false,true,false] [] [] = (some ([((decide ((e,f) = (0 : (Prod (Fin pN) (Fin pN))))) = false),((decide ((e',f') = (0 : (Prod (Fin pN) (Fin pN))))) = false),((decide ((((a',b') * ((e,f) * (e,f))) - ((a,b) * ((e',f') * (e',f')))) = (0 : (Prod (Fin pN) (Fin pN))))) = true),((decide (((((c',d') * ((e,f) * (e,f))) * (e,f)) - (((c,d) * ((e',f') * (e',f'))) * (e',f'))) = (0 : (Prod (Fin pN) (Fin pN))))) = false)],((.v (.a [.ob (.p a),.ob (.p b),.ob (.p c),.ob (.p d),(.ob (.p (0:Fp))),(.ob (.p (0:Fp)))])),[]))) := by kernel_rfl
theorem pq2E (a b c d e f a' b' c' d' e' f' : Fp) : fnRes qyB Try.f50 3000 [.v (.a [.ob (.p a),.ob (.p b),.ob (.p c),.ob (.p d),.ob (.p e),.ob (.p f)]),.v (.a [.ob (.p a'),.ob (.p b'),.ob (.p c'),.ob (.p d'),.ob (.p e'),.ob (.p f')])] [false,false,false] [] [] = (some ([((decide ((e,f) = (0 : (Prod (Fin pN) (Fin pN))))) = false),((decide ((e',f') = (0 : (Prod (Fin pN) (Fin pN))))) = false),((decide ((((a',b') * ((e,f) * (e,f))) - ((a,b) * ((e',f') * (e',f')))) = (0 : (Prod (Fin pN) (Fin pN))))) = false)],((.v (.a [(.ob (.p (Prod.fst ((((((((c',d') * ((e,f) * (e,f))) * (e,f)) - (((c,d) * ((e',f') * (e',f'))) * (e',f'))) * ((((c',d') * ((e,f) * (e,f))) * (e,f)) - (((c,d) * ((e',f') * (e',f'))) * (e',f')))) - (((((a',b') * ((e,f) * (e,f))) - ((a,b) * ((e',f') * (e',f')))) * (((a',b') * ((e,f) * (e,f))) - ((a,b) * ((e',f') * (e',f'))))) * (((a',b') * ((e,f) * (e,f))) - ((a,b) * ((e',f') * (e',f')))))) - (((a,b) * ((e',f') * (e',f'))) * ((((a',b') * ((e,f) * (e,f))) - ((a,b) * ((e',f') * (e',f')))) * (((a',b') * ((e,f) * (e,f))) - ((a,b) * ((e',f') * (e',f'))))))) - (((a,b) * ((e',f') * (e',f'))) * ((((a',b') * ((e,f) * (e,f))) - ((a,b) * ((e',f') * (e',f')))) * (((a',b') * ((e,f) * (e,f))) - ((a,b) * ((e',f') * (e',f')))))))))),(.ob (.p (Prod.snd ((((((((c',d') * ((e,f) * (e,f))) * (e,f)) - (((c,d) * ((e',f') * (e',f'))) * (e',f'))) * ((((c',d') * ((e,f) * (e,f))) * (e,f)) - (((c,d) * ((e',f') * (e',f'))) * (e',f')))) - (((((a',b') * ((e,f) * (e,f))) - ((a,b) * ((e',f') * (e',f')))) * (((a',b') * ((e,f) * (e,f))) - ((a,b) * ((e',f') * (e',f'))))) * (((a',b') * ((e,f) * (e,f))) - ((a,b) * ((e',f') * (e',f')))))) - (((a,b) * ((e',f') * (e',f'))) * ((((a',b') * ((e,f) * (e,f))) - ((a,b) * ((e',f') * (e',f')))) * (((a',b') * ((e,f) * (e,f))) - ((a,b) * ((e',f') * (e',f'))))))) - (((a,b) * ((e',f') * (e',f'))) * ((((a',b') * ((e,f) * (e,f))) - ((a,b) * ((e',f') * (e',f')))) * (((a',b') * ((e,f) * (e,f))) - ((a,b) * ((e',f') * (e',f')))))))))),(.ob (.p (Prod.fst ((((((c',d') * ((e,f) * (e,f))) * (e,f)) - (((c,d) * ((e',f') * (e',f'))) * (e',f'))) * ((((a,b) * ((e',f') * (e',f'))) * ((((a',b') * ((e,f) * (e,f))) - ((a,b) * ((e',f') * (e',f')))) * (((a',b') * ((e,f) * (e,f))) - ((a,b) * ((e',f') * (e',f')))))) - ((((((((c',d') * ((e,f) * (e,f))) * (e,f)) - (((c,d) * ((e',f') * (e',f'))) * (e',f'))) * ((((c',d') * ((e,f) * (e,f))) * (e,f)) - (((c,d) * ((e',f') * (e',f'))) * (e',f')))) - (((((a',b') * ((e,f) * (e,f))) - ((a,b) * ((e',f') * (e',f')))) * (((a',b') * ((e,f) * (e,f))) - ((a,b) * ((e',f') * (e',f'))))) * (((a',b') * ((e,f) * (e,f))) - ((a,b) * ((e',f') * (e',f')))))) - (((a,b) * ((e',f') * (e',f'))) * ((((a',b') * ((e,f) * (e,f))) - ((a,b) * ((e',f') * (e',f')))) * (((a',b') * ((e,f) * (e,f))) - ((a,b) * ((e',f') * (e',f'))))))) - (((a,b) * ((e',f') * (e',f'))) * ((((a',b') * ((e,f) * (e,f))) - ((a,b) * ((e',f') * (e',f')))) * (((a',b') * ((e,f) * (e,f))) - ((a,b) * ((e',f') * (e',f'))))))))) - ((((c,d) * ((e',f') * (e',f'))) * (e',f')) * (((((a',b') * ((e,f) * (e,f))) - ((a,b) * ((e',f') * (e',f')))) * (((a',b') * ((e,f) * (e,f))) - ((a,b) * ((e',f') * (e',f'))))) * (((a',b') * ((e,f) * (e,f))) - ((a,b) * ((e',f') * (e',f')))))))))),(.ob (.p (Prod.snd ((((((c',d') * ((e,f) * (e,f))) * (e,f)) - (((c,d) * ((e',f') * (e',f'))) * (e',f'))) * ((((a,b) * ((e',f') * (e',f'))) * ((((a',b') * ((e,f) * (e,f))) - ((a,b) * ((e',f') * (e',f')))) * (((a',b') * ((e,f) * (e,f))) - ((a,b) * ((e',f') * (e',f')))))) - ((((((((c',d') * ((e,f) * (e,f))) * (e,f)) - (((c,d) * ((e',f') * (e',f'))) * (e',f'))) * ((((c',d') * ((e,f) * (e,f))) * (e,f)) - (((c,d) * ((e',f') * (e',f'))) * (e',f')))) - (((((a',b') * ((e,f) * (e,f))) - ((a,b) * ((e',f') * (e',f')))) * (((a',b') * ((e,f) * (e,f))) - ((a,b) * ((e',f') * (e',f'))))) * (((a',b') * ((e,f) * (e,f))) - ((a,b) * ((e',f') * (e',f')))))) - (((a,b) * ((e',f') * (e',f'))) * ((((a',b') * ((e,f) * (e,f))) - ((a,b) * ((e',f') * (e',f')))) * (((a',b') * ((e,f) * (e,f))) - ((a,b) * ((e',f') * (e',f'))))))) - (((a,b) * ((e',f') * (e',f'))) * ((((a',b') * ((e,f) * (e,f))) - ((a,b) * ((e',f') * (e',f')))) * (((a',b') * ((e,f) * (e,f))) - ((a,b) * ((e',f') * (e',f'))))))))) - ((((c,d) * ((e',f') * (e',f'))) * (e',f')) * (((((a',b') * ((e,f) * (e,f))) - ((a,b) * ((e',f') * (e',f')))) * (((a',b') * ((e,f) * (e,f))) - ((a,b) * ((e',f') * (e',f'))))) * (((a',b') * ((e,f) * (e,f))) - ((a,b) * ((e',f') * (e',f')))))))))),(.ob (.p (Prod.fst (((((a',b') * ((e,f) * (e,f))) - ((a,b) * ((e',f') * (e',f')))) * (e,f)) * (e',f'))))),(.ob (.p (Prod.snd (((((a',b') * ((e,f) * (e,f))) - ((a,b) * ((e',f') * (e',f')))) * (e,f)) * (e',f')))))])),[]))) := by kernel_rfl
end Go.Proofs.Ytdeohachoeopdaa

/- Points of the second curve: sums, contract. No conditions. -/
namespace Go.Proofs.Ytdeohachoeopdaa

theorem plusPt2_fnd (a b c d e f a' b' c' d' e' f' : Fp) : FnD Try.prog 50 [.v (.a [.ob (.p a), .ob (.p b), .ob (.p c), .ob (.p d), .ob (.p e), .ob (.p f)]), .v (.a [.ob (.p a'), .ob (.p b'), .ob (.p c'), .ob (.p d'), .ob (.p e'), .ob (.p f')])] (.v (.a (pt2Its (jpl (F := F2) ((a, b), (c, d), (e, f)) ((a', b'), (c', d'), (e', f')))))) [] := by
  by_cases h : ((e, f) : F2) = 0
  · have e0 : jpl (F := F2) ((a, b), (c, d), (e, f)) ((a', b'), (c', d'), (e', f')) = ((a', b'), (c', d'), (e', f')) := if_pos h
    rw [e0]
    exact fn_sound qyB_ok Try.func50 (pq2A a b c d e f a' b' c' d' e' f') ⟨decide_eq_true h, trivial⟩
  · by_cases h2 : ((e', f') : F2) = 0
    · have e0 : jpl (F := F2) ((a, b), (c, d), (e, f)) ((a', b'), (c', d'), (e', f')) = ((a, b), (c, d), (e, f)) := (if_neg h).trans (if_pos h2)
      rw [e0]
      exact fn_sound qyB_ok Try.func50 (pq2B a b c d e f a' b' c' d' e' f') ⟨decide_eq_false h, decide_eq_true h2, trivial⟩
    · unfold jpl
      rw [if_neg h, if_neg h2]
      dsimp only
      by_cases h3 : ((a', b') : F2) * (((e, f) : F2) * ((e, f) : F2)) - ((a, b) : F2) * (((e', f') : F2) * ((e', f') : F2)) = 0
      · rw [if_pos h3]
        by_cases h4 : ((c', d') : F2) * (((e, f) : F2) * ((e, f) : F2)) * ((e, f) : F2) - ((c, d) : F2) * (((e', f') : F2) * ((e', f') : F2)) * ((e', f') : F2) = 0
        · rw [if_pos h4]
          exact fn_sound qyB_ok Try.func50 (pq2C a b c d e f a' b' c' d' e' f') ⟨decide_eq_false h, decide_eq_false h2, decide_eq_true h3, decide_eq_true h4, trivial⟩
        · rw [if_neg h4]
          exact fn_sound qyB_ok Try.func50 (pq2D a b c d e f a' b' c' d' e' f') ⟨decide_eq_false h, decide_eq_false h2, decide_eq_true h3, decide_eq_false h4, trivial⟩
      · rw [if_neg h3]
        exact fn_sound qyB_ok Try.func50 (pq2E a b c d e f a' b' c' d' e' f') ⟨decide_eq_false h, decide_eq_false h2, decide_eq_false h3, trivial⟩

end Go.Proofs.Ytdeohachoeopdaa

/- Points of the second curve, in and out, walked. No conditions. -/
namespace Go.Proofs.Ytdeohachoeopdaa

def pl2Spec : FnSpec
  | [.v (.a [.ob (.p a), .ob (.p b), .ob (.p c), .ob (.p d), .ob (.p e), .ob (.p f)]), .v (.a [.ob (.p a'), .ob (.p b'), .ob (.p c'), .ob (.p d'), .ob (.p e'), .ob (.p f')])] => some ([], .v (.a (pt2Its (jpl (F := F2) ((a, b), (c, d), (e, f)) ((a', b'), (c', d'), (e', f'))))), [])
  | _ => none
noncomputable def qyC : Env := qyB.set (addT qyB.fn 50 pl2Spec)
theorem qyC_ok : EnvOk Try.prog qyC := env_add qyB_ok 50 pl2Spec (enters_of Try.func50 rfl rfl) fun args o r es h _ => by
  unfold pl2Spec at h
  split at h
  · cases h; exact plusPt2_fnd _ _ _ _ _ _ _ _ _ _ _ _
  · cases h
noncomputable def inlAg (T : Nat → Option Func) (f : Nat) : Option Func := if f = 47 then some Try.f47 else T f
noncomputable def qyD : Env := { qyC with inl := inlAg qyC.inl }
theorem qyD_ok : EnvOk Try.prog qyD := by
  refine ⟨qyC_ok.ty, qyC_ok.mixed, qyC_ok.fn, qyC_ok.mu, fun f fn h => ?_, qyC_ok.ex, qyC_ok.inv⟩
  have h : inlAg qyC.inl f = some fn := h
  unfold inlAg at h
  split at h
  · rename_i hf; cases h; subst hf; exact ⟨Try.func47, enters_of Try.func47 rfl rfl⟩
  exact qyC_ok.inl f fn h
--@env qyD qyD_ok
theorem ig2A (a b c d : U6) (i : Bool) : fnRes qyD Try.f26 3000 [.v (.a [.ob (.fp a),.ob (.fp b),.ob (.fp c),.ob (.fp d),.bool i])] [true] [] [] = (some ([((0:Int) ≤ (1:Int)),((1:Int) < (18446744073709551616:Int)),(i = true)],((.v (.a [(.ob (.p (Fin.ofNat pN 1))),(.ob (.p (0:Fp))),(.ob (.p (Fin.ofNat pN 1))),(.ob (.p (0:Fp))),(.ob (.p (0:Fp))),(.ob (.p (0:Fp)))])),[]))) := by kernel_rfl
theorem ig2B (a b c d : U6) (i : Bool) : fnRes qyD Try.f26 3000 [.v (.a [.ob (.fp a),.ob (.fp b),.ob (.fp c),.ob (.fp d),.bool i])] [false] [] [] = (some ([((0:Int) ≤ (1:Int)),((1:Int) < (18446744073709551616:Int)),(i = false)],((.v (.a [(.ob (.p (Prod.fst (inP2 a b)))),(.ob (.p (Prod.snd (inP2 a b)))),(.ob (.p (Prod.fst (inP2 c d)))),(.ob (.p (Prod.snd (inP2 c d)))),(.ob (.p (Fin.ofNat pN 1))),(.ob (.p (0:Fp)))])),[]))) := by kernel_rfl
theorem og2A (a b c d e f : Fp) : fnRes qyD Try.f25 3000 [.v (.a [.ob (.p a),.ob (.p b),.ob (.p c),.ob (.p d),.ob (.p e),.ob (.p f)])] [true,true] [] [] = (some ([((decide ((e,f) = (0 : (Prod (Fin pN) (Fin pN))))) = true)],((.v (.a [(.ob (.fp (0:U6))),(.ob (.fp (0:U6))),(.ob (.fp (0:U6))),(.ob (.fp (0:U6))),(.lit true)])),[]))) := by kernel_rfl
theorem og2B (a b c d e f : Fp) : fnRes qyD Try.f25 3000 [.v (.a [.ob (.p a),.ob (.p b),.ob (.p c),.ob (.p d),.ob (.p e),.ob (.p f)])] [false,false] [] [] = (some ([((decide ((e,f) = (0 : (Prod (Fin pN) (Fin pN))))) = false)],((.v (.a [(.ob (.fp (outP (Prod.fst ((a,b) * ((ivQ2 ivP (e,f)) * (ivQ2 ivP (e,f)))))))),(.ob (.fp (outP (Prod.snd ((a,b) * ((ivQ2 ivP (e,f)) * (ivQ2 ivP (e,f)))))))),(.ob (.fp (outP (Prod.fst (((c,d) * ((ivQ2 ivP (e,f)) * (ivQ2 ivP (e,f)))) * (ivQ2 ivP (e,f))))))),(.ob (.fp (outP (Prod.snd (((c,d) * ((ivQ2 ivP (e,f)) * (ivQ2 ivP (e,f)))) * (ivQ2 ivP (e,f))))))),(.lit false)])),[]))) := by kernel_rfl
theorem on2A (a b c d : U6) (i : Bool) : fnRes qyD Try.f46 3000 [.v (.a [.ob (.fp a),.ob (.fp b),.ob (.fp c),.ob (.fp d),.bool i])] [true] [] [] = (some ([(i = true)],((.v (.c (.bool (ite (true = true) (Bool.and (decide (a = (0:U6))) (Bool.and (decide (b = (0:U6))) (Bool.and (decide (c = (0:U6))) (Bool.and (decide (d = (0:U6))) (i == true))))) (Bool.not (Bool.and (decide (a = (0:U6))) (Bool.and (decide (b = (0:U6))) (Bool.and (decide (c = (0:U6))) (Bool.and (decide (d = (0:U6))) (i == true)))))))))),[]))) := by kernel_rfl
theorem on2B (a b c d : U6) (i : Bool) : fnRes qyD Try.f46 3000 [.v (.a [.ob (.fp a),.ob (.fp b),.ob (.fp c),.ob (.fp d),.bool i])] [false,true,true] [] [] = (some ([(i = false),((0:Int) ≤ (4:Int)),((4:Int) < (18446744073709551616:Int)),((0:Int) ≤ (4:Int)),((4:Int) < (18446744073709551616:Int)),((ite (true = true) (Bool.and (decide ((outP (Prod.fst (inP2 a b))) = a)) (decide ((outP (Prod.snd (inP2 a b))) = b))) (Bool.not (Bool.and (decide ((outP (Prod.fst (inP2 a b))) = a)) (decide ((outP (Prod.snd (inP2 a b))) = b))))) = true),((ite (true = true) (Bool.and (decide ((outP (Prod.fst (inP2 c d))) = c)) (decide ((outP (Prod.snd (inP2 c d))) = d))) (Bool.not (Bool.and (decide ((outP (Prod.fst (inP2 c d))) = c)) (decide ((outP (Prod.snd (inP2 c d))) = d))))) = true)],((.v (.c (.bool (ite (true = true) (Bool.and (decide ((Prod.fst ((inP2 c d) * (inP2 c d))) = (Prod.fst ((((inP2 a b) * (inP2 a b)) * (inP2 a b)) + ((Fin.ofNat pN 4),(Fin.ofNat pN 4)))))) (decide ((Prod.snd ((inP2 c d) * (inP2 c d))) = (Prod.snd ((((inP2 a b) * (inP2 a b)) * (inP2 a b)) + ((Fin.ofNat pN 4),(Fin.ofNat pN 4))))))) (Bool.not (Bool.and (decide ((Prod.fst ((inP2 c d) * (inP2 c d))) = (Prod.fst ((((inP2 a b) * (inP2 a b)) * (inP2 a b)) + ((Fin.ofNat pN 4),(Fin.ofNat pN 4)))))) (decide ((Prod.snd ((inP2 c d) * (inP2 c d))) = (Prod.snd ((((inP2 a b) * (inP2 a b)) * (inP2 a b)) + ((Fin.ofNat pN 4),(Fin.ofNat pN 4)))))))))))),[]))) := by kernel_rfl
theorem on2C (a b c d : U6) (i : Bool) : fnRes qyD Try.f46 3000 [.v (.a [.ob (.fp a),.ob (.fp b),.ob (.fp c),.ob (.fp d),.bool i])] [false,true,false] [] [] = (some ([(i = false),((0:Int) ≤ (4:Int)),((4:Int) < (18446744073709551616:Int)),((0:Int) ≤ (4:Int)),((4:Int) < (18446744073709551616:Int)),((ite (true = true) (Bool.and (decide ((outP (Prod.fst (inP2 a b))) = a)) (decide ((outP (Prod.snd (inP2 a b))) = b))) (Bool.not (Bool.and (decide ((outP (Prod.fst (inP2 a b))) = a)) (decide ((outP (Prod.snd (inP2 a b))) = b))))) = true),((ite (true = true) (Bool.and (decide ((outP (Prod.fst (inP2 c d))) = c)) (decide ((outP (Prod.snd (inP2 c d))) = d))) (Bool.not (Bool.and (decide ((outP (Prod.fst (inP2 c d))) = c)) (decide ((outP (Prod.snd (inP2 c d))) = d))))) = false)],((.v (.c (.lit false))),[]))) := by kernel_rfl
theorem on2D (a b c d : U6) (i : Bool) : fnRes qyD Try.f46 3000 [.v (.a [.ob (.fp a),.ob (.fp b),.ob (.fp c),.ob (.fp d),.bool i])] [false,false,false] [] [] = (some ([(i = false),((0:Int) ≤ (4:Int)),((4:Int) < (18446744073709551616:Int)),((0:Int) ≤ (4:Int)),((4:Int) < (18446744073709551616:Int)),((ite (true = true) (Bool.and (decide ((outP (Prod.fst (inP2 a b))) = a)) (decide ((outP (Prod.snd (inP2 a b))) = b))) (Bool.not (Bool.and (decide ((outP (Prod.fst (inP2 a b))) = a)) (decide ((outP (Prod.snd (inP2 a b))) = b))))) = false)],((.v (.c (.lit false))),[]))) := by kernel_rfl
end Go.Proofs.Ytdeohachoeopdaa

/- Points of the second curve, in and out; pairs outside: contracts. No conditions. -/
namespace Go.Proofs.Ytdeohachoeopdaa

def fq4 : F2 := (fp4, fp4)
/-- Which points may be. -/
def onG2 (a : G2D) : Bool :=
  if a.inf then decide (a.xa = 0) && (decide (a.xb = 0) && (decide (a.ya = 0) && decide (a.yb = 0)))
  else (decide (outP (inP a.xa) = a.xa) && decide (outP (inP a.xb) = a.xb)) && ((decide (outP (inP a.ya) = a.ya) && decide (outP (inP a.yb) = a.yb)) && decide (inP2 a.ya a.yb * inP2 a.ya a.yb = inP2 a.xa a.xb * inP2 a.xa a.xb * inP2 a.xa a.xb + fq4))
def inG2 (a : G2D) : F2 × F2 × F2 := if a.inf then ((fp1, 0), (fp1, 0), (0, 0)) else (inP2 a.xa a.xb, inP2 a.ya a.yb, (fp1, 0))
def outG2 (t : F2 × F2 × F2) : G2D :=
  if t.2.2 = 0 then ⟨0, 0, 0, 0, true⟩ else
  ⟨outP (t.1 * (ivQ2 ivP t.2.2 * ivQ2 ivP t.2.2)).1, outP (t.1 * (ivQ2 ivP t.2.2 * ivQ2 ivP t.2.2)).2, outP (t.2.1 * (ivQ2 ivP t.2.2 * ivQ2 ivP t.2.2) * ivQ2 ivP t.2.2).1, outP (t.2.1 * (ivQ2 ivP t.2.2 * ivQ2 ivP t.2.2) * ivQ2 ivP t.2.2).2, false⟩
def addG2 (a b : G2D) : G2D := outG2 (jpl (inG2 a) (inG2 b))
def negG2 (a : G2D) : G2D := outG2 (jng (inG2 a))

theorem lit_fifth {x : Ctx} {i j k l : It} {b : Bool} {v : Value} (h : denS x (.v (.a [i, j, k, l, .lit b])) v) : denS x (.v (.a [i, j, k, l, .bool b])) v := by
  obtain ⟨cs, e, c1, r1, e1, h1, c2, r2, e2, h2, c3, r3, e3, h3, c4, r4, e4, h4, c5, r5, e5, ⟨d, h5⟩, h6⟩ := h
  refine ⟨cs, e, c1, r1, e1, h1, c2, r2, e2, h2, c3, r3, e3, h3, c4, r4, e4, h4, c5, r5, e5, ⟨d, ?_⟩, h6⟩
  cases d <;> exact h5
theorem lit_fifth_t {x : Ctx} {i j k l m : It} {b : Bool} {v : Value} (h : denS x (.t [.a [i, j, k, l, .lit b], .c m]) v) : denS x (.t [.a [i, j, k, l, .bool b], .c m]) v := by
  obtain ⟨vs, e, h1⟩ := h
  cases h1 with | cons d1 ds =>
  exact ⟨_, e, .cons (lit_fifth d1) ds⟩

theorem inG2_fnd (a b c d : U6) (i : Bool) : FnD Try.prog 26 [.v (.a [.ob (.fp a), .ob (.fp b), .ob (.fp c), .ob (.fp d), .bool i])] (.v (.a (pt2Its (inG2 ⟨a, b, c, d, i⟩)))) [] := by
  cases i with
  | true => exact fn_sound qyD_ok Try.func26 (ig2A a b c d true) ⟨by decide, by decide, rfl, trivial⟩
  | false => exact fn_sound qyD_ok Try.func26 (ig2B a b c d false) ⟨by decide, by decide, rfl, trivial⟩

theorem outG2_fnd (a b c d e f : Fp) : FnD Try.prog 25 [.v (.a [.ob (.p a), .ob (.p b), .ob (.p c), .ob (.p d), .ob (.p e), .ob (.p f)])] (.v (.a (outG2 ((a, b), (c, d), (e, f))).its)) [] := by
  by_cases h : ((e, f) : F2) = 0
  · have e0 : outG2 ((a, b), (c, d), (e, f)) = ⟨0, 0, 0, 0, true⟩ := if_pos h
    rw [e0]
    exact (fn_sound qyD_ok Try.func25 (og2A a b c d e f) ⟨decide_eq_true h, trivial⟩).conv (fun _ _ h => h) fun y v hd => lit_fifth hd
  · unfold outG2
    rw [if_neg h]
    exact (fn_sound qyD_ok Try.func25 (og2B a b c d e f) ⟨decide_eq_false h, trivial⟩).conv (fun _ _ h => h) fun y v hd => lit_fifth hd

theorem onG2_fin (a b c d : U6) : onG2 ⟨a, b, c, d, false⟩ = ((decide (outP (inP a) = a) && decide (outP (inP b) = b)) && ((decide (outP (inP c) = c) && decide (outP (inP d) = d)) && decide (inP2 c d * inP2 c d = inP2 a b * inP2 a b * inP2 a b + fq4))) := if_neg (fun h => Bool.noConfusion h)
theorem onG2_inf (a b c d : U6) : onG2 ⟨a, b, c, d, true⟩ = (decide (a = 0) && (decide (b = 0) && (decide (c = 0) && (decide (d = 0) && (true == true))))) := by
  show (decide (a = 0) && (decide (b = 0) && (decide (c = 0) && decide (d = 0)))) = _
  simp

theorem onG2_fnd (a b c d : U6) (i : Bool) : FnD Try.prog 46 [.v (.a [.ob (.fp a), .ob (.fp b), .ob (.fp c), .ob (.fp d), .bool i])] (.v (.c (.bool (onG2 ⟨a, b, c, d, i⟩)))) [] := by
  cases i with
  | true =>
    have r := on2A a b c d true
    rw [if_pos rfl] at r
    rw [onG2_inf]
    exact fn_sound qyD_ok Try.func46 r ⟨rfl, trivial⟩
  | false =>
    rw [onG2_fin]
    cases h1 : (decide (outP (inP a) = a) && decide (outP (inP b) = b)) with
    | true =>
      rw [Bool.true_and]
      cases h2 : (decide (outP (inP c) = c) && decide (outP (inP d) = d)) with
      | true =>
        rw [Bool.true_and]
        have r := on2B a b c d false
        rw [if_pos rfl, if_pos rfl, if_pos rfl] at r
        have e : decide (inP2 c d * inP2 c d = inP2 a b * inP2 a b * inP2 a b + fq4) = _ := pair_dec (inP2 c d * inP2 c d).1 (inP2 a b * inP2 a b * inP2 a b + fq4).1 (inP2 c d * inP2 c d).2 (inP2 a b * inP2 a b * inP2 a b + fq4).2
        rw [e]
        exact fn_sound qyD_ok Try.func46 r ⟨rfl, by decide, by decide, by decide, by decide, h1, h2, trivial⟩
      | false =>
        rw [Bool.false_and]
        have r := on2C a b c d false
        rw [if_pos rfl, if_pos rfl] at r
        exact (fn_sound qyD_ok Try.func46 r ⟨rfl, by decide, by decide, by decide, by decide, h1, h2, trivial⟩).conv (fun _ _ h => h) fun y v hd => lit_bool rfl hd
    | false =>
      rw [Bool.false_and]
      have r := on2D a b c d false
      rw [if_pos rfl] at r
      exact (fn_sound qyD_ok Try.func46 r ⟨rfl, by decide, by decide, by decide, by decide, h1, trivial⟩).conv (fun _ _ h => h) fun y v hd => lit_bool rfl hd

/-! Pairs outside. -/
def u2I (x : U6 × U6) : List It := [.ob (.fp x.1), .ob (.fp x.2)]
def outP2 (x : F2) : U6 × U6 := (outP x.1, outP x.2)

section
variable {r : Nat} [NeZero r]
theorem add_neg_q (x y : Q2 r) : x + (0 - y) = x - y := by grind
end
theorem outP2_inj {x y : F2} (h : outP2 x = outP2 y) : x = y := by
  have h1 := congrArg Prod.fst h
  have h2 := congrArg Prod.snd h
  exact q2_ext (outP_inj h1) (outP_inj h2)

end Go.Proofs.Ytdeohachoeopdaa

/- Points of the second curve outside, and the reference's, walked. No conditions. -/
namespace Go.Proofs.Ytdeohachoeopdaa

def inG2Spec : FnSpec
  | [.v (.a [.ob (.fp a), .ob (.fp b), .ob (.fp c), .ob (.fp d), .bool i])] => some ([], .v (.a (pt2Its (inG2 ⟨a, b, c, d, i⟩))), [])
  | _ => none
noncomputable def qzA : Env := qyD.set (addT qyD.fn 26 inG2Spec)
theorem qzA_ok : EnvOk Try.prog qzA := env_add qyD_ok 26 inG2Spec (enters_of Try.func26 rfl rfl) fun args o r es h _ => by
  unfold inG2Spec at h
  split at h
  · cases h; exact inG2_fnd _ _ _ _ _
  · cases h
def outG2Spec : FnSpec
  | [.v (.a [.ob (.p a), .ob (.p b), .ob (.p c), .ob (.p d), .ob (.p e), .ob (.p f)])] => some ([], .v (.a (outG2 ((a, b), (c, d), (e, f))).its), [])
  | _ => none
noncomputable def qzB : Env := qzA.set (addT qzA.fn 25 outG2Spec)
theorem qzB_ok : EnvOk Try.prog qzB := env_add qzA_ok 25 outG2Spec (enters_of Try.func25 rfl rfl) fun args o r es h _ => by
  unfold outG2Spec at h
  split at h
  · cases h; exact outG2_fnd _ _ _ _ _ _
  · cases h
def onG2Spec : FnSpec
  | [.v (.a [.ob (.fp a), .ob (.fp b), .ob (.fp c), .ob (.fp d), .bool i])] => some ([], .v (.c (.bool (onG2 ⟨a, b, c, d, i⟩))), [])
  | _ => none
noncomputable def qzH : Env := qzB.set (addT qzB.fn 46 onG2Spec)
theorem qzH_ok : EnvOk Try.prog qzH := env_add qzB_ok 46 onG2Spec (enters_of Try.func46 rfl rfl) fun args o r es h _ => by
  unfold onG2Spec at h
  split at h
  · cases h; exact onG2_fnd _ _ _ _ _
  · cases h
--@env qzH qzH_ok
theorem ri2R (a b c d : U6) (i : Bool) : fnRes qzH Try.f24 3000 [.v (.a [.ob (.fp a),.ob (.fp b),.ob (.fp c),.ob (.fp d),.bool i])] [] [] [] = (some ([],((.v (.c (.bool (onG2 (G2D.mk a b c d i))))),[]))) := by kernel_rfl
theorem ge2R  : fnRes qzH Try.f10 3000 [] [] [] [] = (some ([((0:Int) ≤ (15312334153293348280:Int)),((15312334153293348280:Int) < (18446744073709551616:Int)),((0:Int) ≤ (841050694974028783:Int)),((841050694974028783:Int) < (18446744073709551616:Int)),((0:Int) ≤ (12993178926126977399:Int)),((12993178926126977399:Int) < (18446744073709551616:Int)),((0:Int) ≤ (14331714969349929730:Int)),((14331714969349929730:Int) < (18446744073709551616:Int)),((0:Int) ≤ (2740446039084699729:Int)),((2740446039084699729:Int) < (18446744073709551616:Int)),((0:Int) ≤ (165123225776229009:Int)),((165123225776229009:Int) < (18446744073709551616:Int)),((0:Int) ≤ (16549740192668593022:Int)),((16549740192668593022:Int) < (18446744073709551616:Int)),((0:Int) ≤ (3696594454104530263:Int)),((3696594454104530263:Int) < (18446744073709551616:Int)),((0:Int) ≤ (13103893525273989193:Int)),((13103893525273989193:Int) < (18446744073709551616:Int)),((0:Int) ≤ (6443473286224459290:Int)),((6443473286224459290:Int) < (18446744073709551616:Int)),((0:Int) ≤ (9055845637167730533:Int)),((9055845637167730533:Int) < (18446744073709551616:Int)),((0:Int) ≤ (1432192374203850592:Int)),((1432192374203850592:Int) < (18446744073709551616:Int)),((0:Int) ≤ (16254428414758889473:Int)),((16254428414758889473:Int) < (18446744073709551616:Int)),((0:Int) ≤ (10536956157198377609:Int)),((10536956157198377609:Int) < (18446744073709551616:Int)),((0:Int) ≤ (7873024875724591404:Int)),((7873024875724591404:Int) < (18446744073709551616:Int)),((0:Int) ≤ (12537348094477325223:Int)),((12537348094477325223:Int) < (18446744073709551616:Int)),((0:Int) ≤ (10144865889576432922:Int)),((10144865889576432922:Int) < (18446744073709551616:Int)),((0:Int) ≤ (929383263523139089:Int)),((929383263523139089:Int) < (18446744073709551616:Int)),((0:Int) ≤ (12297368366147926462:Int)),((12297368366147926462:Int) < (18446744073709551616:Int)),((0:Int) ≤ (4555124010822409633:Int)),((4555124010822409633:Int) < (18446744073709551616:Int)),((0:Int) ≤ (2771000935339432363:Int)),((2771000935339432363:Int) < (18446744073709551616:Int)),((0:Int) ≤ (14645187562128761775:Int)),((14645187562128761775:Int) < (18446744073709551616:Int)),((0:Int) ≤ (3651525051980876697:Int)),((3651525051980876697:Int) < (18446744073709551616:Int)),((0:Int) ≤ (434250606344352972:Int)),((434250606344352972:Int) < (18446744073709551616:Int))],((.v (.a [(.ob (.fp (Fin.ofNat B6 352701069587466618187139116011060144890029952792775240219908644239793785735715026873347600343865175952761926303160))),(.ob (.fp (Fin.ofNat B6 3059144344244213709971259814753781636986470325476647558659373206291635324768958432433509563104347017837885763365758))),(.ob (.fp (Fin.ofNat B6 1985150602287291935568054521177171638300868978215655730859378665066344726373823718423869104263333984641494340347905))),(.ob (.fp (Fin.ofNat B6 927553665492332455747201965776037880757740193453592970025027978793976877002675564980949289727957565575433344219582))),(.lit false)])),[]))) := by kernel_rfl
end Go.Proofs.Ytdeohachoeopdaa

/- The reference's functions on points of the second curve: contracts. No conditions. -/
namespace Go.Proofs.Ytdeohachoeopdaa

def genG2 : G2D := ⟨Fin.ofNat B6 352701069587466618187139116011060144890029952792775240219908644239793785735715026873347600343865175952761926303160, Fin.ofNat B6 3059144344244213709971259814753781636986470325476647558659373206291635324768958432433509563104347017837885763365758, Fin.ofNat B6 1985150602287291935568054521177171638300868978215655730859378665066344726373823718423869104263333984641494340347905, Fin.ofNat B6 927553665492332455747201965776037880757740193453592970025027978793976877002675564980949289727957565575433344219582, false⟩

theorem gen2_fnd : FnD Try.prog 10 [] (.v (.a genG2.its)) [] :=
  (fn_sound qzH_ok Try.func10 ge2R (by simp [AllP])).conv (fun _ _ h => h) fun y v hd => lit_fifth hd
end Go.Proofs.Ytdeohachoeopdaa

/- Sums and negatives of points of the second curve outside, walked. No conditions. -/
namespace Go.Proofs.Ytdeohachoeopdaa

def right2Spec : FnSpec
  | [.v (.a [.ob (.fp a), .ob (.fp b), .ob (.fp c), .ob (.fp d), .bool i])] => some ([], .v (.c (.bool (onG2 ⟨a, b, c, d, i⟩))), [])
  | _ => none
noncomputable def rtA : Env := qzH.set (addT qzH.fn 24 right2Spec)
theorem rtA_ok : EnvOk Try.prog rtA := env_add qzH_ok 24 right2Spec (enters_of Try.func24 rfl rfl) fun args o r es h _ => by
  unfold right2Spec at h
  split at h
  · cases h; exact fn_sound qzH_ok Try.func24 (ri2R _ _ _ _ _) trivial
  · cases h
def gen2Spec : FnSpec
  | [] => some ([], .v (.a genG2.its), [])
  | _ => none
noncomputable def rtC : Env := rtA.set (addT rtA.fn 10 gen2Spec)
theorem rtC_ok : EnvOk Try.prog rtC := env_add rtA_ok 10 gen2Spec (enters_of Try.func10 rfl rfl) fun args o r es h _ => by
  unfold gen2Spec at h
  split at h
  · cases h; exact gen2_fnd
  · cases h
noncomputable def rtG : Env := rtC
theorem rtG_ok : EnvOk Try.prog rtG := rtC_ok
end Go.Proofs.Ytdeohachoeopdaa

/- Sums and negatives of points of the second curve outside: contracts. No conditions. -/
namespace Go.Proofs.Ytdeohachoeopdaa

/-- What Add and Neg tell. -/
def adR2 (a b : G2D) : G2D × Int := if onG2 a && onG2 b then (addG2 a b, 0) else (g20, 30)
def neR2 (a : G2D) : G2D × Int := if onG2 a then (negG2 a, 0) else (g20, 30)
theorem adR2_on {a b : G2D} (ha : onG2 a = true) (hb : onG2 b = true) : adR2 a b = (addG2 a b, 0) := by unfold adR2; rw [ha, hb]; rfl
theorem adR2_off1 {a b : G2D} (ha : onG2 a = false) : adR2 a b = (g20, 30) := by unfold adR2; rw [ha]; rfl
theorem adR2_off2 {a b : G2D} (hb : onG2 b = false) : adR2 a b = (g20, 30) := by unfold adR2; rw [hb, Bool.and_false]; rfl
theorem neR2_on {a : G2D} (ha : onG2 a = true) : neR2 a = (negG2 a, 0) := by unfold neR2; rw [ha]; rfl
theorem neR2_off {a : G2D} (ha : onG2 a = false) : neR2 a = (g20, 30) := by unfold neR2; rw [ha]; rfl

theorem eq_bits2 {a b : G2D} (h : a = b) : (decide (a.xa = b.xa) && (decide (a.xb = b.xb) && (decide (a.ya = b.ya) && (decide (a.yb = b.yb) && (a.inf == b.inf))))) = true := by
  subst h
  simp

end Go.Proofs.Ytdeohachoeopdaa
