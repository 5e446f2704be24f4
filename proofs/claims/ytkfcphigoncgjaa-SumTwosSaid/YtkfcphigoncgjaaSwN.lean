/- Parts of a proof, one behind the other: WPu, PPu, WPi, WMd, PMd, WUa, PUa, Pf, WDa, WDb, PDb, WDc, PDc, WDd, PDd, WDe, PDe, Gb, WEa, PEa, WMw, PMw, WTj, PTj, WVb, PVb, WVc, PVc, WCk, PCk, WVd. No conditions. -/
import Derived.Shelf.Strconv.Itoa0
import Derived.Test.YtkfcphigoncgjaaSwM
/- Bits of a number, powers of an element of the greater field: the functions, walked. No conditions. -/
namespace Go.Proofs.Ytkfcphigoncgjaa
section
variable {w0 : World} {F0 : Nat → Prop} {K : Kp} {ac : List Act} {Q : Exit → Act → World → Prop} {cX : Ctx} {aX : Act}
open Go.Shelf

theorem inP_ofNat {n : Nat} (h : n < B6) : inP (Fin.ofNat B6 n) = Fin.ofNat pN n := by
  apply Fin.ext
  show (n % B6) % pN = n % pN
  rw [Nat.mod_eq_of_lt h]
theorem smallP_fnd (n : Int) (h1 : 0 ≤ n) (h2 : n < 18446744073709551616) : FnD Try.prog 110 [.v (.c (.int .u64 n))] (.v (.a [.ob (.p (Fin.ofNat pN n.toNat))])) [] := by
  refine (fn_sound qeF_ok Try.func110 (smallP0 n) ⟨h1, h2, by decide, by decide, by decide, by decide, by decide, by decide, by decide, by decide, by decide, by decide, trivial⟩).conv (fun _ _ h => h) fun y v hd => ?_
  rw [Nat.add_zero, inP_ofNat (by unfold B6; omega)] at hd
  exact hd
theorem zeroP_fnd (x : Fp) : FnD Try.prog 84 [.v (.a [.ob (.p x)])] (.v (.c (.bool (decide (x = 0))))) [] := by
  refine (fn_sound qeF_ok Try.func84 (zeroP0 _) trivial).conv (fun _ _ h => h) fun y v hd => ?_
  rw [if_pos rfl] at hd
  exact hd
def smallPSpec : FnSpec
  | [.v (.c (.int .u64 n))] => some ([0 ≤ n, n < 18446744073709551616], .v (.a [.ob (.p (Fin.ofNat pN n.toNat))]), [])
  | _ => none
noncomputable def qeG1 : Env := qeF.set (addT qeF.fn 110 smallPSpec)
theorem qeG1_ok : EnvOk Try.prog qeG1 := env_add qeF_ok 110 smallPSpec (enters_of Try.func110 rfl rfl) fun args o r es h ho => by
  unfold smallPSpec at h
  split at h
  · cases h; exact smallP_fnd _ ho.1 ho.2.1
  · cases h
def negPSpec : FnSpec
  | [.v (.a [.ob (.p x)])] => some ([], .v (.a [.ob (.p (0 - x))]), [])
  | _ => none
noncomputable def qeG2 : Env := qeG1.set (addT qeG1.fn 166 negPSpec)
theorem qeG2_ok : EnvOk Try.prog qeG2 := env_add qeG1_ok 166 negPSpec (enters_of Try.func166 rfl rfl) fun args o r es h _ => by
  unfold negPSpec at h
  split at h
  · cases h; exact fn_sound qeF_ok Try.func166 (negP0 _) trivial
  · cases h
def zeroPSpec : FnSpec
  | [.v (.a [.ob (.p x)])] => some ([], .v (.c (.bool (decide (x = 0)))), [])
  | _ => none
noncomputable def qeG : Env := qeG2.set (addT qeG2.fn 84 zeroPSpec)
theorem qeG_ok : EnvOk Try.prog qeG := env_add qeG2_ok 84 zeroPSpec (enters_of Try.func84 rfl rfl) fun args o r es h _ => by
  unfold zeroPSpec at h
  split at h
  · cases h; exact zeroP_fnd _
  · cases h

def renL : Ren := ⟨fun n => if n = 129 then 148 else 0, fun t => if t = 46 then 161 else if t = 53 then 22 else t, fun g => g⟩
theorem laysL : Lays.n129 Try.prog renL :=
  { mixed := by kernel_rfl
    f129 := by kernel_rfl
    t3 := by kernel_rfl
    a3 := fun _ => by kernel_rfl
    z3 := fun _ => by kernel_rfl
    v3 := fun _ => by kernel_rfl
    t4 := by kernel_rfl
    a4 := fun _ => by kernel_rfl
    z4 := fun _ => by kernel_rfl
    v4 := fun _ => by kernel_rfl
    t5 := by kernel_rfl
    a5 := fun _ => by kernel_rfl
    z5 := fun _ => by kernel_rfl
    v5 := fun _ => by kernel_rfl
    t9 := by kernel_rfl
    a9 := fun _ => by kernel_rfl
    z9 := fun _ => by kernel_rfl
    v9 := fun _ => by kernel_rfl
    t46 := by kernel_rfl
    a46 := fun _ => by kernel_rfl
    z46 := fun _ => by kernel_rfl
    v46 := fun _ => by kernel_rfl
    t53 := by kernel_rfl
    a53 := fun _ => by kernel_rfl
    z53 := fun _ => by kernel_rfl
    v53 := fun _ => by kernel_rfl }
theorem len64_fnd (n : Int) (h0 : 0 ≤ n) (h1 : n < 18446744073709551616) : FnD Try.prog 148 [.v (.c (.int .u64 n))] (.v (.c (.int .i64 (Lib.bitLen n.toNat : Nat)))) [] :=
  fnd_same fun x vs hd => by
    cases hd with | cons d1 hd =>
    cases hd
    rw [D_int d1]
    exact ⟨_, Any.bits_Len64 laysL n x.w h0 (by omega), ⟨rfl, 0, rfl⟩⟩
def lenSpec : FnSpec
  | [.v (.c (.int .u64 n))] => some ([0 ≤ n, n < 18446744073709551616], .v (.c (.int .i64 (Lib.bitLen n.toNat : Nat))), [])
  | _ => none
noncomputable def qeH1 : Env := qeG.set (addT qeG.fn 148 lenSpec)
theorem qeH1_ok : EnvOk Try.prog qeH1 := env_add qeG_ok 148 lenSpec (enters_of Try.func148 rfl rfl) fun args o r es h ho => by
  unfold lenSpec at h
  split at h
  · cases h; exact len64_fnd _ ho.1 ho.2.1
  · cases h
--@env qeH1 qeH1_ok
theorem ct (l : List Int) : fnRes qeH1 Try.f147 3000 [.v (.c (.sl (.u64 l)))] [] [] [] = (some ([((0:Int) ≤ (ite ((16:Int) < (((List.length l) : Nat):Int)) (16:Int) (((List.length l) : Nat):Int))),((ite ((16:Int) < (((List.length l) : Nat):Int)) (16:Int) (((List.length l) : Nat):Int)) ≤ (ite ((16:Int) < (((List.length l) : Nat):Int)) (16:Int) (((List.length l) : Nat):Int))),((ite ((16:Int) < (((List.length l) : Nat):Int)) (16:Int) (((List.length l) : Nat):Int)) ≤ (((List.length l) : Nat):Int))],((.v (.c (.sl (.u64 (List.take ((ite ((16:Int) < (((List.length l) : Nat):Int)) (16:Int) (((List.length l) : Nat):Int))).toNat (List.drop 0 l)))))),[]))) := by kernel_rfl

theorem cut_fnd (l : List Int) (hl : l.length ≤ 16) : FnD Try.prog 147 [.v (.c (.sl (.u64 l)))] (.v (.c (.sl (.u64 l)))) [] := by
  have r := ct l
  have e : (if (16 : Int) < ((l.length : Nat) : Int) then (16 : Int) else ((l.length : Nat) : Int)) = ((l.length : Nat) : Int) := if_neg (by omega)
  rw [e, Int.toNat_natCast, List.drop_zero, List.take_length] at r
  exact fn_sound qeH1_ok Try.func147 r ⟨by omega, Int.le_refl _, Int.le_refl _, trivial⟩
def cutSpec : FnSpec
  | [.v (.c (.sl (.u64 l)))] => some ([l.length ≤ 16], .v (.c (.sl (.u64 l))), [])
  | _ => none
noncomputable def qeH2 : Env := qeH1.set (addT qeH1.fn 147 cutSpec)
theorem qeH2_ok : EnvOk Try.prog qeH2 := env_add qeH1_ok 147 cutSpec (enters_of Try.func147 rfl rfl) fun args o r es h ho => by
  unfold cutSpec at h
  split at h
  · cases h; exact cut_fnd _ ho.1
  · cases h
--@env qeH2 qeH2_ok
noncomputable def nbIn_k : List KI := (run qeH2 false 3000 ((fun (l : List Int) => (⟨[.code (bodyOf Try.f146)], .normal, initSt Try.f146.ntmps [.v (.c (.sl (.u64 l)))]⟩ : Cfg)) default) []).cfg.k
theorem nbIn_hk (l : List Int) : (run qeH2 false 3000 ((⟨[.code (bodyOf Try.f146)], .normal, initSt Try.f146.ntmps [.v (.c (.sl (.u64 l)))]⟩ : Cfg)) []).cfg.k = nbIn_k := by kernel_rfl
theorem nbIn (l : List Int) (ho : AllP [((List.length l) ≤ 16)]) (hs : Sim w0 F0 K ac (initSt Try.f146.ntmps [.v (.c (.sl (.u64 l)))]) cX aX) (hK : ∀ ac cY aY,Sim w0 F0 K ac (mkSt 26 [0,3] [(.v (.c (.sl (.u64 l)))),(.ii (IntKind.wrap .i64 ((((List.length l) : Nat):Int) - (1:Int))))] [] [] 144 [] []) cY aY → Wq Try.prog Q (nbIn_k) ac Exit.normal aY cY.w) : Wq Try.prog Q ([.code (bodyOf Try.f146)]) ac .normal aX cX.w :=
  run_at2 (o := ⟨_, _, _, _, _, _, _⟩) qeH2_ok (by kernel_rfl) (nbIn_hk l) ho hs hK
noncomputable def nbS (l : List Int) (i:Int) : St := mkSt 26 [0,3] [(.v (.c (.sl (.u64 l)))),.v (.c (.int .i64 i))] [] [] 144 [] []
theorem nbN_hk (l : List Int) (i : Int) : (run qeH2 false 3000 ((⟨lpIn nbIn_k, .normal, nbS l i⟩ : Cfg)) [true, false]).cfg.k = lpBk nbIn_k := by kernel_rfl
theorem nbN (l : List Int) (i:Int) (ho : AllP [((decide (i ≥ (0:Int))) = true),((0:Int) ≤ i),(i < (((List.length l) : Nat):Int)),(((List.getD l (i).toNat (0:Int)) != (0:Int)) = false)]) (hs : Sim w0 F0 K ac (nbS l i) cX aX) (hK : ∀ ac cY aY,Sim w0 F0 K ac (mkSt 26 [0,3] [(.v (.c (.sl (.u64 l)))),(.ii (IntKind.wrap .i64 (i - (1:Int))))] [] [] 304 [] []) cY aY → Wq Try.prog Q (lpBk nbIn_k) ac Exit.normal aY cY.w) : Wq Try.prog Q (lpIn nbIn_k) ac .normal aX cX.w :=
  run_at2 (o := ⟨_, _, _, _, _, _, _⟩) qeH2_ok (by kernel_rfl) (nbN_hk l i) ho hs hK
theorem nbY_end (l : List Int) (i:Int) : runEnd qeH2 Try.f146 false 3000 (⟨lpIn nbIn_k,.normal,nbS l i⟩) [true,true] [] [] = (some ([((decide (i ≥ (0:Int))) = true),((0:Int) ≤ i),(i < (((List.length l) : Nat):Int)),(((List.getD l (i).toNat (0:Int)) != (0:Int)) = true),((0:Int) ≤ i),(i < (((List.length l) : Nat):Int)),((0:Int) ≤ (List.getD l (i).toNat (0:Int))),((List.getD l (i).toNat (0:Int)) < (18446744073709551616:Int))],((.ii (IntKind.wrap .i64 ((IntKind.wrap .i64 ((64:Int) * i)) + (((Lib.bitLen ((List.getD l (i).toNat (0:Int))).toNat) : Nat):Int)))),[]))) := by kernel_rfl
theorem nbX_end (l : List Int) (i:Int) : runEnd qeH2 Try.f146 false 3000 (⟨lpIn nbIn_k,.normal,nbS l i⟩) [false] [] [] = (some ([((decide (i ≥ (0:Int))) = false)],((.ii (0:Int)),[]))) := by kernel_rfl
theorem bits_fnd (l : List Int) (hl : l.length ≤ 16) (hlim : lims l) : FnD Try.prog 146 [.v (.c (.sl (.u64 l)))] (.v (.c (.int .i64 (bitsC l l.length : Nat)))) [] := by
  refine fn_start (fn := Try.f146) (c := bodyOf Try.f146) Try.func146 rfl rfl fun x a hk hF hs => ?_
  refine nbIn l ⟨hl, trivial⟩ hs fun ac cY aY hs1 => ?_
  rw [wrap_id (by omega) (by omega)] at hs1
  refine loop_rule (ι := { n : Nat // n ≤ l.length ∧ bitsC l n = bitsC l l.length }) (fun n => nbS l ((n.1 : Int) - 1)) (fun n => n.1) (c := lpC nbIn_k) (k := lpR nbIn_k) (by kernel_rfl) (fun n ih ac cY aY hs => ?_) ⟨l.length, Nat.le_refl _, rfl⟩ (hs1.nx _)
  obtain ⟨n, hn, he⟩ := n
  simp only at ih hs
  cases n with
  | zero =>
    rw [← he]
    exact run_end2 qeH2_ok hk hF (nbX_end l _) ⟨by simp, trivial⟩ (fun y v hd => hd) hs
  | succ n =>
    have e1 : ((n + 1 : Nat) : Int) - 1 = (n : Int) := by omega
    rw [e1] at hs
    have hg := lims_get hlim n
    by_cases h0 : l.getD n 0 = 0
    · refine nbN l _ ⟨by simp, by omega, by omega, by rw [Int.toNat_natCast, h0]; rfl, trivial⟩ hs fun ac cZ aZ hs2 => ?_
      rw [wrap_id (by omega) (by omega)] at hs2
      refine ih ⟨n, by omega, ?_⟩ (Nat.lt_succ_self n) ac cZ aZ (hs2.nx _)
      rw [← he]
      show _ = if l.getD n 0 ≠ 0 then _ else bitsC l n
      rw [if_neg (by simpa using h0)]
    · have r := nbY_end l (n : Int)
      have hb : bitsC l l.length = 64 * n + Lib.bitLen (l.getD n 0).toNat := by
        rw [← he]
        show (if l.getD n 0 ≠ 0 then _ else bitsC l n) = _
        rw [if_pos h0]
      have hle := bitLen_le (l.getD n 0).toNat
      rw [Int.toNat_natCast] at r
      have e2 : IntKind.wrap IntKind.i64 (IntKind.wrap IntKind.i64 ((64 : Int) * (n : Int)) + ((Lib.bitLen (l.getD n 0).toNat : Nat) : Int)) = ((bitsC l l.length : Nat) : Int) := by
        rw [hb]
        generalize Lib.bitLen (l.getD n 0).toNat = B at *
        rw [wrap_id (n := (64 : Int) * (n : Int)) (by omega) (by omega), wrap_id (by omega) (by omega)]
        omega
      rw [e2] at r
      have hne : (l.getD n 0 != (0 : Int)) = true := by simpa using h0
      exact run_end2 qeH2_ok hk hF r ⟨by simp, by omega, by omega, hne, by omega, by omega, hg.1, hg.2, trivial⟩ (fun y v hd => hd) hs
def bitsSpec : FnSpec
  | [.v (.c (.sl (.u64 l)))] => some ([l.length ≤ 16, lims l], .v (.c (.int .i64 (bitsC l l.length : Nat))), [])
  | _ => none
noncomputable def qeH : Env := qeH2.set (addT qeH2.fn 146 bitsSpec)
theorem qeH_ok : EnvOk Try.prog qeH := env_add qeH2_ok 146 bitsSpec (enters_of Try.func146 rfl rfl) fun args o r es h ho => by
  unfold bitsSpec at h
  split at h
  · cases h; exact bits_fnd _ ho.1 ho.2.1
  · cases h
--@env qeH qeH_ok
noncomputable def bt_k : List KI := (run qeH false 3000 ((fun (l : Nat) (v : Value) => (⟨[.code (bodyOf Try.f145)], .normal, ⟨argT [.v (.c (.val (.func (.yield l) #[] #[]))), .v (.c (.ptr 0 0))], one (.fl [.val v]), Try.f145.ntmps, 16, []⟩⟩ : Cfg)) default default) []).cfg.k
theorem bt_hk (l : Nat) (v : Value) : (run qeH false 3000 ((⟨[.code (bodyOf Try.f145)], .normal, ⟨argT [.v (.c (.val (.func (.yield l) #[] #[]))), .v (.c (.ptr 0 0))], one (.fl [.val v]), Try.f145.ntmps, 16, []⟩⟩ : Cfg)) []).cfg.k = bt_k := by kernel_rfl
theorem bt (l : Nat) (v : Value) (ho : AllP []) (hs : Sim w0 F0 K ac (⟨argT [.v (.c (.val (.func (.yield l) #[] #[]))),.v (.c (.ptr 0 0))],one (.fl [.val v]),Try.f145.ntmps,16,[]⟩) cX aX) (hK : ∀ ac cY aY,Sim w0 F0 K ac (mkSt 24 [0,1,4] [(.v (.c (.val (Value.func (Fn.yield l) (Array.mk ([] : List Value)) (Array.mk ([] : List Value)))))),.pt 0 0,(.v (.c (.val v)))] [0] [(some (.fl [(.val v)]))] 32 [] []) cY aY → Wq Try.prog Q (bt_k) ac Exit.normal aY cY.w) : Wq Try.prog Q ([.code (bodyOf Try.f145)]) ac .normal aX cX.w :=
  run_at2 (o := ⟨_, _, _, _, _, _, _⟩) qeH_ok (by kernel_rfl) (bt_hk l v) ho hs hK
noncomputable def btA (l : Nat) (v : Value) (e : List Int) : St := mkSt 24 [0,1,4] [(.v (.c (.val (Value.func (Fn.yield l) (Array.mk ([] : List Value)) (Array.mk ([] : List Value)))))),.pt 0 0,.v (.c (.sl (.u64 e)))] [0] [(some (.fl [(.val v)]))] 32 [] []
noncomputable def bu_k : List KI := (run qeH false 3000 ((fun (l : Nat) (v : Value) (e : List Int) => (⟨bt_k, .normal, btA l v e⟩ : Cfg)) default default default) []).cfg.k
theorem bu_hk (l : Nat) (v : Value) (e : List Int) : (run qeH false 3000 ((⟨bt_k, .normal, btA l v e⟩ : Cfg)) []).cfg.k = bu_k := by kernel_rfl
theorem bu (l : Nat) (v : Value) (e : List Int) (ho : AllP [((List.length e) ≤ 16),(lims e)]) (hs : Sim w0 F0 K ac (btA l v e) cX aX) (hK : ∀ ac cY aY,Sim w0 F0 K ac (mkSt 24 [0,1,3] [(.v (.c (.val (Value.func (Fn.yield l) (Array.mk ([] : List Value)) (Array.mk ([] : List Value)))))),.pt 0 0,(.ii (IntKind.wrap .i64 ((((bitsC e (List.length e)) : Nat):Int) - (1:Int))))] [0] [(some (.fl [(.val v)]))] 80 [] []) cY aY → Wq Try.prog Q (bu_k) ac Exit.normal aY cY.w) : Wq Try.prog Q (bt_k) ac .normal aX cX.w :=
  run_at2 (o := ⟨_, _, _, _, _, _, _⟩) qeH_ok (by kernel_rfl) (bu_hk l v e) ho hs hK
noncomputable def buS (l : Nat) (v : Value) (i:Int) : St := mkSt 24 [0,1,3] [(.v (.c (.val (Value.func (Fn.yield l) (Array.mk ([] : List Value)) (Array.mk ([] : List Value)))))),.pt 0 0,.v (.c (.int .i64 i))] [0] [(some (.fl [(.val v)]))] 80 [] []
noncomputable def bv_k : List KI := (run qeH false 3000 ((fun (l : Nat) (v : Value) (i : Int) => (⟨lpIn bu_k, .normal, buS l v i⟩ : Cfg)) default default default) [true]).cfg.k
theorem bv_hk (l : Nat) (v : Value) (i : Int) : (run qeH false 3000 ((⟨lpIn bu_k, .normal, buS l v i⟩ : Cfg)) [true]).cfg.k = bv_k := by kernel_rfl
theorem bv (l : Nat) (v : Value) (i:Int) (ho : AllP [((decide (i ≥ (0:Int))) = true),((64:Int) ≠ (0:Int))]) (hs : Sim w0 F0 K ac (buS l v i) cX aX) (hK : ∀ ac cY aY,Sim w0 F0 K ac (mkSt 24 [0,1,3,11,12,14] [(.v (.c (.val (Value.func (Fn.yield l) (Array.mk ([] : List Value)) (Array.mk ([] : List Value)))))),.pt 0 0,.ii i,(.v (.c (.val (Value.func (Fn.yield l) (Array.mk ([] : List Value)) (Array.mk ([] : List Value)))))),(.v (.c (.val v))),(.ii (IntKind.wrap .i64 (Int.tdiv i (64:Int))))] [0] [(some (.fl [(.val v)]))] 176 [] []) cY aY → Wq Try.prog Q (bv_k) ac Exit.normal aY cY.w) : Wq Try.prog Q (lpIn bu_k) ac .normal aX cX.w :=
  run_at2 (o := ⟨_, _, _, _, _, _, _⟩) qeH_ok (by kernel_rfl) (bv_hk l v i) ho hs hK
noncomputable def bvA (l : Nat) (v : Value) (e : List Int) (i:Int) : St := mkSt 24 [0,1,3,11,12,14] [(.v (.c (.val (Value.func (Fn.yield l) (Array.mk ([] : List Value)) (Array.mk ([] : List Value)))))),.pt 0 0,.ii i,(.v (.c (.val (Value.func (Fn.yield l) (Array.mk ([] : List Value)) (Array.mk ([] : List Value)))))),.v (.c (.sl (.u64 e))),(.ii (IntKind.wrap .i64 (Int.tdiv i (64:Int))))] [0] [(some (.fl [(.val v)]))] 176 [] []
noncomputable def bw_k : List KI := (run qeH false 3000 ((fun (l : Nat) (v : Value) (e : List Int) (i : Int) => (⟨bv_k, .normal, bvA l v e i⟩ : Cfg)) default default default default) []).cfg.k
theorem bw_hk (l : Nat) (v : Value) (e : List Int) (i : Int) : (run qeH false 3000 ((⟨bv_k, .normal, bvA l v e i⟩ : Cfg)) []).cfg.k = bw_k := by kernel_rfl
theorem bw (l : Nat) (v : Value) (e : List Int) (i:Int) (ho : AllP [((0:Int) ≤ (IntKind.wrap .i64 (Int.tdiv i (64:Int)))),((IntKind.wrap .i64 (Int.tdiv i (64:Int))) < (((List.length e) : Nat):Int)),((64:Int) ≠ (0:Int)),((0:Int) ≤ (Int.tmod i (64:Int)))]) (hs : Sim w0 F0 K ac (bvA l v e i) cX aX) (hK : ∀ ac cY aY,Sim w0 F0 K ac (mkSt 24 [0,1,3,11,21] [(.v (.c (.val (Value.func (Fn.yield l) (Array.mk ([] : List Value)) (Array.mk ([] : List Value)))))),.pt 0 0,.ii i,(.v (.c (.val (Value.func (Fn.yield l) (Array.mk ([] : List Value)) (Array.mk ([] : List Value)))))),(.v (.c (.bool ((bitsOp BinOp.and IntKind.u64 (Int.fdiv (List.getD e ((IntKind.wrap .i64 (Int.tdiv i (64:Int)))).toNat (0:Int)) ((2:Int) ^ (Min.min ((Int.tmod i (64:Int))).toNat 64))) (1:Int)) == (1:Int)))))] [0] [(some (.fl [(.val v)]))] 288 [] []) cY aY → Wq Try.prog Q (bw_k) ac Exit.normal aY cY.w) : Wq Try.prog Q (bv_k) ac .normal aX cX.w :=
  run_at2 (o := ⟨_, _, _, _, _, _, _⟩) qeH_ok (by kernel_rfl) (bw_hk l v e i) ho hs hK
theorem bX_hk (l : Nat) (v : Value) (i : Int) : (run qeH false 3000 ((⟨lpIn bu_k, .normal, buS l v i⟩ : Cfg)) [false]).cfg.k = [] := by kernel_rfl
theorem bX (l : Nat) (v : Value) (i:Int) (ho : AllP [((decide (i ≥ (0:Int))) = false)]) (hs : Sim w0 F0 K ac (buS l v i) cX aX) (hK : ∀ ac cY aY,Sim w0 F0 K ac (mkSt 24 [] [] [0] [(some (.fl [(.val v)]))] 112 [] []) cY aY → Wq Try.prog Q ([]) ac Exit.normal aY cY.w) : Wq Try.prog Q (lpIn bu_k) ac .normal aX cX.w :=
  run_at2 (o := ⟨_, _, _, _, _, _, _⟩) qeH_ok (by kernel_rfl) (bX_hk l v i) ho hs hK
theorem bB_hk (l : Nat) (v : Value) (i : Int) (b : Bool) : (run qeH false 3000 ((⟨opsNext bw_k, .normal, ⟨setT (look .top [0, 1, 3, 11, 21] [(.v (.c (.val (.func (.yield l) #[] #[])))), .v (.c (.ptr 0 0)), .v (.c (.int .i64 i)), (.v (.c (.val (.func (.yield l) #[] #[])))), .v (.c (.bool b))]) 22 (.v (.c (.lit true))), one (.fl [.val v]), 24, 400, []⟩⟩ : Cfg)) []).cfg.k = lpBk bu_k := by kernel_rfl
theorem bB (l : Nat) (v : Value) (i:Int) (b : Bool) (ho : AllP []) (hs : Sim w0 F0 K ac (⟨setT (look .top [0,1,3,11,21] [(.v (.c (.val (.func (.yield l) #[] #[])))),.v (.c (.ptr 0 0)),.v (.c (.int .i64 i)),(.v (.c (.val (.func (.yield l) #[] #[])))),.v (.c (.bool b))]) 22 (.v (.c (.lit true))),one (.fl [.val v]),24,400,[]⟩) cX aX) (hK : ∀ ac cY aY,Sim w0 F0 K ac (mkSt 24 [0,1,3] [(.v (.c (.val (Value.func (Fn.yield l) (Array.mk ([] : List Value)) (Array.mk ([] : List Value)))))),.pt 0 0,(.ii (IntKind.wrap .i64 (i - (1:Int))))] [0] [(some (.fl [(.val v)]))] 464 [] []) cY aY → Wq Try.prog Q (lpBk bu_k) ac Exit.normal aY cY.w) : Wq Try.prog Q (opsNext bw_k) ac .normal aX cX.w :=
  run_at2 (o := ⟨_, _, _, _, _, _, _⟩) qeH_ok (by kernel_rfl) (bB_hk l v i b) ho hs hK

theorem meth82_Times (v : Value) (w : World) : (method (Try.prog.types.size + Made.depth) 82 v "Times").run Try.prog w = .ok (130, v) w := by kernel_rfl
theorem meth82_Plus (v : Value) (w : World) : (method (Try.prog.types.size + Made.depth) 82 v "Plus").run Try.prog w = .ok (131, v) w := by kernel_rfl
theorem meth82_Minus (v : Value) (w : World) : (method (Try.prog.types.size + Made.depth) 82 v "Minus").run Try.prog w = .ok (143, v) w := by kernel_rfl
theorem meth82_IsZero (v : Value) (w : World) : (method (Try.prog.types.size + Made.depth) 82 v "IsZero").run Try.prog w = .ok (84, v) w := by kernel_rfl
theorem meth82_Negative (v : Value) (w : World) : (method (Try.prog.types.size + Made.depth) 82 v "Negative").run Try.prog w = .ok (166, v) w := by kernel_rfl
theorem meth82_Inverse (v : Value) (w : World) : (method (Try.prog.types.size + Made.depth) 82 v "Inverse").run Try.prog w = .ok (165, v) w := by kernel_rfl
noncomputable def invP (t : Nat) : Option (List (String × Nat)) := if t = 82 then some [("Times", 130), ("Plus", 131), ("Minus", 143), ("IsZero", 84), ("Negative", 166), ("Inverse", 165)] else none
noncomputable def qeI : Env := { qeH with inv := invP }
theorem qeI_ok : EnvOk Try.prog qeI := by
  refine ⟨qeH_ok.ty, qeH_ok.mixed, qeH_ok.fn, qeH_ok.mu, qeH_ok.inl, qeH_ok.ex, fun t l h => ?_⟩
  have h : invP t = some l := h
  unfold invP at h
  split at h
  · rename_i ht
    cases h
    subst ht
    refine ⟨by kernel_rfl, fun name g hg v args w => ?_⟩
    unfold lookM at hg
    split at hg
    · rename_i hn
      cases hg
      subst hn
      simp only [callMethod, Sem.run_bind, run_program, Result.andThen_ok, meth82_Times]
    unfold lookM at hg
    split at hg
    · rename_i hn
      cases hg
      subst hn
      simp only [callMethod, Sem.run_bind, run_program, Result.andThen_ok, meth82_Plus]
    unfold lookM at hg
    split at hg
    · rename_i hn
      cases hg
      subst hn
      simp only [callMethod, Sem.run_bind, run_program, Result.andThen_ok, meth82_Minus]
    unfold lookM at hg
    split at hg
    · rename_i hn
      cases hg
      subst hn
      simp only [callMethod, Sem.run_bind, run_program, Result.andThen_ok, meth82_IsZero]
    unfold lookM at hg
    split at hg
    · rename_i hn
      cases hg
      subst hn
      simp only [callMethod, Sem.run_bind, run_program, Result.andThen_ok, meth82_Negative]
    unfold lookM at hg
    split at hg
    · rename_i hn
      cases hg
      subst hn
      simp only [callMethod, Sem.run_bind, run_program, Result.andThen_ok, meth82_Inverse]
    cases hg
  · cases h
--@env qeI qeI_ok
noncomputable def qp_k : List KI := (run qeI false 3000 ((fun (a : Fp) (e : List Int) => (⟨[.code (bodyOf Try.f167)], .normal, initSt Try.f167.ntmps [.v (.a [.ob (.p a)]), .v (.a [.ob (.p 1)]), .v (.c (.sl (.u64 e)))]⟩ : Cfg)) default default) []).cfg.k
theorem qp_hk (a : Fp) (e : List Int) : (run qeI false 3000 ((⟨[.code (bodyOf Try.f167)], .normal, initSt Try.f167.ntmps [.v (.a [.ob (.p a)]), .v (.a [.ob (.p 1)]), .v (.c (.sl (.u64 e)))]⟩ : Cfg)) []).cfg.k = qp_k := by kernel_rfl
theorem qp (a : Fp) (e : List Int) (ho : AllP []) (hs : Sim w0 F0 K ac (initSt Try.f167.ntmps [.v (.a [.ob (.p a)]),.v (.a [.ob (.p 1)]),.v (.c (.sl (.u64 e)))]) cX aX) (hK : ∀ ac cY aY,Sim w0 F0 K ac (mkSt 23 [3,6,7,11] [.pt 16 0,.pt 48 0,.pt 80 0,(.v (.c (.clo 145 [(128,0)])))] [16,48,80,128] [(some (.fl [.ob (.p a)])),(some (.fl [(.ob (.p (0:Fp)))])),(some (.fl [(.ob (.p (1:Fp)))])),(some (.fl [.sl (.u64 e)]))] 192 [] []) cY aY → Wq Try.prog Q (qp_k) ac Exit.normal aY cY.w) : Wq Try.prog Q ([.code (bodyOf Try.f167)]) ac .normal aX cX.w :=
  run_at2 (o := ⟨_, _, _, _, _, _, _⟩) qeI_ok (by kernel_rfl) (qp_hk a e) ho hs hK
noncomputable def qpS (a : Fp) (e : List Int) (o : Fp) : St := mkSt 23 [3,6,7,11] [.pt 16 0,.pt 48 0,.pt 80 0,(.v (.c (.clo 145 [(128,0)])))] [16,48,80,128] [(some (.fl [.ob (.p a)])),(some (.fl [(.ob (.p (0:Fp)))])),some (.fl [.ob (.p o)]),(some (.fl [.sl (.u64 e)]))] 192 [] []
theorem qpA_hk (a : Fp) (e : List Int) (o : Fp) (z : Bool) : (run qeI false 3000 ((⟨[.code (rfA qp_k)], .normal, roundSt (qpS a e o) [(12, .v (.c (.bool z)))]⟩ : Cfg)) []).cfg.k = [] := by kernel_rfl
theorem qpA (a : Fp) (e : List Int) (o : Fp) (z : Bool) {ρ : Option Nat} (ho : AllP []) (hs : Sim w0 F0 K ac (roundSt (qpS a e o) [(12,.v (.c (.bool z)))]) cX aX) (hK : ∀ cY aY,Sim w0 F0 K ac (mkSt 23 [3,6,7,8] [.pt 16 0,.pt 48 0,.pt 80 0,(.v (.c (.bool z)))] [16,48,80,128] [(some (.fl [.ob (.p a)])),(some (.fl [(.ob (.p (0:Fp)))])),(some (.fl [.ob (.p o)])),(some (.fl [.sl (.u64 e)]))] 208 [[3,6,7,11]] [([.pt 16 0,.pt 48 0,.pt 80 0,(.v (.c (.clo 145 [(128,0)])))],23)]) cY aY → Wq Try.prog Q ([]) ac Exit.normal aY cY.w ρ) : Wq Try.prog Q ([.code (rfA qp_k)]) ac .normal aX cX.w ρ :=
  run_atT (o := ⟨_, _, _, _, _, _, _⟩) qeI_ok (by kernel_rfl) (qpA_hk a e o z) ho (by kernel_rfl) (by kernel_rfl) hs hK
noncomputable def qpB (a : Fp) (e : List Int) (o : Fp) (z : Bool) : St := mkSt 23 [3,6,7,8] [.pt 16 0,.pt 48 0,.pt 80 0,(.v (.c (.bool z)))] [16,48,80,128] [(some (.fl [.ob (.p a)])),(some (.fl [(.ob (.p (0:Fp)))])),some (.fl [.ob (.p o)]),(some (.fl [.sl (.u64 e)]))] 208 [[3,6,7,11]] [([.pt 16 0,.pt 48 0,.pt 80 0,(.v (.c (.clo 145 [(128,0)])))],23)]
theorem qpC_hk (a : Fp) (e : List Int) (o : Fp) (z : Bool) : (run qeI false 3000 ((⟨[.code (rfB qp_k)], .normal, qpB a e o z⟩ : Cfg)) [true]).cfg.k = [] := by kernel_rfl
theorem qpC (a : Fp) (e : List Int) (o : Fp) (z : Bool) {ρ : Option Nat} (ho : AllP [(z = true)]) (hs : Sim w0 F0 K ac (qpB a e o z) cX aX) (hK : ∀ cY aY,Sim w0 F0 K ac (mkSt 23 [6] [.pt 48 0] [16,48,80,128] [(some (.fl [.ob (.p a)])),(some (.fl [(.ob (.p (0:Fp)))])),(some (.fl [(.ob (.p ((o * o) * a)))])),(some (.fl [.sl (.u64 e)]))] 384 [[3,6,7,11]] [([.pt 16 0,.pt 48 0,.pt 80 0,(.v (.c (.clo 145 [(128,0)])))],23)]) cY aY → Wq Try.prog Q ([]) ac Exit.normal aY cY.w ρ) : Wq Try.prog Q ([.code (rfB qp_k)]) ac .normal aX cX.w ρ :=
  run_atT (o := ⟨_, _, _, _, _, _, _⟩) qeI_ok (by kernel_rfl) (qpC_hk a e o z) ho (by kernel_rfl) (by kernel_rfl) hs hK
theorem qpD_hk (a : Fp) (e : List Int) (o : Fp) (z : Bool) : (run qeI false 3000 ((⟨[.code (rfB qp_k)], .normal, qpB a e o z⟩ : Cfg)) [false]).cfg.k = [] := by kernel_rfl
theorem qpD (a : Fp) (e : List Int) (o : Fp) (z : Bool) {ρ : Option Nat} (ho : AllP [(z = false)]) (hs : Sim w0 F0 K ac (qpB a e o z) cX aX) (hK : ∀ cY aY,Sim w0 F0 K ac (mkSt 23 [6] [.pt 48 0] [16,48,80,128] [(some (.fl [.ob (.p a)])),(some (.fl [(.ob (.p (0:Fp)))])),(some (.fl [(.ob (.p (o * o)))])),(some (.fl [.sl (.u64 e)]))] 304 [[3,6,7,11]] [([.pt 16 0,.pt 48 0,.pt 80 0,(.v (.c (.clo 145 [(128,0)])))],23)]) cY aY → Wq Try.prog Q ([]) ac Exit.normal aY cY.w ρ) : Wq Try.prog Q ([.code (rfB qp_k)]) ac .normal aX cX.w ρ :=
  run_atT (o := ⟨_, _, _, _, _, _, _⟩) qeI_ok (by kernel_rfl) (qpD_hk a e o z) ho (by kernel_rfl) (by kernel_rfl) hs hK
theorem qpX_hk (a : Fp) (e : List Int) (o : Fp) : (run qeI false 3000 ((⟨rfR qp_k, .normal, qpS a e o⟩ : Cfg)) []).cfg.k = [] := by kernel_rfl
theorem qpX (a : Fp) (e : List Int) (o : Fp) (ho : AllP []) (hs : Sim w0 F0 K ac (qpS a e o) cX aX) (hK : ∀ ac cY aY,Sim w0 F0 K ac (mkSt 23 [6] [.pt 48 0] [48] [(some (.fl [.ob (.p o)]))] 224 [] []) cY aY → Wq Try.prog Q ([]) ac Exit.ret aY cY.w) : Wq Try.prog Q (rfR qp_k) ac .normal aX cX.w :=
  run_at2 (o := ⟨_, _, _, _, _, _, _⟩) qeI_ok (by kernel_rfl) (qpX_hk a e o) ho hs hK
noncomputable def qpE (a : Fp) (e : List Int) (o : Fp) : St := mkSt 23 [6] [.pt 48 0] [16,48,80,128] [(some (.fl [.ob (.p a)])),(some (.fl [(.ob (.p (0:Fp)))])),some (.fl [.ob (.p o)]),(some (.fl [.sl (.u64 e)]))] 384 [[3,6,7,11]] [([.pt 16 0,.pt 48 0,.pt 80 0,(.v (.c (.clo 145 [(128,0)])))],23)]
noncomputable def qpZ (o : Fp) : St := mkSt 23 [6] [.pt 48 0] [48] [some (.fl [.ob (.p o)])] 224 [] []
theorem qpR_end (o : Fp) : runEnd qeI Try.f167 false 3000 (⟨[],.ret,qpZ o⟩) [] [] [] = (some ([],((.v (.a [.ob (.p o)])),[]))) := by kernel_rfl
end
end Go.Proofs.Ytkfcphigoncgjaa

/- Bits handed on; powers of an element. No conditions. -/
namespace Go.Proofs.Ytkfcphigoncgjaa

theorem and1 {m : Nat} : bitsOp BinOp.and IntKind.u64 (m : Int) (1 : Int) = ((m % 2 : Nat) : Int) := by
  show IntKind.wrap IntKind.u64 ((BitVec.ofInt 64 (m : Int) &&& BitVec.ofInt 64 ((1 : Nat) : Int)).toNat : Int) = _
  rw [BitVec.ofInt_natCast, BitVec.ofInt_natCast, BitVec.toNat_and, BitVec.toNat_ofNat, BitVec.toNat_ofNat]
  have e : 1 % 2 ^ 64 = 2 ^ 1 - 1 := by decide
  rw [e, Nat.and_two_pow_sub_one_eq_mod, wrap_u64]
  omega

theorem bit_expr {e : List Int} (h : lims e) {i : Nat} (hi : i < 1024) : (bitsOp BinOp.and IntKind.u64 (Int.fdiv (List.getD e (IntKind.wrap IntKind.i64 (Int.tdiv (i : Int) (64 : Int))).toNat (0 : Int)) ((2 : Int) ^ (Min.min (Int.tmod (i : Int) (64 : Int)).toNat 64))) (1 : Int) == (1 : Int)) = decide (numL e / 2 ^ i % 2 = 1) := by
  have e1 : Int.tdiv (i : Int) (64 : Int) = ((i / 64 : Nat) : Int) := Int.tdiv_eq_ediv_of_nonneg (by omega)
  have e2 : Int.tmod (i : Int) (64 : Int) = ((i % 64 : Nat) : Int) := Int.tmod_eq_emod_of_nonneg (by omega)
  have e3 : Min.min (((i % 64 : Nat) : Int)).toNat 64 = i % 64 := by omega
  have hg := lims_get h (i / 64)
  rw [e1, wrap_id (by omega) (by omega), Int.toNat_natCast, e2, e3, numL_bit h i]
  obtain ⟨g, hg2⟩ := Int.eq_ofNat_of_zero_le hg.1
  have hp : ((2 : Int) ^ (i % 64)) = ((2 ^ (i % 64) : Nat) : Int) := by simp
  rw [hg2, hp, Int.fdiv_eq_ediv_of_nonneg _ (Int.natCast_nonneg _), ← Int.natCast_ediv, and1, Int.toNat_natCast]
  generalize g / 2 ^ (i % 64) = m
  by_cases hm : m % 2 = 1
  · rw [hm]; rfl
  · have : m % 2 = 0 := by omega
    rw [this]; rfl

def btEnc (z : Bool) : List Value := [.bool z]

theorem bits_iter {x : Ctx} {p : Nat} {e : List Int} {M : List Bool → Nat → Option En} (hl : e.length ≤ 16) (hlim : lims e) (hM : ∀ s, M s p = some (.fl [.sl (.u64 e)])) :
    IterC Try.prog x 145 [(p, 0)] btEnc (btL (numL e) (bitsC e e.length) (bitsC e e.length)) M := by
  intro l J W hgrow hread hyield hJ
  have hcl := bitsC_le e e.length
  generalize hc : bitsC e e.length = c at *
  generalize hN : numL e = N at *
  have key : Wq Try.prog (bodyPost Try.prog Try.f145 fun e' W' => (∃ v, e' = Ending.returned v) ∧ J (btL N c c) W') [.code (bodyOf Try.f145)] [] .normal { tmps := [Value.func (.yield l) #[] #[], .pointer (some ⟨x.β p, 0, none⟩)].toArray ++ Array.replicate 22 undef, defers := [] } W := ?_
  · exact calls_of_wp (c := bodyOf Try.f145) Try.func145 rfl ((wpIn_wide (n := 0)).1 key.wp)
  obtain ⟨y, rfl, hm, hcp⟩ := hread [] W hJ
  obtain ⟨hr, hβ⟩ := hcp (p, 0) List.mem_cons_self
  have hr : y.k p = .real := hr
  have hβ : y.β p = x.β p := hβ
  have hargs : denSs (itCtx y p) [.v (.c (.val (.func (.yield l) #[] #[]))), .v (.c (.ptr 0 0))] [.func (.yield l) #[] #[], .pointer (some ⟨x.β p, 0, none⟩)] :=
    .cons ⟨rfl, 0, rfl, rfl⟩ (.cons ⟨rfl, 0, rfl, by show _ = [Value.pointer (some ⟨y.β p, 0, none⟩)]; rw [hβ]⟩ .nil)
  obtain ⟨v, hv, hbox⟩ := box_sl hm (hM []) hr
  have hs := it_sim (nx := 16) (nt := 24) (a := { tmps := [Value.func (.yield l) #[] #[], .pointer (some ⟨x.β p, 0, none⟩)].toArray ++ Array.replicate 22 undef, defers := [] }) hm (hM []) hr hbox rfl (by simp) (argT_den hargs 22)
  change Wq Try.prog _ _ _ _ _ (itCtx y p).w
  refine bt l v trivial hs fun ac cY aY hs1 => ?_
  have hmb : Mem (itCtx y p) (one (.fl [.val v])) := it_mem hm (hM _) hr hbox
  obtain ⟨hg1, _, _⟩ := it_back hmb rfl hs1 rfl
  have hsl : cY.D (.sl (.u64 e)) [v] := data_grow hg1 (fun b hb => hs1.base.f0 b hb) hm.fw rfl hv
  have hs2 := hs1.slots (svs' := [.v (.c (.val (.func (.yield l) #[] #[]))), .v (.c (.ptr 0 0)), .v (.c (.sl (.u64 e)))]) ⟨fun _ h => h, fun _ h => h, conv_val rfl hsl, trivial⟩
  refine bu l v e ⟨hl, hlim, trivial⟩ hs2 fun ac cZ aZ hs3 => ?_
  rw [hc, wrap_id (by omega) (by omega)] at hs3
  let I : { t : Nat // t ≤ c } → List Act → Act → World → Prop := fun t ac a w => ∃ y z v, z.w = w ∧ y.k p = .real ∧ y.β p = x.β p ∧ Mem y (M (btL N c t.1)) ∧ J (btL N c t.1) y.w ∧ y.D (.sl (.u64 e)) [v] ∧ Mem (itCtx y p) (one (.fl [.val v])) ∧ Sim y.w y.F (kPin (itCtx y p)) ac (buS l v ((c : Int) - 1 - (t.1 : Int))) z a
  refine loop_inv I (fun t => c - t.1) (c := lpC bu_k) (k := lpR bu_k) (by kernel_rfl) (fun t ih ac b w hI => ?_) ⟨0, Nat.zero_le _⟩ ⟨y, cZ, v, rfl, hr, hβ, hm, hJ, hv, hmb, by
      show Sim _ _ _ _ (buS l v ((c : Int) - 1 - ((0 : Nat) : Int))) _ _
      rw [show (c : Int) - 1 - ((0 : Nat) : Int) = (c : Int) - 1 from by omega]
      exact hs3.nx _⟩
  obtain ⟨t, ht⟩ := t
  obtain ⟨y, z, v, rfl, hr, hβ, hm, hJ, hv, hmb, hs⟩ := hI
  simp only at hm hJ hs ih
  by_cases h : t < c
  · obtain ⟨i, hi⟩ : ∃ i : Nat, i = c - 1 - t := ⟨_, rfl⟩
    have ei : (c : Int) - 1 - (t : Int) = (i : Int) := by omega
    rw [ei] at hs
    refine bv l v _ ⟨by simp, by decide, trivial⟩ hs fun ac cV aV hs4 => ?_
    obtain ⟨hg4, _, _⟩ := it_back hmb rfl hs4 rfl
    have hsl4 : cV.D (.sl (.u64 e)) [v] := data_grow hg4 (fun b hb => hs4.base.f0 b hb) hm.fw rfl hv
    have hs5 := hs4.slots (svs' := [.v (.c (.val (.func (.yield l) #[] #[]))), .v (.c (.ptr 0 0)), .v (.c (.int .i64 (i : Int))), .v (.c (.val (.func (.yield l) #[] #[]))), .v (.c (.sl (.u64 e))), .v (.c (.int .i64 (IntKind.wrap IntKind.i64 (Int.tdiv (i : Int) (64 : Int)))))])
      ⟨fun _ h => h, fun _ h => h, fun _ h => h, fun _ h => h, conv_val rfl hsl4, fun _ h => h, trivial⟩
    have e1 : Int.tdiv (i : Int) (64 : Int) = ((i / 64 : Nat) : Int) := Int.tdiv_eq_ediv_of_nonneg (by omega)
    have e2 : Int.tmod (i : Int) (64 : Int) = ((i % 64 : Nat) : Int) := Int.tmod_eq_emod_of_nonneg (by omega)
    refine bw l v e _ ⟨by rw [e1, wrap_id (by omega) (by omega)]; omega, by rw [e1, wrap_id (by omega) (by omega)]; omega, by decide, by rw [e2]; omega, trivial⟩ hs5 fun ac cU aU hs6 => ?_
    rw [bit_expr hlim (by omega : i < 1024), hN] at hs6
    obtain ⟨hg, hk2, hβ2⟩ := it_back hmb rfl hs6 rfl
    have hJ2 := hgrow _ _ _ hJ hg
    have e3 : btL N c (t + 1) = btL N c t ++ [decide (N / 2 ^ i % 2 = 1)] := by rw [btL_succ, hi]
    obtain ⟨r, hr1⟩ := btL_pre N c (n := c) (t := t + 1) h
    refine yield_at (R := fun W' => J (btL N c (t + 1)) W') (dst := some 22) (f := .tmp 11) (args := [.tmp 21]) (by kernel_rfl) hs6 (l := l) rfl (vs := btEnc (decide (N / 2 ^ i % 2 = 1))) ?_ ?_ fun W' hJ3 => ?_
    · have h21 := D_bool (hs6.t 21)
      show [aU.tmps.getD 21 undef] = _
      rw [h21]
      rfl
    · have := hyield (btL N c t) (decide (N / 2 ^ i % 2 = 1)) _ hJ2 ⟨r, by rw [hr1, e3, List.append_assoc]; rfl⟩
      rw [← e3] at this
      exact this
    · obtain ⟨y3, rfl, hm3, hc3⟩ := hread _ _ hJ3
      obtain ⟨hr3, hβ3⟩ := hc3 (p, 0) List.mem_cons_self
      have hr3 : y3.k p = .real := hr3
      have hβ3 : y3.β p = x.β p := hβ3
      obtain ⟨v3, hv3, hbox3⟩ := box_sl hm3 (hM _) hr3
      have hmb3 : Mem (itCtx y3 p) (one (.fl [.val v3])) := it_mem hm3 (hM _) hr3 hbox3
      have hs7 := it_again (nx' := 400) (dst := 22) (b := true) hs6 (by kernel_rfl) rfl hm3 (hM _) hr3 hbox3 (by rw [hβ2, hβ]; exact hβ3.symm) (by decide)
      change Wq Try.prog _ _ _ _ _ (itCtx y3 p).w
      refine bB l v3 _ _ trivial hs7 fun ac cT aT hs8 => ?_
      have e4 : IntKind.wrap IntKind.i64 ((i : Int) - 1) = (c : Int) - 1 - ((t + 1 : Nat) : Int) := by rw [wrap_id (by omega) (by omega)]; omega
      rw [e4] at hs8
      exact ih ⟨t + 1, by omega⟩ (by show c - (t + 1) < c - t; omega) ac aT _ ⟨y3, cT, v3, rfl, hr3, hβ3, hm3, hJ3, hv3, hmb3, hs8.nx _⟩
  · have e5 : t = c := by omega
    subst e5
    refine bX l v _ ⟨by simp; omega, trivial⟩ hs fun ac cV aV hs4 => ?_
    obtain ⟨hg, _, _⟩ := it_back hmb rfl hs4 rfl
    exact ⟨it_end qeH_ok hs4 rfl rfl rfl (fun v => ⟨⟨v, rfl⟩, hgrow _ _ _ hJ hg⟩) (.inr rfl)⟩

def btVals (z : Bool) : List SV := [.v (.c (.bool z))]

theorem pw_bit (a : Fp) (l : List Bool) (z : Bool) : pw a (pv (l ++ [z])) = if z = true then pw a (pv l) * pw a (pv l) * a else pw a (pv l) * pw a (pv l) := by
  rw [pv_snoc, Nat.two_mul]
  cases z with
  | true =>
    rw [if_pos rfl, ← pw_add_g]
    rfl
  | false =>
    rw [if_neg (by decide), ← pw_add_g]
    rfl

theorem powerP_fnd (a : Fp) (e : List Int) (hl : e.length ≤ 16) (hlim : lims e) :
    FnD Try.prog 167 [.v (.a [.ob (.p a)]), .v (.a [.ob (.p 1)]), .v (.c (.sl (.u64 e)))] (.v (.a [.ob (.p (pw a (numL e)))])) [] := by
  refine fn_start_m (fn := Try.f167) (c := bodyOf Try.f167) Try.func167 rfl rfl fun x b hk hF hs => ?_
  refine qp a e trivial hs fun ac cY aY hs1 => ?_
  obtain ⟨e1, e2⟩ := isRf_eq (k := qp_k) (by kernel_rfl)
  rw [e1]
  have eP : (rfP qp_k).toList = [12] := by kernel_rfl
  have eG : rfG qp_k = .tmp 11 := by kernel_rfl
  refine range_rule (ps := rfP qp_k) e2 hs1 (gf := 145) (caps := [(128, 0)]) (enters_of Try.func145 rfl rfl) (fun pre => qpS a e (pw a (pv pre))) (fun s => by rw [eG]; rfl) ⟨_, rfl⟩ (btL (numL e) (bitsC e e.length) (bitsC e e.length)) btVals btEnc
    (fun y z => .cons ⟨rfl, 0, rfl⟩ .nil) (fun z => by rw [← Array.length_toList, eP]; rfl) (fun pre p hp => ?_) (bits_iter hl hlim fun s => rfl) (fun pre z => qpB a e (pw a (pv pre)) z)
    (fun pre z => qpE a e (pw a (pv (pre ++ [z])))) (fun pre z => ⟨_, rfl⟩) (fun pre z hz w1 F1 K1 as1 Q1 l y b hs2 hQ => ?_) (fun pre z hz w1 F1 K1 as1 Q1 l y b hs2 hQ => ?_) fun D y hs2 hD hFD hd => ?_
  · rw [eP] at hp
    have h23 : (qpS a e (pw a (pv pre))).nt = 23 := rfl
    rw [h23]
    simp only [List.mem_cons, List.not_mem_nil, or_false] at hp
    subst hp
    decide
  · rw [eP] at hs2
    exact qpA a e _ z trivial hs2 fun cZ aZ hs3 => ⟨hQ _ _ (hs3.nx _)⟩
  · rw [pw_bit] at hQ
    cases z with
    | true => exact qpC a e _ true ⟨rfl, trivial⟩ hs2 fun cZ aZ hs3 => ⟨hQ _ _ (hs3.nx _)⟩
    | false => exact qpD a e _ false ⟨rfl, trivial⟩ hs2 fun cZ aZ hs3 => ⟨hQ _ _ (hs3.nx _)⟩
  · have hs3 := hs2.marked rfl rfl D
    have hN : numL e < 2 ^ bitsC e e.length := by
      have := numL_lt hlim e.length (Nat.le_refl _)
      rwa [List.take_length] at this
    rw [pv_bits hN _ (Nat.le_refl _), Nat.sub_self, Nat.pow_zero, Nat.div_one] at hs2 hs3
    generalize pw a (numL e) = o at hs2 hs3 ⊢
    refine qpX a e o trivial hs3 fun ac cV aV hs6 => ⟨?_⟩
    have hs7 : Sim y.w y.F (kOwn y kAll (markOf D)) ac (qpZ o) cV aV := hs6
    exact fn_finish qeI_ok hk hF (qpR_end o) trivial (fun y v hd => hd) hs2 hD hFD hd rfl hs7

end Go.Proofs.Ytkfcphigoncgjaa

/- The inverse in the greater field; sums and doubles of points, walked. No conditions. -/
namespace Go.Proofs.Ytkfcphigoncgjaa

theorem powerP_fnd2 (a u : Fp) (e : List Int) (hu : u = 1) (hl : e.length ≤ 16) (hlim : lims e) :
    FnD Try.prog 167 [.v (.a [.ob (.p a)]), .v (.a [.ob (.p u)]), .v (.c (.sl (.u64 e)))] (.v (.a [.ob (.p (pw a (numL e)))])) [] := by
  subst hu
  exact powerP_fnd a e hl hlim
def powerPSpec : FnSpec
  | [.v (.a [.ob (.p a)]), .v (.a [.ob (.p u)]), .v (.c (.sl (.u64 e)))] => some ([u = 1, e.length ≤ 16, lims e], .v (.a [.ob (.p (pw a (numL e)))]), [])
  | _ => none
noncomputable def qeI1 : Env := qeI.set (addT qeI.fn 167 powerPSpec)
theorem qeI1_ok : EnvOk Try.prog qeI1 := env_add qeI_ok 167 powerPSpec (enters_of Try.func167 rfl rfl) fun args o r es h ho => by
  unfold powerPSpec at h
  split at h
  · cases h; exact powerP_fnd2 _ _ _ ho.1 ho.2.1 ho.2.2.1
  · cases h
--@env qeI1 qeI1_ok
theorem invP0 (a : Fp) : fnRes qeI1 Try.f165 3000 [.v (.a [.ob (.p a)])] [] [] [] = (some ([((0:Int) ≤ (0:Int)),((0:Int) < (6:Int)),(0 < 6),((0:Int) ≤ (0:Int)),((0:Int) < (6:Int)),((0:Int) ≤ (1:Int)),((1:Int) < (18446744073709551616:Int)),((Fin.ofNat pN 1) = (1:Fp)),(6 ≤ 16),(lims [(13402431016077863593:Int),(2210141511517208575:Int),(7435674573564081700:Int),(7239337960414712511:Int),(5412103778470702295:Int),(1873798617647539866:Int)])],((.v (.a [(.ob (.p (pw a 4002409555221667393417789825735904156556882819939007885332058136124031650490837864442687629129015664037894272559785)))])),[]))) := by kernel_rfl
/-- 1 divided by it; 0 of 0. -/
def ivP (a : Fp) : Fp := pw a (pN - 2)
theorem ivP_mul (x : Fp) (hx : x ≠ 0) : x * ivP x = 1 := by
  have h := fermat_p x hx
  have e : pN - 1 = (pN - 2) + 1 := by decide
  rw [e] at h
  have h2 : ivP x * x = 1 := h
  rw [mul_comm_g]
  exact h2
theorem invP_fnd (a : Fp) : FnD Try.prog 165 [.v (.a [.ob (.p a)])] (.v (.a [.ob (.p (ivP a))])) [] := by
  have e : 4002409555221667393417789825735904156556882819939007885332058136124031650490837864442687629129015664037894272559785 = pN - 2 := by decide +kernel
  have r := invP0 a
  rw [e] at r
  refine fn_sound qeI1_ok Try.func165 r ⟨by decide, by decide, by decide, by decide, by decide, by decide, by decide, rfl, by decide, ?_, trivial⟩
  intro x hx
  simp only [List.mem_cons, List.not_mem_nil, or_false] at hx
  rcases hx with rfl | rfl | rfl | rfl | rfl | rfl <;> decide
def invPSpec : FnSpec
  | [.v (.a [.ob (.p a)])] => some ([], .v (.a [.ob (.p (ivP a))]), [])
  | _ => none
noncomputable def qeJ : Env := qeI1.set (addT qeI1.fn 165 invPSpec)
theorem qeJ_ok : EnvOk Try.prog qeJ := env_add qeI1_ok 165 invPSpec (enters_of Try.func165 rfl rfl) fun args o r es h _ => by
  unfold invPSpec at h
  split at h
  · cases h; exact invP_fnd _
  · cases h
--@env qeJ qeJ_ok
theorem twA (x y z : Fp) : fnRes qeJ Try.f107 3000 [.v (.a [.ob (.p x),.ob (.p y),.ob (.p z)])] [true] [] [] = (some ([((decide (z = (0:Fp))) = true)],((.v (.a [.ob (.p x),.ob (.p y),.ob (.p z)])),[]))) := by kernel_rfl
theorem twB (x y z : Fp) : fnRes qeJ Try.f107 3000 [.v (.a [.ob (.p x),.ob (.p y),.ob (.p z)])] [false] [] [] = (some ([((decide (z = (0:Fp))) = false)],((.v (.a [(.ob (.p ((((((x * x) + (x * x)) + (x * x)) * (((x * x) + (x * x)) + (x * x))) - (((((x + (y * y)) * (x + (y * y))) - (x * x)) - ((y * y) * (y * y))) + ((((x + (y * y)) * (x + (y * y))) - (x * x)) - ((y * y) * (y * y))))) - (((((x + (y * y)) * (x + (y * y))) - (x * x)) - ((y * y) * (y * y))) + ((((x + (y * y)) * (x + (y * y))) - (x * x)) - ((y * y) * (y * y))))))),(.ob (.p (((((x * x) + (x * x)) + (x * x)) * ((((((x + (y * y)) * (x + (y * y))) - (x * x)) - ((y * y) * (y * y))) + ((((x + (y * y)) * (x + (y * y))) - (x * x)) - ((y * y) * (y * y)))) - ((((((x * x) + (x * x)) + (x * x)) * (((x * x) + (x * x)) + (x * x))) - (((((x + (y * y)) * (x + (y * y))) - (x * x)) - ((y * y) * (y * y))) + ((((x + (y * y)) * (x + (y * y))) - (x * x)) - ((y * y) * (y * y))))) - (((((x + (y * y)) * (x + (y * y))) - (x * x)) - ((y * y) * (y * y))) + ((((x + (y * y)) * (x + (y * y))) - (x * x)) - ((y * y) * (y * y))))))) - (((((y * y) * (y * y)) + ((y * y) * (y * y))) + (((y * y) * (y * y)) + ((y * y) * (y * y)))) + ((((y * y) * (y * y)) + ((y * y) * (y * y))) + (((y * y) * (y * y)) + ((y * y) * (y * y)))))))),(.ob (.p ((y * z) + (y * z))))])),[]))) := by kernel_rfl
theorem ngP (x y z : Fp) : fnRes qeJ Try.f57 3000 [.v (.a [.ob (.p x),.ob (.p y),.ob (.p z)])] [] [] [] = (some ([],((.v (.a [.ob (.p x),(.ob (.p ((0:Fp) - y))),.ob (.p z)])),[]))) := by kernel_rfl
end Go.Proofs.Ytkfcphigoncgjaa

/- Digits of a number, handed on: walked. No conditions. -/
namespace Go.Proofs.Ytkfcphigoncgjaa
section
variable {w0 : World} {F0 : Nat → Prop} {K : Kp} {ac : List Act} {Q : Exit → Act → World → Prop} {cX : Ctx} {aX : Act}

--@env qeJ qeJ_ok
noncomputable def dg_k : List KI := (run qeJ false 3000 ((fun (l : Nat) (k : U4) => (⟨[.code (bodyOf Try.f138)], .normal, ⟨argT [.v (.c (.val (.func (.yield l) #[] #[]))), .v (.c (.ptr 0 0))], one (.fl [.ob (.fr k)]), Try.f138.ntmps, 16, []⟩⟩ : Cfg)) default default) []).cfg.k
theorem dg_hk (l : Nat) (k : U4) : (run qeJ false 3000 ((⟨[.code (bodyOf Try.f138)], .normal, ⟨argT [.v (.c (.val (.func (.yield l) #[] #[]))), .v (.c (.ptr 0 0))], one (.fl [.ob (.fr k)]), Try.f138.ntmps, 16, []⟩⟩ : Cfg)) []).cfg.k = dg_k := by kernel_rfl
theorem dg (l : Nat) (k : U4) (ho : AllP []) (hs : Sim w0 F0 K ac (⟨argT [.v (.c (.val (.func (.yield l) #[] #[]))),.v (.c (.ptr 0 0))],one (.fl [.ob (.fr k)]),Try.f138.ntmps,16,[]⟩) cX aX) (hK : ∀ ac cY aY,Sim w0 F0 K ac (mkSt 32 [0,1,3,4] [(.v (.c (.val (Value.func (Fn.yield l) (Array.mk ([] : List Value)) (Array.mk ([] : List Value)))))),.pt 0 0,(.v (.c (.lit false))),.ii (63:Int)] [0] [(some (.fl [.ob (.fr k)]))] 48 [] []) cY aY → Wq Try.prog Q (dg_k) ac Exit.normal aY cY.w) : Wq Try.prog Q ([.code (bodyOf Try.f138)]) ac .normal aX cX.w :=
  run_at2 (o := ⟨_, _, _, _, _, _, _⟩) qeJ_ok (by kernel_rfl) (dg_hk l k) ho hs hK
noncomputable def dgS (l : Nat) (k : U4) (g : Bool) (i:Int) : St := mkSt 32 [0,1,3,4] [(.v (.c (.val (Value.func (Fn.yield l) (Array.mk ([] : List Value)) (Array.mk ([] : List Value)))))),.pt 0 0,.v (.c (.bool g)),.v (.c (.int .i64 i))] [0] [(some (.fl [.ob (.fr k)]))] 48 [] []
noncomputable def dgY_k : List KI := (run qeJ false 3000 ((fun (l : Nat) (k : U4) (g : Bool) (i : Int) => (⟨lpIn dg_k, .normal, dgS l k g i⟩ : Cfg)) default default default default) [true, true, true]).cfg.k
theorem dgY_hk (l : Nat) (k : U4) (g : Bool) (i : Int) : (run qeJ false 3000 ((⟨lpIn dg_k, .normal, dgS l k g i⟩ : Cfg)) [true, true, true]).cfg.k = dgY_k := by kernel_rfl
theorem dgY (l : Nat) (k : U4) (g : Bool) (i:Int) (ho : AllP [((decide (i ≥ (0:Int))) = true),((16:Int) ≠ (0:Int)),((0:Int) ≤ (IntKind.wrap .i64 (Int.tdiv i (16:Int)))),((IntKind.wrap .i64 (Int.tdiv i (16:Int))) < (4:Int)),((0 + (((IntKind.wrap .i64 (Int.tdiv i (16:Int)))).toNat * 1)) < (Ob.k (.fr k))),((16:Int) ≠ (0:Int)),((0:Int) ≤ (IntKind.wrap .i64 ((4:Int) * (Int.tmod i (16:Int))))),(g = true)]) (hs : Sim w0 F0 K ac (dgS l k g i) cX aX) (hK : ∀ ac cY aY,Sim w0 F0 K ac (mkSt 32 [0,1,3,4,26,27,28] [(.v (.c (.val (Value.func (Fn.yield l) (Array.mk ([] : List Value)) (Array.mk ([] : List Value)))))),.pt 0 0,(.v (.c (.lit true))),.ii i,(.v (.c (.lit true))),(.v (.c (.val (Value.func (Fn.yield l) (Array.mk ([] : List Value)) (Array.mk ([] : List Value)))))),(.ii (IntKind.wrap .i64 (bitsOp BinOp.and IntKind.u64 (Int.fdiv (limb (Ob.n (.fr k)) (0 + (((IntKind.wrap .i64 (Int.tdiv i (16:Int)))).toNat * 1))) ((2:Int) ^ (Min.min ((IntKind.wrap .i64 ((4:Int) * (Int.tmod i (16:Int))))).toNat 64))) (15:Int))))] [0] [(some (.fl [.ob (.fr k)]))] 416 [] []) cY aY → Wq Try.prog Q (dgY_k) ac Exit.normal aY cY.w) : Wq Try.prog Q (lpIn dg_k) ac .normal aX cX.w :=
  run_at2 (o := ⟨_, _, _, _, _, _, _⟩) qeJ_ok (by kernel_rfl) (dgY_hk l k g i) ho hs hK
theorem dgZ_hk (l : Nat) (k : U4) (g : Bool) (i : Int) : (run qeJ false 3000 ((⟨lpIn dg_k, .normal, dgS l k g i⟩ : Cfg)) [true, false, true]).cfg.k = dgY_k := by kernel_rfl
theorem dgZ (l : Nat) (k : U4) (g : Bool) (i:Int) (ho : AllP [((decide (i ≥ (0:Int))) = true),((16:Int) ≠ (0:Int)),((0:Int) ≤ (IntKind.wrap .i64 (Int.tdiv i (16:Int)))),((IntKind.wrap .i64 (Int.tdiv i (16:Int))) < (4:Int)),((0 + (((IntKind.wrap .i64 (Int.tdiv i (16:Int)))).toNat * 1)) < (Ob.k (.fr k))),((16:Int) ≠ (0:Int)),((0:Int) ≤ (IntKind.wrap .i64 ((4:Int) * (Int.tmod i (16:Int))))),(g = false),((decide ((IntKind.wrap .i64 (bitsOp BinOp.and IntKind.u64 (Int.fdiv (limb (Ob.n (.fr k)) (0 + (((IntKind.wrap .i64 (Int.tdiv i (16:Int)))).toNat * 1))) ((2:Int) ^ (Min.min ((IntKind.wrap .i64 ((4:Int) * (Int.tmod i (16:Int))))).toNat 64))) (15:Int))) > (0:Int))) = true)]) (hs : Sim w0 F0 K ac (dgS l k g i) cX aX) (hK : ∀ ac cY aY,Sim w0 F0 K ac (mkSt 32 [0,1,3,4,26,27,28] [(.v (.c (.val (Value.func (Fn.yield l) (Array.mk ([] : List Value)) (Array.mk ([] : List Value)))))),.pt 0 0,(.v (.c (.bool (decide ((IntKind.wrap .i64 (bitsOp BinOp.and IntKind.u64 (Int.fdiv (limb (Ob.n (.fr k)) (0 + (((IntKind.wrap .i64 (Int.tdiv i (16:Int)))).toNat * 1))) ((2:Int) ^ (Min.min ((IntKind.wrap .i64 ((4:Int) * (Int.tmod i (16:Int))))).toNat 64))) (15:Int))) > (0:Int)))))),.ii i,(.v (.c (.lit true))),(.v (.c (.val (Value.func (Fn.yield l) (Array.mk ([] : List Value)) (Array.mk ([] : List Value)))))),(.ii (IntKind.wrap .i64 (bitsOp BinOp.and IntKind.u64 (Int.fdiv (limb (Ob.n (.fr k)) (0 + (((IntKind.wrap .i64 (Int.tdiv i (16:Int)))).toNat * 1))) ((2:Int) ^ (Min.min ((IntKind.wrap .i64 ((4:Int) * (Int.tmod i (16:Int))))).toNat 64))) (15:Int))))] [0] [(some (.fl [.ob (.fr k)]))] 416 [] []) cY aY → Wq Try.prog Q (dgY_k) ac Exit.normal aY cY.w) : Wq Try.prog Q (lpIn dg_k) ac .normal aX cX.w :=
  run_at2 (o := ⟨_, _, _, _, _, _, _⟩) qeJ_ok (by kernel_rfl) (dgZ_hk l k g i) ho hs hK
theorem dgN_hk (l : Nat) (k : U4) (g : Bool) (i : Int) : (run qeJ false 3000 ((⟨lpIn dg_k, .normal, dgS l k g i⟩ : Cfg)) [true, false, false]).cfg.k = lpBk dg_k := by kernel_rfl
theorem dgN (l : Nat) (k : U4) (g : Bool) (i:Int) (ho : AllP [((decide (i ≥ (0:Int))) = true),((16:Int) ≠ (0:Int)),((0:Int) ≤ (IntKind.wrap .i64 (Int.tdiv i (16:Int)))),((IntKind.wrap .i64 (Int.tdiv i (16:Int))) < (4:Int)),((0 + (((IntKind.wrap .i64 (Int.tdiv i (16:Int)))).toNat * 1)) < (Ob.k (.fr k))),((16:Int) ≠ (0:Int)),((0:Int) ≤ (IntKind.wrap .i64 ((4:Int) * (Int.tmod i (16:Int))))),(g = false),((decide ((IntKind.wrap .i64 (bitsOp BinOp.and IntKind.u64 (Int.fdiv (limb (Ob.n (.fr k)) (0 + (((IntKind.wrap .i64 (Int.tdiv i (16:Int)))).toNat * 1))) ((2:Int) ^ (Min.min ((IntKind.wrap .i64 ((4:Int) * (Int.tmod i (16:Int))))).toNat 64))) (15:Int))) > (0:Int))) = false)]) (hs : Sim w0 F0 K ac (dgS l k g i) cX aX) (hK : ∀ ac cY aY,Sim w0 F0 K ac (mkSt 32 [0,1,3,4] [(.v (.c (.val (Value.func (Fn.yield l) (Array.mk ([] : List Value)) (Array.mk ([] : List Value)))))),.pt 0 0,(.v (.c (.bool (decide ((IntKind.wrap .i64 (bitsOp BinOp.and IntKind.u64 (Int.fdiv (limb (Ob.n (.fr k)) (0 + (((IntKind.wrap .i64 (Int.tdiv i (16:Int)))).toNat * 1))) ((2:Int) ^ (Min.min ((IntKind.wrap .i64 ((4:Int) * (Int.tmod i (16:Int))))).toNat 64))) (15:Int))) > (0:Int)))))),(.ii (IntKind.wrap .i64 (i - (1:Int))))] [0] [(some (.fl [.ob (.fr k)]))] 512 [] []) cY aY → Wq Try.prog Q (lpBk dg_k) ac Exit.normal aY cY.w) : Wq Try.prog Q (lpIn dg_k) ac .normal aX cX.w :=
  run_at2 (o := ⟨_, _, _, _, _, _, _⟩) qeJ_ok (by kernel_rfl) (dgN_hk l k g i) ho hs hK
theorem dgX_hk (l : Nat) (k : U4) (g : Bool) (i : Int) : (run qeJ false 3000 ((⟨lpIn dg_k, .normal, dgS l k g i⟩ : Cfg)) [false]).cfg.k = [] := by kernel_rfl
theorem dgX (l : Nat) (k : U4) (g : Bool) (i:Int) (ho : AllP [((decide (i ≥ (0:Int))) = false)]) (hs : Sim w0 F0 K ac (dgS l k g i) cX aX) (hK : ∀ ac cY aY,Sim w0 F0 K ac (mkSt 32 [] [] [0] [(some (.fl [.ob (.fr k)]))] 80 [] []) cY aY → Wq Try.prog Q ([]) ac Exit.normal aY cY.w) : Wq Try.prog Q (lpIn dg_k) ac .normal aX cX.w :=
  run_at2 (o := ⟨_, _, _, _, _, _, _⟩) qeJ_ok (by kernel_rfl) (dgX_hk l k g i) ho hs hK
theorem dgB_hk (l : Nat) (k : U4) (i d : Int) : (run qeJ false 3000 ((⟨opsNext dgY_k, .normal, ⟨setT (look .top [0, 1, 3, 4, 26, 27, 28] [(.v (.c (.val (.func (.yield l) #[] #[])))), (.v (.c (.ptr 0 0))), (.v (.c (.bool true))), (.v (.c (.int .i64 i))), (.v (.c (.lit true))), (.v (.c (.val (.func (.yield l) #[] #[])))), (.v (.c (.int .i64 d)))]) 29 (.v (.c (.lit true))), one (.fl [.ob (.fr k)]), 32, 400, []⟩⟩ : Cfg)) []).cfg.k = lpBk dg_k := by kernel_rfl
theorem dgB (l : Nat) (k : U4) (i d:Int) (ho : AllP []) (hs : Sim w0 F0 K ac (⟨setT (look .top [0,1,3,4,26,27,28] [(.v (.c (.val (.func (.yield l) #[] #[])))),.pt 0 0,(.v (.c (.bool true))),.ii i,(.v (.c (.lit true))),(.v (.c (.val (.func (.yield l) #[] #[])))),.ii d]) 29 (.v (.c (.lit true))),one (.fl [.ob (.fr k)]),32,400,[]⟩) cX aX) (hK : ∀ ac cY aY,Sim w0 F0 K ac (mkSt 32 [0,1,3,4] [(.v (.c (.val (Value.func (Fn.yield l) (Array.mk ([] : List Value)) (Array.mk ([] : List Value)))))),.pt 0 0,(.v (.c (.bool true))),(.ii (IntKind.wrap .i64 (i - (1:Int))))] [0] [(some (.fl [.ob (.fr k)]))] 480 [] []) cY aY → Wq Try.prog Q (lpBk dg_k) ac Exit.normal aY cY.w) : Wq Try.prog Q (opsNext dgY_k) ac .normal aX cX.w :=
  run_at2 (o := ⟨_, _, _, _, _, _, _⟩) qeJ_ok (by kernel_rfl) (dgB_hk l k i d) ho hs hK
end
end Go.Proofs.Ytkfcphigoncgjaa

/- Digits handed on: contract. No conditions. -/
namespace Go.Proofs.Ytkfcphigoncgjaa

def dgEnc (d : Nat) : List Value := [.int .i64 (d : Int)]
def dgVals (d : Nat) : List SV := [.v (.c (.int .i64 (d : Int)))]

theorem digits_iter {x : Ctx} {p : Nat} {k : U4} {M : List Nat → Nat → Option En} (hM : ∀ s, M s p = some (.fl [.ob (.fr k)])) :
    IterC Try.prog x 138 [(p, 0)] dgEnc (dgT k.val 64) M := by
  intro l J W hgrow hread hyield hJ
  have key : Wq Try.prog (bodyPost Try.prog Try.f138 fun e' W' => (∃ v, e' = Ending.returned v) ∧ J (dgT k.val 64) W') [.code (bodyOf Try.f138)] [] .normal { tmps := [Value.func (.yield l) #[] #[], .pointer (some ⟨x.β p, 0, none⟩)].toArray ++ Array.replicate 30 undef, defers := [] } W := ?_
  · exact calls_of_wp (c := bodyOf Try.f138) Try.func138 rfl ((wpIn_wide (n := 0)).1 key.wp)
  obtain ⟨y, rfl, hm, hcp⟩ := hread [] W hJ
  obtain ⟨hr, hβ⟩ := hcp (p, 0) List.mem_cons_self
  have hr : y.k p = .real := hr
  have hβ : y.β p = x.β p := hβ
  have hargs : denSs (itCtx y p) [.v (.c (.val (.func (.yield l) #[] #[]))), .v (.c (.ptr 0 0))] [.func (.yield l) #[] #[], .pointer (some ⟨x.β p, 0, none⟩)] :=
    .cons ⟨rfl, 0, rfl, rfl⟩ (.cons ⟨rfl, 0, rfl, by show _ = [Value.pointer (some ⟨y.β p, 0, none⟩)]; rw [hβ]⟩ .nil)
  have hpure : ∀ y : Ctx, ∀ (cs : Array Value) ty, y.w.heap[y.β p]? = some (.cells cs ty (0, 0)) → denEn y (.fl [.ob (.fr k)]) cs.toList → denEn (itCtx y p) (.fl [.ob (.fr k)]) cs.toList := fun y cs ty _ h => pure_En rfl h
  have hs := it_sim (nx := 16) (nt := 32) (a := { tmps := [Value.func (.yield l) #[] #[], .pointer (some ⟨x.β p, 0, none⟩)].toArray ++ Array.replicate 30 undef, defers := [] }) hm (hM []) hr (hpure y) rfl (by simp) (argT_den hargs 30)
  change Wq Try.prog _ _ _ _ _ (itCtx y p).w
  refine dg l k trivial hs fun ac cY aY hs1 => ?_
  have hmb : Mem (itCtx y p) (one (.fl [.ob (.fr k)])) := it_mem hm (hM _) hr (hpure y)
  have hs2 := hs1.slots (svs' := [.v (.c (.val (.func (.yield l) #[] #[]))), .v (.c (.ptr 0 0)), .v (.c (.bool false)), .v (.c (.int .i64 63))]) ⟨fun _ h => h, fun _ h => h, fun _ h => lit_bool rfl h, fun _ h => h, trivial⟩
  let I : { t : Nat // t ≤ 64 } → List Act → Act → World → Prop := fun t ac a w => ∃ y z, z.w = w ∧ y.k p = .real ∧ y.β p = x.β p ∧ Mem y (M (dgT k.val t.1)) ∧ J (dgT k.val t.1) y.w ∧ Mem (itCtx y p) (one (.fl [.ob (.fr k)])) ∧ Sim y.w y.F (kPin (itCtx y p)) ac (dgS l k (!(dgT k.val t.1).isEmpty) ((63 : Int) - (t.1 : Int))) z a
  refine loop_inv I (fun t => 64 - t) (c := lpC dg_k) (k := lpR dg_k) (by kernel_rfl) (fun t ih ac b w hI => ?_) ⟨0, Nat.zero_le _⟩ ⟨y, cY, rfl, hr, hβ, hm, hJ, hmb, hs2.nx _⟩
  obtain ⟨t, ht⟩ := t
  obtain ⟨y, z, rfl, hr, hβ, hm, hJ, hmb, hs⟩ := hI
  simp only at hm hJ hs ih
  by_cases h : t < 64
  · obtain ⟨i, hi⟩ : ∃ i : Nat, i = 63 - t := ⟨_, rfl⟩
    have ei : (63 : Int) - (t : Int) = (i : Int) := by omega
    have hi64 : i < 64 := by omega
    rw [ei] at hs
    have hdig := dig_expr k hi64
    have hpl := dig_place hi64
    have ho1 : decide ((i : Int) ≥ 0) = true := decide_eq_true (by omega)
    have ho2 : (0 : Int) ≤ IntKind.wrap IntKind.i64 (Int.tdiv (i : Int) 16) := by rw [hpl]; omega
    have ho3 : IntKind.wrap IntKind.i64 (Int.tdiv (i : Int) 16) < 4 := by rw [hpl]; omega
    have ho4 : 0 + (IntKind.wrap IntKind.i64 (Int.tdiv (i : Int) 16)).toNat * 1 < Ob.k (Ob.fr k) := by rw [hpl]; show _ < 4; omega
    have ho5 := dig_shift i
    have e4 : IntKind.wrap IntKind.i64 ((i : Int) - 1) = (63 : Int) - ((t + 1 : Nat) : Int) := by rw [wrap_id (by omega) (by omega)]; omega
    obtain ⟨d, hd⟩ : ∃ d, k.val / 16 ^ i % 16 = d := ⟨_, rfl⟩
    rw [hd] at hdig
    have hd' : k.val / 16 ^ (63 - t) % 16 = d := by rw [← hi]; exact hd
    -- what is handed on
    have give : ∀ (ac : List Act) (cU : Ctx) (aU : Act), dgT k.val (t + 1) = dgT k.val t ++ [d] → Sim y.w y.F (kPin (itCtx y p)) ac (mkSt 32 [0, 1, 3, 4, 26, 27, 28] [.v (.c (.val (.func (.yield l) #[] #[]))), .v (.c (.ptr 0 0)), .v (.c (.bool true)), .v (.c (.int .i64 (i : Int))), .v (.c (.lit true)), .v (.c (.val (.func (.yield l) #[] #[]))), .v (.c (.int .i64 (d : Int)))] [0] [some (.fl [.ob (.fr k)])] 416 [] []) cU aU →
        Wq Try.prog (bodyPost Try.prog Try.f138 fun e' W' => (∃ v, e' = Ending.returned v) ∧ J (dgT k.val 64) W') dgY_k ac .normal aU cU.w := by
      intro ac cU aU e3 hs6
      obtain ⟨hg, hk2, hβ2⟩ := it_back hmb rfl hs6 rfl
      have hJ2 := hgrow _ _ _ hJ hg
      obtain ⟨r, hr1⟩ := dgT_pre k.val (m := 64) (t := t + 1) h
      refine yield_at (R := fun W' => J (dgT k.val (t + 1)) W') (dst := some 29) (f := .tmp 27) (args := [.tmp 28]) (by kernel_rfl) hs6 (l := l) rfl (vs := dgEnc d) ?_ ?_ fun W' hJ3 => ?_
      · have h21 := D_int (hs6.t 28)
        show [aU.tmps.getD 28 undef] = _
        rw [h21]
        rfl
      · have := hyield (dgT k.val t) d _ hJ2 ⟨r, by rw [hr1, e3, List.append_assoc]; rfl⟩
        rw [← e3] at this
        exact this
      · obtain ⟨y3, rfl, hm3, hc3⟩ := hread _ _ hJ3
        obtain ⟨hr3, hβ3⟩ := hc3 (p, 0) List.mem_cons_self
        have hr3 : y3.k p = .real := hr3
        have hβ3 : y3.β p = x.β p := hβ3
        have hmb3 : Mem (itCtx y3 p) (one (.fl [.ob (.fr k)])) := it_mem hm3 (hM _) hr3 (hpure y3)
        have hs7 := it_again (nx' := 400) (dst := 29) (b := true) hs6 (by kernel_rfl) rfl hm3 (hM _) hr3 (hpure y3) (by rw [hβ2, hβ]; exact hβ3.symm) (by decide)
        change Wq Try.prog _ _ _ _ _ (itCtx y3 p).w
        refine dgB l k _ _ trivial hs7 fun ac cT aT hs8 => ?_
        rw [e4] at hs8
        have hne : (!(dgT k.val (t + 1)).isEmpty) = true := by rw [e3]; simp
        refine ih ⟨t + 1, by omega⟩ (by show 64 - (t + 1) < 64 - t; omega) ac aT _ ⟨y3, cT, rfl, hr3, hβ3, hm3, hJ3, hmb3, ?_⟩
        show Sim _ _ _ _ (dgS l k (!(dgT k.val (t + 1)).isEmpty) _) _ _
        rw [hne]
        exact hs8.nx _
    by_cases hg : (dgT k.val t).isEmpty = true
    · rw [hg] at hs
      by_cases hz : d = 0
      · have e3 : dgT k.val (t + 1) = [] := dgT_stay hg (by rw [hd', hz])
        refine dgN l k _ _ ⟨ho1, by decide, ho2, ho3, ho4, by decide, ho5, rfl, by rw [hdig, hz]; rfl, trivial⟩ hs fun ac cT aT hs8 => ?_
        rw [e4, hdig, hz] at hs8
        have e5 : dgT k.val (t + 1) = dgT k.val t := by rw [e3, List.isEmpty_iff.1 hg]
        refine ih ⟨t + 1, by omega⟩ (by show 64 - (t + 1) < 64 - t; omega) ac aT _ ⟨y, cT, rfl, hr, hβ, ?_, ?_, hmb, ?_⟩
        · show Mem y (M (dgT k.val (t + 1)))
          rw [e5]; exact hm
        · show J (dgT k.val (t + 1)) y.w
          rw [e5]; exact hJ
        · show Sim _ _ _ _ (dgS l k (!(dgT k.val (t + 1)).isEmpty) _) _ _
          rw [e3]
          exact hs8.nx _
      · have e3 : dgT k.val (t + 1) = dgT k.val t ++ [d] := by
          rw [← hd']
          exact dgT_go fun hc => hz (by rw [← hd']; exact hc.2)
        have hp0 : decide ((d : Int) > 0) = true := decide_eq_true (by omega)
        refine dgZ l k _ _ ⟨ho1, by decide, ho2, ho3, ho4, by decide, ho5, rfl, by rw [hdig]; exact hp0, trivial⟩ hs fun ac cU aU hs6 => ?_
        rw [hdig, hp0] at hs6
        exact give ac cU aU e3 (hs6.nx _)
    · have hg : (dgT k.val t).isEmpty = false := Bool.eq_false_iff.2 hg
      rw [hg] at hs
      have e3 : dgT k.val (t + 1) = dgT k.val t ++ [d] := by
        rw [← hd']
        exact dgT_go fun hc => by rw [hg] at hc; exact absurd hc.1 (by decide)
      refine dgY l k _ _ ⟨ho1, by decide, ho2, ho3, ho4, by decide, ho5, rfl, trivial⟩ hs fun ac cU aU hs6 => ?_
      rw [hdig] at hs6
      have hs6' := hs6.slots (svs' := [.v (.c (.val (.func (.yield l) #[] #[]))), .v (.c (.ptr 0 0)), .v (.c (.bool true)), .v (.c (.int .i64 (i : Int))), .v (.c (.lit true)), .v (.c (.val (.func (.yield l) #[] #[]))), .v (.c (.int .i64 (d : Int)))])
        ⟨fun _ h => h, fun _ h => h, fun _ h => lit_bool rfl h, fun _ h => h, fun _ h => h, fun _ h => h, fun _ h => h, trivial⟩
      exact give ac cU aU e3 (hs6'.nx _)
  · have e5 : t = 64 := by omega
    subst e5
    refine dgX l k _ _ ⟨by decide, trivial⟩ hs fun ac cV aV hs4 => ?_
    obtain ⟨hg, _, _⟩ := it_back hmb rfl hs4 rfl
    exact ⟨it_end qeJ_ok hs4 rfl rfl rfl (fun v => ⟨⟨v, rfl⟩, hgrow _ _ _ hJ hg⟩) (.inr rfl)⟩

end Go.Proofs.Ytkfcphigoncgjaa

/- Signed digits of a number, walked. No conditions. -/
namespace Go.Proofs.Ytkfcphigoncgjaa
section
variable {w0 : World} {F0 : Nat → Prop} {K : Kp} {ac : List Act} {Q : Exit → Act → World → Prop} {cX : Ctx} {aX : Act}

--@env env0 env0_ok
noncomputable def di_k : List KI := (run env0 false 3000 ((fun (k : U4) => (⟨[.code (bodyOf Try.f128)], .normal, initSt Try.f128.ntmps [.v (.a [.ob (.fr k)])]⟩ : Cfg)) default) []).cfg.k
theorem di_hk (k : U4) : (run env0 false 3000 ((⟨[.code (bodyOf Try.f128)], .normal, initSt Try.f128.ntmps [.v (.a [.ob (.fr k)])]⟩ : Cfg)) []).cfg.k = di_k := by kernel_rfl
theorem di (k : U4) (ho : AllP []) (hs : Sim w0 F0 K ac (initSt Try.f128.ntmps [.v (.a [.ob (.fr k)])]) cX aX) (hK : ∀ ac cY aY,Sim w0 F0 K ac (mkSt 49 [1,3,4,5] [.pt 16 0,(.v (.c (.val (Value.slice Option.none 0 0)))),.ii (0:Int),.ii (0:Int)] [16] [(some (.fl [.ob (.fr k)]))] 96 [] []) cY aY → Wq Try.prog Q (di_k) ac Exit.normal aY cY.w) : Wq Try.prog Q ([.code (bodyOf Try.f128)]) ac .normal aX cX.w :=
  run_at2 (o := ⟨_, _, _, _, _, _, _⟩) env0_ok (by kernel_rfl) (di_hk k) ho hs hK
noncomputable def diS (k : U4) (L : List Int) (n : Nat) (c i:Int) : St := mkSt 49 [1,3,4,5] [.pt 16 0,.v (.c (.slc 17 0 n 1)),.v (.c (.int .i64 c)),.v (.c (.int .i64 i))] [16,17] [(some (.fl [.ob (.fr k)])),some (.sq (.int L))] 96 [] []
noncomputable def diA_k : List KI := (run env0 false 3000 ((fun (k : U4) (L : List Int) (n : Nat) (c i : Int) => (⟨lpIn di_k, .normal, diS k L n c i⟩ : Cfg)) default default default default default) [true]).cfg.k
theorem diA_hk (k : U4) (L : List Int) (n : Nat) (c i : Int) : (run env0 false 3000 ((⟨lpIn di_k, .normal, diS k L n c i⟩ : Cfg)) [true]).cfg.k = diA_k := by kernel_rfl
theorem diA (k : U4) (L : List Int) (n : Nat) (c i:Int) (ho : AllP [((decide (i < (256:Int))) = true)]) (hs : Sim w0 F0 K ac (diS k L n c i) cX aX) (hK : ∀ ac cY aY,Sim w0 F0 K ac (mkSt 49 [1,3,5,6,18] [.pt 16 0,(.v (.c (.slc 17 0 n 1))),.ii i,.ii c,.ii (0:Int)] [16,17] [(some (.fl [.ob (.fr k)])),(some (.sq (.int L)))] 240 [] []) cY aY → Wq Try.prog Q (diA_k) ac Exit.normal aY cY.w) : Wq Try.prog Q (lpIn di_k) ac .normal aX cX.w :=
  run_at2 (o := ⟨_, _, _, _, _, _, _⟩) env0_ok (by kernel_rfl) (diA_hk k L n c i) ho hs hK
noncomputable def diI (k : U4) (L : List Int) (n : Nat) (i d j:Int) : St := mkSt 49 [1,3,5,6,18] [.pt 16 0,(.v (.c (.slc 17 0 n 1))),.ii i,.v (.c (.int .i64 d)),.v (.c (.int .i64 j))] [16,17] [(some (.fl [.ob (.fr k)])),(some (.sq (.int L)))] 240 [] []
theorem diB_hk (k : U4) (L : List Int) (n : Nat) (i d j : Int) : (run env0 false 3000 ((⟨lpIn diA_k, .normal, diI k L n i d j⟩ : Cfg)) [true, true]).cfg.k = lpBk diA_k := by kernel_rfl
theorem diB (k : U4) (L : List Int) (n : Nat) (i d j:Int) (ho : AllP [((decide (j < (5:Int))) = true),((decide ((IntKind.wrap .i64 (i + j)) < (256:Int))) = true),((64:Int) ≠ (0:Int)),((0:Int) ≤ (IntKind.wrap .i64 (Int.tdiv (IntKind.wrap .i64 (i + j)) (64:Int)))),((IntKind.wrap .i64 (Int.tdiv (IntKind.wrap .i64 (i + j)) (64:Int))) < (4:Int)),((0 + (((IntKind.wrap .i64 (Int.tdiv (IntKind.wrap .i64 (i + j)) (64:Int)))).toNat * 1)) < (Ob.k (.fr k))),((64:Int) ≠ (0:Int)),((0:Int) ≤ (Int.tmod (IntKind.wrap .i64 (i + j)) (64:Int))),((0:Int) ≤ j)]) (hs : Sim w0 F0 K ac (diI k L n i d j) cX aX) (hK : ∀ ac cY aY,Sim w0 F0 K ac (mkSt 49 [1,3,5,6,18] [.pt 16 0,(.v (.c (.slc 17 0 n 1))),.ii i,(.ii (IntKind.wrap .i64 (d + (IntKind.wrap .i64 ((IntKind.wrap .i64 (bitsOp BinOp.and IntKind.u64 (Int.fdiv (limb (Ob.n (.fr k)) (0 + (((IntKind.wrap .i64 (Int.tdiv (IntKind.wrap .i64 (i + j)) (64:Int)))).toNat * 1))) ((2:Int) ^ (Min.min ((Int.tmod (IntKind.wrap .i64 (i + j)) (64:Int))).toNat 64))) (1:Int))) * ((2:Int) ^ (Min.min (j).toNat 64))))))),(.ii (IntKind.wrap .i64 (j + (1:Int))))] [16,17] [(some (.fl [.ob (.fr k)])),(some (.sq (.int L)))] 640 [] []) cY aY → Wq Try.prog Q (lpBk diA_k) ac Exit.normal aY cY.w) : Wq Try.prog Q (lpIn diA_k) ac .normal aX cX.w :=
  run_at2 (o := ⟨_, _, _, _, _, _, _⟩) env0_ok (by kernel_rfl) (diB_hk k L n i d j) ho hs hK
theorem diC_hk (k : U4) (L : List Int) (n : Nat) (i d j : Int) : (run env0 false 3000 ((⟨lpIn diA_k, .normal, diI k L n i d j⟩ : Cfg)) [true, false]).cfg.k = lpBk diA_k := by kernel_rfl
theorem diC (k : U4) (L : List Int) (n : Nat) (i d j:Int) (ho : AllP [((decide (j < (5:Int))) = true),((decide ((IntKind.wrap .i64 (i + j)) < (256:Int))) = false)]) (hs : Sim w0 F0 K ac (diI k L n i d j) cX aX) (hK : ∀ ac cY aY,Sim w0 F0 K ac (mkSt 49 [1,3,5,6,18] [.pt 16 0,(.v (.c (.slc 17 0 n 1))),.ii i,.ii d,(.ii (IntKind.wrap .i64 (j + (1:Int))))] [16,17] [(some (.fl [.ob (.fr k)])),(some (.sq (.int L)))] 416 [] []) cY aY → Wq Try.prog Q (lpBk diA_k) ac Exit.normal aY cY.w) : Wq Try.prog Q (lpIn diA_k) ac .normal aX cX.w :=
  run_at2 (o := ⟨_, _, _, _, _, _, _⟩) env0_ok (by kernel_rfl) (diC_hk k L n i d j) ho hs hK
theorem diD_hk (k : U4) (L : List Int) (n : Nat) (i d j : Int) : (run env0 false 3000 ((⟨lpIn diA_k, .normal, diI k L n i d j⟩ : Cfg)) [false, true]).cfg.k = lpBk di_k := by kernel_rfl
theorem diD (k : U4) (L : List Int) (n : Nat) (i d j:Int) (ho : AllP [((decide (j < (5:Int))) = false),((decide (d > (16:Int))) = true),((((List.length L) + 1) * 8) ≤ 140737488355328),(((List.length L) + 1) ≤ maxLen),(n = (List.length L)),(1 = 1)]) (hs : Sim w0 F0 K ac (diI k L n i d j) cX aX) (hK : ∀ ac cY aY,Sim w0 F0 K ac (mkSt 49 [1,3,4,5] [.pt 16 0,(.v (.c (.slc 17 0 ((List.length L) + 1) 1))),.ii (1:Int),(.ii (IntKind.wrap .i64 (i + (5:Int))))] [16,17] [(some (.fl [.ob (.fr k)])),(some (.sq (.int (L ++ [(IntKind.wrap .i64 (d - (32:Int)))]))))] 496 [] []) cY aY → Wq Try.prog Q (lpBk di_k) ac Exit.normal aY cY.w) : Wq Try.prog Q (lpIn diA_k) ac .normal aX cX.w :=
  run_at2 (o := ⟨_, _, _, _, _, _, _⟩) env0_ok (by kernel_rfl) (diD_hk k L n i d j) ho hs hK
theorem diE_hk (k : U4) (L : List Int) (n : Nat) (i d j : Int) : (run env0 false 3000 ((⟨lpIn diA_k, .normal, diI k L n i d j⟩ : Cfg)) [false, false]).cfg.k = lpBk di_k := by kernel_rfl
theorem diE (k : U4) (L : List Int) (n : Nat) (i d j:Int) (ho : AllP [((decide (j < (5:Int))) = false),((decide (d > (16:Int))) = false),((((List.length L) + 1) * 8) ≤ 140737488355328),(((List.length L) + 1) ≤ maxLen),(n = (List.length L)),(1 = 1)]) (hs : Sim w0 F0 K ac (diI k L n i d j) cX aX) (hK : ∀ ac cY aY,Sim w0 F0 K ac (mkSt 49 [1,3,4,5] [.pt 16 0,(.v (.c (.slc 17 0 ((List.length L) + 1) 1))),.ii (0:Int),(.ii (IntKind.wrap .i64 (i + (5:Int))))] [16,17] [(some (.fl [.ob (.fr k)])),(some (.sq (.int (L ++ [d]))))] 432 [] []) cY aY → Wq Try.prog Q (lpBk di_k) ac Exit.normal aY cY.w) : Wq Try.prog Q (lpIn diA_k) ac .normal aX cX.w :=
  run_at2 (o := ⟨_, _, _, _, _, _, _⟩) env0_ok (by kernel_rfl) (diE_hk k L n i d j) ho hs hK
theorem diX_end (k : U4) (L : List Int) (n : Nat) (c i:Int) : runEnd env0 Try.f128 false 3000 (⟨lpIn di_k,.normal,diS k L n c i⟩) [false,false] [] [17] = (some ([((decide (i < (256:Int))) = false),((decide (c > (0:Int))) = false),(n = (List.length L))],((.v (.c (.sl (.int L)))),[]))) := by kernel_rfl
end
end Go.Proofs.Ytkfcphigoncgjaa

/- Signed digits of a number: contract. No conditions. -/
namespace Go.Proofs.Ytkfcphigoncgjaa

/-- One bit, as it is reckoned. -/
theorem bit1_expr (k : U4) {m j : Nat} (h : m + j < 256) (hj : j < 5) : IntKind.wrap IntKind.i64 ((IntKind.wrap IntKind.i64 (bitsOp BinOp.and IntKind.u64 (Int.fdiv (limb (Ob.n (Ob.fr k)) (0 + (((IntKind.wrap IntKind.i64 (Int.tdiv (IntKind.wrap IntKind.i64 ((m : Int) + (j : Int))) (64 : Int)))).toNat * 1))) ((2 : Int) ^ (Min.min ((Int.tmod (IntKind.wrap IntKind.i64 ((m : Int) + (j : Int))) (64 : Int))).toNat 64))) (1 : Int))) * ((2 : Int) ^ (Min.min ((j : Int)).toNat 64))) = ((k.val / 2 ^ (m + j) % 2 * 2 ^ j : Nat) : Int) := by
  rw [wrap_id (n := (m : Int) + (j : Int)) (by omega) (by omega), ← Int.natCast_add]
  generalize hi : m + j = i at *
  have e1 : Int.tdiv (i : Int) (64 : Int) = ((i / 64 : Nat) : Int) := Int.tdiv_eq_ediv_of_nonneg (by omega)
  have e2 : Int.tmod (i : Int) (64 : Int) = ((i % 64 : Nat) : Int) := Int.tmod_eq_emod_of_nonneg (by omega)
  rw [e1, e2, wrap_id (n := ((i / 64 : Nat) : Int)) (by omega) (by omega), Int.toNat_natCast, Int.toNat_natCast, Int.toNat_natCast]
  have e3 : Min.min (i % 64) 64 = i % 64 := by omega
  have e4 : 0 + i / 64 * 1 = i / 64 := by omega
  have e5 : Min.min j 64 = j := by omega
  rw [e3, e4, e5]
  have hl : limb (Ob.n (Ob.fr k)) (i / 64) = ((k.val / 2 ^ (64 * (i / 64)) % 18446744073709551616 : Nat) : Int) := rfl
  rw [hl]
  have hb : k.val / 2 ^ (64 * (i / 64)) % 18446744073709551616 / 2 ^ (i % 64) % 2 = k.val / 2 ^ i % 2 := by
    have h64 : 18446744073709551616 = 2 ^ (i % 64) * (2 * 2 ^ (63 - i % 64)) := by
      rw [← Nat.pow_succ', ← Nat.pow_add, show i % 64 + (63 - i % 64 + 1) = 64 from by omega]
    rw [h64, Nat.mod_mul_right_div_self, Nat.mod_mul_right_mod, Nat.div_div_eq_div_mul, ← Nat.pow_add, show 64 * (i / 64) + i % 64 = i from Nat.div_add_mod i 64]
  rw [← hb]
  have hlt : k.val / 2 ^ (64 * (i / 64)) % 18446744073709551616 < 18446744073709551616 := Nat.mod_lt _ (by decide)
  generalize k.val / 2 ^ (64 * (i / 64)) % 18446744073709551616 = w at *
  have hp : ((2 : Int) ^ (i % 64)) = ((2 ^ (i % 64) : Nat) : Int) := by simp
  have hp2 : ((2 : Int) ^ j) = ((2 ^ j : Nat) : Int) := by simp
  rw [hp, hp2, Int.fdiv_eq_ediv_of_nonneg _ (Int.natCast_nonneg _), ← Int.natCast_ediv]
  generalize w / 2 ^ (i % 64) = v
  have ha : bitsOp BinOp.and IntKind.u64 (v : Int) (1 : Int) = ((v % 2 : Nat) : Int) := by
    show IntKind.wrap IntKind.u64 ((BitVec.ofInt 64 (v : Int) &&& BitVec.ofInt 64 ((1 : Nat) : Int)).toNat : Int) = _
    rw [BitVec.ofInt_natCast, BitVec.ofInt_natCast, BitVec.toNat_and, BitVec.toNat_ofNat, BitVec.toNat_ofNat]
    have e : 1 % 2 ^ 64 = 2 ^ 1 - 1 := by decide
    rw [e, Nat.and_two_pow_sub_one_eq_mod]
    show (((v % 2 ^ 64 % 2 ^ 1 : Nat) : Int)) % 18446744073709551616 = _
    omega
  have h32 : 2 ^ j ≤ 2 ^ 4 := Nat.pow_le_pow_right (by decide) (by omega)
  have h2 : v % 2 < 2 := Nat.mod_lt _ (by decide)
  have hm : v % 2 * 2 ^ j ≤ 1 * 2 ^ 4 := Nat.mul_le_mul (by omega) h32
  rw [ha, wrap_id (n := ((v % 2 : Nat) : Int)) (by omega) (by omega), ← Int.natCast_mul, wrap_id (by omega) (by omega)]

theorem win_step (k m j : Nat) : k / 2 ^ m % 2 ^ (j + 1) = k / 2 ^ m % 2 ^ j + k / 2 ^ (m + j) % 2 * 2 ^ j := by
  rw [Nat.pow_succ, Nat.mod_mul, Nat.div_div_eq_div_mul, ← Nat.pow_add, Nat.mul_comm (2 ^ j)]
theorem win_32 (k m : Nat) : k / 2 ^ (5 * m) % 2 ^ 5 = k / 32 ^ m % 32 := by
  rw [Nat.pow_mul]
theorem u4_lt (k : U4) : k.val < 2 ^ 256 := by
  have h : B4 = 2 ^ 256 := by decide +kernel
  rw [← h]
  exact k.isLt

theorem digits_fnd (k : U4) {N : Nat} (hN : N = 52) : FnD Try.prog 128 [.v (.a [.ob (.fr k)])] (.v (.c (.sl (.int (dgW k.val N).1)))) [] := by
  refine fn_start (fn := Try.f128) (c := bodyOf Try.f128) Try.func128 rfl rfl fun x0 a0 hk hF hs => ?_
  refine di k trivial hs fun ac cY aY hs1 => ?_
  have hs2 := hs1.nilRow (p := 17) (q := .int []) rfl (by decide) rfl (ml' := [16, 17]) (ens' := [some (.fl [.ob (.fr k)]), some (.sq (.int []))]) (fun r => fl_look (by decide)) (svs' := [.v (.c (.ptr 16 0)), .v (.c (.slc 17 0 0 1)), .v (.c (.int .i64 0)), .v (.c (.int .i64 0))]) ⟨.inl rfl, .inr ⟨1, rfl, rfl⟩, .inl rfl, .inl rfl, trivial⟩
  change Wq Try.prog _ _ _ _ _ (nilCtx cY 17).w
  refine loop_rule (ι := { m : Nat // m ≤ N }) (fun m => diS k (dgW k.val m.1).1 m.1 ((dgW k.val m.1).2 : Int) ((5 * m.1 : Nat) : Int)) (fun m => N - m.1) (c := lpC di_k) (k := lpR di_k) (by kernel_rfl) (fun m ih ac cY aY hs => ?_) ⟨0, Nat.zero_le _⟩ (hs2.nx _)
  obtain ⟨m, hm⟩ := m
  simp only at ih hs
  have hc := dgW_carry k.val m
  have hl := dgW_len k.val m
  by_cases h : m < N
  · refine diA k _ m _ _ ⟨decide_eq_true (by omega), trivial⟩ hs fun ac cZ aZ hs3 => ?_
    have e0 : (((dgW k.val m).2 : Nat) : Int) = (((dgW k.val m).2 + k.val / 2 ^ (5 * m) % 2 ^ 0 : Nat) : Int) := by rw [Nat.pow_zero, Nat.mod_one, Nat.add_zero]
    rw [e0] at hs3
    refine loop_rule (ι := { j : Nat // j ≤ 5 }) (fun j => diI k (dgW k.val m).1 m ((5 * m : Nat) : Int) (((dgW k.val m).2 + k.val / 2 ^ (5 * m) % 2 ^ j.1 : Nat) : Int) (j.1 : Int)) (fun j => 5 - j.1) (c := lpC diA_k) (k := lpR diA_k) (by kernel_rfl) (fun j ih2 ac cY aY hs => ?_) ⟨0, Nat.zero_le _⟩ (hs3.nx _)
    obtain ⟨j, hj⟩ := j
    simp only at ih2 hs
    have hpj : k.val / 2 ^ (5 * m) % 2 ^ j < 2 ^ j := Nat.mod_lt _ (Nat.two_pow_pos _)
    have hj5 : 2 ^ j ≤ 2 ^ 5 := Nat.pow_le_pow_right (by decide) hj
    by_cases hj2 : j < 5
    · have ej : IntKind.wrap IntKind.i64 ((j : Int) + 1) = ((j + 1 : Nat) : Int) := by rw [wrap_id (by omega) (by omega)]; rfl
      have hsum := win_step k.val (5 * m) j
      by_cases hb : 5 * m + j < 256
      · have eb := bit1_expr k hb hj2
        have hw : IntKind.wrap IntKind.i64 (((5 * m : Nat) : Int) + (j : Int)) = ((5 * m + j : Nat) : Int) := by rw [wrap_id (by omega) (by omega)]; rfl
        have ht : Int.tdiv ((5 * m + j : Nat) : Int) 64 = (((5 * m + j) / 64 : Nat) : Int) := Int.tdiv_eq_ediv_of_nonneg (by omega)
        have ht2 : Int.tmod ((5 * m + j : Nat) : Int) 64 = (((5 * m + j) % 64 : Nat) : Int) := Int.tmod_eq_emod_of_nonneg (by omega)
        have hw2 : IntKind.wrap IntKind.i64 (((5 * m + j) / 64 : Nat) : Int) = (((5 * m + j) / 64 : Nat) : Int) := wrap_id (by omega) (by omega)
        refine diB k _ m _ _ _ ⟨decide_eq_true (by omega), by rw [hw]; exact decide_eq_true (by omega), by decide, by rw [hw, ht, hw2]; omega, by rw [hw, ht, hw2]; omega, by rw [hw, ht, hw2, Int.toNat_natCast]; show _ < 4; omega, by decide, by rw [hw, ht2]; omega, by omega, trivial⟩ hs fun ac cU aU hs4 => ?_
        rw [eb, ej] at hs4
        have hbit : k.val / 2 ^ (5 * m + j) % 2 * 2 ^ j ≤ 1 * 2 ^ 5 := Nat.mul_le_mul (by omega) hj5
        rw [wrap_id (by omega) (by omega), ← Int.natCast_add, Nat.add_assoc, ← hsum] at hs4
        exact ih2 ⟨j + 1, hj2⟩ (by show 5 - (j + 1) < 5 - j; omega) ac cU aU (hs4.nx _)
      · have hw : IntKind.wrap IntKind.i64 (((5 * m : Nat) : Int) + (j : Int)) = ((5 * m + j : Nat) : Int) := by rw [wrap_id (by omega) (by omega)]; rfl
        refine diC k _ m _ _ _ ⟨decide_eq_true (by omega), by rw [hw]; exact decide_eq_false (by omega), trivial⟩ hs fun ac cU aU hs4 => ?_
        have h0 : k.val / 2 ^ (5 * m + j) = 0 := Nat.div_eq_of_lt (Nat.lt_of_lt_of_le (u4_lt k) (Nat.pow_le_pow_right (by decide) (by omega)))
        rw [h0, Nat.zero_mod, Nat.zero_mul, Nat.add_zero (k.val / 2 ^ (5 * m) % 2 ^ j)] at hsum
        rw [ej, ← hsum] at hs4
        exact ih2 ⟨j + 1, hj2⟩ (by show 5 - (j + 1) < 5 - j; omega) ac cU aU (hs4.nx _)
    · have : j = 5 := by omega
      subst this
      rw [win_32, Nat.add_comm] at hs
      have hw5 : k.val / 32 ^ m % 32 < 32 := Nat.mod_lt _ (by decide)
      have e5 : IntKind.wrap IntKind.i64 (((5 * m : Nat) : Int) + 5) = ((5 * (m + 1) : Nat) : Int) := by rw [wrap_id (by omega) (by omega)]; omega
      have hml : (dgW k.val m).1.length ≤ 52 := by omega
      have hmax : (dgW k.val m).1.length + 1 ≤ maxLen := Nat.le_trans (by omega) (show 53 ≤ maxLen by decide)
      by_cases hg : k.val / 32 ^ m % 32 + (dgW k.val m).2 > 16
      · refine diD k _ m _ _ _ ⟨by decide, decide_eq_true (by omega), by omega, hmax, hl.symm, rfl, trivial⟩ hs fun ac cU aU hs4 => ?_
        rw [e5, hl, wrap_id (by omega) (by omega)] at hs4
        refine ih ⟨m + 1, h⟩ (by show N - (m + 1) < N - m; omega) ac cU aU ?_
        show Sim _ _ _ _ (diS k (dgW k.val (m + 1)).1 (m + 1) ((dgW k.val (m + 1)).2 : Int) ((5 * (m + 1) : Nat) : Int)) _ _
        rw [dgW_big hg]
        exact hs4.nx _
      · refine diE k _ m _ _ _ ⟨by decide, decide_eq_false (by omega), by omega, hmax, hl.symm, rfl, trivial⟩ hs fun ac cU aU hs4 => ?_
        rw [e5, hl] at hs4
        refine ih ⟨m + 1, h⟩ (by show N - (m + 1) < N - m; omega) ac cU aU ?_
        show Sim _ _ _ _ (diS k (dgW k.val (m + 1)).1 (m + 1) ((dgW k.val (m + 1)).2 : Int) ((5 * (m + 1) : Nat) : Int)) _ _
        rw [dgW_small hg]
        exact hs4.nx _
  · obtain rfl : m = N := by omega
    have h0 := (dgW_all hN (u4_lt k)).2
    exact run_end2 env0_ok hk hF (diX_end k (dgW k.val m).1 m ((dgW k.val m).2 : Int) ((5 * m : Nat) : Int)) ⟨decide_eq_false (by omega), by rw [h0]; decide, hl.symm, trivial⟩ (fun y v hd => hd) hs

end Go.Proofs.Ytkfcphigoncgjaa

/- Elements of the greater field, inside and outside; the field; lines. No conditions. -/
namespace Go.Proofs.Ytkfcphigoncgjaa

def fp1 : Fp := Fin.ofNat pN 1
def fp4 : Fp := Fin.ofNat pN 4
theorem fin_mul_val {r : Nat} (x y : Fin r) : x.val * y.val % r = (x * y).val := rfl
theorem fin_add_val {r : Nat} (x y : Fin r) : (x.val + y.val) % r = (x + y).val := rfl
section
variable {r : Nat} [NeZero r]
theorem add_neg_g (x y : Fin r) : x + (0 - y) = x - y := by grind
theorem fin_neg_val (x : Fin r) : (r - x.val) % r = (0 - x).val := by
  show _ = (r - x.val + (0 : Fin r).val) % r
  have e : (0 : Fin r).val = 0 := Nat.zero_mod r
  rw [e, Nat.add_zero]
theorem fin_of_val (n : Nat) : (Fin.ofNat r n).val = n % r := rfl
end

theorem inP_val (x : U6) : (inP x).val = x.val % pN := fin_of_val _
theorem inP_lt {x : U6} (h : x.val < pN) : (inP x).val = x.val := Nat.mod_eq_of_lt h
theorem outP_lt (x : Fp) : (outP x).val < pN := by rw [outP_val]; exact x.isLt
theorem in_out (x : Fp) : inP (outP x) = x := by
  apply Fin.ext
  rw [inP_val, outP_val]
  exact Nat.mod_eq_of_lt x.isLt
theorem outP_inj {x y : Fp} (h : outP x = outP y) : x = y := by rw [← in_out x, h, in_out]
section
variable {r : Nat} [NeZero r]
theorem mul6_g (a b c d e f : Fin r) : a * b * c * (d * e * f) = a * d * (b * e) * (c * f) := by grind
theorem pw_cube (x : Fin r) : ∀ n, pw (x * x * x) n = pw x n * pw x n * pw x n
  | 0 => by show (1 : Fin r) = 1 * 1 * 1; grind
  | n + 1 => by
    show pw (x * x * x) n * (x * x * x) = pw x n * x * (pw x n * x) * (pw x n * x)
    rw [pw_cube x n]
    grind
theorem pw_three (x : Fin r) (n : Nat) : pw (x * x * x) n = pw x (n + n + n) := by
  rw [pw_add_g, pw_add_g, pw_cube]
theorem neg_of_sum {a b : Fin r} (h : a + b = 0) : a = 0 - b := by grind
theorem zero_cube (b : Fin r) : (0 : Fin r) * 0 * 0 + b = b := by grind
end

theorem one_ne_p : (1 : Fp) ≠ 0 := by decide +kernel
theorem two_ne_p : (1 : Fp) + 1 ≠ 0 := by decide +kernel
theorem fp1_one : fp1 = 1 := by decide +kernel
theorem fp4_ne : fp4 ≠ 0 := by decide +kernel
theorem neg4 : (0 : Fp) - fp4 = Fin.ofNat pN (pN - 4) := by decide +kernel
theorem thirds : pN - 1 = (pN - 1) / 3 + (pN - 1) / 3 + (pN - 1) / 3 := by decide +kernel
theorem neg4_val : (Fin.ofNat pN (pN - 4)).val = pN - 4 := by decide +kernel
theorem neg4_pow : mpow pN (pN - 4) 384 ((pN - 1) / 3) ≠ 1 := by decide +kernel
theorem third_lt : (pN - 1) / 3 < 2 ^ 384 := by decide +kernel
theorem one_val_p : ((1 : Fp) : Nat) = 1 := by decide +kernel

theorem cube_ne (c : Fp) (hc : pw c ((pN - 1) / 3) ≠ 1) (h0 : c ≠ 0) (x : Fp) : x * x * x ≠ c := by
  intro h
  by_cases hx : x = 0
  · apply h0
    rw [← h, hx]
    exact mul_zero6
  · apply hc
    rw [← h, pw_three, ← thirds]
    exact fermat_p x hx
where mul_zero6 : (0 : Fp) * 0 * 0 = 0 := by decide +kernel

instance fldP : Fld Fp :=
  { (inferInstance : CRing (Fin pN)) with
    inv := ivP
    mul_inv := ivP_mul
    one_ne := one_ne_p }

section
variable {F : Type} [Fld F]
theorem line1 (e d x1 x2 y1 : F) (hd : d ≠ 0) : ((thr e d x1 x2 y1).1 + (x1 + x2)) * (d * d) = e * e := by
  have h := thr1 e d x1 x2 y1 hd
  unfold nX at h
  grind
theorem line2 (e d x1 x2 y1 : F) (hd : d ≠ 0) : ((thr e d x1 x2 y1).2 + y1) * d = e * (x1 - (thr e d x1 x2 y1).1) := by
  have h := Fld.mul_inv d hd
  unfold thr
  dsimp only
  grind
theorem opp_y {y1 y2 : F} (h : y1 * y1 = y2 * y2) (hn : ¬ y1 = 0 - y2) : y1 = y2 ∧ y1 ≠ 0 := by
  have h0 : y1 = y2 := by
    by_cases e : y1 = y2
    · exact e
    · have hd : y1 - y2 ≠ 0 := fun h => e (by grind)
      exfalso
      apply hn
      have : y1 + y2 = 0 := fcan hd (by grind)
      grind
  refine ⟨h0, fun e => hn ?_⟩
  rw [← h0, e]
  grind
theorem opp_none {y : F} (two : (1 : F) + 1 ≠ 0) (h : y = 0 - y) : y = 0 := fcan two (by grind)
end

end Go.Proofs.Ytkfcphigoncgjaa

/- Pairs of elements of the greater field: the functions, walked. No conditions. -/
namespace Go.Proofs.Ytkfcphigoncgjaa

abbrev F2 := Q2 pN
def f2I (x : F2) : List It := [.ob (.p x.1), .ob (.p x.2)]
section
variable {r : Nat} [NeZero r]
theorem kar_g (a b c d : Fin r) : (a + b) * (c + d) - a * c - b * d = a * d + b * c := by grind
end
--@env qeJ qeJ_ok
theorem t2A (a b c d : Fp) : fnRes qeJ Try.f132 3000 [.v (.a [.ob (.p a),.ob (.p b)]),.v (.a [.ob (.p c),.ob (.p d)])] [] [] [] = (some ([],((.v (.a [(.ob (.p ((a * c) - (b * d)))),(.ob (.p ((((a + b) * (c + d)) - (a * c)) - (b * d))))])),[]))) := by kernel_rfl
theorem p2A (a b c d : Fp) : fnRes qeJ Try.f133 3000 [.v (.a [.ob (.p a),.ob (.p b)]),.v (.a [.ob (.p c),.ob (.p d)])] [] [] [] = (some ([],((.v (.a [(.ob (.p (a + c))),(.ob (.p (b + d)))])),[]))) := by kernel_rfl
theorem m2A (a b c d : Fp) : fnRes qeJ Try.f170 3000 [.v (.a [.ob (.p a),.ob (.p b)]),.v (.a [.ob (.p c),.ob (.p d)])] [] [] [] = (some ([],((.v (.a [(.ob (.p (a - c))),(.ob (.p (b - d)))])),[]))) := by kernel_rfl
theorem n2A (a b : Fp) : fnRes qeJ Try.f171 3000 [.v (.a [.ob (.p a),.ob (.p b)])] [] [] [] = (some ([],((.v (.a [(.ob (.p ((0:Fp) - a))),(.ob (.p ((0:Fp) - b)))])),[]))) := by kernel_rfl
theorem z2A (a b : Fp) : fnRes qeJ Try.f89 3000 [.v (.a [.ob (.p a),.ob (.p b)])] [] [] [] = (some ([],((.v (.c (.bool (ite (true = true) (Bool.and (decide (a = (0:Fp))) (decide (b = (0:Fp)))) (Bool.not (Bool.and (decide (a = (0:Fp))) (decide (b = (0:Fp))))))))),[]))) := by kernel_rfl
theorem no2A (a b : Fp) : fnRes qeJ Try.f172 3000 [.v (.a [.ob (.p a),.ob (.p b)])] [] [] [] = (some ([],((.v (.a [(.ob (.p ((a * a) + (b * b))))])),[]))) := by kernel_rfl
theorem i2A (a b : U6) : fnRes qeJ Try.f120 3000 [.v (.a [.ob (.fp a),.ob (.fp b)])] [] [] [] = (some ([],((.v (.a [(.ob (.p (inP a))),(.ob (.p (inP b)))])),[]))) := by kernel_rfl
theorem o2A (a b : Fp) : fnRes qeJ Try.f119 3000 [.v (.a [.ob (.p a),.ob (.p b)])] [] [] [] = (some ([],((.v (.a [(.ob (.fp (outP a))),(.ob (.fp (outP b)))])),[]))) := by kernel_rfl
theorem times2_fnd (a b c d : Fp) : FnD Try.prog 132 [.v (.a [.ob (.p a), .ob (.p b)]), .v (.a [.ob (.p c), .ob (.p d)])] (.v (.a (f2I ((a, b) * (c, d))))) [] := by
  have r := t2A a b c d
  rw [kar_g] at r
  exact fn_sound qeJ_ok Try.func132 r trivial
theorem zero2_fnd (a b : Fp) : FnD Try.prog 89 [.v (.a [.ob (.p a), .ob (.p b)])] (.v (.c (.bool (decide (((a, b) : F2) = 0))))) [] := by
  have r := z2A a b
  rw [if_pos rfl] at r
  have e : decide (((a, b) : F2) = 0) = (decide (a = 0) && decide (b = 0)) := pair_dec a 0 b 0
  rw [e]
  exact fn_sound qeJ_ok Try.func89 r trivial
def inP2 (a b : U6) : F2 := (inP a, inP b)
def times2Spec : FnSpec
  | [.v (.a [.ob (.p a), .ob (.p b)]), .v (.a [.ob (.p c), .ob (.p d)])] => some ([], .v (.a (f2I ((a, b) * (c, d)))), [])
  | _ => none
noncomputable def qxA : Env := qeJ.set (addT qeJ.fn 132 times2Spec)
theorem qxA_ok : EnvOk Try.prog qxA := env_add qeJ_ok 132 times2Spec (enters_of Try.func132 rfl rfl) fun args o r es h _ => by
  unfold times2Spec at h
  split at h
  · cases h; exact times2_fnd _ _ _ _
  · cases h
def plus2Spec : FnSpec
  | [.v (.a [.ob (.p a), .ob (.p b)]), .v (.a [.ob (.p c), .ob (.p d)])] => some ([], .v (.a (f2I ((a, b) + (c, d)))), [])
  | _ => none
noncomputable def qxB : Env := qxA.set (addT qxA.fn 133 plus2Spec)
theorem qxB_ok : EnvOk Try.prog qxB := env_add qxA_ok 133 plus2Spec (enters_of Try.func133 rfl rfl) fun args o r es h _ => by
  unfold plus2Spec at h
  split at h
  · cases h; exact fn_sound qeJ_ok Try.func133 (p2A _ _ _ _) trivial
  · cases h
def minus2Spec : FnSpec
  | [.v (.a [.ob (.p a), .ob (.p b)]), .v (.a [.ob (.p c), .ob (.p d)])] => some ([], .v (.a (f2I ((a, b) - (c, d)))), [])
  | _ => none
noncomputable def qxC : Env := qxB.set (addT qxB.fn 170 minus2Spec)
theorem qxC_ok : EnvOk Try.prog qxC := env_add qxB_ok 170 minus2Spec (enters_of Try.func170 rfl rfl) fun args o r es h _ => by
  unfold minus2Spec at h
  split at h
  · cases h; exact fn_sound qeJ_ok Try.func170 (m2A _ _ _ _) trivial
  · cases h
def neg2Spec : FnSpec
  | [.v (.a [.ob (.p a), .ob (.p b)])] => some ([], .v (.a (f2I (0 - (a, b)))), [])
  | _ => none
noncomputable def qxD : Env := qxC.set (addT qxC.fn 171 neg2Spec)
theorem qxD_ok : EnvOk Try.prog qxD := env_add qxC_ok 171 neg2Spec (enters_of Try.func171 rfl rfl) fun args o r es h _ => by
  unfold neg2Spec at h
  split at h
  · cases h; exact fn_sound qeJ_ok Try.func171 (n2A _ _) trivial
  · cases h
def zero2Spec : FnSpec
  | [.v (.a [.ob (.p a), .ob (.p b)])] => some ([], .v (.c (.bool (decide (((a, b) : F2) = 0)))), [])
  | _ => none
noncomputable def qxE : Env := qxD.set (addT qxD.fn 89 zero2Spec)
theorem qxE_ok : EnvOk Try.prog qxE := env_add qxD_ok 89 zero2Spec (enters_of Try.func89 rfl rfl) fun args o r es h _ => by
  unfold zero2Spec at h
  split at h
  · cases h; exact zero2_fnd _ _
  · cases h
def norm2Spec : FnSpec
  | [.v (.a [.ob (.p a), .ob (.p b)])] => some ([], .v (.a [.ob (.p (nQ2 (a, b)))]), [])
  | _ => none
noncomputable def qxF : Env := qxE.set (addT qxE.fn 172 norm2Spec)
theorem qxF_ok : EnvOk Try.prog qxF := env_add qxE_ok 172 norm2Spec (enters_of Try.func172 rfl rfl) fun args o r es h _ => by
  unfold norm2Spec at h
  split at h
  · cases h; exact fn_sound qeJ_ok Try.func172 (no2A _ _) trivial
  · cases h
def in2Spec : FnSpec
  | [.v (.a [.ob (.fp a), .ob (.fp b)])] => some ([], .v (.a (f2I (inP2 a b))), [])
  | _ => none
noncomputable def qxG : Env := qxF.set (addT qxF.fn 120 in2Spec)
theorem qxG_ok : EnvOk Try.prog qxG := env_add qxF_ok 120 in2Spec (enters_of Try.func120 rfl rfl) fun args o r es h _ => by
  unfold in2Spec at h
  split at h
  · cases h; exact fn_sound qeJ_ok Try.func120 (i2A _ _) trivial
  · cases h
def out2Spec : FnSpec
  | [.v (.a [.ob (.p a), .ob (.p b)])] => some ([], .v (.a [.ob (.fp (outP a)), .ob (.fp (outP b))]), [])
  | _ => none
noncomputable def qxH : Env := qxG.set (addT qxG.fn 119 out2Spec)
theorem qxH_ok : EnvOk Try.prog qxH := env_add qxG_ok 119 out2Spec (enters_of Try.func119 rfl rfl) fun args o r es h _ => by
  unfold out2Spec at h
  split at h
  · cases h; exact fn_sound qeJ_ok Try.func119 (o2A _ _) trivial
  · cases h
--@env qxH qxH_ok
theorem v2A (a b : Fp) : fnRes qxH Try.f169 3000 [.v (.a [.ob (.p a),.ob (.p b)])] [] [] [] = (some ([],((.v (.a [(.ob (.p (a * (ivP (nQ2 (a,b)))))),(.ob (.p ((0:Fp) - (b * (ivP (nQ2 (a,b)))))))])),[]))) := by kernel_rfl
def inv2Spec : FnSpec
  | [.v (.a [.ob (.p a), .ob (.p b)])] => some ([], .v (.a (f2I (ivQ2 ivP (a, b)))), [])
  | _ => none
noncomputable def qxI : Env := qxH.set (addT qxH.fn 169 inv2Spec)
theorem qxI_ok : EnvOk Try.prog qxI := env_add qxH_ok 169 inv2Spec (enters_of Try.func169 rfl rfl) fun args o r es h _ => by
  unfold inv2Spec at h
  split at h
  · cases h; exact fn_sound qxH_ok Try.func169 (v2A _ _) trivial
  · cases h
theorem meth96_Times (v : Value) (w : World) : (method (Try.prog.types.size + Made.depth) 96 v "Times").run Try.prog w = .ok (132, v) w := by kernel_rfl
theorem meth96_Plus (v : Value) (w : World) : (method (Try.prog.types.size + Made.depth) 96 v "Plus").run Try.prog w = .ok (133, v) w := by kernel_rfl
theorem meth96_Minus (v : Value) (w : World) : (method (Try.prog.types.size + Made.depth) 96 v "Minus").run Try.prog w = .ok (170, v) w := by kernel_rfl
theorem meth96_IsZero (v : Value) (w : World) : (method (Try.prog.types.size + Made.depth) 96 v "IsZero").run Try.prog w = .ok (89, v) w := by kernel_rfl
theorem meth96_Negative (v : Value) (w : World) : (method (Try.prog.types.size + Made.depth) 96 v "Negative").run Try.prog w = .ok (171, v) w := by kernel_rfl
theorem meth96_Inverse (v : Value) (w : World) : (method (Try.prog.types.size + Made.depth) 96 v "Inverse").run Try.prog w = .ok (169, v) w := by kernel_rfl
noncomputable def inv2T (T : Nat → Option (List (String × Nat))) (t : Nat) : Option (List (String × Nat)) := if t = 96 then some [("Times", 132), ("Plus", 133), ("Minus", 170), ("IsZero", 89), ("Negative", 171), ("Inverse", 169)] else T t
noncomputable def qxJ : Env := { qxI with inv := inv2T qxI.inv }
theorem qxJ_ok : EnvOk Try.prog qxJ := by
  refine ⟨qxI_ok.ty, qxI_ok.mixed, qxI_ok.fn, qxI_ok.mu, qxI_ok.inl, qxI_ok.ex, fun t l h => ?_⟩
  have h : inv2T qxI.inv t = some l := h
  unfold inv2T at h
  split at h
  · rename_i ht
    cases h
    subst ht
    refine ⟨by kernel_rfl, fun name g hg v args w => ?_⟩
    unfold lookM at hg
    split at hg
    · rename_i hn
      cases hg
      subst hn
      simp only [callMethod, Sem.run_bind, run_program, Result.andThen_ok, meth96_Times]
    unfold lookM at hg
    split at hg
    · rename_i hn
      cases hg
      subst hn
      simp only [callMethod, Sem.run_bind, run_program, Result.andThen_ok, meth96_Plus]
    unfold lookM at hg
    split at hg
    · rename_i hn
      cases hg
      subst hn
      simp only [callMethod, Sem.run_bind, run_program, Result.andThen_ok, meth96_Minus]
    unfold lookM at hg
    split at hg
    · rename_i hn
      cases hg
      subst hn
      simp only [callMethod, Sem.run_bind, run_program, Result.andThen_ok, meth96_IsZero]
    unfold lookM at hg
    split at hg
    · rename_i hn
      cases hg
      subst hn
      simp only [callMethod, Sem.run_bind, run_program, Result.andThen_ok, meth96_Negative]
    unfold lookM at hg
    split at hg
    · rename_i hn
      cases hg
      subst hn
      simp only [callMethod, Sem.run_bind, run_program, Result.andThen_ok, meth96_Inverse]
    cases hg
  · exact qxI_ok.inv t l h
--@env qxJ qxJ_ok
theorem tw2A (a b c d e f : Fp) : fnRes qxJ Try.f117 3000 [.v (.a [.ob (.p a),.ob (.p b),.ob (.p c),.ob (.p d),.ob (.p e),.ob (.p f)])] [true] [] [] = (some ([((decide ((e,f) = (0 : (Prod (Fin pN) (Fin pN))))) = true)],((.v (.a [.ob (.p a),.ob (.p b),.ob (.p c),.ob (.p d),.ob (.p e),.ob (.p f)])),[]))) := by kernel_rfl
theorem tw2B (a b c d e f : Fp) : fnRes qxJ Try.f117 3000 [.v (.a [.ob (.p a),.ob (.p b),.ob (.p c),.ob (.p d),.ob (.p e),.ob (.p f)])] [false] [] [] = (some ([((decide ((e,f) = (0 : (Prod (Fin pN) (Fin pN))))) = false)],((.v (.a [(.ob (.p (Prod.fst (((((((a,b) * (a,b)) + ((a,b) * (a,b))) + ((a,b) * (a,b))) * ((((a,b) * (a,b)) + ((a,b) * (a,b))) + ((a,b) * (a,b)))) - ((((((a,b) + ((c,d) * (c,d))) * ((a,b) + ((c,d) * (c,d)))) - ((a,b) * (a,b))) - (((c,d) * (c,d)) * ((c,d) * (c,d)))) + (((((a,b) + ((c,d) * (c,d))) * ((a,b) + ((c,d) * (c,d)))) - ((a,b) * (a,b))) - (((c,d) * (c,d)) * ((c,d) * (c,d)))))) - ((((((a,b) + ((c,d) * (c,d))) * ((a,b) + ((c,d) * (c,d)))) - ((a,b) * (a,b))) - (((c,d) * (c,d)) * ((c,d) * (c,d)))) + (((((a,b) + ((c,d) * (c,d))) * ((a,b) + ((c,d) * (c,d)))) - ((a,b) * (a,b))) - (((c,d) * (c,d)) * ((c,d) * (c,d))))))))),(.ob (.p (Prod.snd (((((((a,b) * (a,b)) + ((a,b) * (a,b))) + ((a,b) * (a,b))) * ((((a,b) * (a,b)) + ((a,b) * (a,b))) + ((a,b) * (a,b)))) - ((((((a,b) + ((c,d) * (c,d))) * ((a,b) + ((c,d) * (c,d)))) - ((a,b) * (a,b))) - (((c,d) * (c,d)) * ((c,d) * (c,d)))) + (((((a,b) + ((c,d) * (c,d))) * ((a,b) + ((c,d) * (c,d)))) - ((a,b) * (a,b))) - (((c,d) * (c,d)) * ((c,d) * (c,d)))))) - ((((((a,b) + ((c,d) * (c,d))) * ((a,b) + ((c,d) * (c,d)))) - ((a,b) * (a,b))) - (((c,d) * (c,d)) * ((c,d) * (c,d)))) + (((((a,b) + ((c,d) * (c,d))) * ((a,b) + ((c,d) * (c,d)))) - ((a,b) * (a,b))) - (((c,d) * (c,d)) * ((c,d) * (c,d))))))))),(.ob (.p (Prod.fst ((((((a,b) * (a,b)) + ((a,b) * (a,b))) + ((a,b) * (a,b))) * (((((((a,b) + ((c,d) * (c,d))) * ((a,b) + ((c,d) * (c,d)))) - ((a,b) * (a,b))) - (((c,d) * (c,d)) * ((c,d) * (c,d)))) + (((((a,b) + ((c,d) * (c,d))) * ((a,b) + ((c,d) * (c,d)))) - ((a,b) * (a,b))) - (((c,d) * (c,d)) * ((c,d) * (c,d))))) - (((((((a,b) * (a,b)) + ((a,b) * (a,b))) + ((a,b) * (a,b))) * ((((a,b) * (a,b)) + ((a,b) * (a,b))) + ((a,b) * (a,b)))) - ((((((a,b) + ((c,d) * (c,d))) * ((a,b) + ((c,d) * (c,d)))) - ((a,b) * (a,b))) - (((c,d) * (c,d)) * ((c,d) * (c,d)))) + (((((a,b) + ((c,d) * (c,d))) * ((a,b) + ((c,d) * (c,d)))) - ((a,b) * (a,b))) - (((c,d) * (c,d)) * ((c,d) * (c,d)))))) - ((((((a,b) + ((c,d) * (c,d))) * ((a,b) + ((c,d) * (c,d)))) - ((a,b) * (a,b))) - (((c,d) * (c,d)) * ((c,d) * (c,d)))) + (((((a,b) + ((c,d) * (c,d))) * ((a,b) + ((c,d) * (c,d)))) - ((a,b) * (a,b))) - (((c,d) * (c,d)) * ((c,d) * (c,d)))))))) - ((((((c,d) * (c,d)) * ((c,d) * (c,d))) + (((c,d) * (c,d)) * ((c,d) * (c,d)))) + ((((c,d) * (c,d)) * ((c,d) * (c,d))) + (((c,d) * (c,d)) * ((c,d) * (c,d))))) + (((((c,d) * (c,d)) * ((c,d) * (c,d))) + (((c,d) * (c,d)) * ((c,d) * (c,d)))) + ((((c,d) * (c,d)) * ((c,d) * (c,d))) + (((c,d) * (c,d)) * ((c,d) * (c,d)))))))))),(.ob (.p (Prod.snd ((((((a,b) * (a,b)) + ((a,b) * (a,b))) + ((a,b) * (a,b))) * (((((((a,b) + ((c,d) * (c,d))) * ((a,b) + ((c,d) * (c,d)))) - ((a,b) * (a,b))) - (((c,d) * (c,d)) * ((c,d) * (c,d)))) + (((((a,b) + ((c,d) * (c,d))) * ((a,b) + ((c,d) * (c,d)))) - ((a,b) * (a,b))) - (((c,d) * (c,d)) * ((c,d) * (c,d))))) - (((((((a,b) * (a,b)) + ((a,b) * (a,b))) + ((a,b) * (a,b))) * ((((a,b) * (a,b)) + ((a,b) * (a,b))) + ((a,b) * (a,b)))) - ((((((a,b) + ((c,d) * (c,d))) * ((a,b) + ((c,d) * (c,d)))) - ((a,b) * (a,b))) - (((c,d) * (c,d)) * ((c,d) * (c,d)))) + (((((a,b) + ((c,d) * (c,d))) * ((a,b) + ((c,d) * (c,d)))) - ((a,b) * (a,b))) - (((c,d) * (c,d)) * ((c,d) * (c,d)))))) - ((((((a,b) + ((c,d) * (c,d))) * ((a,b) + ((c,d) * (c,d)))) - ((a,b) * (a,b))) - (((c,d) * (c,d)) * ((c,d) * (c,d)))) + (((((a,b) + ((c,d) * (c,d))) * ((a,b) + ((c,d) * (c,d)))) - ((a,b) * (a,b))) - (((c,d) * (c,d)) * ((c,d) * (c,d)))))))) - ((((((c,d) * (c,d)) * ((c,d) * (c,d))) + (((c,d) * (c,d)) * ((c,d) * (c,d)))) + ((((c,d) * (c,d)) * ((c,d) * (c,d))) + (((c,d) * (c,d)) * ((c,d) * (c,d))))) + (((((c,d) * (c,d)) * ((c,d) * (c,d))) + (((c,d) * (c,d)) * ((c,d) * (c,d)))) + ((((c,d) * (c,d)) * ((c,d) * (c,d))) + (((c,d) * (c,d)) * ((c,d) * (c,d)))))))))),(.ob (.p (Prod.fst (((c,d) * (e,f)) + ((c,d) * (e,f)))))),(.ob (.p (Prod.snd (((c,d) * (e,f)) + ((c,d) * (e,f))))))])),[]))) := by kernel_rfl
theorem ng2P (a b c d e f : Fp) : fnRes qxJ Try.f71 3000 [.v (.a [.ob (.p a),.ob (.p b),.ob (.p c),.ob (.p d),.ob (.p e),.ob (.p f)])] [] [] [] = (some ([],((.v (.a [.ob (.p a),.ob (.p b),(.ob (.p (Prod.fst ((0 : F2) - (c,d))))),(.ob (.p (Prod.snd ((0 : F2) - (c,d))))),.ob (.p e),.ob (.p f)])),[]))) := by kernel_rfl
end Go.Proofs.Ytkfcphigoncgjaa

/- Points of the second curve: twice, negative, sums, walked. No conditions. -/
namespace Go.Proofs.Ytkfcphigoncgjaa

theorem twice2_fnd (a b c d e f : Fp) : FnD Try.prog 117 [.v (.a [.ob (.p a), .ob (.p b), .ob (.p c), .ob (.p d), .ob (.p e), .ob (.p f)])] (.v (.a (pt2Its (jtw (F := F2) ((a, b), (c, d), (e, f)))))) [] := by
  by_cases h : ((e, f) : F2) = 0
  · have e0 : jtw (F := F2) ((a, b), (c, d), (e, f)) = ((a, b), (c, d), (e, f)) := if_pos h
    rw [e0]
    exact fn_sound qxJ_ok Try.func117 (tw2A a b c d e f) ⟨decide_eq_true h, trivial⟩
  · unfold jtw
    rw [if_neg h]
    exact fn_sound qxJ_ok Try.func117 (tw2B a b c d e f) ⟨decide_eq_false h, trivial⟩
def tw2Spec : FnSpec
  | [.v (.a [.ob (.p a), .ob (.p b), .ob (.p c), .ob (.p d), .ob (.p e), .ob (.p f)])] => some ([], .v (.a (pt2Its (jtw (F := F2) ((a, b), (c, d), (e, f))))), [])
  | _ => none
noncomputable def qyA : Env := qxJ.set (addT qxJ.fn 117 tw2Spec)
theorem qyA_ok : EnvOk Try.prog qyA := env_add qxJ_ok 117 tw2Spec (enters_of Try.func117 rfl rfl) fun args o r es h _ => by
  unfold tw2Spec at h
  split at h
  · cases h; exact twice2_fnd _ _ _ _ _ _
  · cases h
def ng2Spec : FnSpec
  | [.v (.a [.ob (.p a), .ob (.p b), .ob (.p c), .ob (.p d), .ob (.p e), .ob (.p f)])] => some ([], .v (.a (pt2Its (jng (F := F2) ((a, b), (c, d), (e, f))))), [])
  | _ => none
noncomputable def qyB : Env := qyA.set (addT qyA.fn 71 ng2Spec)
theorem qyB_ok : EnvOk Try.prog qyB := env_add qyA_ok 71 ng2Spec (enters_of Try.func71 rfl rfl) fun args o r es h _ => by
  unfold ng2Spec at h
  split at h
  · cases h; exact fn_sound qxJ_ok Try.func71 (ng2P _ _ _ _ _ _) trivial
  · cases h
--@env qyB qyB_ok
theorem pq2A (a b c d e f a' b' c' d' e' f' : Fp) : fnRes qyB Try.f68 3000 [.v (.a [.ob (.p a),.ob (.p b),.ob (.p c),.ob (.p d),.ob (.p e),.ob (.p f)]),.v (.a [.ob (.p a'),.ob (.p b'),.ob (.p c'),.ob (.p d'),.ob (.p e'),.ob (.p f')])] [true] [] [] = (some ([((decide ((e,f) = (0 : (Prod (Fin pN) (Fin pN))))) = true)],((.v (.a [(.ob (.p a')),(.ob (.p b')),(.ob (.p c')),(.ob (.p d')),(.ob (.p e')),(.ob (.p f'))])),[]))) := by kernel_rfl
theorem pq2B (a b c d e f a' b' c' d' e' f' : Fp) : fnRes qyB Try.f68 3000 [.v (.a [.ob (.p a),.ob (.p b),.ob (.p c),.ob (.p d),.ob (.p e),.ob (.p f)]),.v (.a [.ob (.p a'),.ob (.p b'),.ob (.p c'),.ob (.p d'),.ob (.p e'),.ob (.p f')])] [false,true] [] [] = (some ([((decide ((e,f) = (0 : (Prod (Fin pN) (Fin pN))))) = false),((decide ((e',f') = (0 : (Prod (Fin pN) (Fin pN))))) = true)],((.v (.a [.ob (.p a),.ob (.p b),.ob (.p c),.ob (.p d),.ob (.p e),.ob (.p f)])),[]))) := by kernel_rfl
theorem pq2C (a b c d e f a' b' c' d' e' f' : Fp) : fnRes qyB Try.f68 3000 [.v (.a [.ob (.p a),.ob (.p b),.ob (.p c),.ob (.p d),.ob (.p e),.ob (.p f)]),.v (.a [.ob (.p a'),.ob (.p b'),.ob (.p c'),.ob (.p d'),.ob (.p e'),.ob (.p f')])] [false,false,true,true] [] [] = (some ([((decide ((e,f) = (0 : (Prod (Fin pN) (Fin pN))))) = false),((decide ((e',f') = (0 : (Prod (Fin pN) (Fin pN))))) = false),((decide ((((a',b') * ((e,f) * (e,f))) - ((a,b) * ((e',f') * (e',f')))) = (0 : (Prod (Fin pN) (Fin pN))))) = true),((decide (((((c',d') * ((e,f) * (e,f))) * (e,f)) - (((c,d) * ((e',f') * (e',f'))) * (e',f'))) = (0 : (Prod (Fin pN) (Fin pN))))) = true)],((.v (.a [(.ob (.p (Prod.fst (Prod.fst (jtw ((a,b),((c,d),(e,f)))))))),(.ob (.p (Prod.snd (Prod.fst (jtw ((a,b),((c,d),(e,f)))))))),(.ob (.p (Prod.fst (Prod.fst (Prod.snd (jtw ((a,b),((c,d),(e,f))))))))),(.ob (.p (Prod.snd (Prod.fst (Prod.snd (jtw ((a,b),((c,d),(e,f))))))))),(.ob (.p (Prod.fst (Prod.snd (Prod.snd (jtw ((a,b),((c,d),(e,f))))))))),(.ob (.p (Prod.snd (Prod.snd (Prod.snd (jtw ((a,b),((c,d),(e,f)))))))))])),[]))) := by kernel_rfl
theorem pq2D (a b c d e f a' b' c' d' e' f' : Fp) : fnRes qyB Try.f68 3000 [.v (.a [.ob (.p a),.ob (.p b),.ob (.p c),.ob (.p d),.ob (.p e),.ob (.p f)]),.v (.a [.ob (.p a'),.ob (.p b'),.ob (.p c'),.ob (.p d'),.ob (.p e'),.ob (.p f')])] [false,false,true,false] [] [] = (some ([((decide ((e,f) = (0 : (Prod (Fin pN) (Fin pN))))) = false),((decide ((e',f') = (0 : (Prod (Fin pN) (Fin pN))))) = false),((decide ((((a',b') * ((e,f) * (e,f))) - ((a,b) * ((e',f') * (e',f')))) = (0 : (Prod (Fin pN) (Fin pN))))) = true),((decide (((((c',d') * ((e,f) * (e,f))) * (e,f)) - (((c,d) * ((e',f') * (e',f'))) * (e',f'))) = (0 : (Prod (Fin pN) (Fin pN))))) = false)],((.v (.a [.ob (.p a),.ob (.p b),.ob (.p c),.ob (.p d),(.ob (.p (0:Fp))),(.ob (.p (0:Fp)))])),[]))) := by kernel_rfl
theorem pq2E (a b c d e f a' b' c' d' e' f' : Fp) : fnRes qyB Try.f68 3000 [.v (.a [.ob (.p a),.ob (.p b),.ob (.p c),.ob (.p d),.ob (.p e),.ob (.p f)]),.v (.a [.ob (.p a'),.ob (.p b'),.ob (.p c'),.ob (.p d'),.ob (.p e'),.ob (.p f')])] [false,false,false] [] [] = (some ([((decide ((e,f) = (0 : (Prod (Fin pN) (Fin pN))))) = false),((decide ((e',f') = (0 : (Prod (Fin pN) (Fin pN))))) = false),((decide ((((a',b') * ((e,f) * (e,f))) - ((a,b) * ((e',f') * (e',f')))) = (0 : (Prod (Fin pN) (Fin pN))))) = false)],((.v (.a [(.ob (.p (Prod.fst ((((((((c',d') * ((e,f) * (e,f))) * (e,f)) - (((c,d) * ((e',f') * (e',f'))) * (e',f'))) * ((((c',d') * ((e,f) * (e,f))) * (e,f)) - (((c,d) * ((e',f') * (e',f'))) * (e',f')))) - (((((a',b') * ((e,f) * (e,f))) - ((a,b) * ((e',f') * (e',f')))) * (((a',b') * ((e,f) * (e,f))) - ((a,b) * ((e',f') * (e',f'))))) * (((a',b') * ((e,f) * (e,f))) - ((a,b) * ((e',f') * (e',f')))))) - (((a,b) * ((e',f') * (e',f'))) * ((((a',b') * ((e,f) * (e,f))) - ((a,b) * ((e',f') * (e',f')))) * (((a',b') * ((e,f) * (e,f))) - ((a,b) * ((e',f') * (e',f'))))))) - (((a,b) * ((e',f') * (e',f'))) * ((((a',b') * ((e,f) * (e,f))) - ((a,b) * ((e',f') * (e',f')))) * (((a',b') * ((e,f) * (e,f))) - ((a,b) * ((e',f') * (e',f')))))))))),(.ob (.p (Prod.snd ((((((((c',d') * ((e,f) * (e,f))) * (e,f)) - (((c,d) * ((e',f') * (e',f'))) * (e',f'))) * ((((c',d') * ((e,f) * (e,f))) * (e,f)) - (((c,d) * ((e',f') * (e',f'))) * (e',f')))) - (((((a',b') * ((e,f) * (e,f))) - ((a,b) * ((e',f') * (e',f')))) * (((a',b') * ((e,f) * (e,f))) - ((a,b) * ((e',f') * (e',f'))))) * (((a',b') * ((e,f) * (e,f))) - ((a,b) * ((e',f') * (e',f')))))) - (((a,b) * ((e',f') * (e',f'))) * ((((a',b') * ((e,f) * (e,f))) - ((a,b) * ((e',f') * (e',f')))) * (((a',b') * ((e,f) * (e,f))) - ((a,b) * ((e',f') * (e',f'))))))) - (((a,b) * ((e',f') * (e',f'))) * ((((a',b') * ((e,f) * (e,f))) - ((a,b) * ((e',f') * (e',f')))) * (((a',b') * ((e,f) * (e,f))) - ((a,b) * ((e',f') * (e',f')))))))))),(.ob (.p (Prod.fst ((((((c',d') * ((e,f) * (e,f))) * (e,f)) - (((c,d) * ((e',f') * (e',f'))) * (e',f'))) * ((((a,b) * ((e',f') * (e',f'))) * ((((a',b') * ((e,f) * (e,f))) - ((a,b) * ((e',f') * (e',f')))) * (((a',b') * ((e,f) * (e,f))) - ((a,b) * ((e',f') * (e',f')))))) - ((((((((c',d') * ((e,f) * (e,f))) * (e,f)) - (((c,d) * ((e',f') * (e',f'))) * (e',f'))) * ((((c',d') * ((e,f) * (e,f))) * (e,f)) - (((c,d) * ((e',f') * (e',f'))) * (e',f')))) - (((((a',b') * ((e,f) * (e,f))) - ((a,b) * ((e',f') * (e',f')))) * (((a',b') * ((e,f) * (e,f))) - ((a,b) * ((e',f') * (e',f'))))) * (((a',b') * ((e,f) * (e,f))) - ((a,b) * ((e',f') * (e',f')))))) - (((a,b) * ((e',f') * (e',f'))) * ((((a',b') * ((e,f) * (e,f))) - ((a,b) * ((e',f') * (e',f')))) * (((a',b') * ((e,f) * (e,f))) - ((a,b) * ((e',f') * (e',f'))))))) - (((a,b) * ((e',f') * (e',f'))) * ((((a',b') * ((e,f) * (e,f))) - ((a,b) * ((e',f') * (e',f')))) * (((a',b') * ((e,f) * (e,f))) - ((a,b) * ((e',f') * (e',f'))))))))) - ((((c,d) * ((e',f') * (e',f'))) * (e',f')) * (((((a',b') * ((e,f) * (e,f))) - ((a,b) * ((e',f') * (e',f')))) * (((a',b') * ((e,f) * (e,f))) - ((a,b) * ((e',f') * (e',f'))))) * (((a',b') * ((e,f) * (e,f))) - ((a,b) * ((e',f') * (e',f')))))))))),(.ob (.p (Prod.snd ((((((c',d') * ((e,f) * (e,f))) * (e,f)) - (((c,d) * ((e',f') * (e',f'))) * (e',f'))) * ((((a,b) * ((e',f') * (e',f'))) * ((((a',b') * ((e,f) * (e,f))) - ((a,b) * ((e',f') * (e',f')))) * (((a',b') * ((e,f) * (e,f))) - ((a,b) * ((e',f') * (e',f')))))) - ((((((((c',d') * ((e,f) * (e,f))) * (e,f)) - (((c,d) * ((e',f') * (e',f'))) * (e',f'))) * ((((c',d') * ((e,f) * (e,f))) * (e,f)) - (((c,d) * ((e',f') * (e',f'))) * (e',f')))) - (((((a',b') * ((e,f) * (e,f))) - ((a,b) * ((e',f') * (e',f')))) * (((a',b') * ((e,f) * (e,f))) - ((a,b) * ((e',f') * (e',f'))))) * (((a',b') * ((e,f) * (e,f))) - ((a,b) * ((e',f') * (e',f')))))) - (((a,b) * ((e',f') * (e',f'))) * ((((a',b') * ((e,f) * (e,f))) - ((a,b) * ((e',f') * (e',f')))) * (((a',b') * ((e,f) * (e,f))) - ((a,b) * ((e',f') * (e',f'))))))) - (((a,b) * ((e',f') * (e',f'))) * ((((a',b') * ((e,f) * (e,f))) - ((a,b) * ((e',f') * (e',f')))) * (((a',b') * ((e,f) * (e,f))) - ((a,b) * ((e',f') * (e',f'))))))))) - ((((c,d) * ((e',f') * (e',f'))) * (e',f')) * (((((a',b') * ((e,f) * (e,f))) - ((a,b) * ((e',f') * (e',f')))) * (((a',b') * ((e,f) * (e,f))) - ((a,b) * ((e',f') * (e',f'))))) * (((a',b') * ((e,f) * (e,f))) - ((a,b) * ((e',f') * (e',f')))))))))),(.ob (.p (Prod.fst (((((a',b') * ((e,f) * (e,f))) - ((a,b) * ((e',f') * (e',f')))) * (e,f)) * (e',f'))))),(.ob (.p (Prod.snd (((((a',b') * ((e,f) * (e,f))) - ((a,b) * ((e',f') * (e',f')))) * (e,f)) * (e',f')))))])),[]))) := by kernel_rfl
end Go.Proofs.Ytkfcphigoncgjaa

/- Points of the second curve: sums, contract. No conditions. -/
namespace Go.Proofs.Ytkfcphigoncgjaa

theorem plusPt2_fnd (a b c d e f a' b' c' d' e' f' : Fp) : FnD Try.prog 68 [.v (.a [.ob (.p a), .ob (.p b), .ob (.p c), .ob (.p d), .ob (.p e), .ob (.p f)]), .v (.a [.ob (.p a'), .ob (.p b'), .ob (.p c'), .ob (.p d'), .ob (.p e'), .ob (.p f')])] (.v (.a (pt2Its (jpl (F := F2) ((a, b), (c, d), (e, f)) ((a', b'), (c', d'), (e', f')))))) [] := by
  by_cases h : ((e, f) : F2) = 0
  · have e0 : jpl (F := F2) ((a, b), (c, d), (e, f)) ((a', b'), (c', d'), (e', f')) = ((a', b'), (c', d'), (e', f')) := if_pos h
    rw [e0]
    exact fn_sound qyB_ok Try.func68 (pq2A a b c d e f a' b' c' d' e' f') ⟨decide_eq_true h, trivial⟩
  · by_cases h2 : ((e', f') : F2) = 0
    · have e0 : jpl (F := F2) ((a, b), (c, d), (e, f)) ((a', b'), (c', d'), (e', f')) = ((a, b), (c, d), (e, f)) := (if_neg h).trans (if_pos h2)
      rw [e0]
      exact fn_sound qyB_ok Try.func68 (pq2B a b c d e f a' b' c' d' e' f') ⟨decide_eq_false h, decide_eq_true h2, trivial⟩
    · unfold jpl
      rw [if_neg h, if_neg h2]
      dsimp only
      by_cases h3 : ((a', b') : F2) * (((e, f) : F2) * ((e, f) : F2)) - ((a, b) : F2) * (((e', f') : F2) * ((e', f') : F2)) = 0
      · rw [if_pos h3]
        by_cases h4 : ((c', d') : F2) * (((e, f) : F2) * ((e, f) : F2)) * ((e, f) : F2) - ((c, d) : F2) * (((e', f') : F2) * ((e', f') : F2)) * ((e', f') : F2) = 0
        · rw [if_pos h4]
          exact fn_sound qyB_ok Try.func68 (pq2C a b c d e f a' b' c' d' e' f') ⟨decide_eq_false h, decide_eq_false h2, decide_eq_true h3, decide_eq_true h4, trivial⟩
        · rw [if_neg h4]
          exact fn_sound qyB_ok Try.func68 (pq2D a b c d e f a' b' c' d' e' f') ⟨decide_eq_false h, decide_eq_false h2, decide_eq_true h3, decide_eq_false h4, trivial⟩
      · rw [if_neg h3]
        exact fn_sound qyB_ok Try.func68 (pq2E a b c d e f a' b' c' d' e' f') ⟨decide_eq_false h, decide_eq_false h2, decide_eq_false h3, trivial⟩

end Go.Proofs.Ytkfcphigoncgjaa

/- Points of the second curve, in and out, walked. No conditions. -/
namespace Go.Proofs.Ytkfcphigoncgjaa

def pl2Spec : FnSpec
  | [.v (.a [.ob (.p a), .ob (.p b), .ob (.p c), .ob (.p d), .ob (.p e), .ob (.p f)]), .v (.a [.ob (.p a'), .ob (.p b'), .ob (.p c'), .ob (.p d'), .ob (.p e'), .ob (.p f')])] => some ([], .v (.a (pt2Its (jpl (F := F2) ((a, b), (c, d), (e, f)) ((a', b'), (c', d'), (e', f'))))), [])
  | _ => none
noncomputable def qyC : Env := qyB.set (addT qyB.fn 68 pl2Spec)
theorem qyC_ok : EnvOk Try.prog qyC := env_add qyB_ok 68 pl2Spec (enters_of Try.func68 rfl rfl) fun args o r es h _ => by
  unfold pl2Spec at h
  split at h
  · cases h; exact plusPt2_fnd _ _ _ _ _ _ _ _ _ _ _ _
  · cases h
noncomputable def inlAg (T : Nat → Option Func) (f : Nat) : Option Func := if f = 118 then some Try.f118 else T f
noncomputable def qyD : Env := { qyC with inl := inlAg qyC.inl }
theorem qyD_ok : EnvOk Try.prog qyD := by
  refine ⟨qyC_ok.ty, qyC_ok.mixed, qyC_ok.fn, qyC_ok.mu, fun f fn h => ?_, qyC_ok.ex, qyC_ok.inv⟩
  have h : inlAg qyC.inl f = some fn := h
  unfold inlAg at h
  split at h
  · rename_i hf; cases h; subst hf; exact ⟨Try.func118, enters_of Try.func118 rfl rfl⟩
  exact qyC_ok.inl f fn h
--@env qyD qyD_ok
theorem ig2A (a b c d : U6) (i : Bool) : fnRes qyD Try.f70 3000 [.v (.a [.ob (.fp a),.ob (.fp b),.ob (.fp c),.ob (.fp d),.bool i])] [true] [] [] = (some ([((0:Int) ≤ (1:Int)),((1:Int) < (18446744073709551616:Int)),(i = true)],((.v (.a [(.ob (.p (Fin.ofNat pN 1))),(.ob (.p (0:Fp))),(.ob (.p (Fin.ofNat pN 1))),(.ob (.p (0:Fp))),(.ob (.p (0:Fp))),(.ob (.p (0:Fp)))])),[]))) := by kernel_rfl
theorem ig2B (a b c d : U6) (i : Bool) : fnRes qyD Try.f70 3000 [.v (.a [.ob (.fp a),.ob (.fp b),.ob (.fp c),.ob (.fp d),.bool i])] [false] [] [] = (some ([((0:Int) ≤ (1:Int)),((1:Int) < (18446744073709551616:Int)),(i = false)],((.v (.a [(.ob (.p (Prod.fst (inP2 a b)))),(.ob (.p (Prod.snd (inP2 a b)))),(.ob (.p (Prod.fst (inP2 c d)))),(.ob (.p (Prod.snd (inP2 c d)))),(.ob (.p (Fin.ofNat pN 1))),(.ob (.p (0:Fp)))])),[]))) := by kernel_rfl
theorem og2A (a b c d e f : Fp) : fnRes qyD Try.f69 3000 [.v (.a [.ob (.p a),.ob (.p b),.ob (.p c),.ob (.p d),.ob (.p e),.ob (.p f)])] [true,true] [] [] = (some ([((decide ((e,f) = (0 : (Prod (Fin pN) (Fin pN))))) = true)],((.v (.a [(.ob (.fp (0:U6))),(.ob (.fp (0:U6))),(.ob (.fp (0:U6))),(.ob (.fp (0:U6))),(.lit true)])),[]))) := by kernel_rfl
theorem og2B (a b c d e f : Fp) : fnRes qyD Try.f69 3000 [.v (.a [.ob (.p a),.ob (.p b),.ob (.p c),.ob (.p d),.ob (.p e),.ob (.p f)])] [false,false] [] [] = (some ([((decide ((e,f) = (0 : (Prod (Fin pN) (Fin pN))))) = false)],((.v (.a [(.ob (.fp (outP (Prod.fst ((a,b) * ((ivQ2 ivP (e,f)) * (ivQ2 ivP (e,f)))))))),(.ob (.fp (outP (Prod.snd ((a,b) * ((ivQ2 ivP (e,f)) * (ivQ2 ivP (e,f)))))))),(.ob (.fp (outP (Prod.fst (((c,d) * ((ivQ2 ivP (e,f)) * (ivQ2 ivP (e,f)))) * (ivQ2 ivP (e,f))))))),(.ob (.fp (outP (Prod.snd (((c,d) * ((ivQ2 ivP (e,f)) * (ivQ2 ivP (e,f)))) * (ivQ2 ivP (e,f))))))),(.lit false)])),[]))) := by kernel_rfl
theorem on2A (a b c d : U6) (i : Bool) : fnRes qyD Try.f97 3000 [.v (.a [.ob (.fp a),.ob (.fp b),.ob (.fp c),.ob (.fp d),.bool i])] [true] [] [] = (some ([(i = true)],((.v (.c (.bool (ite (true = true) (Bool.and (decide (a = (0:U6))) (Bool.and (decide (b = (0:U6))) (Bool.and (decide (c = (0:U6))) (Bool.and (decide (d = (0:U6))) (i == true))))) (Bool.not (Bool.and (decide (a = (0:U6))) (Bool.and (decide (b = (0:U6))) (Bool.and (decide (c = (0:U6))) (Bool.and (decide (d = (0:U6))) (i == true)))))))))),[]))) := by kernel_rfl
theorem on2B (a b c d : U6) (i : Bool) : fnRes qyD Try.f97 3000 [.v (.a [.ob (.fp a),.ob (.fp b),.ob (.fp c),.ob (.fp d),.bool i])] [false,true,true] [] [] = (some ([(i = false),((0:Int) ≤ (4:Int)),((4:Int) < (18446744073709551616:Int)),((0:Int) ≤ (4:Int)),((4:Int) < (18446744073709551616:Int)),((ite (true = true) (Bool.and (decide ((outP (Prod.fst (inP2 a b))) = a)) (decide ((outP (Prod.snd (inP2 a b))) = b))) (Bool.not (Bool.and (decide ((outP (Prod.fst (inP2 a b))) = a)) (decide ((outP (Prod.snd (inP2 a b))) = b))))) = true),((ite (true = true) (Bool.and (decide ((outP (Prod.fst (inP2 c d))) = c)) (decide ((outP (Prod.snd (inP2 c d))) = d))) (Bool.not (Bool.and (decide ((outP (Prod.fst (inP2 c d))) = c)) (decide ((outP (Prod.snd (inP2 c d))) = d))))) = true)],((.v (.c (.bool (ite (true = true) (Bool.and (decide ((Prod.fst ((inP2 c d) * (inP2 c d))) = (Prod.fst ((((inP2 a b) * (inP2 a b)) * (inP2 a b)) + ((Fin.ofNat pN 4),(Fin.ofNat pN 4)))))) (decide ((Prod.snd ((inP2 c d) * (inP2 c d))) = (Prod.snd ((((inP2 a b) * (inP2 a b)) * (inP2 a b)) + ((Fin.ofNat pN 4),(Fin.ofNat pN 4))))))) (Bool.not (Bool.and (decide ((Prod.fst ((inP2 c d) * (inP2 c d))) = (Prod.fst ((((inP2 a b) * (inP2 a b)) * (inP2 a b)) + ((Fin.ofNat pN 4),(Fin.ofNat pN 4)))))) (decide ((Prod.snd ((inP2 c d) * (inP2 c d))) = (Prod.snd ((((inP2 a b) * (inP2 a b)) * (inP2 a b)) + ((Fin.ofNat pN 4),(Fin.ofNat pN 4)))))))))))),[]))) := by kernel_rfl
theorem on2C (a b c d : U6) (i : Bool) : fnRes qyD Try.f97 3000 [.v (.a [.ob (.fp a),.ob (.fp b),.ob (.fp c),.ob (.fp d),.bool i])] [false,true,false] [] [] = (some ([(i = false),((0:Int) ≤ (4:Int)),((4:Int) < (18446744073709551616:Int)),((0:Int) ≤ (4:Int)),((4:Int) < (18446744073709551616:Int)),((ite (true = true) (Bool.and (decide ((outP (Prod.fst (inP2 a b))) = a)) (decide ((outP (Prod.snd (inP2 a b))) = b))) (Bool.not (Bool.and (decide ((outP (Prod.fst (inP2 a b))) = a)) (decide ((outP (Prod.snd (inP2 a b))) = b))))) = true),((ite (true = true) (Bool.and (decide ((outP (Prod.fst (inP2 c d))) = c)) (decide ((outP (Prod.snd (inP2 c d))) = d))) (Bool.not (Bool.and (decide ((outP (Prod.fst (inP2 c d))) = c)) (decide ((outP (Prod.snd (inP2 c d))) = d))))) = false)],((.v (.c (.lit false))),[]))) := by kernel_rfl
theorem on2D (a b c d : U6) (i : Bool) : fnRes qyD Try.f97 3000 [.v (.a [.ob (.fp a),.ob (.fp b),.ob (.fp c),.ob (.fp d),.bool i])] [false,false,false] [] [] = (some ([(i = false),((0:Int) ≤ (4:Int)),((4:Int) < (18446744073709551616:Int)),((0:Int) ≤ (4:Int)),((4:Int) < (18446744073709551616:Int)),((ite (true = true) (Bool.and (decide ((outP (Prod.fst (inP2 a b))) = a)) (decide ((outP (Prod.snd (inP2 a b))) = b))) (Bool.not (Bool.and (decide ((outP (Prod.fst (inP2 a b))) = a)) (decide ((outP (Prod.snd (inP2 a b))) = b))))) = false)],((.v (.c (.lit false))),[]))) := by kernel_rfl
end Go.Proofs.Ytkfcphigoncgjaa

/- Points of the second curve, in and out; pairs outside: contracts. No conditions. -/
namespace Go.Proofs.Ytkfcphigoncgjaa

def fq4 : F2 := (fp4, fp4)
/-- Which points may be. -/
def onG2 (a : G2D) : Bool :=
  if a.inf then decide (a.xa = 0) && (decide (a.xb = 0) && (decide (a.ya = 0) && decide (a.yb = 0)))
  else (decide (outP (inP a.xa) = a.xa) && decide (outP (inP a.xb) = a.xb)) && ((decide (outP (inP a.ya) = a.ya) && decide (outP (inP a.yb) = a.yb)) && decide (inP2 a.ya a.yb * inP2 a.ya a.yb = inP2 a.xa a.xb * inP2 a.xa a.xb * inP2 a.xa a.xb + fq4))
def inG2 (a : G2D) : F2 × F2 × F2 := if a.inf then ((fp1, 0), (fp1, 0), (0, 0)) else (inP2 a.xa a.xb, inP2 a.ya a.yb, (fp1, 0))
def outG2 (t : F2 × F2 × F2) : G2D :=
  if t.2.2 = 0 then ⟨0, 0, 0, 0, true⟩ else
  ⟨outP (t.1 * (ivQ2 ivP t.2.2 * ivQ2 ivP t.2.2)).1, outP (t.1 * (ivQ2 ivP t.2.2 * ivQ2 ivP t.2.2)).2, outP (t.2.1 * (ivQ2 ivP t.2.2 * ivQ2 ivP t.2.2) * ivQ2 ivP t.2.2).1, outP (t.2.1 * (ivQ2 ivP t.2.2 * ivQ2 ivP t.2.2) * ivQ2 ivP t.2.2).2, false⟩
def addG2 (a b : G2D) : G2D := outG2 (jpl (inG2 a) (inG2 b))
def negG2 (a : G2D) : G2D := outG2 (jng (inG2 a))

theorem lit_fifth {x : Ctx} {i j k l : It} {b : Bool} {v : Value} (h : denS x (.v (.a [i, j, k, l, .lit b])) v) : denS x (.v (.a [i, j, k, l, .bool b])) v := by
  obtain ⟨cs, e, c1, r1, e1, h1, c2, r2, e2, h2, c3, r3, e3, h3, c4, r4, e4, h4, c5, r5, e5, ⟨d, h5⟩, h6⟩ := h
  refine ⟨cs, e, c1, r1, e1, h1, c2, r2, e2, h2, c3, r3, e3, h3, c4, r4, e4, h4, c5, r5, e5, ⟨d, ?_⟩, h6⟩
  cases d <;> exact h5
theorem lit_fifth_t {x : Ctx} {i j k l m : It} {b : Bool} {v : Value} (h : denS x (.t [.a [i, j, k, l, .lit b], .c m]) v) : denS x (.t [.a [i, j, k, l, .bool b], .c m]) v := by
  obtain ⟨vs, e, h1⟩ := h
  cases h1 with | cons d1 ds =>
  exact ⟨_, e, .cons (lit_fifth d1) ds⟩

theorem inG2_fnd (a b c d : U6) (i : Bool) : FnD Try.prog 70 [.v (.a [.ob (.fp a), .ob (.fp b), .ob (.fp c), .ob (.fp d), .bool i])] (.v (.a (pt2Its (inG2 ⟨a, b, c, d, i⟩)))) [] := by
  cases i with
  | true => exact fn_sound qyD_ok Try.func70 (ig2A a b c d true) ⟨by decide, by decide, rfl, trivial⟩
  | false => exact fn_sound qyD_ok Try.func70 (ig2B a b c d false) ⟨by decide, by decide, rfl, trivial⟩

theorem outG2_fnd (a b c d e f : Fp) : FnD Try.prog 69 [.v (.a [.ob (.p a), .ob (.p b), .ob (.p c), .ob (.p d), .ob (.p e), .ob (.p f)])] (.v (.a (outG2 ((a, b), (c, d), (e, f))).its)) [] := by
  by_cases h : ((e, f) : F2) = 0
  · have e0 : outG2 ((a, b), (c, d), (e, f)) = ⟨0, 0, 0, 0, true⟩ := if_pos h
    rw [e0]
    exact (fn_sound qyD_ok Try.func69 (og2A a b c d e f) ⟨decide_eq_true h, trivial⟩).conv (fun _ _ h => h) fun y v hd => lit_fifth hd
  · unfold outG2
    rw [if_neg h]
    exact (fn_sound qyD_ok Try.func69 (og2B a b c d e f) ⟨decide_eq_false h, trivial⟩).conv (fun _ _ h => h) fun y v hd => lit_fifth hd

theorem onG2_fin (a b c d : U6) : onG2 ⟨a, b, c, d, false⟩ = ((decide (outP (inP a) = a) && decide (outP (inP b) = b)) && ((decide (outP (inP c) = c) && decide (outP (inP d) = d)) && decide (inP2 c d * inP2 c d = inP2 a b * inP2 a b * inP2 a b + fq4))) := if_neg (fun h => Bool.noConfusion h)
theorem onG2_inf (a b c d : U6) : onG2 ⟨a, b, c, d, true⟩ = (decide (a = 0) && (decide (b = 0) && (decide (c = 0) && (decide (d = 0) && (true == true))))) := by
  show (decide (a = 0) && (decide (b = 0) && (decide (c = 0) && decide (d = 0)))) = _
  simp

theorem onG2_fnd (a b c d : U6) (i : Bool) : FnD Try.prog 97 [.v (.a [.ob (.fp a), .ob (.fp b), .ob (.fp c), .ob (.fp d), .bool i])] (.v (.c (.bool (onG2 ⟨a, b, c, d, i⟩)))) [] := by
  cases i with
  | true =>
    have r := on2A a b c d true
    rw [if_pos rfl] at r
    rw [onG2_inf]
    exact fn_sound qyD_ok Try.func97 r ⟨rfl, trivial⟩
  | false =>
    rw [onG2_fin]
    cases h1 : (decide (outP (inP a) = a) && decide (outP (inP b) = b)) with
    | true =>
      rw [Bool.true_and]
      cases h2 : (decide (outP (inP c) = c) && decide (outP (inP d) = d)) with
      | true =>
        rw [Bool.true_and]
        have r := on2B a b c d false
        rw [if_pos rfl, if_pos rfl, if_pos rfl] at r
        have e : decide (inP2 c d * inP2 c d = inP2 a b * inP2 a b * inP2 a b + fq4) = _ := pair_dec (inP2 c d * inP2 c d).1 (inP2 a b * inP2 a b * inP2 a b + fq4).1 (inP2 c d * inP2 c d).2 (inP2 a b * inP2 a b * inP2 a b + fq4).2
        rw [e]
        exact fn_sound qyD_ok Try.func97 r ⟨rfl, by decide, by decide, by decide, by decide, h1, h2, trivial⟩
      | false =>
        rw [Bool.false_and]
        have r := on2C a b c d false
        rw [if_pos rfl, if_pos rfl] at r
        exact (fn_sound qyD_ok Try.func97 r ⟨rfl, by decide, by decide, by decide, by decide, h1, h2, trivial⟩).conv (fun _ _ h => h) fun y v hd => lit_bool rfl hd
    | false =>
      rw [Bool.false_and]
      have r := on2D a b c d false
      rw [if_pos rfl] at r
      exact (fn_sound qyD_ok Try.func97 r ⟨rfl, by decide, by decide, by decide, by decide, h1, trivial⟩).conv (fun _ _ h => h) fun y v hd => lit_bool rfl hd

/-! Pairs outside. -/
def u2I (x : U6 × U6) : List It := [.ob (.fp x.1), .ob (.fp x.2)]
def outP2 (x : F2) : U6 × U6 := (outP x.1, outP x.2)

section
variable {r : Nat} [NeZero r]
theorem add_neg_q (x y : Q2 r) : x + (0 - y) = x - y := by grind
end
theorem outP2_inj {x y : F2} (h : outP2 x = outP2 y) : x = y := by
  have h1 := congrArg Prod.fst h
  have h2 := congrArg Prod.snd h
  exact q2_ext (outP_inj h1) (outP_inj h2)

end Go.Proofs.Ytkfcphigoncgjaa

/- Points of the second curve outside, and the reference's, walked. No conditions. -/
namespace Go.Proofs.Ytkfcphigoncgjaa

def inG2Spec : FnSpec
  | [.v (.a [.ob (.fp a), .ob (.fp b), .ob (.fp c), .ob (.fp d), .bool i])] => some ([], .v (.a (pt2Its (inG2 ⟨a, b, c, d, i⟩))), [])
  | _ => none
noncomputable def qzA : Env := qyD.set (addT qyD.fn 70 inG2Spec)
theorem qzA_ok : EnvOk Try.prog qzA := env_add qyD_ok 70 inG2Spec (enters_of Try.func70 rfl rfl) fun args o r es h _ => by
  unfold inG2Spec at h
  split at h
  · cases h; exact inG2_fnd _ _ _ _ _
  · cases h
def outG2Spec : FnSpec
  | [.v (.a [.ob (.p a), .ob (.p b), .ob (.p c), .ob (.p d), .ob (.p e), .ob (.p f)])] => some ([], .v (.a (outG2 ((a, b), (c, d), (e, f))).its), [])
  | _ => none
noncomputable def qzB : Env := qzA.set (addT qzA.fn 69 outG2Spec)
theorem qzB_ok : EnvOk Try.prog qzB := env_add qzA_ok 69 outG2Spec (enters_of Try.func69 rfl rfl) fun args o r es h _ => by
  unfold outG2Spec at h
  split at h
  · cases h; exact outG2_fnd _ _ _ _ _ _
  · cases h
def onG2Spec : FnSpec
  | [.v (.a [.ob (.fp a), .ob (.fp b), .ob (.fp c), .ob (.fp d), .bool i])] => some ([], .v (.c (.bool (onG2 ⟨a, b, c, d, i⟩))), [])
  | _ => none
noncomputable def qzH : Env := qzB.set (addT qzB.fn 97 onG2Spec)
theorem qzH_ok : EnvOk Try.prog qzH := env_add qzB_ok 97 onG2Spec (enters_of Try.func97 rfl rfl) fun args o r es h _ => by
  unfold onG2Spec at h
  split at h
  · cases h; exact onG2_fnd _ _ _ _ _
  · cases h
--@env qzH qzH_ok
theorem ri2R (a b c d : U6) (i : Bool) : fnRes qzH Try.f49 3000 [.v (.a [.ob (.fp a),.ob (.fp b),.ob (.fp c),.ob (.fp d),.bool i])] [] [] [] = (some ([],((.v (.c (.bool (onG2 (G2D.mk a b c d i))))),[]))) := by kernel_rfl
theorem ge2R  : fnRes qzH Try.f76 3000 [] [] [] [] = (some ([((0:Int) ≤ (15312334153293348280:Int)),((15312334153293348280:Int) < (18446744073709551616:Int)),((0:Int) ≤ (841050694974028783:Int)),((841050694974028783:Int) < (18446744073709551616:Int)),((0:Int) ≤ (12993178926126977399:Int)),((12993178926126977399:Int) < (18446744073709551616:Int)),((0:Int) ≤ (14331714969349929730:Int)),((14331714969349929730:Int) < (18446744073709551616:Int)),((0:Int) ≤ (2740446039084699729:Int)),((2740446039084699729:Int) < (18446744073709551616:Int)),((0:Int) ≤ (165123225776229009:Int)),((165123225776229009:Int) < (18446744073709551616:Int)),((0:Int) ≤ (16549740192668593022:Int)),((16549740192668593022:Int) < (18446744073709551616:Int)),((0:Int) ≤ (3696594454104530263:Int)),((3696594454104530263:Int) < (18446744073709551616:Int)),((0:Int) ≤ (13103893525273989193:Int)),((13103893525273989193:Int) < (18446744073709551616:Int)),((0:Int) ≤ (6443473286224459290:Int)),((6443473286224459290:Int) < (18446744073709551616:Int)),((0:Int) ≤ (9055845637167730533:Int)),((9055845637167730533:Int) < (18446744073709551616:Int)),((0:Int) ≤ (1432192374203850592:Int)),((1432192374203850592:Int) < (18446744073709551616:Int)),((0:Int) ≤ (16254428414758889473:Int)),((16254428414758889473:Int) < (18446744073709551616:Int)),((0:Int) ≤ (10536956157198377609:Int)),((10536956157198377609:Int) < (18446744073709551616:Int)),((0:Int) ≤ (7873024875724591404:Int)),((7873024875724591404:Int) < (18446744073709551616:Int)),((0:Int) ≤ (12537348094477325223:Int)),((12537348094477325223:Int) < (18446744073709551616:Int)),((0:Int) ≤ (10144865889576432922:Int)),((10144865889576432922:Int) < (18446744073709551616:Int)),((0:Int) ≤ (929383263523139089:Int)),((929383263523139089:Int) < (18446744073709551616:Int)),((0:Int) ≤ (12297368366147926462:Int)),((12297368366147926462:Int) < (18446744073709551616:Int)),((0:Int) ≤ (4555124010822409633:Int)),((4555124010822409633:Int) < (18446744073709551616:Int)),((0:Int) ≤ (2771000935339432363:Int)),((2771000935339432363:Int) < (18446744073709551616:Int)),((0:Int) ≤ (14645187562128761775:Int)),((14645187562128761775:Int) < (18446744073709551616:Int)),((0:Int) ≤ (3651525051980876697:Int)),((3651525051980876697:Int) < (18446744073709551616:Int)),((0:Int) ≤ (434250606344352972:Int)),((434250606344352972:Int) < (18446744073709551616:Int))],((.v (.a [(.ob (.fp (Fin.ofNat B6 352701069587466618187139116011060144890029952792775240219908644239793785735715026873347600343865175952761926303160))),(.ob (.fp (Fin.ofNat B6 3059144344244213709971259814753781636986470325476647558659373206291635324768958432433509563104347017837885763365758))),(.ob (.fp (Fin.ofNat B6 1985150602287291935568054521177171638300868978215655730859378665066344726373823718423869104263333984641494340347905))),(.ob (.fp (Fin.ofNat B6 927553665492332455747201965776037880757740193453592970025027978793976877002675564980949289727957565575433344219582))),(.lit false)])),[]))) := by kernel_rfl
theorem ze2R  : fnRes qzH Try.f33 3000 [] [] [] [] = (some ([],((.v (.a [(.ob (.fp (0:U6))),(.ob (.fp (0:U6))),(.ob (.fp (0:U6))),(.ob (.fp (0:U6))),(.lit true)])),[]))) := by kernel_rfl
end Go.Proofs.Ytkfcphigoncgjaa

/- The reference's functions on points of the second curve: contracts. No conditions. -/
namespace Go.Proofs.Ytkfcphigoncgjaa

def genG2 : G2D := ⟨Fin.ofNat B6 352701069587466618187139116011060144890029952792775240219908644239793785735715026873347600343865175952761926303160, Fin.ofNat B6 3059144344244213709971259814753781636986470325476647558659373206291635324768958432433509563104347017837885763365758, Fin.ofNat B6 1985150602287291935568054521177171638300868978215655730859378665066344726373823718423869104263333984641494340347905, Fin.ofNat B6 927553665492332455747201965776037880757740193453592970025027978793976877002675564980949289727957565575433344219582, false⟩

theorem gen2_fnd : FnD Try.prog 76 [] (.v (.a genG2.its)) [] :=
  (fn_sound qzH_ok Try.func76 ge2R (by simp [AllP])).conv (fun _ _ h => h) fun y v hd => lit_fifth hd
theorem zeroG2_fnd : FnD Try.prog 33 [] (.v (.a (G2D.mk 0 0 0 0 true).its)) [] :=
  (fn_sound qzH_ok Try.func33 ze2R (by simp [AllP])).conv (fun _ _ h => h) fun y v hd => lit_fifth hd

end Go.Proofs.Ytkfcphigoncgjaa

/- Sums and negatives of points of the second curve outside, walked. No conditions. -/
namespace Go.Proofs.Ytkfcphigoncgjaa

def right2Spec : FnSpec
  | [.v (.a [.ob (.fp a), .ob (.fp b), .ob (.fp c), .ob (.fp d), .bool i])] => some ([], .v (.c (.bool (onG2 ⟨a, b, c, d, i⟩))), [])
  | _ => none
noncomputable def rtA : Env := qzH.set (addT qzH.fn 49 right2Spec)
theorem rtA_ok : EnvOk Try.prog rtA := env_add qzH_ok 49 right2Spec (enters_of Try.func49 rfl rfl) fun args o r es h _ => by
  unfold right2Spec at h
  split at h
  · cases h; exact fn_sound qzH_ok Try.func49 (ri2R _ _ _ _ _) trivial
  · cases h
def gen2Spec : FnSpec
  | [] => some ([], .v (.a genG2.its), [])
  | _ => none
noncomputable def rtC : Env := rtA.set (addT rtA.fn 76 gen2Spec)
theorem rtC_ok : EnvOk Try.prog rtC := env_add rtA_ok 76 gen2Spec (enters_of Try.func76 rfl rfl) fun args o r es h _ => by
  unfold gen2Spec at h
  split at h
  · cases h; exact gen2_fnd
  · cases h
def zeroG2Spec : FnSpec
  | [] => some ([], .v (.a (G2D.mk 0 0 0 0 true).its), [])
  | _ => none
noncomputable def rtG : Env := rtC.set (addT rtC.fn 33 zeroG2Spec)
theorem rtG_ok : EnvOk Try.prog rtG := env_add rtC_ok 33 zeroG2Spec (enters_of Try.func33 rfl rfl) fun args o r es h _ => by
  unfold zeroG2Spec at h
  split at h
  · cases h; exact zeroG2_fnd
  · cases h
--@env rtG rtG_ok
instance : Inhabited G2D := ⟨g20⟩
theorem ad2A (a b : G2D) : fnRes rtG Try.f26 3000 [.v (.a a.its),.v (.a b.its)] [true,true] [] [] = (some ([((Bool.not (onG2 a)) = true)],((.t [(.a [(.ob (.fp (0:U6))),(.ob (.fp (0:U6))),(.ob (.fp (0:U6))),(.ob (.fp (0:U6))),(.lit false)]),(.c (.int .i64 (30:Int)))]),[]))) := by kernel_rfl
theorem ad2B (a b : G2D) : fnRes rtG Try.f26 3000 [.v (.a a.its),.v (.a b.its)] [false,true] [] [] = (some ([((Bool.not (onG2 a)) = false),((Bool.not (onG2 b)) = true)],((.t [(.a [(.ob (.fp (0:U6))),(.ob (.fp (0:U6))),(.ob (.fp (0:U6))),(.ob (.fp (0:U6))),(.lit false)]),(.c (.int .i64 (30:Int)))]),[]))) := by kernel_rfl
theorem ad2C (a b : G2D) : fnRes rtG Try.f26 3000 [.v (.a a.its),.v (.a b.its)] [false,false] [] [] = (some ([((Bool.not (onG2 a)) = false),((Bool.not (onG2 b)) = false)],((.t [(.a [(.ob (.fp (G2D.xa (outG2 (jpl (inG2 a) (inG2 b)))))),(.ob (.fp (G2D.xb (outG2 (jpl (inG2 a) (inG2 b)))))),(.ob (.fp (G2D.ya (outG2 (jpl (inG2 a) (inG2 b)))))),(.ob (.fp (G2D.yb (outG2 (jpl (inG2 a) (inG2 b)))))),(.bool (G2D.inf (outG2 (jpl (inG2 a) (inG2 b)))))]),(.c (.int .i64 (0:Int)))]),[]))) := by kernel_rfl
theorem ne2A (a : G2D) : fnRes rtG Try.f27 3000 [.v (.a a.its)] [true] [] [] = (some ([((Bool.not (onG2 a)) = true)],((.t [(.a [(.ob (.fp (0:U6))),(.ob (.fp (0:U6))),(.ob (.fp (0:U6))),(.ob (.fp (0:U6))),(.lit false)]),(.c (.int .i64 (30:Int)))]),[]))) := by kernel_rfl
theorem ne2B (a : G2D) : fnRes rtG Try.f27 3000 [.v (.a a.its)] [false] [] [] = (some ([((Bool.not (onG2 a)) = false)],((.t [(.a [(.ob (.fp (G2D.xa (outG2 (jng (inG2 a)))))),(.ob (.fp (G2D.xb (outG2 (jng (inG2 a)))))),(.ob (.fp (G2D.ya (outG2 (jng (inG2 a)))))),(.ob (.fp (G2D.yb (outG2 (jng (inG2 a)))))),(.bool (G2D.inf (outG2 (jng (inG2 a)))))]),(.c (.int .i64 (0:Int)))]),[]))) := by kernel_rfl
end Go.Proofs.Ytkfcphigoncgjaa

/- Sums and negatives of points of the second curve outside: contracts. No conditions. -/
namespace Go.Proofs.Ytkfcphigoncgjaa

/-- What Add and Neg tell. -/
def adR2 (a b : G2D) : G2D × Int := if onG2 a && onG2 b then (addG2 a b, 0) else (g20, 30)
def neR2 (a : G2D) : G2D × Int := if onG2 a then (negG2 a, 0) else (g20, 30)
theorem adR2_on {a b : G2D} (ha : onG2 a = true) (hb : onG2 b = true) : adR2 a b = (addG2 a b, 0) := by unfold adR2; rw [ha, hb]; rfl
theorem adR2_off1 {a b : G2D} (ha : onG2 a = false) : adR2 a b = (g20, 30) := by unfold adR2; rw [ha]; rfl
theorem adR2_off2 {a b : G2D} (hb : onG2 b = false) : adR2 a b = (g20, 30) := by unfold adR2; rw [hb, Bool.and_false]; rfl
theorem neR2_on {a : G2D} (ha : onG2 a = true) : neR2 a = (negG2 a, 0) := by unfold neR2; rw [ha]; rfl
theorem neR2_off {a : G2D} (ha : onG2 a = false) : neR2 a = (g20, 30) := by unfold neR2; rw [ha]; rfl

theorem add2_fnd (a b : G2D) : FnD Try.prog 26 [.v (.a a.its), .v (.a b.its)] (.t [.a (adR2 a b).1.its, .c (.int .i64 (adR2 a b).2)]) [] := by
  by_cases h1 : onG2 a = true
  · by_cases h2 : onG2 b = true
    · rw [adR2_on h1 h2]
      exact fn_sound rtG_ok Try.func26 (ad2C a b) ⟨congrArg not h1, congrArg not h2, trivial⟩
    · have h2 : onG2 b = false := Bool.eq_false_iff.2 h2
      rw [adR2_off2 h2]
      exact (fn_sound rtG_ok Try.func26 (ad2B a b) ⟨congrArg not h1, congrArg not h2, trivial⟩).conv (fun _ _ h => h) fun y v hd => lit_fifth_t hd
  · have h1 : onG2 a = false := Bool.eq_false_iff.2 h1
    rw [adR2_off1 h1]
    exact (fn_sound rtG_ok Try.func26 (ad2A a b) ⟨congrArg not h1, trivial⟩).conv (fun _ _ h => h) fun y v hd => lit_fifth_t hd

theorem neg2_fnd (a : G2D) : FnD Try.prog 27 [.v (.a a.its)] (.t [.a (neR2 a).1.its, .c (.int .i64 (neR2 a).2)]) [] := by
  by_cases h1 : onG2 a = true
  · rw [neR2_on h1]
    exact fn_sound rtG_ok Try.func27 (ne2B a) ⟨congrArg not h1, trivial⟩
  · have h1 : onG2 a = false := Bool.eq_false_iff.2 h1
    rw [neR2_off h1]
    exact (fn_sound rtG_ok Try.func27 (ne2A a) ⟨congrArg not h1, trivial⟩).conv (fun _ _ h => h) fun y v hd => lit_fifth_t hd

theorem eq_bits2 {a b : G2D} (h : a = b) : (decide (a.xa = b.xa) && (decide (a.xb = b.xb) && (decide (a.ya = b.ya) && (decide (a.yb = b.yb) && (a.inf == b.inf))))) = true := by
  subst h
  simp

end Go.Proofs.Ytkfcphigoncgjaa

/- The second curve is a group: the plain law. No conditions. -/
namespace Go.Proofs.Ytkfcphigoncgjaa

theorem neg1_p : (-1 : Fp) = Fin.ofNat pN (pN - 1) := by decide +kernel
theorem neg1_val : (Fin.ofNat pN (pN - 1)).val = pN - 1 := by decide +kernel
theorem halves_p : pN - 1 = (pN - 1) / 2 + (pN - 1) / 2 := by decide +kernel
theorem neg1_pow : mpow pN (pN - 1) 384 ((pN - 1) / 2) ≠ 1 := by decide +kernel
theorem half_lt : (pN - 1) / 2 < 2 ^ 384 := by decide +kernel
theorem neg1_ne : (0 : Fp) * 0 ≠ -1 := by decide +kernel
theorem no_root (t : Fp) : t * t ≠ -1 := by
  intro h
  by_cases ht : t = 0
  · rw [ht] at h
    exact neg1_ne h
  · have e := two_pw t ((pN - 1) / 2)
    rw [← halves_p, fermat_p t ht, h, neg1_p] at e
    have := congrArg Fin.val e
    rw [pw_mpow _ 384 _ half_lt, neg1_val, one_val_p] at this
    exact neg1_pow this

theorem one_ne_2 : (1 : F2) ≠ 0 := by decide +kernel
theorem two_ne_2 : (1 : F2) + 1 ≠ 0 := by decide +kernel
theorem norm_b : nQ2 ((0 : F2) - fq4) = Fin.ofNat pN 32 := by decide +kernel
theorem val32 : (Fin.ofNat pN 32).val = 32 := by decide +kernel
theorem pow32 : mpow pN 32 384 ((pN - 1) / 3) ≠ 1 := by decide +kernel

theorem neg_of_sum2 {a b : F2} (h : a + b = 0) : a = 0 - b := neg_of_sumR h
where neg_of_sumR {r : Nat} [NeZero r] {a b : Q2 r} (h : a + b = 0) : a = 0 - b := by grind

theorem no2_q (x : F2) : x * x * x + fq4 ≠ 0 := by
  intro h
  have h := congrArg nQ2 (neg_of_sum2 h)
  rw [norm_b, nQ2_mul, nQ2_mul] at h
  refine cube_ne _ (fun e => ?_) (fun e => ?_) (nQ2 x) h
  · have := congrArg Fin.val e
    rw [pw_mpow _ 384 _ third_lt, val32, one_val_p] at this
    exact pow32 this
  · have := congrArg Fin.val e
    rw [val32] at this
    revert this
    decide +kernel

instance fldQ : Fld F2 :=
  { (ringQ2 : CRing (Q2 pN)) with
    inv := ivQ2 ivP
    mul_inv := ivQ2_mul ivP ivP_mul (nQ2_zero ivP ivP_mul no_root)
    one_ne := one_ne_2 }

theorem cv2 : Cv fq4 := ⟨two_ne_2, no2_q⟩

/-- A point outside, as a point; and back. -/
def pG2 (a : G2D) : Pt F2 := if a.inf then none else some (inP2 a.xa a.xb, inP2 a.ya a.yb)
def gP2 : Pt F2 → G2D
  | none => ⟨0, 0, 0, 0, true⟩
  | some p => ⟨outP p.1.1, outP p.1.2, outP p.2.1, outP p.2.2, false⟩

theorem in_out2 (x : F2) : inP2 (outP x.1) (outP x.2) = x := by
  unfold inP2
  rw [in_out, in_out]

theorem pG_gP2 : ∀ P : Pt F2, pG2 (gP2 P) = P
  | none => rfl
  | some p => by
    show some (inP2 (outP p.1.1) (outP p.1.2), inP2 (outP p.2.1) (outP p.2.2)) = some p
    rw [in_out2, in_out2]

theorem onG2_is {a : G2D} (h : onG2 a = true) : gP2 (pG2 a) = a ∧ OnC fq4 (pG2 a) := by
  obtain ⟨xa, xb, ya, yb, i⟩ := a
  cases i with
  | true =>
    have h : (decide (xa = 0) && (decide (xb = 0) && (decide (ya = 0) && decide (yb = 0)))) = true := h
    simp only [Bool.and_eq_true, decide_eq_true_eq] at h
    obtain ⟨rfl, rfl, rfl, rfl⟩ := h
    exact ⟨rfl, True.intro⟩
  | false =>
    have h : ((decide (outP (inP xa) = xa) && decide (outP (inP xb) = xb)) && ((decide (outP (inP ya) = ya) && decide (outP (inP yb) = yb)) && decide (inP2 ya yb * inP2 ya yb = inP2 xa xb * inP2 xa xb * inP2 xa xb + fq4))) = true := h
    simp only [Bool.and_eq_true, decide_eq_true_eq] at h
    obtain ⟨⟨h1, h2⟩, ⟨h3, h4⟩, h5⟩ := h
    refine ⟨?_, h5⟩
    show (⟨outP (inP xa), outP (inP xb), outP (inP ya), outP (inP yb), false⟩ : G2D) = ⟨xa, xb, ya, yb, false⟩
    rw [h1, h2, h3, h4]

theorem onG2_gP : ∀ {P : Pt F2}, OnC fq4 P → onG2 (gP2 P) = true
  | none, _ => by
    show (decide ((0 : U6) = 0) && (decide ((0 : U6) = 0) && (decide ((0 : U6) = 0) && decide ((0 : U6) = 0)))) = true
    rw [decide_eq_true rfl]; rfl
  | some p, h => by
    have h : p.2 * p.2 = p.1 * p.1 * p.1 + fq4 := h
    show ((decide (outP (inP (outP p.1.1)) = outP p.1.1) && decide (outP (inP (outP p.1.2)) = outP p.1.2)) && ((decide (outP (inP (outP p.2.1)) = outP p.2.1) && decide (outP (inP (outP p.2.2)) = outP p.2.2)) && decide (inP2 (outP p.2.1) (outP p.2.2) * inP2 (outP p.2.1) (outP p.2.2) = inP2 (outP p.1.1) (outP p.1.2) * inP2 (outP p.1.1) (outP p.1.2) * inP2 (outP p.1.1) (outP p.1.2) + fq4))) = true
    rw [in_out2, in_out2, in_out, in_out, in_out, in_out, decide_eq_true rfl, decide_eq_true rfl, decide_eq_true rfl, decide_eq_true rfl, decide_eq_true h]
    rfl

theorem one_sq2 : (1 : F2) * 1 = 1 := by decide +kernel
theorem fq1_one : ((fp1, 0) : F2) = 1 := by decide +kernel
theorem mul_one_q {r : Nat} [NeZero r] (x : Q2 r) : x * 1 = x := by grind
theorem mul_one2 (x : F2) : x * 1 = x := mul_one_q x
theorem inG2_jc (a : G2D) : Jc (pG2 a) (inG2 a) := by
  obtain ⟨xa, xb, ya, yb, i⟩ := a
  cases i with
  | true => exact (rfl : (0 : F2) = 0)
  | false =>
    show Jc (some (inP2 xa xb, inP2 ya yb)) (inP2 xa xb, inP2 ya yb, (fp1, 0))
    rw [fq1_one]
    refine ⟨one_ne_2, ?_, ?_⟩
    · show inP2 xa xb = inP2 xa xb * (1 * 1)
      rw [one_sq2, mul_one2]
    · show inP2 ya yb = inP2 ya yb * (1 * 1 * 1)
      rw [one_sq2, one_sq2, mul_one2]

theorem outG2_jc {P : Pt F2} {t : F2 × F2 × F2} (h : Jc P t) : outG2 t = gP2 P := by
  rw [← jpt_of P t h]
  unfold outG2 jpt
  by_cases hz : t.2.2 = 0
  · rw [if_pos hz, if_pos hz]; rfl
  · rw [if_neg hz, if_neg hz]; rfl

theorem addG2_is (a b : G2D) : addG2 a b = gP2 (gadd (pG2 a) (pG2 b)) := outG2_jc (jpl_ok two_ne_2 _ _ _ _ (inG2_jc a) (inG2_jc b))
theorem negG2_is (a : G2D) : negG2 a = gP2 (gneg (pG2 a)) := outG2_jc (jng_ok _ _ (inG2_jc a))
theorem pG2_add (a b : G2D) : pG2 (addG2 a b) = gadd (pG2 a) (pG2 b) := by rw [addG2_is, pG_gP2]
theorem pG2_neg (a : G2D) : pG2 (negG2 a) = gneg (pG2 a) := by rw [negG2_is, pG_gP2]
theorem on_add2 {a b : G2D} (ha : onG2 a = true) (hb : onG2 b = true) : onG2 (addG2 a b) = true := by
  rw [addG2_is]
  exact onG2_gP (gadd_on cv2 _ _ (onG2_is ha).2 (onG2_is hb).2)
theorem on_neg2 {a : G2D} (ha : onG2 a = true) : onG2 (negG2 a) = true := by
  rw [negG2_is]
  exact onG2_gP (gneg_on _ (onG2_is ha).2)
theorem addG2_comm {a b : G2D} (ha : onG2 a = true) (hb : onG2 b = true) : addG2 a b = addG2 b a := by
  rw [addG2_is, addG2_is, gadd_comm cv2 _ _ (onG2_is ha).2 (onG2_is hb).2]
theorem addG2_assoc {a b c : G2D} (ha : onG2 a = true) (hb : onG2 b = true) (hc : onG2 c = true) : addG2 (addG2 a b) c = addG2 a (addG2 b c) := by
  rw [addG2_is (addG2 a b), pG2_add, addG2_is a (addG2 b c), pG2_add, gadd_assoc cv2 _ _ _ (onG2_is ha).2 (onG2_is hb).2 (onG2_is hc).2]
theorem addG2_zero {a : G2D} (ha : onG2 a = true) : addG2 a ⟨0, 0, 0, 0, true⟩ = a := by
  rw [addG2_is]
  show gP2 (gadd (pG2 a) none) = a
  rw [gadd_none, (onG2_is ha).1]
theorem addG2_neg {a : G2D} (ha : onG2 a = true) : addG2 a (negG2 a) = ⟨0, 0, 0, 0, true⟩ := by
  rw [addG2_is, pG2_neg, gadd_gneg cv2 _ (onG2_is ha).2]
  rfl
theorem on_zero2 : onG2 ⟨0, 0, 0, 0, true⟩ = true := onG2_gP (P := none) True.intro
end Go.Proofs.Ytkfcphigoncgjaa

/- Sums and negatives of points of the second curve: contracts. No conditions. -/
namespace Go.Proofs.Ytkfcphigoncgjaa

def add2Spec1 : FnSpec
  | [.v (.a [.ob (.fp a), .ob (.fp b), .ob (.fp c), .ob (.fp d), .bool i]), .v (.a [.ob (.fp e), .ob (.fp f), .ob (.fp g), .ob (.fp h), .bool j])] => some ([], .t [.a (adR2 ⟨a, b, c, d, i⟩ ⟨e, f, g, h, j⟩).1.its, .c (.int .i64 (adR2 ⟨a, b, c, d, i⟩ ⟨e, f, g, h, j⟩).2)], [])
  | _ => none
noncomputable def rtL : Env := rtG.set (addT rtG.fn 26 add2Spec1)
theorem rtL_ok : EnvOk Try.prog rtL := env_add rtG_ok 26 add2Spec1 (enters_of Try.func26 rfl rfl) fun args o r es h _ => by
  unfold add2Spec1 at h
  split at h
  · cases h; exact add2_fnd ⟨_, _, _, _, _⟩ ⟨_, _, _, _, _⟩
  · cases h
def neg2Spec1 : FnSpec
  | [.v (.a [.ob (.fp a), .ob (.fp b), .ob (.fp c), .ob (.fp d), .bool i])] => some ([], .t [.a (neR2 ⟨a, b, c, d, i⟩).1.its, .c (.int .i64 (neR2 ⟨a, b, c, d, i⟩).2)], [])
  | _ => none
noncomputable def rtM : Env := rtL.set (addT rtL.fn 27 neg2Spec1)
theorem rtM_ok : EnvOk Try.prog rtM := env_add rtL_ok 27 neg2Spec1 (enters_of Try.func27 rfl rfl) fun args o r es h _ => by
  unfold neg2Spec1 at h
  split at h
  · cases h; exact neg2_fnd ⟨_, _, _, _, _⟩
  · cases h
--@env rtM rtM_ok
end Go.Proofs.Ytkfcphigoncgjaa

/- The second curve: all so far. No conditions. -/
namespace Go.Proofs.Ytkfcphigoncgjaa
end Go.Proofs.Ytkfcphigoncgjaa

/- A point of the second curve as often as a number says: walked. No conditions. -/
namespace Go.Proofs.Ytkfcphigoncgjaa
section
variable {w0 : World} {F0 : Nat → Prop} {K : Kp} {ac : List Act} {Q : Exit → Act → World → Prop} {cX : Ctx} {aX : Act}

--@env rtM rtM_ok
noncomputable def ny_k : List KI := (run rtM false 3000 ((fun (a b c d e f : Fp) (k : U4) => (⟨[.code (bodyOf Try.f82)], .normal, initSt Try.f82.ntmps [.v (.a [.ob (.p a), .ob (.p b), .ob (.p c), .ob (.p d), .ob (.p e), .ob (.p f)]), .v (.a [.ob (.fr k)])]⟩ : Cfg)) default default default default default default default) []).cfg.k
theorem ny_hk (a b c d e f : Fp) (k : U4) : (run rtM false 3000 ((⟨[.code (bodyOf Try.f82)], .normal, initSt Try.f82.ntmps [.v (.a [.ob (.p a), .ob (.p b), .ob (.p c), .ob (.p d), .ob (.p e), .ob (.p f)]), .v (.a [.ob (.fr k)])]⟩ : Cfg)) []).cfg.k = ny_k := by kernel_rfl
theorem ny (a b c d e f : Fp) (k : U4) (ho : AllP [((0:Int) ≤ (0:Int)),((0:Int) < (16:Int))]) (hs : Sim w0 F0 K ac (initSt Try.f82.ntmps [.v (.a [.ob (.p a),.ob (.p b),.ob (.p c),.ob (.p d),.ob (.p e),.ob (.p f)]),.v (.a [.ob (.fr k)])]) cX aX) (hK : ∀ ac cY aY,Sim w0 F0 K ac (mkSt 43 [2,3,4,5,6] [.pt 16 0,.pt 32 0,.pt 48 0,.pt 64 0,.ii (1:Int)] [16,32,48,64] [(some (.fl [.ob (.p a),.ob (.p b),.ob (.p c),.ob (.p d),.ob (.p e),.ob (.p f)])),(some (.fl [.ob (.fr k)])),(some (.fl [(.ob (.p (0:Fp))),(.ob (.p (0:Fp))),(.ob (.p (0:Fp))),(.ob (.p (0:Fp))),(.ob (.p (0:Fp))),(.ob (.p (0:Fp)))])),(some (.fl [.ob (.p a),.ob (.p b),.ob (.p c),.ob (.p d),(.ob (.p (0:Fp))),(.ob (.p (0:Fp))),(.ob (.p (0:Fp))),(.ob (.p (0:Fp))),(.ob (.p (0:Fp))),(.ob (.p (0:Fp))),(.ob (.p (0:Fp))),(.ob (.p (0:Fp))),(.ob (.p (0:Fp))),(.ob (.p (0:Fp))),(.ob (.p (0:Fp))),(.ob (.p (0:Fp))),(.ob (.p (0:Fp))),(.ob (.p (0:Fp))),(.ob (.p (0:Fp))),(.ob (.p (0:Fp))),(.ob (.p (0:Fp))),(.ob (.p (0:Fp))),(.ob (.p (0:Fp))),(.ob (.p (0:Fp))),(.ob (.p (0:Fp))),(.ob (.p (0:Fp))),(.ob (.p (0:Fp))),(.ob (.p (0:Fp))),(.ob (.p (0:Fp))),(.ob (.p (0:Fp))),(.ob (.p (0:Fp))),(.ob (.p (0:Fp))),(.ob (.p (0:Fp))),(.ob (.p (0:Fp))),(.ob (.p (0:Fp))),(.ob (.p (0:Fp))),(.ob (.p (0:Fp))),(.ob (.p (0:Fp))),(.ob (.p (0:Fp))),(.ob (.p (0:Fp))),(.ob (.p (0:Fp))),(.ob (.p (0:Fp))),(.ob (.p (0:Fp))),(.ob (.p (0:Fp))),(.ob (.p (0:Fp))),(.ob (.p (0:Fp))),(.ob (.p (0:Fp))),(.ob (.p (0:Fp))),(.ob (.p (0:Fp))),(.ob (.p (0:Fp))),(.ob (.p (0:Fp))),(.ob (.p (0:Fp))),(.ob (.p (0:Fp))),(.ob (.p (0:Fp))),(.ob (.p (0:Fp))),(.ob (.p (0:Fp))),(.ob (.p (0:Fp))),(.ob (.p (0:Fp))),(.ob (.p (0:Fp))),(.ob (.p (0:Fp))),(.ob (.p (0:Fp))),(.ob (.p (0:Fp))),(.ob (.p (0:Fp))),(.ob (.p (0:Fp))),(.ob (.p (0:Fp))),(.ob (.p (0:Fp))),(.ob (.p (0:Fp))),(.ob (.p (0:Fp))),(.ob (.p (0:Fp))),(.ob (.p (0:Fp))),(.ob (.p (0:Fp))),(.ob (.p (0:Fp))),(.ob (.p (0:Fp))),(.ob (.p (0:Fp))),(.ob (.p (0:Fp))),(.ob (.p (0:Fp))),(.ob (.p (0:Fp))),(.ob (.p (0:Fp))),(.ob (.p (0:Fp))),(.ob (.p (0:Fp))),(.ob (.p (0:Fp))),(.ob (.p (0:Fp))),(.ob (.p (0:Fp))),(.ob (.p (0:Fp))),(.ob (.p (0:Fp))),(.ob (.p (0:Fp))),(.ob (.p (0:Fp))),(.ob (.p (0:Fp))),(.ob (.p (0:Fp))),(.ob (.p (0:Fp))),(.ob (.p (0:Fp))),(.ob (.p (0:Fp))),(.ob (.p (0:Fp))),(.ob (.p (0:Fp))),(.ob (.p (0:Fp))),(.ob (.p (0:Fp)))]))] 208 [] []) cY aY → Wq Try.prog Q (ny_k) ac Exit.normal aY cY.w) : Wq Try.prog Q ([.code (bodyOf Try.f82)]) ac .normal aX cX.w :=
  run_at2 (o := ⟨_, _, _, _, _, _, _⟩) rtM_ok (by kernel_rfl) (ny_hk a b c d e f k) ho hs hK
noncomputable def nyS (a b c d e f : Fp) (k : U4) (L : List (F2 × F2 × F2)) (i:Int) : St := mkSt 43 [2,3,4,5,6] [.pt 16 0,.pt 32 0,.pt 48 0,.pt 64 0,.v (.c (.int .i64 i))] [16,32,48,64] [(some (.fl [.ob (.p a),.ob (.p b),.ob (.p c),.ob (.p d),.ob (.p e),.ob (.p f)])),(some (.fl [.ob (.fr k)])),(some (.fl [(.ob (.p (0:Fp))),(.ob (.p (0:Fp))),(.ob (.p (0:Fp))),(.ob (.p (0:Fp))),(.ob (.p (0:Fp))),(.ob (.p (0:Fp)))])),some (.sq (.pt2 L))] 208 [] []
theorem nyA_hk (a b c d e f : Fp) (k : U4) (L : List (F2 × F2 × F2)) (i : Int) : (run rtM false 3000 ((⟨lpIn ny_k, .normal, nyS a b c d e f k L i⟩ : Cfg)) [true]).cfg.k = lpBk ny_k := by kernel_rfl
theorem nyA (a b c d e f : Fp) (k : U4) (L : List (F2 × F2 × F2)) (i:Int) (ho : AllP [((decide (i < (16:Int))) = true),((0:Int) ≤ (IntKind.wrap .i64 (i - (1:Int)))),((IntKind.wrap .i64 (i - (1:Int))) < (16:Int)),(0 = 0),(((IntKind.wrap .i64 (i - (1:Int)))).toNat < (List.length L)),((0:Int) ≤ i),(i < (16:Int)),(0 = 0),((i).toNat < (List.length L))]) (hs : Sim w0 F0 K ac (nyS a b c d e f k L i) cX aX) (hK : ∀ ac cY aY,Sim w0 F0 K ac (mkSt 43 [2,3,4,5,6] [.pt 16 0,.pt 32 0,.pt 48 0,.pt 64 0,(.ii (IntKind.wrap .i64 (i + (1:Int))))] [16,32,48,64] [(some (.fl [.ob (.p a),.ob (.p b),.ob (.p c),.ob (.p d),.ob (.p e),.ob (.p f)])),(some (.fl [.ob (.fr k)])),(some (.fl [(.ob (.p (0:Fp))),(.ob (.p (0:Fp))),(.ob (.p (0:Fp))),(.ob (.p (0:Fp))),(.ob (.p (0:Fp))),(.ob (.p (0:Fp)))])),(some (.sq (Sq.pt2 (List.set L (i).toNat (jpl (List.getD L ((IntKind.wrap .i64 (i - (1:Int)))).toNat pt20) ((a,b),((c,d),(e,f))))))))] 432 [] []) cY aY → Wq Try.prog Q (lpBk ny_k) ac Exit.normal aY cY.w) : Wq Try.prog Q (lpIn ny_k) ac .normal aX cX.w :=
  run_at2 (o := ⟨_, _, _, _, _, _, _⟩) rtM_ok (by kernel_rfl) (nyA_hk a b c d e f k L i) ho hs hK
noncomputable def nyB_k : List KI := (run rtM false 3000 ((fun (a b c d e f : Fp) (k : U4) (L : List (F2 × F2 × F2)) (i : Int) => (⟨lpIn ny_k, .normal, nyS a b c d e f k L i⟩ : Cfg)) default default default default default default default default default) [false]).cfg.k
theorem nyB_hk (a b c d e f : Fp) (k : U4) (L : List (F2 × F2 × F2)) (i : Int) : (run rtM false 3000 ((⟨lpIn ny_k, .normal, nyS a b c d e f k L i⟩ : Cfg)) [false]).cfg.k = nyB_k := by kernel_rfl
theorem nyB (a b c d e f : Fp) (k : U4) (L : List (F2 × F2 × F2)) (i:Int) (ho : AllP [((decide (i < (16:Int))) = false),((0:Int) ≤ (0:Int)),((0:Int) < (16:Int)),(0 = 0),(0 < (List.length L))]) (hs : Sim w0 F0 K ac (nyS a b c d e f k L i) cX aX) (hK : ∀ ac cY aY,Sim w0 F0 K ac (mkSt 43 [4,5,7,30] [.pt 48 0,.pt 64 0,.pt 272 0,(.v (.c (.clo 138 [(320,0)])))] [48,64,272,320] [(some (.fl [(.ob (.p (0:Fp))),(.ob (.p (0:Fp))),(.ob (.p (0:Fp))),(.ob (.p (0:Fp))),(.ob (.p (0:Fp))),(.ob (.p (0:Fp)))])),(some (.sq (Sq.pt2 L))),(some (.fl [(.ob (.p (Prod.fst (Prod.fst (List.getD L 0 pt20))))),(.ob (.p (Prod.snd (Prod.fst (List.getD L 0 pt20))))),(.ob (.p (Prod.fst (Prod.fst (Prod.snd (List.getD L 0 pt20)))))),(.ob (.p (Prod.snd (Prod.fst (Prod.snd (List.getD L 0 pt20)))))),(.ob (.p (Prod.fst (Prod.snd (Prod.snd (List.getD L 0 pt20)))))),(.ob (.p (Prod.snd (Prod.snd (Prod.snd (List.getD L 0 pt20))))))])),(some (.fl [.ob (.fr k)]))] 384 [] []) cY aY → Wq Try.prog Q (nyB_k) ac Exit.normal aY cY.w) : Wq Try.prog Q (lpIn ny_k) ac .normal aX cX.w :=
  run_at2 (o := ⟨_, _, _, _, _, _, _⟩) rtM_ok (by kernel_rfl) (nyB_hk a b c d e f k L i) ho hs hK
noncomputable def nyR (k : U4) (L : List (F2 × F2 × F2)) (o : F2 × F2 × F2) : St := mkSt 43 [4,5,7,30] [.pt 48 0,.pt 64 0,.pt 272 0,(.v (.c (.clo 138 [(320,0)])))] [48,64,272,320] [(some (.fl [(.ob (.p (0:Fp))),(.ob (.p (0:Fp))),(.ob (.p (0:Fp))),(.ob (.p (0:Fp))),(.ob (.p (0:Fp))),(.ob (.p (0:Fp)))])),(some (.sq (Sq.pt2 L))),some (.fl [.ob (.p o.1.1),.ob (.p o.1.2),.ob (.p o.2.1.1),.ob (.p o.2.1.2),.ob (.p o.2.2.1),.ob (.p o.2.2.2)]),(some (.fl [.ob (.fr k)]))] 384 [] []
theorem nrA_hk (k : U4) (L : List (F2 × F2 × F2)) (o : F2 × F2 × F2) (d : Int) : (run rtM false 3000 ((⟨[.code (rfA nyB_k)], .normal, roundSt (nyR k L o) [(31, .v (.c (.int .i64 d)))]⟩ : Cfg)) []).cfg.k = [] := by kernel_rfl
theorem nrA (k : U4) (L : List (F2 × F2 × F2)) (o : F2 × F2 × F2) (d:Int) {ρ : Option Nat} (ho : AllP []) (hs : Sim w0 F0 K ac (roundSt (nyR k L o) [(31,.v (.c (.int .i64 d)))]) cX aX) (hK : ∀ cY aY,Sim w0 F0 K ac (mkSt 43 [4,5,7,8] [.pt 48 0,.pt 64 0,.pt 272 0,.ii d] [48,64,272,320] [(some (.fl [(.ob (.p (0:Fp))),(.ob (.p (0:Fp))),(.ob (.p (0:Fp))),(.ob (.p (0:Fp))),(.ob (.p (0:Fp))),(.ob (.p (0:Fp)))])),(some (.sq (Sq.pt2 L))),(some (.fl [(.ob (.p (Prod.fst (Prod.fst o)))),(.ob (.p (Prod.snd (Prod.fst o)))),(.ob (.p (Prod.fst (Prod.fst (Prod.snd o))))),(.ob (.p (Prod.snd (Prod.fst (Prod.snd o))))),(.ob (.p (Prod.fst (Prod.snd (Prod.snd o))))),(.ob (.p (Prod.snd (Prod.snd (Prod.snd o)))))])),(some (.fl [.ob (.fr k)]))] 400 [[4,5,7,30]] [([.pt 48 0,.pt 64 0,.pt 272 0,(.v (.c (.clo 138 [(320,0)])))],43)]) cY aY → Wq Try.prog Q ([]) ac Exit.normal aY cY.w ρ) : Wq Try.prog Q ([.code (rfA nyB_k)]) ac .normal aX cX.w ρ :=
  run_atT (o := ⟨_, _, _, _, _, _, _⟩) rtM_ok (by kernel_rfl) (nrA_hk k L o d) ho (by kernel_rfl) (by kernel_rfl) hs hK
noncomputable def nrB (k : U4) (L : List (F2 × F2 × F2)) (o : F2 × F2 × F2) (d:Int) : St := mkSt 43 [4,5,7,8] [.pt 48 0,.pt 64 0,.pt 272 0,.ii d] [48,64,272,320] [(some (.fl [(.ob (.p (0:Fp))),(.ob (.p (0:Fp))),(.ob (.p (0:Fp))),(.ob (.p (0:Fp))),(.ob (.p (0:Fp))),(.ob (.p (0:Fp)))])),(some (.sq (Sq.pt2 L))),some (.fl [.ob (.p o.1.1),.ob (.p o.1.2),.ob (.p o.2.1.1),.ob (.p o.2.1.2),.ob (.p o.2.2.1),.ob (.p o.2.2.2)]),(some (.fl [.ob (.fr k)]))] 400 [[4,5,7,30]] [([.pt 48 0,.pt 64 0,.pt 272 0,(.v (.c (.clo 138 [(320,0)])))],43)]
noncomputable def nrC_k : List KI := (run rtM false 3000 ((fun (k : U4) (L : List (F2 × F2 × F2)) (o : F2 × F2 × F2) (d : Int) => (⟨[.code (rfB nyB_k)], .normal, nrB k L o d⟩ : Cfg)) default default default default) []).cfg.k
theorem nrC_hk (k : U4) (L : List (F2 × F2 × F2)) (o : F2 × F2 × F2) (d : Int) : (run rtM false 3000 ((⟨[.code (rfB nyB_k)], .normal, nrB k L o d⟩ : Cfg)) []).cfg.k = nrC_k := by kernel_rfl
theorem nrC (k : U4) (L : List (F2 × F2 × F2)) (o : F2 × F2 × F2) (d:Int) {ρ : Option Nat} (ho : AllP []) (hs : Sim w0 F0 K ac (nrB k L o d) cX aX) (hK : ∀ cY aY,Sim w0 F0 K ac (mkSt 43 [4,5,7,8,32] [.pt 48 0,.pt 64 0,.pt 272 0,.ii d,.ii (0:Int)] [48,64,272,320] [(some (.fl [(.ob (.p (0:Fp))),(.ob (.p (0:Fp))),(.ob (.p (0:Fp))),(.ob (.p (0:Fp))),(.ob (.p (0:Fp))),(.ob (.p (0:Fp)))])),(some (.sq (Sq.pt2 L))),(some (.fl [(.ob (.p (Prod.fst (Prod.fst o)))),(.ob (.p (Prod.snd (Prod.fst o)))),(.ob (.p (Prod.fst (Prod.fst (Prod.snd o))))),(.ob (.p (Prod.snd (Prod.fst (Prod.snd o))))),(.ob (.p (Prod.fst (Prod.snd (Prod.snd o))))),(.ob (.p (Prod.snd (Prod.snd (Prod.snd o)))))])),(some (.fl [.ob (.fr k)]))] 416 [[4,5,7,30]] [([.pt 48 0,.pt 64 0,.pt 272 0,(.v (.c (.clo 138 [(320,0)])))],43)]) cY aY → Wq Try.prog Q (nrC_k) ac Exit.normal aY cY.w ρ) : Wq Try.prog Q ([.code (rfB nyB_k)]) ac .normal aX cX.w ρ :=
  run_atT (o := ⟨_, _, _, _, _, _, _⟩) rtM_ok (by kernel_rfl) (nrC_hk k L o d) ho (by kernel_rfl) (by kernel_rfl) hs hK
noncomputable def nrS (k : U4) (L : List (F2 × F2 × F2)) (o : F2 × F2 × F2) (d j:Int) : St := mkSt 43 [4,5,7,8,32] [.pt 48 0,.pt 64 0,.pt 272 0,.ii d,.v (.c (.int .i64 j))] [48,64,272,320] [(some (.fl [(.ob (.p (0:Fp))),(.ob (.p (0:Fp))),(.ob (.p (0:Fp))),(.ob (.p (0:Fp))),(.ob (.p (0:Fp))),(.ob (.p (0:Fp)))])),(some (.sq (Sq.pt2 L))),some (.fl [.ob (.p o.1.1),.ob (.p o.1.2),.ob (.p o.2.1.1),.ob (.p o.2.1.2),.ob (.p o.2.2.1),.ob (.p o.2.2.2)]),(some (.fl [.ob (.fr k)]))] 416 [[4,5,7,30]] [([.pt 48 0,.pt 64 0,.pt 272 0,(.v (.c (.clo 138 [(320,0)])))],43)]
theorem nrD_hk (k : U4) (L : List (F2 × F2 × F2)) (o : F2 × F2 × F2) (d j : Int) : (run rtM false 3000 ((⟨lpIn nrC_k, .normal, nrS k L o d j⟩ : Cfg)) [true]).cfg.k = lpBk nrC_k := by kernel_rfl
theorem nrD (k : U4) (L : List (F2 × F2 × F2)) (o : F2 × F2 × F2) (d j:Int) {ρ : Option Nat} (ho : AllP [((decide (j < (4:Int))) = true)]) (hs : Sim w0 F0 K ac (nrS k L o d j) cX aX) (hK : ∀ cY aY,Sim w0 F0 K ac (mkSt 43 [4,5,7,8,32] [.pt 48 0,.pt 64 0,.pt 272 0,.ii d,(.ii (IntKind.wrap .i64 (j + (1:Int))))] [48,64,272,320] [(some (.fl [(.ob (.p (0:Fp))),(.ob (.p (0:Fp))),(.ob (.p (0:Fp))),(.ob (.p (0:Fp))),(.ob (.p (0:Fp))),(.ob (.p (0:Fp)))])),(some (.sq (Sq.pt2 L))),(some (.fl [(.ob (.p (Prod.fst (Prod.fst (jtw o))))),(.ob (.p (Prod.snd (Prod.fst (jtw o))))),(.ob (.p (Prod.fst (Prod.fst (Prod.snd (jtw o)))))),(.ob (.p (Prod.snd (Prod.fst (Prod.snd (jtw o)))))),(.ob (.p (Prod.fst (Prod.snd (Prod.snd (jtw o)))))),(.ob (.p (Prod.snd (Prod.snd (Prod.snd (jtw o))))))])),(some (.fl [.ob (.fr k)]))] 512 [[4,5,7,30]] [([.pt 48 0,.pt 64 0,.pt 272 0,(.v (.c (.clo 138 [(320,0)])))],43)]) cY aY → Wq Try.prog Q (lpBk nrC_k) ac Exit.normal aY cY.w ρ) : Wq Try.prog Q (lpIn nrC_k) ac .normal aX cX.w ρ :=
  run_atT (o := ⟨_, _, _, _, _, _, _⟩) rtM_ok (by kernel_rfl) (nrD_hk k L o d j) ho (by kernel_rfl) (by kernel_rfl) hs hK
theorem nrE_hk (k : U4) (L : List (F2 × F2 × F2)) (o : F2 × F2 × F2) (d j : Int) : (run rtM false 3000 ((⟨lpIn nrC_k, .normal, nrS k L o d j⟩ : Cfg)) [false]).cfg.k = [] := by kernel_rfl
theorem nrE (k : U4) (L : List (F2 × F2 × F2)) (o : F2 × F2 × F2) (d j:Int) {ρ : Option Nat} (ho : AllP [((decide (j < (4:Int))) = false),((0:Int) ≤ d),(d < (16:Int)),(0 = 0),((d).toNat < (List.length L))]) (hs : Sim w0 F0 K ac (nrS k L o d j) cX aX) (hK : ∀ cY aY,Sim w0 F0 K ac (mkSt 43 [4] [.pt 48 0] [48,64,272,320] [(some (.fl [(.ob (.p (0:Fp))),(.ob (.p (0:Fp))),(.ob (.p (0:Fp))),(.ob (.p (0:Fp))),(.ob (.p (0:Fp))),(.ob (.p (0:Fp)))])),(some (.sq (Sq.pt2 L))),(some (.fl [(.ob (.p (Prod.fst (Prod.fst (jpl o (List.getD L (d).toNat pt20)))))),(.ob (.p (Prod.snd (Prod.fst (jpl o (List.getD L (d).toNat pt20)))))),(.ob (.p (Prod.fst (Prod.fst (Prod.snd (jpl o (List.getD L (d).toNat pt20))))))),(.ob (.p (Prod.snd (Prod.fst (Prod.snd (jpl o (List.getD L (d).toNat pt20))))))),(.ob (.p (Prod.fst (Prod.snd (Prod.snd (jpl o (List.getD L (d).toNat pt20))))))),(.ob (.p (Prod.snd (Prod.snd (Prod.snd (jpl o (List.getD L (d).toNat pt20)))))))])),(some (.fl [.ob (.fr k)]))] 528 [[4,5,7,30]] [([.pt 48 0,.pt 64 0,.pt 272 0,(.v (.c (.clo 138 [(320,0)])))],43)]) cY aY → Wq Try.prog Q ([]) ac Exit.normal aY cY.w ρ) : Wq Try.prog Q (lpIn nrC_k) ac .normal aX cX.w ρ :=
  run_atT (o := ⟨_, _, _, _, _, _, _⟩) rtM_ok (by kernel_rfl) (nrE_hk k L o d j) ho (by kernel_rfl) (by kernel_rfl) hs hK
noncomputable def nrF (k : U4) (L : List (F2 × F2 × F2)) (o : F2 × F2 × F2) : St := mkSt 43 [4] [.pt 48 0] [48,64,272,320] [(some (.fl [(.ob (.p (0:Fp))),(.ob (.p (0:Fp))),(.ob (.p (0:Fp))),(.ob (.p (0:Fp))),(.ob (.p (0:Fp))),(.ob (.p (0:Fp)))])),(some (.sq (Sq.pt2 L))),some (.fl [.ob (.p o.1.1),.ob (.p o.1.2),.ob (.p o.2.1.1),.ob (.p o.2.1.2),.ob (.p o.2.2.1),.ob (.p o.2.2.2)]),(some (.fl [.ob (.fr k)]))] 528 [[4,5,7,30]] [([.pt 48 0,.pt 64 0,.pt 272 0,(.v (.c (.clo 138 [(320,0)])))],43)]
theorem nrX_hk (k : U4) (L : List (F2 × F2 × F2)) (o : F2 × F2 × F2) : (run rtM false 3000 ((⟨rfR nyB_k, .normal, nyR k L o⟩ : Cfg)) []).cfg.k = [] := by kernel_rfl
theorem nrX (k : U4) (L : List (F2 × F2 × F2)) (o : F2 × F2 × F2) (ho : AllP []) (hs : Sim w0 F0 K ac (nyR k L o) cX aX) (hK : ∀ ac cY aY,Sim w0 F0 K ac (mkSt 43 [4] [.pt 48 0] [48] [(some (.fl [(.ob (.p (Prod.fst (Prod.fst o)))),(.ob (.p (Prod.snd (Prod.fst o)))),(.ob (.p (Prod.fst (Prod.fst (Prod.snd o))))),(.ob (.p (Prod.snd (Prod.fst (Prod.snd o))))),(.ob (.p (Prod.fst (Prod.snd (Prod.snd o))))),(.ob (.p (Prod.snd (Prod.snd (Prod.snd o)))))]))] 416 [] []) cY aY → Wq Try.prog Q ([]) ac Exit.ret aY cY.w) : Wq Try.prog Q (rfR nyB_k) ac .normal aX cX.w :=
  run_at2 (o := ⟨_, _, _, _, _, _, _⟩) rtM_ok (by kernel_rfl) (nrX_hk k L o) ho hs hK
noncomputable def nrZ (o : F2 × F2 × F2) : St := mkSt 43 [4] [.pt 48 0] [48] [some (.fl [.ob (.p o.1.1),.ob (.p o.1.2),.ob (.p o.2.1.1),.ob (.p o.2.1.2),.ob (.p o.2.2.1),.ob (.p o.2.2.2)])] 416 [] []
theorem nrR_end (o : F2 × F2 × F2) : runEnd rtM Try.f82 false 3000 (⟨[],.ret,nrZ o⟩) [] [] [] = (some ([],((.v (.a [(.ob (.p (Prod.fst (Prod.fst o)))),(.ob (.p (Prod.snd (Prod.fst o)))),(.ob (.p (Prod.fst (Prod.fst (Prod.snd o))))),(.ob (.p (Prod.snd (Prod.fst (Prod.snd o))))),(.ob (.p (Prod.fst (Prod.snd (Prod.snd o))))),(.ob (.p (Prod.snd (Prod.snd (Prod.snd o)))))])),[]))) := by kernel_rfl
end
end Go.Proofs.Ytkfcphigoncgjaa

/- A point of the second curve as often as a number says: contract. No conditions. -/
namespace Go.Proofs.Ytkfcphigoncgjaa

/-- Sixteen points of the second curve, one behind the other. -/
def flatPt2 (l : List (F2 × F2 × F2)) : Nat → Nat → List It
  | _, 0 => []
  | i, n + 1 => .ob (.p (l.getD i pt20).1.1) :: .ob (.p (l.getD i pt20).1.2) :: .ob (.p (l.getD i pt20).2.1.1) :: .ob (.p (l.getD i pt20).2.1.2) :: .ob (.p (l.getD i pt20).2.2.1) :: .ob (.p (l.getD i pt20).2.2.2) :: flatPt2 l (i + 1) n

theorem cat_flat2 {x : Ctx} (L : List (F2 × F2 × F2)) : ∀ (n i : Nat) (cs : List Value), catL x.D (flatPt2 L i n) cs → cs.length = n * 36 ∧ ∀ j, j < n → ∃ c, catL x.D (pt2Its (L.getD (i + j) pt20)) c ∧ ∀ (q : Nat) (v : Value), c[q]? = some v → cs[j * 36 + q]? = some v
  | 0, i, cs, h => by
    have h : cs = [] := h
    subst h
    exact ⟨rfl, fun j hj => absurd hj (Nat.not_lt_zero _)⟩
  | n + 1, i, cs, h => by
    obtain ⟨c1, r1, e1, h1, c2, r2, e2, h2, c3, r3, e3, h3, c4, r4, e4, h4, c5, r5, e5, h5, c6, r6, e6, h6, h7⟩ := h
    obtain ⟨hl, hj⟩ := cat_flat2 L n (i + 1) r6 h7
    have l1 : c1.length = 6 := D_len h1
    have l2 : c2.length = 6 := D_len h2
    have l3 : c3.length = 6 := D_len h3
    have l4 : c4.length = 6 := D_len h4
    have l5 : c5.length = 6 := D_len h5
    have l6 : c6.length = 6 := D_len h6
    subst e1 e2 e3 e4 e5 e6
    refine ⟨by simp only [List.length_append]; omega, fun j hjn => ?_⟩
    have e : c1 ++ (c2 ++ (c3 ++ (c4 ++ (c5 ++ (c6 ++ r6))))) = (c1 ++ (c2 ++ (c3 ++ (c4 ++ (c5 ++ c6))))) ++ r6 := by simp
    have hl36 : (c1 ++ (c2 ++ (c3 ++ (c4 ++ (c5 ++ c6))))).length = 36 := by simp only [List.length_append]; omega
    cases j with
    | zero =>
      refine ⟨c1 ++ (c2 ++ (c3 ++ (c4 ++ (c5 ++ (c6 ++ []))))), ⟨c1, _, rfl, h1, c2, _, rfl, h2, c3, _, rfl, h3, c4, _, rfl, h4, c5, _, rfl, h5, c6, _, rfl, h6, rfl⟩, fun q v hq => ?_⟩
      rw [List.append_nil] at hq
      have hlt : q < (c1 ++ (c2 ++ (c3 ++ (c4 ++ (c5 ++ c6))))).length := by
        rcases Nat.lt_or_ge q (c1 ++ (c2 ++ (c3 ++ (c4 ++ (c5 ++ c6))))).length with h | h
        · exact h
        · rw [List.getElem?_eq_none h] at hq; cases hq
      rw [Nat.zero_mul, Nat.zero_add, ← hq, e, List.getElem?_append_left hlt]
    | succ j =>
      obtain ⟨c, hc, hv⟩ := hj j (by omega)
      rw [show i + 1 + j = i + (j + 1) from by omega] at hc
      refine ⟨c, hc, fun q v hq => ?_⟩
      rw [e, List.getElem?_append_right (by rw [hl36]; omega), hl36, show (j + 1) * 36 + q - 36 = j * 36 + q from by omega]
      exact hv q v hq

theorem tab_conv2 {x : Ctx} (L : List (F2 × F2 × F2)) (h : L.length = 16) (cs : List Value) (hc : denEn x (.fl (flatPt2 L 0 16)) cs) : denEn x (.sq (.pt2 L)) cs := by
  obtain ⟨hl, hj⟩ := cat_flat2 L 16 0 cs hc
  refine ⟨?_, fun i hi => ?_⟩
  · show L.length * 36 ≤ cs.length
    rw [h, hl]
    exact Nat.le_refl _
  · have hi : i < L.length := hi
    rw [h] at hi
    obtain ⟨c, h1, h2⟩ := hj i hi
    rw [Nat.zero_add] at h1
    exact ⟨c, h1, h2⟩

def tab02 (x y : F2) : List (F2 × F2 × F2) := (x, y, 0) :: List.replicate 15 pt20

theorem many2_fnd (a b c d e f : Fp) (k : U4) : FnD Try.prog 82 [.v (.a [.ob (.p a), .ob (.p b), .ob (.p c), .ob (.p d), .ob (.p e), .ob (.p f)]), .v (.a [.ob (.fr k)])] (.v (.a (pt2Its (jmn (F := F2) ((a, b), (c, d), (e, f)) (dgT k.val 64))))) [] := by
  generalize hpa : (((a, b), (c, d), (e, f)) : F2 × F2 × F2) = pa
  refine fn_start_m (fn := Try.f82) (c := bodyOf Try.f82) Try.func82 rfl rfl fun x0 a0 hk hF hs => ?_
  refine ny a b c d e f k ⟨by decide, by decide, trivial⟩ hs fun ac cY aY hs1 => ?_
  have hs2 := hs1.blocks (ens' := [some (.fl [.ob (.p a), .ob (.p b), .ob (.p c), .ob (.p d), .ob (.p e), .ob (.p f)]), some (.fl [.ob (.fr k)]), some (.fl [.ob (.p 0), .ob (.p 0), .ob (.p 0), .ob (.p 0), .ob (.p 0), .ob (.p 0)]), some (.sq (.pt2 (tab02 (a, b) (c, d))))])
    ⟨.inl rfl, .inl rfl, .inl rfl, .inr ⟨_, _, _, rfl, rfl, rfl, fun cs h => tab_conv2 _ rfl cs h⟩, trivial⟩
  refine loop_rule (ι := { p : Nat × List (F2 × F2 × F2) // 1 ≤ p.1 ∧ p.1 ≤ 16 ∧ p.2.length = 16 ∧ ∀ j, j < p.1 → p.2.getD j pt20 = jtab pa j }) (fun p => nyS a b c d e f k p.1.2 (p.1.1 : Int)) (fun p => 16 - p.1.1) (c := lpC ny_k) (k := lpR ny_k) (by kernel_rfl) (fun p ih ac cY aY hs => ?_)
    ⟨(1, tab02 (a, b) (c, d)), Nat.le_refl 1, by show (1 : Nat) ≤ 16; omega, rfl, fun j hj => by
      have : j = 0 := by have hj : j < 1 := hj; omega
      subst this; rw [← hpa]; rfl⟩ (hs2.nx _)
  obtain ⟨⟨i, L⟩, h1, h16, hL, htab⟩ := p
  simp only at ih hs h1 h16 hL htab
  by_cases hi : i < 16
  · have e1 : IntKind.wrap IntKind.i64 ((i : Int) - 1) = ((i - 1 : Nat) : Int) := by rw [wrap_id (by omega) (by omega)]; omega
    have e2 : IntKind.wrap IntKind.i64 ((i : Int) + 1) = ((i + 1 : Nat) : Int) := by rw [wrap_id (by omega) (by omega)]; omega
    refine nyA a b c d e f k L i ⟨decide_eq_true (by omega), by rw [e1]; omega, by rw [e1]; omega, rfl, by rw [e1, Int.toNat_natCast, hL]; omega, by omega, by omega, rfl, by rw [Int.toNat_natCast, hL]; exact hi, trivial⟩ hs fun ac cZ aZ hs3 => ?_
    rw [e1, e2, Int.toNat_natCast, Int.toNat_natCast, htab (i - 1) (by omega), hpa] at hs3
    have e3 : jpl (jtab pa (i - 1)) pa = jtab pa i := by
      obtain ⟨m, rfl⟩ : ∃ m, i = m + 1 := ⟨i - 1, by omega⟩
      rfl
    rw [e3] at hs3
    refine ih ⟨(i + 1, L.set i (jtab pa i)), by show 1 ≤ i + 1; omega, hi, by show (L.set i _).length = 16; rw [List.length_set]; exact hL, fun j hj => ?_⟩ (by show 16 - (i + 1) < 16 - i; omega) ac cZ aZ (hs3.nx _)
    have hj : j < i + 1 := hj
    show (L.set i (jtab pa i)).getD j pt20 = _
    by_cases e : j = i
    · subst e
      simp [List.getD, hL, hi]
    · have : (L.set i (jtab pa i)).getD j pt20 = L.getD j pt20 := by
        simp [List.getD, List.getElem?_set_ne (Ne.symm e)]
      rw [this]
      exact htab j (by omega)
  · have : i = 16 := by omega
    subst this
    refine nyB a b c d e f k L _ ⟨by decide, by decide, by decide, rfl, by rw [hL]; decide, trivial⟩ hs fun ac cZ aZ hs3 => ?_
    rw [htab 0 (by decide)] at hs3
    obtain ⟨e1, e2⟩ := isRf_eq (k := nyB_k) (by kernel_rfl)
    rw [e1]
    have eP : (rfP nyB_k).toList = [31] := by kernel_rfl
    have eG : rfG nyB_k = .tmp 30 := by kernel_rfl
    refine range_rule (ps := rfP nyB_k) e2 hs3 (gf := 138) (caps := [(320, 0)]) (enters_of Try.func138 rfl rfl) (fun pre => nyR k L (pre.foldl (jst pa) (jtab pa 0))) (fun s => by rw [eG]; rfl) ⟨_, rfl⟩ (dgT k.val 64) dgVals dgEnc
      (fun y z => .cons ⟨rfl, 0, rfl⟩ .nil) (fun z => by rw [← Array.length_toList, eP]; rfl) (fun pre p hp => ?_) (digits_iter fun s => rfl) (fun pre d => nrB k L (pre.foldl (jst pa) (jtab pa 0)) d)
      (fun pre d => nrF k L ((pre ++ [d]).foldl (jst pa) (jtab pa 0))) (fun pre d => ⟨_, rfl⟩) (fun pre d hd w1 F1 K1 as1 Q1 l y1 b hs4 hQ => ?_) (fun pre d hd w1 F1 K1 as1 Q1 l y1 b hs4 hQ => ?_) fun D y1 hs4 hD hFD hd => ?_
    · rw [eP] at hp
      have h43 : (nyR k L (pre.foldl (jst pa) (jtab pa 0))).nt = 43 := rfl
      rw [h43]
      simp only [List.mem_cons, List.not_mem_nil, or_false] at hp
      subst hp
      decide
    · rw [eP] at hs4
      exact nrA k L _ d trivial hs4 fun cZ aZ hs5 => ⟨hQ _ _ (hs5.nx _)⟩
    · have hd16 : d < 16 := by
        obtain ⟨r, hr⟩ := hd
        exact dgT_lt (n := k.val) 64 d (by rw [hr]; simp)
      rw [List.foldl_append] at hQ
      generalize pre.foldl (jst pa) (jtab pa 0) = o at hs4 hQ
      have hst : List.foldl (jst pa) o [d] = jpl (jtws 4 o) (L.getD d pt20) := by
        rw [htab d hd16, List.foldl_cons, List.foldl_nil]
        exact jst_tws pa o d
      rw [hst] at hQ
      refine nrC k L o d trivial hs4 fun cV aV hs5 => ?_
      let I : { j : Nat // j ≤ 4 } → List Act → Act → World → Prop := fun j ac a w => ac = as1 ∧ ∃ z, z.w = w ∧ Sim w1 F1 K1 as1 (nrS k L (jtws j.1 o) d (j.1 : Int)) z a
      refine loop_inv (ρ := some l) I (fun j => 4 - j.1) (c := lpC nrC_k) (k := lpR nrC_k) (by kernel_rfl) (fun j ih ac aV w hI => ?_) ⟨0, Nat.zero_le _⟩ ⟨rfl, cV, rfl, hs5.nx _⟩
      obtain ⟨j, hj⟩ := j
      obtain ⟨rfl, cV, rfl, hs6⟩ := hI
      simp only at ih hs6
      by_cases hj4 : j < 4
      · have ej : jtw (jtws j o) = jtws (j + 1) o := (jtws_succ j o).symm
        generalize jtws j o = o1 at hs6 ej
        refine nrD k L _ d j ⟨decide_eq_true (by omega), trivial⟩ hs6 fun cU aU hs7 => ?_
        rw [wrap_id (n := (j : Int) + 1) (by omega) (by omega), ej] at hs7
        exact ih ⟨j + 1, hj4⟩ (by show 4 - (j + 1) < 4 - j; omega) _ aU _ ⟨rfl, cU, rfl, hs7.nx _⟩
      · have : j = 4 := by omega
        subst this
        refine nrE k L _ d _ ⟨by decide, by omega, by omega, rfl, by rw [Int.toNat_natCast, hL]; exact hd16, trivial⟩ hs6 fun cU aU hs7 => ?_
        rw [Int.toNat_natCast] at hs7
        generalize jpl (jtws 4 o) (L.getD d pt20) = q at hQ hs7
        exact ⟨hQ _ _ (hs7.nx _)⟩
    · have hs5 := hs4.marked rfl rfl D
      show Wq _ _ _ _ _ _ _ _
      have ej : (dgT k.val 64).foldl (jst pa) (jtab pa 0) = jmn pa (dgT k.val 64) := rfl
      rw [ej] at hs4 hs5
      generalize jmn pa (dgT k.val 64) = o at hs4 hs5 ⊢
      refine nrX k L o trivial hs5 fun ac cV aV hs6 => ⟨?_⟩
      have hs7 : Sim y1.w y1.F (kOwn y1 kAll (markOf D)) ac (nrZ o) cV aV := hs6
      exact fn_finish rtM_ok hk hF (nrR_end o) trivial (fun y v hd => hd) hs4 hD hFD hd rfl hs7

end Go.Proofs.Ytkfcphigoncgjaa

/- two.Mul, and TwoTimes' law, walked. No conditions. -/
namespace Go.Proofs.Ytkfcphigoncgjaa

/-- A point outside as often as a number says. -/
def mulG2 (a : G2D) (k : U4) : G2D := outG2 (jmn (inG2 a) (dgT k.val 64))
theorem mulG2_is {a : G2D} (ha : onG2 a = true) (k : U4) : mulG2 a k = gP2 (nmul (pG2 a) k.val) := by
  unfold mulG2
  generalize hl : dgT k.val 64 = l
  have h := jmn_ok cv2 (onG2_is ha).2 (inG2_jc a) l
  have e : dgV l = k.val := by rw [← hl]; exact dgV_is k
  rw [e] at h
  exact outG2_jc h
theorem pG2_mul {a : G2D} (ha : onG2 a = true) (k : U4) : pG2 (mulG2 a k) = nmul (pG2 a) k.val := by rw [mulG2_is ha, pG_gP2]
theorem on_mul2 {a : G2D} (ha : onG2 a = true) (k : U4) : onG2 (mulG2 a k) = true := by
  rw [mulG2_is ha]
  exact onG2_gP (nmul_on cv2 (onG2_is ha).2 _)


def many2Spec1 : FnSpec
  | [.v (.a [.ob (.p a), .ob (.p b), .ob (.p c), .ob (.p d), .ob (.p e), .ob (.p f)]), .v (.a [.ob (.fr k)])] => some ([], .v (.a (pt2Its (jmn (F := F2) ((a, b), (c, d), (e, f)) (dgT k.val 64)))), [])
  | _ => none
noncomputable def ruA : Env := rtM.set (addT rtM.fn 82 many2Spec1)
theorem ruA_ok : EnvOk Try.prog ruA := env_add rtM_ok 82 many2Spec1 (enters_of Try.func82 rfl rfl) fun args o r es h _ => by
  unfold many2Spec1 at h
  split at h
  · cases h; exact many2_fnd _ _ _ _ _ _ _
  · cases h
--@env ruA ruA_ok
theorem mu2A (a b c d : U6) (i : Bool) (k : U4) : fnRes ruA Try.f36 3000 [.v (.a [.ob (.fp a),.ob (.fp b),.ob (.fp c),.ob (.fp d),.bool i]),.v (.a [.ob (.fr k)])] [true] [] [] = (some ([((Bool.not (onG2 (G2D.mk a b c d i))) = true)],((.t [(.a [(.ob (.fp (0:U6))),(.ob (.fp (0:U6))),(.ob (.fp (0:U6))),(.ob (.fp (0:U6))),(.lit false)]),(.c (.int .i64 (30:Int)))]),[]))) := by kernel_rfl
theorem mu2B (a b c d : U6) (i : Bool) (k : U4) : fnRes ruA Try.f36 3000 [.v (.a [.ob (.fp a),.ob (.fp b),.ob (.fp c),.ob (.fp d),.bool i]),.v (.a [.ob (.fr k)])] [false] [] [] = (some ([((Bool.not (onG2 (G2D.mk a b c d i))) = false)],((.t [(.a [(.ob (.fp (G2D.xa (outG2 (jmn (inG2 (G2D.mk a b c d i)) (dgT (Fin.val k) 64)))))),(.ob (.fp (G2D.xb (outG2 (jmn (inG2 (G2D.mk a b c d i)) (dgT (Fin.val k) 64)))))),(.ob (.fp (G2D.ya (outG2 (jmn (inG2 (G2D.mk a b c d i)) (dgT (Fin.val k) 64)))))),(.ob (.fp (G2D.yb (outG2 (jmn (inG2 (G2D.mk a b c d i)) (dgT (Fin.val k) 64)))))),(.bool (G2D.inf (outG2 (jmn (inG2 (G2D.mk a b c d i)) (dgT (Fin.val k) 64)))))]),(.c (.int .i64 (0:Int)))]),[]))) := by kernel_rfl
/-- What Mul tells. -/
def muR2 (a : G2D) (k : U4) : G2D × Int := if onG2 a then (mulG2 a k, 0) else (g20, 30)
theorem muR2_on {a : G2D} (k : U4) (ha : onG2 a = true) : muR2 a k = (mulG2 a k, 0) := by unfold muR2; rw [ha]; rfl
theorem muR2_off {a : G2D} (k : U4) (ha : onG2 a = false) : muR2 a k = (g20, 30) := by unfold muR2; rw [ha]; rfl
theorem mul2_fnd (a b c d : U6) (i : Bool) (k : U4) : FnD Try.prog 36 [.v (.a [.ob (.fp a), .ob (.fp b), .ob (.fp c), .ob (.fp d), .bool i]), .v (.a [.ob (.fr k)])] (.t [.a (muR2 ⟨a, b, c, d, i⟩ k).1.its, .c (.int .i64 (muR2 ⟨a, b, c, d, i⟩ k).2)]) [] := by
  by_cases h1 : onG2 ⟨a, b, c, d, i⟩ = true
  · rw [muR2_on k h1]
    exact fn_sound ruA_ok Try.func36 (mu2B a b c d i k) ⟨by rw [h1]; rfl, trivial⟩
  · have h1 : onG2 ⟨a, b, c, d, i⟩ = false := Bool.eq_false_iff.2 h1
    rw [muR2_off k h1]
    exact (fn_sound ruA_ok Try.func36 (mu2A a b c d i k) ⟨by rw [h1]; rfl, trivial⟩).conv (fun _ _ h => h) fun y v hd => lit_fifth_t hd
def mulSpec3 : FnSpec
  | [.v (.a [.ob (.fp a), .ob (.fp b), .ob (.fp c), .ob (.fp d), .bool i]), .v (.a [.ob (.fr k)])] => some ([], .t [.a (muR2 ⟨a, b, c, d, i⟩ k).1.its, .c (.int .i64 (muR2 ⟨a, b, c, d, i⟩ k).2)], [])
  | _ => none
noncomputable def ruC : Env := ruA.set (addT ruA.fn 36 mulSpec3)
theorem ruC_ok : EnvOk Try.prog ruC := env_add ruA_ok 36 mulSpec3 (enters_of Try.func36 rfl rfl) fun args o r es h _ => by
  unfold mulSpec3 at h
  split at h
  · cases h; exact mul2_fnd _ _ _ _ _ _
  · cases h
--@env ruC ruC_ok
end Go.Proofs.Ytkfcphigoncgjaa

/- TwoTimes' law returns true. No conditions. -/
namespace Go.Proofs.Ytkfcphigoncgjaa

theorem mul_of2 {a : G2D} (ha : onG2 a = true) {n : Nat} (h : n < 18446744073709551616) : (muR2 a (Fin.ofNat B4 n)).1 = gP2 (nmul (pG2 a) n) := by
  rw [congrArg Prod.fst (muR2_on (Fin.ofNat B4 n) ha), mulG2_is ha, ofN_val h]
theorem add_of2 {P Q : Pt F2} (hP : OnC fq4 P) (hQ : OnC fq4 Q) : (adR2 (gP2 P) (gP2 Q)).1 = gP2 (gadd P Q) := by
  rw [congrArg Prod.fst (adR2_on (onG2_gP hP) (onG2_gP hQ)), addG2_is, pG_gP2, pG_gP2]

end Go.Proofs.Ytkfcphigoncgjaa

/- Sums of the points of each digit, and their total, walked. No conditions. -/
namespace Go.Proofs.Ytkfcphigoncgjaa
section
variable {w0 : World} {F0 : Nat → Prop} {K : Kp} {ac : List Act} {Q : Exit → Act → World → Prop} {cX : Ctx} {aX : Act}

def digitsSpec2 : FnSpec
  | [.v (.a [.ob (.fr k)])] => some ([], .v (.c (.sl (.int (dgW k.val 52).1))), [])
  | _ => none
noncomputable def vcA : Env := ruC.set (addT ruC.fn 128 digitsSpec2)
theorem vcA_ok : EnvOk Try.prog vcA := env_add ruC_ok 128 digitsSpec2 (enters_of Try.func128 rfl rfl) fun args o r es h _ => by
  unfold digitsSpec2 at h
  split at h
  · cases h; exact digits_fnd _ (Eq.refl 52)
  · cases h
noncomputable def inlTo2 (T : Nat → Option Func) (f : Nat) : Option Func := if f = 144 then some Try.f144 else T f
noncomputable def vcB : Env := { vcA with inl := inlTo2 vcA.inl }
theorem vcB_ok : EnvOk Try.prog vcB := by
  refine ⟨vcA_ok.ty, vcA_ok.mixed, vcA_ok.fn, vcA_ok.mu, fun f fn h => ?_, vcA_ok.ex, vcA_ok.inv⟩
  have h : inlTo2 vcA.inl f = some fn := h
  unfold inlTo2 at h
  split at h
  · rename_i hf; cases h; subst hf; exact ⟨Try.func144, enters_of Try.func144 rfl rfl⟩
  exact vcA_ok.inl f fn h
--@env vcB vcB_ok
noncomputable def kd_k : List KI := (run vcB false 3000 ((fun (P : List (F2 × F2 × F2)) (D : List Int) => (⟨[.code (bodyOf Try.f135)], .normal, initSt Try.f135.ntmps [.v (.c (.sl (.pt2 P))), .v (.c (.sl (.int D)))]⟩ : Cfg)) default default) []).cfg.k
theorem kd_hk (P : List (F2 × F2 × F2)) (D : List Int) : (run vcB false 3000 ((⟨[.code (bodyOf Try.f135)], .normal, initSt Try.f135.ntmps [.v (.c (.sl (.pt2 P))), .v (.c (.sl (.int D)))]⟩ : Cfg)) []).cfg.k = kd_k := by kernel_rfl
theorem kd (P : List (F2 × F2 × F2)) (D : List Int) (ho : AllP []) (hs : Sim w0 F0 K ac (initSt Try.f135.ntmps [.v (.c (.sl (.pt2 P))),.v (.c (.sl (.int D)))]) cX aX) (hK : ∀ ac cY aY,Sim w0 F0 K ac (mkSt 45 [1,4,5,9,10,11] [(.v (.c (.sl (.int D)))),.pt 16 0,.pt 32 0,(.v (.c (.sl (Sq.pt2 P)))),(.ii (((List.length P) : Nat):Int)),.ii (0:Int)] [16,32] [(some (.fl [(.ob (.p (0:Fp))),(.ob (.p (0:Fp))),(.ob (.p (0:Fp))),(.ob (.p (0:Fp))),(.ob (.p (0:Fp))),(.ob (.p (0:Fp)))])),(some (.fl [(.ob (.p (0:Fp))),(.ob (.p (0:Fp))),(.ob (.p (0:Fp))),(.ob (.p (0:Fp))),(.ob (.p (0:Fp))),(.ob (.p (0:Fp))),(.ob (.p (0:Fp))),(.ob (.p (0:Fp))),(.ob (.p (0:Fp))),(.ob (.p (0:Fp))),(.ob (.p (0:Fp))),(.ob (.p (0:Fp))),(.ob (.p (0:Fp))),(.ob (.p (0:Fp))),(.ob (.p (0:Fp))),(.ob (.p (0:Fp))),(.ob (.p (0:Fp))),(.ob (.p (0:Fp))),(.ob (.p (0:Fp))),(.ob (.p (0:Fp))),(.ob (.p (0:Fp))),(.ob (.p (0:Fp))),(.ob (.p (0:Fp))),(.ob (.p (0:Fp))),(.ob (.p (0:Fp))),(.ob (.p (0:Fp))),(.ob (.p (0:Fp))),(.ob (.p (0:Fp))),(.ob (.p (0:Fp))),(.ob (.p (0:Fp))),(.ob (.p (0:Fp))),(.ob (.p (0:Fp))),(.ob (.p (0:Fp))),(.ob (.p (0:Fp))),(.ob (.p (0:Fp))),(.ob (.p (0:Fp))),(.ob (.p (0:Fp))),(.ob (.p (0:Fp))),(.ob (.p (0:Fp))),(.ob (.p (0:Fp))),(.ob (.p (0:Fp))),(.ob (.p (0:Fp))),(.ob (.p (0:Fp))),(.ob (.p (0:Fp))),(.ob (.p (0:Fp))),(.ob (.p (0:Fp))),(.ob (.p (0:Fp))),(.ob (.p (0:Fp))),(.ob (.p (0:Fp))),(.ob (.p (0:Fp))),(.ob (.p (0:Fp))),(.ob (.p (0:Fp))),(.ob (.p (0:Fp))),(.ob (.p (0:Fp))),(.ob (.p (0:Fp))),(.ob (.p (0:Fp))),(.ob (.p (0:Fp))),(.ob (.p (0:Fp))),(.ob (.p (0:Fp))),(.ob (.p (0:Fp))),(.ob (.p (0:Fp))),(.ob (.p (0:Fp))),(.ob (.p (0:Fp))),(.ob (.p (0:Fp))),(.ob (.p (0:Fp))),(.ob (.p (0:Fp))),(.ob (.p (0:Fp))),(.ob (.p (0:Fp))),(.ob (.p (0:Fp))),(.ob (.p (0:Fp))),(.ob (.p (0:Fp))),(.ob (.p (0:Fp))),(.ob (.p (0:Fp))),(.ob (.p (0:Fp))),(.ob (.p (0:Fp))),(.ob (.p (0:Fp))),(.ob (.p (0:Fp))),(.ob (.p (0:Fp))),(.ob (.p (0:Fp))),(.ob (.p (0:Fp))),(.ob (.p (0:Fp))),(.ob (.p (0:Fp))),(.ob (.p (0:Fp))),(.ob (.p (0:Fp))),(.ob (.p (0:Fp))),(.ob (.p (0:Fp))),(.ob (.p (0:Fp))),(.ob (.p (0:Fp))),(.ob (.p (0:Fp))),(.ob (.p (0:Fp))),(.ob (.p (0:Fp))),(.ob (.p (0:Fp))),(.ob (.p (0:Fp))),(.ob (.p (0:Fp))),(.ob (.p (0:Fp))),(.ob (.p (0:Fp))),(.ob (.p (0:Fp))),(.ob (.p (0:Fp))),(.ob (.p (0:Fp))),(.ob (.p (0:Fp))),(.ob (.p (0:Fp))),(.ob (.p (0:Fp)))]))] 96 [] []) cY aY → Wq Try.prog Q (kd_k) ac Exit.normal aY cY.w) : Wq Try.prog Q ([.code (bodyOf Try.f135)]) ac .normal aX cX.w :=
  run_at2 (o := ⟨_, _, _, _, _, _, _⟩) vcB_ok (by kernel_rfl) (kd_hk P D) ho hs hK
noncomputable def kdS (P : List (F2 × F2 × F2)) (D : List Int) (S : List (F2 × F2 × F2)) (i:Int) : St := mkSt 45 [1,4,5,9,10,11] [(.v (.c (.sl (.int D)))),.pt 16 0,.pt 32 0,(.v (.c (.sl (Sq.pt2 P)))),(.ii (((List.length P) : Nat):Int)),.v (.c (.int .i64 i))] [16,32] [(some (.fl [(.ob (.p (0:Fp))),(.ob (.p (0:Fp))),(.ob (.p (0:Fp))),(.ob (.p (0:Fp))),(.ob (.p (0:Fp))),(.ob (.p (0:Fp)))])),some (.sq (.pt2 S))] 96 [] []
theorem kdA_hk (P : List (F2 × F2 × F2)) (D : List Int) (S : List (F2 × F2 × F2)) (i : Int) : (run vcB false 3000 ((⟨lpIn kd_k, .normal, kdS P D S i⟩ : Cfg)) [true, true]).cfg.k = lpBk kd_k := by kernel_rfl
theorem kdA (P : List (F2 × F2 × F2)) (D : List Int) (S : List (F2 × F2 × F2)) (i:Int) (ho : AllP [((decide (i < (((List.length P) : Nat):Int))) = true),((0:Int) ≤ i),(i < (((List.length P) : Nat):Int)),((0:Int) ≤ i),(i < (((List.length D) : Nat):Int)),((decide ((List.getD D (i).toNat (0:Int)) > (0:Int))) = true),((0:Int) ≤ (List.getD D (i).toNat (0:Int))),((List.getD D (i).toNat (0:Int)) < (17:Int)),(0 = 0),(((List.getD D (i).toNat (0:Int))).toNat < (List.length S)),((0:Int) ≤ (List.getD D (i).toNat (0:Int))),((List.getD D (i).toNat (0:Int)) < (17:Int)),(0 = 0),(((List.getD D (i).toNat (0:Int))).toNat < (List.length S))]) (hs : Sim w0 F0 K ac (kdS P D S i) cX aX) (hK : ∀ ac cY aY,Sim w0 F0 K ac (mkSt 45 [1,4,5,9,10,11] [(.v (.c (.sl (.int D)))),.pt 16 0,.pt 32 0,(.v (.c (.sl (Sq.pt2 P)))),(.ii (((List.length P) : Nat):Int)),(.ii (IntKind.wrap .i64 (i + (1:Int))))] [16,32] [(some (.fl [(.ob (.p (0:Fp))),(.ob (.p (0:Fp))),(.ob (.p (0:Fp))),(.ob (.p (0:Fp))),(.ob (.p (0:Fp))),(.ob (.p (0:Fp)))])),(some (.sq (Sq.pt2 (List.set S ((List.getD D (i).toNat (0:Int))).toNat (jpl (List.getD S ((List.getD D (i).toNat (0:Int))).toNat pt20) (List.getD P (i).toNat pt20))))))] 496 [] []) cY aY → Wq Try.prog Q (lpBk kd_k) ac Exit.normal aY cY.w) : Wq Try.prog Q (lpIn kd_k) ac .normal aX cX.w :=
  run_at2 (o := ⟨_, _, _, _, _, _, _⟩) vcB_ok (by kernel_rfl) (kdA_hk P D S i) ho hs hK
theorem kdB_hk (P : List (F2 × F2 × F2)) (D : List Int) (S : List (F2 × F2 × F2)) (i : Int) : (run vcB false 3000 ((⟨lpIn kd_k, .normal, kdS P D S i⟩ : Cfg)) [true, false, true]).cfg.k = lpBk kd_k := by kernel_rfl
theorem kdB (P : List (F2 × F2 × F2)) (D : List Int) (S : List (F2 × F2 × F2)) (i:Int) (ho : AllP [((decide (i < (((List.length P) : Nat):Int))) = true),((0:Int) ≤ i),(i < (((List.length P) : Nat):Int)),((0:Int) ≤ i),(i < (((List.length D) : Nat):Int)),((decide ((List.getD D (i).toNat (0:Int)) > (0:Int))) = false),((decide ((List.getD D (i).toNat (0:Int)) < (0:Int))) = true),((0:Int) ≤ (IntKind.wrap .i64 ((0:Int) - (List.getD D (i).toNat (0:Int))))),((IntKind.wrap .i64 ((0:Int) - (List.getD D (i).toNat (0:Int)))) < (17:Int)),(0 = 0),(((IntKind.wrap .i64 ((0:Int) - (List.getD D (i).toNat (0:Int))))).toNat < (List.length S)),((0:Int) ≤ (IntKind.wrap .i64 ((0:Int) - (List.getD D (i).toNat (0:Int))))),((IntKind.wrap .i64 ((0:Int) - (List.getD D (i).toNat (0:Int)))) < (17:Int)),(0 = 0),(((IntKind.wrap .i64 ((0:Int) - (List.getD D (i).toNat (0:Int))))).toNat < (List.length S))]) (hs : Sim w0 F0 K ac (kdS P D S i) cX aX) (hK : ∀ ac cY aY,Sim w0 F0 K ac (mkSt 45 [1,4,5,9,10,11] [(.v (.c (.sl (.int D)))),.pt 16 0,.pt 32 0,(.v (.c (.sl (Sq.pt2 P)))),(.ii (((List.length P) : Nat):Int)),(.ii (IntKind.wrap .i64 (i + (1:Int))))] [16,32] [(some (.fl [(.ob (.p (0:Fp))),(.ob (.p (0:Fp))),(.ob (.p (0:Fp))),(.ob (.p (0:Fp))),(.ob (.p (0:Fp))),(.ob (.p (0:Fp)))])),(some (.sq (Sq.pt2 (List.set S ((IntKind.wrap .i64 ((0:Int) - (List.getD D (i).toNat (0:Int))))).toNat (jpl (List.getD S ((IntKind.wrap .i64 ((0:Int) - (List.getD D (i).toNat (0:Int))))).toNat pt20) (jng (List.getD P (i).toNat pt20)))))))] 592 [] []) cY aY → Wq Try.prog Q (lpBk kd_k) ac Exit.normal aY cY.w) : Wq Try.prog Q (lpIn kd_k) ac .normal aX cX.w :=
  run_at2 (o := ⟨_, _, _, _, _, _, _⟩) vcB_ok (by kernel_rfl) (kdB_hk P D S i) ho hs hK
theorem kdC_hk (P : List (F2 × F2 × F2)) (D : List Int) (S : List (F2 × F2 × F2)) (i : Int) : (run vcB false 3000 ((⟨lpIn kd_k, .normal, kdS P D S i⟩ : Cfg)) [true, false, false]).cfg.k = lpBk kd_k := by kernel_rfl
theorem kdC (P : List (F2 × F2 × F2)) (D : List Int) (S : List (F2 × F2 × F2)) (i:Int) (ho : AllP [((decide (i < (((List.length P) : Nat):Int))) = true),((0:Int) ≤ i),(i < (((List.length P) : Nat):Int)),((0:Int) ≤ i),(i < (((List.length D) : Nat):Int)),((decide ((List.getD D (i).toNat (0:Int)) > (0:Int))) = false),((decide ((List.getD D (i).toNat (0:Int)) < (0:Int))) = false)]) (hs : Sim w0 F0 K ac (kdS P D S i) cX aX) (hK : ∀ ac cY aY,Sim w0 F0 K ac (mkSt 45 [1,4,5,9,10,11] [(.v (.c (.sl (.int D)))),.pt 16 0,.pt 32 0,(.v (.c (.sl (Sq.pt2 P)))),(.ii (((List.length P) : Nat):Int)),(.ii (IntKind.wrap .i64 (i + (1:Int))))] [16,32] [(some (.fl [(.ob (.p (0:Fp))),(.ob (.p (0:Fp))),(.ob (.p (0:Fp))),(.ob (.p (0:Fp))),(.ob (.p (0:Fp))),(.ob (.p (0:Fp)))])),(some (.sq (Sq.pt2 S)))] 416 [] []) cY aY → Wq Try.prog Q (lpBk kd_k) ac Exit.normal aY cY.w) : Wq Try.prog Q (lpIn kd_k) ac .normal aX cX.w :=
  run_at2 (o := ⟨_, _, _, _, _, _, _⟩) vcB_ok (by kernel_rfl) (kdC_hk P D S i) ho hs hK
noncomputable def kdX_k : List KI := (run vcB false 3000 ((fun (P : List (F2 × F2 × F2)) (D : List Int) (S : List (F2 × F2 × F2)) (i : Int) => (⟨lpIn kd_k, .normal, kdS P D S i⟩ : Cfg)) default default default default) [false]).cfg.k
theorem kdX_hk (P : List (F2 × F2 × F2)) (D : List Int) (S : List (F2 × F2 × F2)) (i : Int) : (run vcB false 3000 ((⟨lpIn kd_k, .normal, kdS P D S i⟩ : Cfg)) [false]).cfg.k = kdX_k := by kernel_rfl
theorem kdX (P : List (F2 × F2 × F2)) (D : List Int) (S : List (F2 × F2 × F2)) (i:Int) (ho : AllP [((decide (i < (((List.length P) : Nat):Int))) = false)]) (hs : Sim w0 F0 K ac (kdS P D S i) cX aX) (hK : ∀ ac cY aY,Sim w0 F0 K ac (mkSt 21 [0,2,3,4,5] [.pt 32 0,.pt 112 0,.pt 128 0,.pt 144 0,.ii (16:Int)] [16,32,112,128,144] [(some (.fl [(.ob (.p (0:Fp))),(.ob (.p (0:Fp))),(.ob (.p (0:Fp))),(.ob (.p (0:Fp))),(.ob (.p (0:Fp))),(.ob (.p (0:Fp)))])),(some (.sq (Sq.pt2 S))),(some (.fl [(.ob (.p (0:Fp))),(.ob (.p (0:Fp))),(.ob (.p (0:Fp))),(.ob (.p (0:Fp))),(.ob (.p (0:Fp))),(.ob (.p (0:Fp)))])),(some (.fl [(.ob (.p (0:Fp))),(.ob (.p (0:Fp))),(.ob (.p (0:Fp))),(.ob (.p (0:Fp))),(.ob (.p (0:Fp))),(.ob (.p (0:Fp)))])),(some (.fl [(.ob (.p (0:Fp))),(.ob (.p (0:Fp))),(.ob (.p (0:Fp))),(.ob (.p (0:Fp))),(.ob (.p (0:Fp))),(.ob (.p (0:Fp)))]))] 176 [[4]] [([.pt 16 0],45)]) cY aY → Wq Try.prog Q (kdX_k) ac Exit.normal aY cY.w) : Wq Try.prog Q (lpIn kd_k) ac .normal aX cX.w :=
  run_at2 (o := ⟨_, _, _, _, _, _, _⟩) vcB_ok (by kernel_rfl) (kdX_hk P D S i) ho hs hK
noncomputable def kdT (S : List (F2 × F2 × F2)) (r o : F2 × F2 × F2) (d:Int) : St := mkSt 21 [0,2,3,4,5] [.pt 32 0,.pt 112 0,.pt 128 0,.pt 144 0,.v (.c (.int .i64 d))] [16,32,112,128,144] [(some (.fl [(.ob (.p (0:Fp))),(.ob (.p (0:Fp))),(.ob (.p (0:Fp))),(.ob (.p (0:Fp))),(.ob (.p (0:Fp))),(.ob (.p (0:Fp)))])),(some (.sq (Sq.pt2 S))),(some (.fl [(.ob (.p (0:Fp))),(.ob (.p (0:Fp))),(.ob (.p (0:Fp))),(.ob (.p (0:Fp))),(.ob (.p (0:Fp))),(.ob (.p (0:Fp)))])),some (.fl [.ob (.p o.1.1),.ob (.p o.1.2),.ob (.p o.2.1.1),.ob (.p o.2.1.2),.ob (.p o.2.2.1),.ob (.p o.2.2.2)]),some (.fl [.ob (.p r.1.1),.ob (.p r.1.2),.ob (.p r.2.1.1),.ob (.p r.2.1.2),.ob (.p r.2.2.1),.ob (.p r.2.2.2)])] 176 [[4]] [([.pt 16 0],45)]
theorem kdU_hk (S : List (F2 × F2 × F2)) (r o : F2 × F2 × F2) (d : Int) : (run vcB false 3000 ((⟨lpIn kdX_k, .normal, kdT S r o d⟩ : Cfg)) [true]).cfg.k = lpBk kdX_k := by kernel_rfl
theorem kdU (S : List (F2 × F2 × F2)) (r o : F2 × F2 × F2) (d:Int) (ho : AllP [((decide (d > (0:Int))) = true),((0:Int) ≤ d),(d < (17:Int)),(0 = 0),((d).toNat < (List.length S))]) (hs : Sim w0 F0 K ac (kdT S r o d) cX aX) (hK : ∀ ac cY aY,Sim w0 F0 K ac (mkSt 21 [0,2,3,4,5] [.pt 32 0,.pt 112 0,.pt 128 0,.pt 144 0,(.ii (IntKind.wrap .i64 (d - (1:Int))))] [16,32,112,128,144] [(some (.fl [(.ob (.p (0:Fp))),(.ob (.p (0:Fp))),(.ob (.p (0:Fp))),(.ob (.p (0:Fp))),(.ob (.p (0:Fp))),(.ob (.p (0:Fp)))])),(some (.sq (Sq.pt2 S))),(some (.fl [(.ob (.p (0:Fp))),(.ob (.p (0:Fp))),(.ob (.p (0:Fp))),(.ob (.p (0:Fp))),(.ob (.p (0:Fp))),(.ob (.p (0:Fp)))])),(some (.fl [(.ob (.p (Prod.fst (Prod.fst (jpl o (jpl r (List.getD S (d).toNat pt20))))))),(.ob (.p (Prod.snd (Prod.fst (jpl o (jpl r (List.getD S (d).toNat pt20))))))),(.ob (.p (Prod.fst (Prod.fst (Prod.snd (jpl o (jpl r (List.getD S (d).toNat pt20)))))))),(.ob (.p (Prod.snd (Prod.fst (Prod.snd (jpl o (jpl r (List.getD S (d).toNat pt20)))))))),(.ob (.p (Prod.fst (Prod.snd (Prod.snd (jpl o (jpl r (List.getD S (d).toNat pt20)))))))),(.ob (.p (Prod.snd (Prod.snd (Prod.snd (jpl o (jpl r (List.getD S (d).toNat pt20))))))))])),(some (.fl [(.ob (.p (Prod.fst (Prod.fst (jpl r (List.getD S (d).toNat pt20)))))),(.ob (.p (Prod.snd (Prod.fst (jpl r (List.getD S (d).toNat pt20)))))),(.ob (.p (Prod.fst (Prod.fst (Prod.snd (jpl r (List.getD S (d).toNat pt20))))))),(.ob (.p (Prod.snd (Prod.fst (Prod.snd (jpl r (List.getD S (d).toNat pt20))))))),(.ob (.p (Prod.fst (Prod.snd (Prod.snd (jpl r (List.getD S (d).toNat pt20))))))),(.ob (.p (Prod.snd (Prod.snd (Prod.snd (jpl r (List.getD S (d).toNat pt20)))))))]))] 448 [[4]] [([.pt 16 0],45)]) cY aY → Wq Try.prog Q (lpBk kdX_k) ac Exit.normal aY cY.w) : Wq Try.prog Q (lpIn kdX_k) ac .normal aX cX.w :=
  run_at2 (o := ⟨_, _, _, _, _, _, _⟩) vcB_ok (by kernel_rfl) (kdU_hk S r o d) ho hs hK
theorem kdV_end (S : List (F2 × F2 × F2)) (r o : F2 × F2 × F2) (d:Int) : runEnd vcB Try.f135 false 3000 (⟨lpIn kdX_k,.normal,kdT S r o d⟩) [false] [] [] = (some ([((decide (d > (0:Int))) = false)],((.v (.a [(.ob (.p (Prod.fst (Prod.fst o)))),(.ob (.p (Prod.snd (Prod.fst o)))),(.ob (.p (Prod.fst (Prod.fst (Prod.snd o))))),(.ob (.p (Prod.snd (Prod.fst (Prod.snd o))))),(.ob (.p (Prod.fst (Prod.snd (Prod.snd o))))),(.ob (.p (Prod.snd (Prod.snd (Prod.snd o)))))])),[]))) := by kernel_rfl
end
end Go.Proofs.Ytkfcphigoncgjaa

/- Sums of the points of each digit, and their total: contract. No conditions. -/
namespace Go.Proofs.Ytkfcphigoncgjaa

theorem tab_convnT {x : Ctx} {n : Nat} (L : List (F2 × F2 × F2)) (h : L.length = n) (cs : List Value) (hc : denEn x (.fl (flatPt2 L 0 n)) cs) : denEn x (.sq (.pt2 L)) cs := by
  obtain ⟨hl, hj⟩ := cat_flat2 L n 0 cs hc
  refine ⟨?_, fun i hi => ?_⟩
  · show L.length * 36 ≤ cs.length
    rw [h, hl]
    exact Nat.le_refl _
  · have hi : i < L.length := hi
    rw [h] at hi
    obtain ⟨c, h1, h2⟩ := hj i hi
    rw [Nat.zero_add] at h1
    exact ⟨c, h1, h2⟩

theorem buckets_fndT (P : List (F2 × F2 × F2)) (D : List Int) (hl : D.length = P.length) (hp : P.length ≤ 4611686018427387904) (hd : ∀ i, -16 ≤ D.getD i 0 ∧ D.getD i 0 ≤ 16) :
    FnD Try.prog 135 [.v (.c (.sl (.pt2 P))), .v (.c (.sl (.int D)))] (.v (.a (pt2Its (bkT pt20 P D)))) [] := by
  refine fn_start (fn := Try.f135) (c := bodyOf Try.f135) Try.func135 rfl rfl fun x0 a0 hk hF hs => ?_
  refine kd P D trivial hs fun ac cY aY hs1 => ?_
  have hs2 := hs1.blocks (ens' := [some (.fl [.ob (.p 0), .ob (.p 0), .ob (.p 0), .ob (.p 0), .ob (.p 0), .ob (.p 0)]), some (.sq (.pt2 (List.replicate 17 pt20)))])
    ⟨.inl rfl, .inr ⟨_, _, _, rfl, rfl, rfl, fun cs h => tab_convnT (n := 17) _ rfl cs h⟩, trivial⟩
  have hlen : ∀ i, (bkN pt20 (List.replicate 17 pt20) P D i).length = 17 := fun i => (bkN_len ..).trans List.length_replicate
  refine loop_rule (ι := { i : Nat // i ≤ P.length }) (fun i => kdS P D (bkN pt20 (List.replicate 17 pt20) P D i.1) (i.1 : Int)) (fun i => P.length - i.1) (c := lpC kd_k) (k := lpR kd_k) (by kernel_rfl) (fun i ih ac cY aY hs => ?_) ⟨0, Nat.zero_le _⟩ (hs2.nx _)
  obtain ⟨i, hi⟩ := i
  simp only at ih hs
  have hS := hlen i
  by_cases h : i < P.length
  · have hnext : bkN pt20 (List.replicate 17 pt20) P D (i + 1) = bkS pt20 (bkN pt20 (List.replicate 17 pt20) P D i) (P.getD i pt20) (D.getD i 0) := rfl
    have ei : IntKind.wrap IntKind.i64 ((i : Int) + 1) = ((i + 1 : Nat) : Int) := by rw [wrap_id (by omega) (by omega)]; rfl
    have hdi := hd i
    have go : ∀ (S' : List (F2 × F2 × F2)) (n : Nat) (ac : List Act) (cU : Ctx) (aU : Act), S' = bkN pt20 (List.replicate 17 pt20) P D (i + 1) → Sim x0.w x0.F kAll ac (kdS P D S' ((i + 1 : Nat) : Int)) cU aU → Wq Try.prog (Post Try.prog Try.f135 x0 (.v (.a (pt2Its (bkT pt20 P D)))) []) (lpBk kd_k) ac .normal aU cU.w := by
      intro S' n ac cU aU e hs
      rw [e] at hs
      exact ih ⟨i + 1, h⟩ (by show P.length - (i + 1) < P.length - i; omega) ac cU aU hs
    generalize bkN pt20 (List.replicate 17 pt20) P D i = S at hs hS hnext
    generalize hd0 : D.getD i 0 = d at hdi hnext
    by_cases hpos : d > 0
    · refine kdA P D S i ⟨decide_eq_true (by omega), by omega, by omega, by omega, by omega, ?_, ?_, ?_, rfl, ?_, ?_, ?_, rfl, ?_, trivial⟩ hs fun ac cU aU hs3 => ?_
      all_goals try rw [Int.toNat_natCast, hd0]
      · exact decide_eq_true hpos
      · omega
      · omega
      · omega
      · omega
      · omega
      · omega
      · rw [Int.toNat_natCast, hd0, ei] at hs3
        refine go _ 0 ac cU aU ?_ (hs3.nx _)
        rw [hnext]
        exact (if_pos hpos).symm
    · by_cases hneg : d < 0
      · have ew : IntKind.wrap IntKind.i64 ((0 : Int) - d) = -d := by rw [wrap_id (by omega) (by omega)]; omega
        refine kdB P D S i ⟨decide_eq_true (by omega), by omega, by omega, by omega, by omega, ?_, ?_, ?_, ?_, rfl, ?_, ?_, ?_, rfl, ?_, trivial⟩ hs fun ac cU aU hs3 => ?_
        all_goals try rw [Int.toNat_natCast, hd0]
        · exact decide_eq_false hpos
        · exact decide_eq_true hneg
        all_goals try rw [ew]
        · omega
        · omega
        · omega
        · omega
        · omega
        · omega
        · rw [Int.toNat_natCast, hd0, ew, ei] at hs3
          refine go _ 0 ac cU aU ?_ (hs3.nx _)
          rw [hnext]
          unfold bkS
          rw [if_neg hpos, if_pos hneg]
      · refine kdC P D S i ⟨decide_eq_true (by omega), by omega, by omega, by omega, by omega, ?_, ?_, trivial⟩ hs fun ac cU aU hs3 => ?_
        all_goals try rw [Int.toNat_natCast, hd0]
        · exact decide_eq_false hpos
        · exact decide_eq_false hneg
        · rw [ei] at hs3
          refine go _ 0 ac cU aU ?_ (hs3.nx _)
          rw [hnext]
          unfold bkS
          rw [if_neg hpos, if_neg hneg]
  · obtain rfl : i = P.length := by omega
    have hT : bkT pt20 P D = toO pt20 (bkN pt20 (List.replicate 17 pt20) P D P.length) 16 := rfl
    rw [hT]
    generalize bkN pt20 (List.replicate 17 pt20) P D P.length = S at hs hS ⊢
    refine kdX P D S _ ⟨decide_eq_false (by omega), trivial⟩ hs fun ac cU aU hs3 => ?_
    refine loop_rule (ι := { n : Nat // n ≤ 16 }) (fun n => kdT S (toR pt20 S n.1) (toO pt20 S n.1) ((16 - n.1 : Nat) : Int)) (fun n => 16 - n.1) (c := lpC kdX_k) (k := lpR kdX_k) (by kernel_rfl) (fun n ih2 ac cY aY hs => ?_) ⟨0, Nat.zero_le _⟩ (hs3.nx _)
    obtain ⟨n, hn⟩ := n
    simp only at ih2 hs
    by_cases hn16 : n < 16
    · refine kdU S _ _ _ ⟨decide_eq_true (by omega), by omega, by omega, rfl, by rw [Int.toNat_natCast, hS]; omega, trivial⟩ hs fun ac cV aV hs4 => ?_
      have en : IntKind.wrap IntKind.i64 (((16 - n : Nat) : Int) - 1) = ((16 - (n + 1) : Nat) : Int) := by rw [wrap_id (by omega) (by omega)]; omega
      have e1 : jpl (toR pt20 S n) (S.getD (16 - n) pt20) = toR pt20 S (n + 1) := rfl
      have e2 : jpl (toO pt20 S n) (toR pt20 S (n + 1)) = toO pt20 S (n + 1) := rfl
      rw [Int.toNat_natCast, en, e1, e2] at hs4
      have ih3 := ih2 ⟨n + 1, hn16⟩ (by show 16 - (n + 1) < 16 - n; omega)
      dsimp only at ih3
      generalize toO pt20 S (n + 1) = o2 at hs4 ih3
      generalize toR pt20 S (n + 1) = r2 at hs4 ih3
      exact ih3 ac cV aV (hs4.nx _)
    · obtain rfl : n = 16 := by omega
      generalize toO pt20 S 16 = oo at hs ⊢
      exact run_end2 vcB_ok hk hF (kdV_end S _ _ _) ⟨by decide, trivial⟩ (fun y v hd => hd) hs

end Go.Proofs.Ytkfcphigoncgjaa

/- Many points, each as often as its number says, walked. No conditions. -/
namespace Go.Proofs.Ytkfcphigoncgjaa
section
variable {w0 : World} {F0 : Nat → Prop} {K : Kp} {ac : List Act} {Q : Exit → Act → World → Prop} {cX : Ctx} {aX : Act}

theorem buckets_fnd2T (P : List (F2 × F2 × F2)) (D : List Int) (h : D.length = P.length ∧ P.length ≤ 4611686018427387904 ∧ dsOk D) : FnD Try.prog 135 [.v (.c (.sl (.pt2 P))), .v (.c (.sl (.int D)))] (.v (.a (pt2Its (bkT pt20 P D)))) [] := buckets_fndT P D h.1 h.2.1 h.2.2
def bucketsSpecT : FnSpec
  | [.v (.c (.sl (.pt2 P))), .v (.c (.sl (.int D)))] => some ([D.length = P.length, P.length ≤ 4611686018427387904, dsOk D], .v (.a (pt2Its (bkT pt20 P D))), [])
  | _ => none
noncomputable def vcC : Env := vcB.set (addT vcB.fn 135 bucketsSpecT)
theorem vcC_ok : EnvOk Try.prog vcC := env_add vcB_ok 135 bucketsSpecT (enters_of Try.func135 rfl rfl) fun args o r es h ho => by
  unfold bucketsSpecT at h
  split at h
  · cases h; exact buckets_fnd2T _ _ ⟨ho.1, ho.2.1, ho.2.2.1⟩
  · cases h
--@env vcC vcC_ok
noncomputable def an_k : List KI := (run vcC false 3000 ((fun (P : List (F2 × F2 × F2)) (k : List U4) => (⟨[.code (bodyOf Try.f100)], .normal, initSt Try.f100.ntmps [.v (.c (.sl (.pt2 P))), .v (.c (.sl (.fr k)))]⟩ : Cfg)) default default) []).cfg.k
theorem an_hk (P : List (F2 × F2 × F2)) (k : List U4) : (run vcC false 3000 ((⟨[.code (bodyOf Try.f100)], .normal, initSt Try.f100.ntmps [.v (.c (.sl (.pt2 P))), .v (.c (.sl (.fr k)))]⟩ : Cfg)) []).cfg.k = an_k := by kernel_rfl
theorem an (P : List (F2 × F2 × F2)) (k : List U4) (ho : AllP []) (hs : Sim w0 F0 K ac (initSt Try.f100.ntmps [.v (.c (.sl (.pt2 P))),.v (.c (.sl (.fr k)))]) cX aX) (hK : ∀ ac cY aY,Sim w0 F0 K ac (mkSt 72 [0,1,4,5,6,15,16,17] [(.v (.c (.sl (Sq.pt2 P)))),(.v (.c (.sl (.fr k)))),.pt 16 0,(.v (.c (.val (Value.slice Option.none 0 0)))),.ii (0:Int),(.v (.c (.sl (.fr k)))),(.ii (((List.length k) : Nat):Int)),.ii (0:Int)] [16] [(some (.fl [(.ob (.p (0:Fp))),(.ob (.p (0:Fp))),(.ob (.p (0:Fp))),(.ob (.p (0:Fp))),(.ob (.p (0:Fp))),(.ob (.p (0:Fp)))]))] 112 [] []) cY aY → Wq Try.prog Q (an_k) ac Exit.normal aY cY.w) : Wq Try.prog Q ([.code (bodyOf Try.f100)]) ac .normal aX cX.w :=
  run_at2 (o := ⟨_, _, _, _, _, _, _⟩) vcC_ok (by kernel_rfl) (an_hk P k) ho hs hK
noncomputable def anS (P : List (F2 × F2 × F2)) (k : List U4) (R : List (List Int)) (n : Nat) (m i:Int) : St := mkSt 72 [0,1,4,5,6,15,16,17] [(.v (.c (.sl (Sq.pt2 P)))),(.v (.c (.sl (.fr k)))),.pt 16 0,.v (.c (.slc 17 0 n 1)),.v (.c (.int .i64 m)),(.v (.c (.sl (.fr k)))),(.ii (((List.length k) : Nat):Int)),.v (.c (.int .i64 i))] [16,17] [(some (.fl [(.ob (.p (0:Fp))),(.ob (.p (0:Fp))),(.ob (.p (0:Fp))),(.ob (.p (0:Fp))),(.ob (.p (0:Fp))),(.ob (.p (0:Fp)))])),some (.sq (.ints R))] 112 [] []
theorem anA_hk (P : List (F2 × F2 × F2)) (k : List U4) (R : List (List Int)) (n : Nat) (m i : Int) : (run vcC false 3000 ((⟨lpIn an_k, .normal, anS P k R n m i⟩ : Cfg)) [true]).cfg.k = lpBk an_k := by kernel_rfl
theorem anA (P : List (F2 × F2 × F2)) (k : List U4) (R : List (List Int)) (n : Nat) (m i:Int) (ho : AllP [((decide (i < (((List.length k) : Nat):Int))) = true),((0:Int) ≤ i),(i < (((List.length k) : Nat):Int)),((((List.length R) + 1) * 24) ≤ 140737488355328),(((List.length R) + 1) ≤ maxLen),(n = (List.length R)),(1 = 1)]) (hs : Sim w0 F0 K ac (anS P k R n m i) cX aX) (hK : ∀ ac cY aY,Sim w0 F0 K ac (mkSt 72 [0,1,4,5,6,15,16,17] [(.v (.c (.sl (Sq.pt2 P)))),(.v (.c (.sl (.fr k)))),.pt 16 0,(.v (.c (.slc 17 0 ((List.length R) + 1) 1))),(.ii (ite ((((List.length (Prod.fst (dgW (Fin.val (List.getD k (i).toNat (0:U4))) 52))) : Nat):Int) > m) (((List.length (Prod.fst (dgW (Fin.val (List.getD k (i).toNat (0:U4))) 52))) : Nat):Int) m)),(.v (.c (.sl (.fr k)))),(.ii (((List.length k) : Nat):Int)),(.ii (IntKind.wrap .i64 (i + (1:Int))))] [16,17] [(some (.fl [(.ob (.p (0:Fp))),(.ob (.p (0:Fp))),(.ob (.p (0:Fp))),(.ob (.p (0:Fp))),(.ob (.p (0:Fp))),(.ob (.p (0:Fp)))])),(some (.sq (.ints (R ++ [(Prod.fst (dgW (Fin.val (List.getD k (i).toNat (0:U4))) 52))]))))] 432 [] []) cY aY → Wq Try.prog Q (lpBk an_k) ac Exit.normal aY cY.w) : Wq Try.prog Q (lpIn an_k) ac .normal aX cX.w :=
  run_at2 (o := ⟨_, _, _, _, _, _, _⟩) vcC_ok (by kernel_rfl) (anA_hk P k R n m i) ho hs hK
noncomputable def anB_k : List KI := (run vcC false 3000 ((fun (P : List (F2 × F2 × F2)) (k : List U4) (R : List (List Int)) (n : Nat) (m i : Int) => (⟨lpIn an_k, .normal, anS P k R n m i⟩ : Cfg)) default default default default default default) [false]).cfg.k
theorem anB_hk (P : List (F2 × F2 × F2)) (k : List U4) (R : List (List Int)) (n : Nat) (m i : Int) : (run vcC false 3000 ((⟨lpIn an_k, .normal, anS P k R n m i⟩ : Cfg)) [false]).cfg.k = anB_k := by kernel_rfl
theorem anB (P : List (F2 × F2 × F2)) (k : List U4) (R : List (List Int)) (n : Nat) (m i:Int) (ho : AllP [((decide (i < (((List.length k) : Nat):Int))) = false),((0:Int) ≤ (((List.length k) : Nat):Int)),((((List.length k) : Nat):Int) = (((List.length k) : Nat):Int)),(((8:Int) * (((List.length k) : Nat):Int)) ≤ (281474976710656:Int)),((((List.length k) : Nat):Int) ≤ (9223372036854775807:Int))]) (hs : Sim w0 F0 K ac (anS P k R n m i) cX aX) (hK : ∀ ac cY aY,Sim w0 F0 K ac (mkSt 72 [0,4,5,10,11,12] [(.v (.c (.sl (Sq.pt2 P)))),.pt 16 0,(.v (.c (.slc 17 0 n 1))),.pt 128 0,(.v (.c (.slc 176 0 ((((List.length k) : Nat):Int)).toNat 1))),(.ii (IntKind.wrap .i64 (m - (1:Int))))] [16,17,128,176] [(some (.fl [(.ob (.p (0:Fp))),(.ob (.p (0:Fp))),(.ob (.p (0:Fp))),(.ob (.p (0:Fp))),(.ob (.p (0:Fp))),(.ob (.p (0:Fp)))])),(some (.sq (.ints R))),(some (.fl [(.ob (.p (0:Fp))),(.ob (.p (0:Fp))),(.ob (.p (0:Fp))),(.ob (.p (0:Fp))),(.ob (.p (0:Fp))),(.ob (.p (0:Fp)))])),(some (.sq (.int (List.replicate ((((List.length k) : Nat):Int)).toNat (0:Int)))))] 256 [] []) cY aY → Wq Try.prog Q (anB_k) ac Exit.normal aY cY.w) : Wq Try.prog Q (lpIn an_k) ac .normal aX cX.w :=
  run_at2 (o := ⟨_, _, _, _, _, _, _⟩) vcC_ok (by kernel_rfl) (anB_hk P k R n m i) ho hs hK
noncomputable def anT (P : List (F2 × F2 × F2)) (R : List (List Int)) (n q : Nat) (D : List Int) (o : F2 × F2 × F2) (h:Int) : St := mkSt 72 [0,4,5,10,11,12] [(.v (.c (.sl (Sq.pt2 P)))),.pt 16 0,(.v (.c (.slc 17 0 n 1))),.pt 128 0,.v (.c (.slc 176 0 q 1)),.v (.c (.int .i64 h))] [16,17,128,176] [(some (.fl [(.ob (.p (0:Fp))),(.ob (.p (0:Fp))),(.ob (.p (0:Fp))),(.ob (.p (0:Fp))),(.ob (.p (0:Fp))),(.ob (.p (0:Fp)))])),(some (.sq (.ints R))),some (.fl [.ob (.p o.1.1),.ob (.p o.1.2),.ob (.p o.2.1.1),.ob (.p o.2.1.2),.ob (.p o.2.2.1),.ob (.p o.2.2.2)]),some (.sq (.int D))] 256 [] []
noncomputable def anC_k : List KI := (run vcC false 3000 ((fun (P : List (F2 × F2 × F2)) (R : List (List Int)) (n q : Nat) (D : List Int) (o : F2 × F2 × F2) (h : Int) => (⟨lpIn anB_k, .normal, anT P R n q D o h⟩ : Cfg)) default default default default default default default) [true]).cfg.k
theorem anC_hk (P : List (F2 × F2 × F2)) (R : List (List Int)) (n q : Nat) (D : List Int) (o : F2 × F2 × F2) (h : Int) : (run vcC false 3000 ((⟨lpIn anB_k, .normal, anT P R n q D o h⟩ : Cfg)) [true]).cfg.k = anC_k := by kernel_rfl
theorem anC (P : List (F2 × F2 × F2)) (R : List (List Int)) (n q : Nat) (D : List Int) (o : F2 × F2 × F2) (h:Int) (ho : AllP [((decide (h ≥ (0:Int))) = true)]) (hs : Sim w0 F0 K ac (anT P R n q D o h) cX aX) (hK : ∀ ac cY aY,Sim w0 F0 K ac (mkSt 72 [0,4,5,10,11,12,41] [(.v (.c (.sl (Sq.pt2 P)))),.pt 16 0,(.v (.c (.slc 17 0 n 1))),.pt 128 0,(.v (.c (.slc 176 0 q 1))),.ii h,.ii (0:Int)] [16,17,128,176] [(some (.fl [(.ob (.p (0:Fp))),(.ob (.p (0:Fp))),(.ob (.p (0:Fp))),(.ob (.p (0:Fp))),(.ob (.p (0:Fp))),(.ob (.p (0:Fp)))])),(some (.sq (.ints R))),(some (.fl [(.ob (.p (Prod.fst (Prod.fst o)))),(.ob (.p (Prod.snd (Prod.fst o)))),(.ob (.p (Prod.fst (Prod.fst (Prod.snd o))))),(.ob (.p (Prod.snd (Prod.fst (Prod.snd o))))),(.ob (.p (Prod.fst (Prod.snd (Prod.snd o))))),(.ob (.p (Prod.snd (Prod.snd (Prod.snd o)))))])),(some (.sq (.int D)))] 304 [] []) cY aY → Wq Try.prog Q (anC_k) ac Exit.normal aY cY.w) : Wq Try.prog Q (lpIn anB_k) ac .normal aX cX.w :=
  run_at2 (o := ⟨_, _, _, _, _, _, _⟩) vcC_ok (by kernel_rfl) (anC_hk P R n q D o h) ho hs hK
noncomputable def anU (P : List (F2 × F2 × F2)) (R : List (List Int)) (n q : Nat) (D : List Int) (o : F2 × F2 × F2) (h j:Int) : St := mkSt 72 [0,4,5,10,11,12,41] [(.v (.c (.sl (Sq.pt2 P)))),.pt 16 0,(.v (.c (.slc 17 0 n 1))),.pt 128 0,(.v (.c (.slc 176 0 q 1))),.ii h,.v (.c (.int .i64 j))] [16,17,128,176] [(some (.fl [(.ob (.p (0:Fp))),(.ob (.p (0:Fp))),(.ob (.p (0:Fp))),(.ob (.p (0:Fp))),(.ob (.p (0:Fp))),(.ob (.p (0:Fp)))])),(some (.sq (.ints R))),(some (.fl [(.ob (.p (Prod.fst (Prod.fst o)))),(.ob (.p (Prod.snd (Prod.fst o)))),(.ob (.p (Prod.fst (Prod.fst (Prod.snd o))))),(.ob (.p (Prod.snd (Prod.fst (Prod.snd o))))),(.ob (.p (Prod.fst (Prod.snd (Prod.snd o))))),(.ob (.p (Prod.snd (Prod.snd (Prod.snd o)))))])),(some (.sq (.int D)))] 304 [] []
theorem anD_hk (P : List (F2 × F2 × F2)) (R : List (List Int)) (n q : Nat) (D : List Int) (o : F2 × F2 × F2) (h j : Int) : (run vcC false 3000 ((⟨lpIn anC_k, .normal, anU P R n q D o h j⟩ : Cfg)) [true]).cfg.k = lpBk anC_k := by kernel_rfl
theorem anD (P : List (F2 × F2 × F2)) (R : List (List Int)) (n q : Nat) (D : List Int) (o : F2 × F2 × F2) (h j:Int) (ho : AllP [((decide (j < (5:Int))) = true)]) (hs : Sim w0 F0 K ac (anU P R n q D o h j) cX aX) (hK : ∀ ac cY aY,Sim w0 F0 K ac (mkSt 72 [0,4,5,10,11,12,41] [(.v (.c (.sl (Sq.pt2 P)))),.pt 16 0,(.v (.c (.slc 17 0 n 1))),.pt 128 0,(.v (.c (.slc 176 0 q 1))),.ii h,(.ii (IntKind.wrap .i64 (j + (1:Int))))] [16,17,128,176] [(some (.fl [(.ob (.p (0:Fp))),(.ob (.p (0:Fp))),(.ob (.p (0:Fp))),(.ob (.p (0:Fp))),(.ob (.p (0:Fp))),(.ob (.p (0:Fp)))])),(some (.sq (.ints R))),(some (.fl [(.ob (.p (Prod.fst (Prod.fst (jtw (((Prod.fst (Prod.fst o)),(Prod.snd (Prod.fst o))),(((Prod.fst (Prod.fst (Prod.snd o))),(Prod.snd (Prod.fst (Prod.snd o)))),((Prod.fst (Prod.snd (Prod.snd o))),(Prod.snd (Prod.snd (Prod.snd o))))))))))),(.ob (.p (Prod.snd (Prod.fst (jtw (((Prod.fst (Prod.fst o)),(Prod.snd (Prod.fst o))),(((Prod.fst (Prod.fst (Prod.snd o))),(Prod.snd (Prod.fst (Prod.snd o)))),((Prod.fst (Prod.snd (Prod.snd o))),(Prod.snd (Prod.snd (Prod.snd o))))))))))),(.ob (.p (Prod.fst (Prod.fst (Prod.snd (jtw (((Prod.fst (Prod.fst o)),(Prod.snd (Prod.fst o))),(((Prod.fst (Prod.fst (Prod.snd o))),(Prod.snd (Prod.fst (Prod.snd o)))),((Prod.fst (Prod.snd (Prod.snd o))),(Prod.snd (Prod.snd (Prod.snd o)))))))))))),(.ob (.p (Prod.snd (Prod.fst (Prod.snd (jtw (((Prod.fst (Prod.fst o)),(Prod.snd (Prod.fst o))),(((Prod.fst (Prod.fst (Prod.snd o))),(Prod.snd (Prod.fst (Prod.snd o)))),((Prod.fst (Prod.snd (Prod.snd o))),(Prod.snd (Prod.snd (Prod.snd o)))))))))))),(.ob (.p (Prod.fst (Prod.snd (Prod.snd (jtw (((Prod.fst (Prod.fst o)),(Prod.snd (Prod.fst o))),(((Prod.fst (Prod.fst (Prod.snd o))),(Prod.snd (Prod.fst (Prod.snd o)))),((Prod.fst (Prod.snd (Prod.snd o))),(Prod.snd (Prod.snd (Prod.snd o)))))))))))),(.ob (.p (Prod.snd (Prod.snd (Prod.snd (jtw (((Prod.fst (Prod.fst o)),(Prod.snd (Prod.fst o))),(((Prod.fst (Prod.fst (Prod.snd o))),(Prod.snd (Prod.fst (Prod.snd o)))),((Prod.fst (Prod.snd (Prod.snd o))),(Prod.snd (Prod.snd (Prod.snd o))))))))))))])),(some (.sq (.int D)))] 400 [] []) cY aY → Wq Try.prog Q (lpBk anC_k) ac Exit.normal aY cY.w) : Wq Try.prog Q (lpIn anC_k) ac .normal aX cX.w :=
  run_at2 (o := ⟨_, _, _, _, _, _, _⟩) vcC_ok (by kernel_rfl) (anD_hk P R n q D o h j) ho hs hK
noncomputable def anE_k : List KI := (run vcC false 3000 ((fun (P : List (F2 × F2 × F2)) (R : List (List Int)) (n q : Nat) (D : List Int) (o : F2 × F2 × F2) (h j : Int) => (⟨lpIn anC_k, .normal, anU P R n q D o h j⟩ : Cfg)) default default default default default default default default) [false]).cfg.k
theorem anE_hk (P : List (F2 × F2 × F2)) (R : List (List Int)) (n q : Nat) (D : List Int) (o : F2 × F2 × F2) (h j : Int) : (run vcC false 3000 ((⟨lpIn anC_k, .normal, anU P R n q D o h j⟩ : Cfg)) [false]).cfg.k = anE_k := by kernel_rfl
theorem anE (P : List (F2 × F2 × F2)) (R : List (List Int)) (n q : Nat) (D : List Int) (o : F2 × F2 × F2) (h j:Int) (ho : AllP [((decide (j < (5:Int))) = false),(q = (List.length D))]) (hs : Sim w0 F0 K ac (anU P R n q D o h j) cX aX) (hK : ∀ ac cY aY,Sim w0 F0 K ac (mkSt 72 [0,4,5,10,11,12,47,48,49] [(.v (.c (.sl (Sq.pt2 P)))),.pt 16 0,(.v (.c (.slc 17 0 n 1))),.pt 128 0,(.v (.c (.slc 176 0 q 1))),.ii h,(.v (.c (.slc 17 0 n 1))),(.ii ((n : Nat):Int)),.ii (0:Int)] [16,17,128,176] [(some (.fl [(.ob (.p (0:Fp))),(.ob (.p (0:Fp))),(.ob (.p (0:Fp))),(.ob (.p (0:Fp))),(.ob (.p (0:Fp))),(.ob (.p (0:Fp)))])),(some (.sq (.ints R))),(some (.fl [(.ob (.p (Prod.fst (Prod.fst o)))),(.ob (.p (Prod.snd (Prod.fst o)))),(.ob (.p (Prod.fst (Prod.fst (Prod.snd o))))),(.ob (.p (Prod.snd (Prod.fst (Prod.snd o))))),(.ob (.p (Prod.fst (Prod.snd (Prod.snd o))))),(.ob (.p (Prod.snd (Prod.snd (Prod.snd o)))))])),(some (.sq (.int (List.replicate (List.length D) (0:Int)))))] 400 [] []) cY aY → Wq Try.prog Q (anE_k) ac Exit.normal aY cY.w) : Wq Try.prog Q (lpIn anC_k) ac .normal aX cX.w :=
  run_at2 (o := ⟨_, _, _, _, _, _, _⟩) vcC_ok (by kernel_rfl) (anE_hk P R n q D o h j) ho hs hK
noncomputable def anV (P : List (F2 × F2 × F2)) (R : List (List Int)) (n q : Nat) (D : List Int) (o : F2 × F2 × F2) (h i:Int) : St := mkSt 72 [0,4,5,10,11,12,47,48,49] [(.v (.c (.sl (Sq.pt2 P)))),.pt 16 0,(.v (.c (.slc 17 0 n 1))),.pt 128 0,(.v (.c (.slc 176 0 q 1))),.ii h,(.v (.c (.slc 17 0 n 1))),(.ii ((n : Nat):Int)),.v (.c (.int .i64 i))] [16,17,128,176] [(some (.fl [(.ob (.p (0:Fp))),(.ob (.p (0:Fp))),(.ob (.p (0:Fp))),(.ob (.p (0:Fp))),(.ob (.p (0:Fp))),(.ob (.p (0:Fp)))])),(some (.sq (.ints R))),(some (.fl [(.ob (.p (Prod.fst (Prod.fst o)))),(.ob (.p (Prod.snd (Prod.fst o)))),(.ob (.p (Prod.fst (Prod.fst (Prod.snd o))))),(.ob (.p (Prod.snd (Prod.fst (Prod.snd o))))),(.ob (.p (Prod.fst (Prod.snd (Prod.snd o))))),(.ob (.p (Prod.snd (Prod.snd (Prod.snd o)))))])),some (.sq (.int D))] 400 [] []
theorem anF_hk (P : List (F2 × F2 × F2)) (R : List (List Int)) (n q : Nat) (D : List Int) (o : F2 × F2 × F2) (h i : Int) : (run vcC false 3000 ((⟨lpIn anE_k, .normal, anV P R n q D o h i⟩ : Cfg)) [true, true]).cfg.k = lpBk anE_k := by kernel_rfl
theorem anF (P : List (F2 × F2 × F2)) (R : List (List Int)) (n q : Nat) (D : List Int) (o : F2 × F2 × F2) (h i:Int) (ho : AllP [((decide (i < ((n : Nat):Int))) = true),((0:Int) ≤ i),(i < ((n : Nat):Int)),(0 = 0),((i).toNat < (List.length R)),((decide (h < (((List.length (List.getD R (i).toNat ([] : List Int))) : Nat):Int))) = true),((0:Int) ≤ h),(h < (((List.length (List.getD R (i).toNat ([] : List Int))) : Nat):Int)),((0:Int) ≤ i),(i < ((q : Nat):Int)),(0 = 0),((i).toNat < (List.length D))]) (hs : Sim w0 F0 K ac (anV P R n q D o h i) cX aX) (hK : ∀ ac cY aY,Sim w0 F0 K ac (mkSt 72 [0,4,5,10,11,12,47,48,49] [(.v (.c (.sl (Sq.pt2 P)))),.pt 16 0,(.v (.c (.slc 17 0 n 1))),.pt 128 0,(.v (.c (.slc 176 0 q 1))),.ii h,(.v (.c (.slc 17 0 n 1))),(.ii ((n : Nat):Int)),(.ii (IntKind.wrap .i64 (i + (1:Int))))] [16,17,128,176] [(some (.fl [(.ob (.p (0:Fp))),(.ob (.p (0:Fp))),(.ob (.p (0:Fp))),(.ob (.p (0:Fp))),(.ob (.p (0:Fp))),(.ob (.p (0:Fp)))])),(some (.sq (.ints R))),(some (.fl [(.ob (.p (Prod.fst (Prod.fst o)))),(.ob (.p (Prod.snd (Prod.fst o)))),(.ob (.p (Prod.fst (Prod.fst (Prod.snd o))))),(.ob (.p (Prod.snd (Prod.fst (Prod.snd o))))),(.ob (.p (Prod.fst (Prod.snd (Prod.snd o))))),(.ob (.p (Prod.snd (Prod.snd (Prod.snd o)))))])),(some (.sq (.int (List.set D (i).toNat (List.getD (List.getD R (i).toNat ([] : List Int)) (h).toNat (0:Int))))))] 720 [] []) cY aY → Wq Try.prog Q (lpBk anE_k) ac Exit.normal aY cY.w) : Wq Try.prog Q (lpIn anE_k) ac .normal aX cX.w :=
  run_at2 (o := ⟨_, _, _, _, _, _, _⟩) vcC_ok (by kernel_rfl) (anF_hk P R n q D o h i) ho hs hK
theorem anH_hk (P : List (F2 × F2 × F2)) (R : List (List Int)) (n q : Nat) (D : List Int) (o : F2 × F2 × F2) (h i : Int) : (run vcC false 3000 ((⟨lpIn anE_k, .normal, anV P R n q D o h i⟩ : Cfg)) [false]).cfg.k = lpBk anB_k := by kernel_rfl
theorem anH (P : List (F2 × F2 × F2)) (R : List (List Int)) (n q : Nat) (D : List Int) (o : F2 × F2 × F2) (h i:Int) (ho : AllP [((decide (i < ((n : Nat):Int))) = false),(0 = 0),(q = (List.length D)),(1 = 1),((List.length D) = (List.length P)),((List.length P) ≤ 4611686018427387904),(dsOk D)]) (hs : Sim w0 F0 K ac (anV P R n q D o h i) cX aX) (hK : ∀ ac cY aY,Sim w0 F0 K ac (mkSt 72 [0,4,5,10,11,12] [(.v (.c (.sl (Sq.pt2 P)))),.pt 16 0,(.v (.c (.slc 17 0 n 1))),.pt 128 0,(.v (.c (.slc 176 0 q 1))),(.ii (IntKind.wrap .i64 (h - (1:Int))))] [16,17,128,176] [(some (.fl [(.ob (.p (0:Fp))),(.ob (.p (0:Fp))),(.ob (.p (0:Fp))),(.ob (.p (0:Fp))),(.ob (.p (0:Fp))),(.ob (.p (0:Fp)))])),(some (.sq (.ints R))),(some (.fl [(.ob (.p (Prod.fst (Prod.fst (jpl (((Prod.fst (Prod.fst o)),(Prod.snd (Prod.fst o))),(((Prod.fst (Prod.fst (Prod.snd o))),(Prod.snd (Prod.fst (Prod.snd o)))),((Prod.fst (Prod.snd (Prod.snd o))),(Prod.snd (Prod.snd (Prod.snd o)))))) (bkT pt20 P D)))))),(.ob (.p (Prod.snd (Prod.fst (jpl (((Prod.fst (Prod.fst o)),(Prod.snd (Prod.fst o))),(((Prod.fst (Prod.fst (Prod.snd o))),(Prod.snd (Prod.fst (Prod.snd o)))),((Prod.fst (Prod.snd (Prod.snd o))),(Prod.snd (Prod.snd (Prod.snd o)))))) (bkT pt20 P D)))))),(.ob (.p (Prod.fst (Prod.fst (Prod.snd (jpl (((Prod.fst (Prod.fst o)),(Prod.snd (Prod.fst o))),(((Prod.fst (Prod.fst (Prod.snd o))),(Prod.snd (Prod.fst (Prod.snd o)))),((Prod.fst (Prod.snd (Prod.snd o))),(Prod.snd (Prod.snd (Prod.snd o)))))) (bkT pt20 P D))))))),(.ob (.p (Prod.snd (Prod.fst (Prod.snd (jpl (((Prod.fst (Prod.fst o)),(Prod.snd (Prod.fst o))),(((Prod.fst (Prod.fst (Prod.snd o))),(Prod.snd (Prod.fst (Prod.snd o)))),((Prod.fst (Prod.snd (Prod.snd o))),(Prod.snd (Prod.snd (Prod.snd o)))))) (bkT pt20 P D))))))),(.ob (.p (Prod.fst (Prod.snd (Prod.snd (jpl (((Prod.fst (Prod.fst o)),(Prod.snd (Prod.fst o))),(((Prod.fst (Prod.fst (Prod.snd o))),(Prod.snd (Prod.fst (Prod.snd o)))),((Prod.fst (Prod.snd (Prod.snd o))),(Prod.snd (Prod.snd (Prod.snd o)))))) (bkT pt20 P D))))))),(.ob (.p (Prod.snd (Prod.snd (Prod.snd (jpl (((Prod.fst (Prod.fst o)),(Prod.snd (Prod.fst o))),(((Prod.fst (Prod.fst (Prod.snd o))),(Prod.snd (Prod.fst (Prod.snd o)))),((Prod.fst (Prod.snd (Prod.snd o))),(Prod.snd (Prod.snd (Prod.snd o)))))) (bkT pt20 P D)))))))])),(some (.sq (.int D)))] 560 [] []) cY aY → Wq Try.prog Q (lpBk anB_k) ac Exit.normal aY cY.w) : Wq Try.prog Q (lpIn anE_k) ac .normal aX cX.w :=
  run_at2 (o := ⟨_, _, _, _, _, _, _⟩) vcC_ok (by kernel_rfl) (anH_hk P R n q D o h i) ho hs hK
theorem anX_end (P : List (F2 × F2 × F2)) (R : List (List Int)) (n q : Nat) (D : List Int) (o : F2 × F2 × F2) (h:Int) : runEnd vcC Try.f100 false 3000 (⟨lpIn anB_k,.normal,anT P R n q D o h⟩) [false] [] [] = (some ([((decide (h ≥ (0:Int))) = false)],((.v (.a [(.ob (.p (Prod.fst (Prod.fst o)))),(.ob (.p (Prod.snd (Prod.fst o)))),(.ob (.p (Prod.fst (Prod.fst (Prod.snd o))))),(.ob (.p (Prod.snd (Prod.fst (Prod.snd o))))),(.ob (.p (Prod.fst (Prod.snd (Prod.snd o))))),(.ob (.p (Prod.snd (Prod.snd (Prod.snd o)))))])),[]))) := by kernel_rfl
end
end Go.Proofs.Ytkfcphigoncgjaa

/- Many points, each as often as its number says: contract. No conditions. -/
namespace Go.Proofs.Ytkfcphigoncgjaa

theorem all_fndT (P : List (F2 × F2 × F2)) (k : List U4) (hk0 : k.length = P.length) (hp : P.length ≤ 4096) {N : Nat} (hN : N = 52) :
    FnD Try.prog 100 [.v (.c (.sl (.pt2 P))), .v (.c (.sl (.fr k)))] (.v (.a (pt2Its (smJ N pt20 P k)))) [] := by
  refine fn_start (fn := Try.f100) (c := bodyOf Try.f100) Try.func100 rfl rfl fun x0 a0 hk hF hs => ?_
  refine an P k trivial hs fun ac cY aY hs1 => ?_
  have hs2 := hs1.nilRow (p := 17) (q := .ints []) rfl (by decide) rfl (ml' := [16, 17]) (ens' := [some (.fl [.ob (.p 0), .ob (.p 0), .ob (.p 0), .ob (.p 0), .ob (.p 0), .ob (.p 0)]), some (.sq (.ints []))]) (fun r => fl_look (by decide))
    (svs' := [.v (.c (.sl (.pt2 P))), .v (.c (.sl (.fr k))), .v (.c (.ptr 16 0)), .v (.c (.slc 17 0 0 1)), .v (.c (.int .i64 0)), .v (.c (.sl (.fr k))), .v (.c (.int .i64 ((k.length : Nat) : Int))), .v (.c (.int .i64 0))]) ⟨.inl rfl, .inl rfl, .inl rfl, .inr ⟨1, rfl, rfl⟩, .inl rfl, .inl rfl, .inl rfl, .inl rfl, trivial⟩
  have hL := dgK_len N k
  have hrow := @dgK_row N k
  have hget := dgK_get N k
  have hdig := dgK_dig N k
  have hmax : 4097 ≤ maxLen := by decide
  change Wq Try.prog _ _ _ _ _ (nilCtx cY 17).w
  refine loop_rule (ι := { i : Nat // i ≤ k.length }) (fun i => anS P k ((dgK N k).take i.1) i.1 (if i.1 = 0 then 0 else (N : Int)) (i.1 : Int)) (fun i => k.length - i.1) (c := lpC an_k) (k := lpR an_k) (by kernel_rfl) (fun i ih ac cY aY hs => ?_) ⟨0, Nat.zero_le _⟩ (hs2.nx _)
  obtain ⟨i, hi⟩ := i
  simp only at ih hs
  have htl : ((dgK N k).take i).length = i := by rw [List.length_take, hL]; omega
  by_cases h : i < k.length
  · refine anA P k _ i _ i ⟨decide_eq_true (by omega), by omega, by omega, by rw [htl]; omega, by rw [htl]; omega, htl.symm, rfl, trivial⟩ hs fun ac cU aU hs3 => ?_
    have ei : IntKind.wrap IntKind.i64 ((i : Int) + 1) = ((i + 1 : Nat) : Int) := by rw [wrap_id (by omega) (by omega)]; rfl
    have e52 : (dgW (k.getD i 0).val 52).1 = (dgK N k).getD i [] := by rw [hget i h, hN]
    rw [Int.toNat_natCast, ei, htl, e52, take_snoc _ _ (by omega), hrow i h] at hs3
    have em : (if ((N : Nat) : Int) > (if i = 0 then 0 else (N : Int)) then ((N : Nat) : Int) else (if i = 0 then 0 else (N : Int))) = (if i + 1 = 0 then 0 else (N : Int)) := by
      rw [if_neg (show ¬ i + 1 = 0 from by omega)]
      split <;> split <;> omega
    rw [em] at hs3
    exact ih ⟨i + 1, h⟩ (by show k.length - (i + 1) < k.length - i; omega) ac cU aU (hs3.nx _)
  · obtain rfl : i = k.length := by omega
    have ht : (dgK N k).take k.length = dgK N k := by rw [← hL, List.take_length]
    rw [ht] at hs
    have em : (if k.length = 0 then 0 else (N : Int)) = ((mst N k : Nat) : Int) := by
      cases k with
      | nil => rfl
      | cons x l => rfl
    rw [em] at hs
    have hm52 : mst N k ≤ 52 := by
      cases k with
      | nil => exact Nat.zero_le _
      | cons x l => exact Nat.le_of_eq hN
    have hmN : 0 < k.length → mst N k = N := by
      intro h
      cases k with
      | nil => cases h
      | cons x l => rfl
    refine anB P k _ k.length _ _ ⟨decide_eq_false (by omega), by omega, rfl, by omega, by omega, trivial⟩ hs fun ac cU aU hs3 => ?_
    rw [Int.toNat_natCast] at hs3
    have hres : smJ N pt20 P k = alN pt20 P (dgK N k) (mst N k) (mst N k) := rfl
    rw [hres]
    generalize dgK N k = L at hs3 hL hrow hdig ⊢
    generalize mst N k = m at hs3 hm52 hmN ⊢
    have eh : IntKind.wrap IntKind.i64 ((m : Int) - 1) = (m : Int) - 1 - ((0 : Nat) : Int) := by rw [wrap_id (by omega) (by omega)]; omega
    rw [eh] at hs3
    refine loop_rule (ι := { p : Nat × List Int // p.1 ≤ m ∧ p.2.length = k.length }) (fun p => anT P L k.length k.length p.1.2 (alN pt20 P L m p.1.1) ((m : Int) - 1 - (p.1.1 : Int))) (fun p => m - p.1.1) (c := lpC anB_k) (k := lpR anB_k) (by kernel_rfl) (fun p ih2 ac cY aY hs => ?_) ⟨(0, List.replicate k.length 0), Nat.zero_le _, List.length_replicate⟩ (hs3.nx _)
    obtain ⟨⟨t, D⟩, ht1, hD⟩ := p
    simp only at ih2 hs ht1 hD
    by_cases htm : t < m
    · have hlt : m - (t + 1) < m - t := by omega
      obtain ⟨a, ha⟩ : ∃ a : Nat, a = m - 1 - t := ⟨_, rfl⟩
      have eb : (m : Int) - 1 - (t : Int) = (a : Int) := by omega
      rw [eb] at hs
      have hnext : alN pt20 P L m (t + 1) = jpl (jtws 5 (alN pt20 P L m t)) (bkT pt20 P (rowAt L a)) := by rw [ha]; rfl
      generalize alN pt20 P L m t = o at hs hnext
      refine anC P L _ _ D o _ ⟨decide_eq_true (by omega), trivial⟩ hs fun ac cZ aZ hs4 => ?_
      refine loop_rule (ι := { j : Nat // j ≤ 5 }) (fun j => anU P L k.length k.length D (jtws j.1 o) (a : Int) (j.1 : Int)) (fun j => 5 - j.1) (c := lpC anC_k) (k := lpR anC_k) (by kernel_rfl) (fun j ih3 ac cY aY hs => ?_) ⟨0, Nat.zero_le _⟩ (hs4.nx _)
      obtain ⟨j, hj⟩ := j
      simp only at ih3 hs
      by_cases hj5 : j < 5
      · have ej : jtw (jtws j o) = jtws (j + 1) o := (jtws_succ j o).symm
        generalize jtws j o = o1 at hs ej
        refine anD P L _ _ D _ _ _ ⟨decide_eq_true (by omega), trivial⟩ hs fun ac cV aV hs5 => ?_
        rw [wrap_id (n := (j : Int) + 1) (by omega) (by omega), ej] at hs5
        exact ih3 ⟨j + 1, hj5⟩ (by show 5 - (j + 1) < 5 - j; omega) ac cV aV (hs5.nx _)
      · obtain rfl : j = 5 := by omega
        generalize jtws 5 o = o5 at hs hnext
        refine anE P L _ _ D _ _ _ ⟨by decide, hD.symm, trivial⟩ hs fun ac cV aV hs5 => ?_
        refine loop_rule (ι := { p : Nat × List Int // p.1 ≤ k.length ∧ p.2.length = k.length ∧ ∀ j, j < p.1 → p.2.getD j 0 = (L.getD j []).getD a 0 }) (fun p => anV P L k.length k.length p.1.2 o5 (a : Int) (p.1.1 : Int)) (fun p => k.length - p.1.1) (c := lpC anE_k) (k := lpR anE_k) (by kernel_rfl) (fun p ih4 ac cY aY hs => ?_)
          ⟨(0, List.replicate D.length 0), Nat.zero_le _, List.length_replicate.trans hD, fun j hj => absurd hj (Nat.not_lt_zero j)⟩ (hs5.nx _)
        obtain ⟨⟨i, E⟩, hi1, hE, hEg⟩ := p
        simp only at ih4 hs hi1 hE hEg
        by_cases hik : i < k.length
        · have hri := hrow i hik
          have hmn := hmN (by omega)
          refine anF P L _ _ E _ _ _ ⟨decide_eq_true (by omega), by omega, by omega, rfl, by rw [Int.toNat_natCast]; omega, by rw [Int.toNat_natCast, hri]; exact decide_eq_true (by omega), by omega, by rw [Int.toNat_natCast, hri]; omega, by omega, by omega, rfl, by rw [Int.toNat_natCast]; omega, trivial⟩ hs fun ac cW aW hs6 => ?_
          rw [Int.toNat_natCast, Int.toNat_natCast, wrap_id (n := (i : Int) + 1) (by omega) (by omega)] at hs6
          refine ih4 ⟨(i + 1, E.set i ((L.getD i []).getD a 0)), hik, (List.length_set ..).trans hE, fun j hj => ?_⟩ (by show k.length - (i + 1) < k.length - i; omega) ac cW aW (hs6.nx _)
          have hj : j < i + 1 := hj
          show (E.set i _).getD j 0 = _
          rw [set_getD _ _ _ _ _ (by omega)]
          by_cases e : j = i
          · subst e; rw [if_pos rfl]
          · rw [if_neg e]; exact hEg j (by omega)
        · obtain rfl : i = k.length := by omega
          have hrowE : E = rowAt L a := row_ext (by omega) fun j hj => hEg j (by omega)
          subst hrowE
          have hds : dsOk (rowAt L a) := fun j => by rw [rowAt_get]; exact hdig j a
          refine anH P L _ _ _ _ _ _ ⟨decide_eq_false (by omega), rfl, by omega, rfl, by omega, by omega, hds, trivial⟩ hs fun ac cW aW hs6 => ?_
          have e7 : IntKind.wrap IntKind.i64 ((a : Int) - 1) = (m : Int) - 1 - ((t + 1 : Nat) : Int) := by rw [wrap_id (by omega) (by omega)]; omega
          rw [e7, ← hnext] at hs6
          have ih5 := ih2 ⟨(t + 1, rowAt L a), htm, hE⟩ hlt
          dsimp only at ih5
          generalize alN pt20 P L m (t + 1) = oN at hs6 ih5
          exact ih5 ac cW aW (hs6.nx _)
    · obtain rfl : t = m := by omega
      exact run_end2 vcC_ok hk hF (anX_end P L _ _ D _ _) ⟨decide_eq_false (by omega), trivial⟩ (fun y v hd => hd) hs

end Go.Proofs.Ytkfcphigoncgjaa

/- What refuses, walked. No conditions. -/
namespace Go.Proofs.Ytkfcphigoncgjaa

--@env env0 env0_ok
theorem ckA (a b:Int) (w : Bool) : fnRes env0 Try.f93 3000 [.v (.c (.int .i64 a)),.v (.c (.int .i64 b)),.v (.c (.bool w))] [true] [] [] = (some ([((a != b) = true)],((.ii (3:Int)),[]))) := by kernel_rfl
theorem ckB (a b:Int) (w : Bool) : fnRes env0 Try.f93 3000 [.v (.c (.int .i64 a)),.v (.c (.int .i64 b)),.v (.c (.bool w))] [false,true] [] [] = (some ([((a != b) = false),((decide (a > (4096:Int))) = true)],((.ii (2:Int)),[]))) := by kernel_rfl
theorem ckC (a b:Int) (w : Bool) : fnRes env0 Try.f93 3000 [.v (.c (.int .i64 a)),.v (.c (.int .i64 b)),.v (.c (.bool w))] [false,false,true] [] [] = (some ([((a != b) = false),((decide (a > (4096:Int))) = false),(w = true)],((.ii (30:Int)),[]))) := by kernel_rfl
theorem ckD (a b:Int) (w : Bool) : fnRes env0 Try.f93 3000 [.v (.c (.int .i64 a)),.v (.c (.int .i64 b)),.v (.c (.bool w))] [false,false,false] [] [] = (some ([((a != b) = false),((decide (a > (4096:Int))) = false),(w = false)],((.ii (0:Int)),[]))) := by kernel_rfl
theorem bdA (a b:Int) (w : Bool) : fnRes env0 Try.f48 3000 [.v (.c (.int .i64 a)),.v (.c (.int .i64 b)),.v (.c (.bool w))] [true] [] [] = (some ([((a != b) = true)],((.ii (3:Int)),[]))) := by kernel_rfl
theorem bdB (a b:Int) (w : Bool) : fnRes env0 Try.f48 3000 [.v (.c (.int .i64 a)),.v (.c (.int .i64 b)),.v (.c (.bool w))] [false,true] [] [] = (some ([((a != b) = false),((decide (a > (4096:Int))) = true)],((.ii (2:Int)),[]))) := by kernel_rfl
theorem bdC (a b:Int) (w : Bool) : fnRes env0 Try.f48 3000 [.v (.c (.int .i64 a)),.v (.c (.int .i64 b)),.v (.c (.bool w))] [false,false,true] [] [] = (some ([((a != b) = false),((decide (a > (4096:Int))) = false),(w = true)],((.ii (30:Int)),[]))) := by kernel_rfl
theorem bdD (a b:Int) (w : Bool) : fnRes env0 Try.f48 3000 [.v (.c (.int .i64 a)),.v (.c (.int .i64 b)),.v (.c (.bool w))] [false,false,false] [] [] = (some ([((a != b) = false),((decide (a > (4096:Int))) = false),(w = false)],((.ii (0:Int)),[]))) := by kernel_rfl
end Go.Proofs.Ytkfcphigoncgjaa

/- What refuses: contracts. No conditions. -/
namespace Go.Proofs.Ytkfcphigoncgjaa

theorem check_fnd (a b : Int) (w : Bool) : FnD Try.prog 93 [.v (.c (.int .i64 a)), .v (.c (.int .i64 b)), .v (.c (.bool w))] (.v (.c (.int .i64 (chkE a b w)))) [] := by
  by_cases h : a = b
  · by_cases h2 : a > 4096
    · rw [chk_gt h h2]
      exact fn_sound env0_ok Try.func93 (ckB a b w) ⟨by simp [h], decide_eq_true h2, trivial⟩
    · cases w with
      | true => rw [chk_w h h2 rfl]; exact fn_sound env0_ok Try.func93 (ckC a b true) ⟨by simp [h], decide_eq_false h2, rfl, trivial⟩
      | false => rw [chk_ok h h2 rfl]; exact fn_sound env0_ok Try.func93 (ckD a b false) ⟨by simp [h], decide_eq_false h2, rfl, trivial⟩
  · rw [chk_ne h]
    exact fn_sound env0_ok Try.func93 (ckA a b w) ⟨by simp [h], trivial⟩
theorem bad_fnd (a b : Int) (w : Bool) : FnD Try.prog 48 [.v (.c (.int .i64 a)), .v (.c (.int .i64 b)), .v (.c (.bool w))] (.v (.c (.int .i64 (chkE a b w)))) [] := by
  by_cases h : a = b
  · by_cases h2 : a > 4096
    · rw [chk_gt h h2]
      exact fn_sound env0_ok Try.func48 (bdB a b w) ⟨by simp [h], decide_eq_true h2, trivial⟩
    · cases w with
      | true => rw [chk_w h h2 rfl]; exact fn_sound env0_ok Try.func48 (bdC a b true) ⟨by simp [h], decide_eq_false h2, rfl, trivial⟩
      | false => rw [chk_ok h h2 rfl]; exact fn_sound env0_ok Try.func48 (bdD a b false) ⟨by simp [h], decide_eq_false h2, rfl, trivial⟩
  · rw [chk_ne h]
    exact fn_sound env0_ok Try.func48 (bdA a b w) ⟨by simp [h], trivial⟩

end Go.Proofs.Ytkfcphigoncgjaa

/- Sum1, and what it calls, walked. No conditions. -/
namespace Go.Proofs.Ytkfcphigoncgjaa
section
variable {w0 : World} {F0 : Nat → Prop} {K : Kp} {ac : List Act} {Q : Exit → Act → World → Prop} {cX : Ctx} {aX : Act}

theorem all_fnd2T (P : List (F2 × F2 × F2)) (k : List U4) (h : k.length = P.length ∧ P.length ≤ 4096) : FnD Try.prog 100 [.v (.c (.sl (.pt2 P))), .v (.c (.sl (.fr k)))] (.v (.a (pt2Its (smJ 52 pt20 P k)))) [] := all_fndT P k h.1 h.2 (Eq.refl 52)
def allSpecT : FnSpec
  | [.v (.c (.sl (.pt2 P))), .v (.c (.sl (.fr k)))] => some ([k.length = P.length, P.length ≤ 4096], .v (.a (pt2Its (smJ 52 pt20 P k))), [])
  | _ => none
noncomputable def vdA : Env := vcC.set (addT vcC.fn 100 allSpecT)
theorem vdA_ok : EnvOk Try.prog vdA := env_add vcC_ok 100 allSpecT (enters_of Try.func100 rfl rfl) fun args o r es h ho => by
  unfold allSpecT at h
  split at h
  · cases h; exact all_fnd2T _ _ ⟨ho.1, ho.2.1⟩
  · cases h
--@env vdA vdA_ok
noncomputable def eb_k : List KI := (run vdA false 3000 ((fun (l : List G2D) => (⟨[.code (bodyOf Try.f101)], .normal, initSt Try.f101.ntmps [.v (.c (.sl (.g2 l))), .v (.c (.clo 70 []))]⟩ : Cfg)) default) []).cfg.k
theorem eb_hk (l : List G2D) : (run vdA false 3000 ((⟨[.code (bodyOf Try.f101)], .normal, initSt Try.f101.ntmps [.v (.c (.sl (.g2 l))), .v (.c (.clo 70 []))]⟩ : Cfg)) []).cfg.k = eb_k := by kernel_rfl
theorem eb (l : List G2D) (ho : AllP [((0:Int) ≤ (((List.length l) : Nat):Int)),((((List.length l) : Nat):Int) = (((List.length l) : Nat):Int)),(((288:Int) * (((List.length l) : Nat):Int)) ≤ (281474976710656:Int)),((((List.length l) : Nat):Int) ≤ (9223372036854775807:Int))]) (hs : Sim w0 F0 K ac (initSt Try.f101.ntmps [.v (.c (.sl (.g2 l))),.v (.c (.clo 70 []))]) cX aX) (hK : ∀ ac cY aY,Sim w0 F0 K ac (mkSt 26 [1,5,11,12,13] [(.v (.c (.clo 70 ([] : List (Prod Nat Nat))))),(.v (.c (.slc 64 0 ((((List.length l) : Nat):Int)).toNat 36))),(.v (.c (.sl (Sq.g2 l)))),(.ii (((List.length l) : Nat):Int)),.ii (0:Int)] [64] [(some (.sq (Sq.pt2 (List.replicate ((((List.length l) : Nat):Int)).toNat pt20))))] 144 [] []) cY aY → Wq Try.prog Q (eb_k) ac Exit.normal aY cY.w) : Wq Try.prog Q ([.code (bodyOf Try.f101)]) ac .normal aX cX.w :=
  run_at2 (o := ⟨_, _, _, _, _, _, _⟩) vdA_ok (by kernel_rfl) (eb_hk l) ho hs hK
noncomputable def ebS (l : List G2D) (L : List (F2 × F2 × F2)) (n : Nat) (i:Int) : St := mkSt 26 [1,5,11,12,13] [(.v (.c (.clo 70 ([] : List (Prod Nat Nat))))),.v (.c (.slc 64 0 n 36)),(.v (.c (.sl (Sq.g2 l)))),(.ii (((List.length l) : Nat):Int)),.v (.c (.int .i64 i))] [64] [some (.sq (.pt2 L))] 144 [] []
theorem ebA_hk (l : List G2D) (L : List (F2 × F2 × F2)) (n : Nat) (i : Int) : (run vdA false 3000 ((⟨lpIn eb_k, .normal, ebS l L n i⟩ : Cfg)) [true]).cfg.k = lpBk eb_k := by kernel_rfl
theorem ebA (l : List G2D) (L : List (F2 × F2 × F2)) (n : Nat) (i:Int) (ho : AllP [((decide (i < (((List.length l) : Nat):Int))) = true),((0:Int) ≤ i),(i < (((List.length l) : Nat):Int)),((0:Int) ≤ i),(i < ((n : Nat):Int)),(0 = 0),((i).toNat < (List.length L))]) (hs : Sim w0 F0 K ac (ebS l L n i) cX aX) (hK : ∀ ac cY aY,Sim w0 F0 K ac (mkSt 26 [1,5,11,12,13] [(.v (.c (.clo 70 ([] : List (Prod Nat Nat))))),(.v (.c (.slc 64 0 n 36))),(.v (.c (.sl (Sq.g2 l)))),(.ii (((List.length l) : Nat):Int)),(.ii (IntKind.wrap .i64 (i + (1:Int))))] [64] [(some (.sq (Sq.pt2 (List.set L (i).toNat (inG2 (List.getD l (i).toNat g20))))))] 400 [] []) cY aY → Wq Try.prog Q (lpBk eb_k) ac Exit.normal aY cY.w) : Wq Try.prog Q (lpIn eb_k) ac .normal aX cX.w :=
  run_at2 (o := ⟨_, _, _, _, _, _, _⟩) vdA_ok (by kernel_rfl) (ebA_hk l L n i) ho hs hK
theorem ebX_end (l : List G2D) (L : List (F2 × F2 × F2)) (n : Nat) (i:Int) : runEnd vdA Try.f101 false 3000 (⟨lpIn eb_k,.normal,ebS l L n i⟩) [false] [] [64] = (some ([((decide (i < (((List.length l) : Nat):Int))) = false),(n = (List.length L))],((.v (.c (.sl (Sq.pt2 L)))),[]))) := by kernel_rfl
theorem nrR2 (a b c d : U6) (i : Bool) : fnRes vdA Try.f99 3000 [.v (.a [.ob (.fp a),.ob (.fp b),.ob (.fp c),.ob (.fp d),.bool i])] [] [] [] = (some ([],((.v (.c (.bool (Bool.not (onG2 (G2D.mk a b c d i)))))),[]))) := by kernel_rfl
def notRightT : FnSpec
  | [.v (.a [.ob (.fp a), .ob (.fp b), .ob (.fp c), .ob (.fp d), .bool i])] => some ([], .v (.c (.bool (!(onG2 ⟨a, b, c, d, i⟩)))), [])
  | _ => none
noncomputable def vdB : Env := vdA.set (addT vdA.fn 99 notRightT)
theorem vdB_ok : EnvOk Try.prog vdB := env_add vdA_ok 99 notRightT (enters_of Try.func99 rfl rfl) fun args o r es h _ => by
  unfold notRightT at h
  split at h
  · cases h; exact fn_sound vdA_ok Try.func99 (nrR2 _ _ _ _ _) trivial
  · cases h
--@env vdB vdB_ok
noncomputable def iz_k : List KI := (run vdB false 3000 ((fun (l : List G2D) => (⟨[.code (bodyOf Try.f134)], .normal, initSt Try.f134.ntmps [.v (.c (.sl (.g2 l))), .v (.c (.clo 99 []))]⟩ : Cfg)) default) []).cfg.k
theorem iz_hk (l : List G2D) : (run vdB false 3000 ((⟨[.code (bodyOf Try.f134)], .normal, initSt Try.f134.ntmps [.v (.c (.sl (.g2 l))), .v (.c (.clo 99 []))]⟩ : Cfg)) []).cfg.k = iz_k := by kernel_rfl
theorem iz (l : List G2D) (ho : AllP []) (hs : Sim w0 F0 K ac (initSt Try.f134.ntmps [.v (.c (.sl (.g2 l))),.v (.c (.clo 99 []))]) cX aX) (hK : ∀ ac cY aY,Sim w0 F0 K ac (mkSt 19 [0,1,7,8] [(.v (.c (.sl (Sq.g2 l)))),(.v (.c (.clo 99 ([] : List (Prod Nat Nat))))),(.ii (((List.length l) : Nat):Int)),.ii (0:Int)] [] [] 80 [] []) cY aY → Wq Try.prog Q (iz_k) ac Exit.normal aY cY.w) : Wq Try.prog Q ([.code (bodyOf Try.f134)]) ac .normal aX cX.w :=
  run_at2 (o := ⟨_, _, _, _, _, _, _⟩) vdB_ok (by kernel_rfl) (iz_hk l) ho hs hK
noncomputable def izS (l : List G2D) (i:Int) : St := mkSt 19 [0,1,7,8] [(.v (.c (.sl (Sq.g2 l)))),(.v (.c (.clo 99 ([] : List (Prod Nat Nat))))),(.ii (((List.length l) : Nat):Int)),.v (.c (.int .i64 i))] [] [] 80 [] []
theorem izA_hk (l : List G2D) (i : Int) : (run vdB false 3000 ((⟨lpIn iz_k, .normal, izS l i⟩ : Cfg)) [true, false]).cfg.k = lpBk iz_k := by kernel_rfl
theorem izA (l : List G2D) (i:Int) (ho : AllP [((decide (i < (((List.length l) : Nat):Int))) = true),((0:Int) ≤ i),(i < (((List.length l) : Nat):Int)),((Bool.not (onG2 (List.getD l (i).toNat g20))) = false)]) (hs : Sim w0 F0 K ac (izS l i) cX aX) (hK : ∀ ac cY aY,Sim w0 F0 K ac (mkSt 19 [0,1,7,8] [(.v (.c (.sl (Sq.g2 l)))),(.v (.c (.clo 99 ([] : List (Prod Nat Nat))))),(.ii (((List.length l) : Nat):Int)),(.ii (IntKind.wrap .i64 (i + (1:Int))))] [] [] 256 [] []) cY aY → Wq Try.prog Q (lpBk iz_k) ac Exit.normal aY cY.w) : Wq Try.prog Q (lpIn iz_k) ac .normal aX cX.w :=
  run_at2 (o := ⟨_, _, _, _, _, _, _⟩) vdB_ok (by kernel_rfl) (izA_hk l i) ho hs hK
theorem izY_end (l : List G2D) (i:Int) : runEnd vdB Try.f134 false 3000 (⟨lpIn iz_k,.normal,izS l i⟩) [true,true] [] [] = (some ([((decide (i < (((List.length l) : Nat):Int))) = true),((0:Int) ≤ i),(i < (((List.length l) : Nat):Int)),((Bool.not (onG2 (List.getD l (i).toNat g20))) = true)],((.ii i),[]))) := by kernel_rfl
theorem izX_end (l : List G2D) (i:Int) : runEnd vdB Try.f134 false 3000 (⟨lpIn iz_k,.normal,izS l i⟩) [false] [] [] = (some ([((decide (i < (((List.length l) : Nat):Int))) = false)],((.ii (-(1:Int))),[]))) := by kernel_rfl
end
end Go.Proofs.Ytkfcphigoncgjaa
