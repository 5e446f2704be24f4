/- Parts of a proof, one behind the other: WPu, PPu, WPi, WQl, PQl, WQm, PQm, WQp, PQp, WQc, PQc, WQu, PQu, WQv, Pf, WDa, WDb, PDb. No conditions. -/
import Derived.Shelf.Strconv.Itoa0
import Derived.Test.YtkfcphigoncgjaaTwL
/- Bits of a number, powers of an element of the greater field: the functions, walked. No conditions. -/
namespace Go.Proofs.Ytkfcphigoncgjaa
section
variable {w0 : World} {F0 : Nat → Prop} {K : Kp} {ac : List Act} {Q : Exit → Act → World → Prop} {cX : Ctx} {aX : Act}
open Go.Shelf

theorem inP_ofNat {n : Nat} (h : n < B6) : inP (Fin.ofNat B6 n) = Fin.ofNat pN n := by
  apply Fin.ext
  show (n % B6) % pN = n % pN
  rw [Nat.mod_eq_of_lt h]
theorem smallP_fnd (n : Int) (h1 : 0 ≤ n) (h2 : n < 18446744073709551616) : FnD Try.prog 110 [.v (.c (.int .u64 n))] (.v (.a [.ob (.p (Fin.ofNat pN n.toNat))])) [] := by
  refine (fn_sound qeF_ok Try.func110 (smallP0 n) ⟨h1, h2, by decide, by decide, by decide, by decide, by decide, by decide, by decide, by decide, by decide, by decide, trivial⟩).conv (fun _ _ h => h) fun y v hd => ?_
  rw [Nat.add_zero, inP_ofNat (by unfold B6; omega)] at hd
  exact hd
theorem zeroP_fnd (x : Fp) : FnD Try.prog 84 [.v (.a [.ob (.p x)])] (.v (.c (.bool (decide (x = 0))))) [] := by
  refine (fn_sound qeF_ok Try.func84 (zeroP0 _) trivial).conv (fun _ _ h => h) fun y v hd => ?_
  rw [if_pos rfl] at hd
  exact hd
def smallPSpec : FnSpec
  | [.v (.c (.int .u64 n))] => some ([0 ≤ n, n < 18446744073709551616], .v (.a [.ob (.p (Fin.ofNat pN n.toNat))]), [])
  | _ => none
noncomputable def qeG1 : Env := qeF.set (addT qeF.fn 110 smallPSpec)
theorem qeG1_ok : EnvOk Try.prog qeG1 := env_add qeF_ok 110 smallPSpec (enters_of Try.func110 rfl rfl) fun args o r es h ho => by
  unfold smallPSpec at h
  split at h
  · cases h; exact smallP_fnd _ ho.1 ho.2.1
  · cases h
def negPSpec : FnSpec
  | [.v (.a [.ob (.p x)])] => some ([], .v (.a [.ob (.p (0 - x))]), [])
  | _ => none
noncomputable def qeG2 : Env := qeG1.set (addT qeG1.fn 166 negPSpec)
theorem qeG2_ok : EnvOk Try.prog qeG2 := env_add qeG1_ok 166 negPSpec (enters_of Try.func166 rfl rfl) fun args o r es h _ => by
  unfold negPSpec at h
  split at h
  · cases h; exact fn_sound qeF_ok Try.func166 (negP0 _) trivial
  · cases h
def zeroPSpec : FnSpec
  | [.v (.a [.ob (.p x)])] => some ([], .v (.c (.bool (decide (x = 0)))), [])
  | _ => none
noncomputable def qeG : Env := qeG2.set (addT qeG2.fn 84 zeroPSpec)
theorem qeG_ok : EnvOk Try.prog qeG := env_add qeG2_ok 84 zeroPSpec (enters_of Try.func84 rfl rfl) fun args o r es h _ => by
  unfold zeroPSpec at h
  split at h
  · cases h; exact zeroP_fnd _
  · cases h

def renL : Ren := ⟨fun n => if n = 129 then 148 else 0, fun t => if t = 46 then 161 else if t = 53 then 22 else t, fun g => g⟩
theorem laysL : Lays.n129 Try.prog renL :=
  { mixed := by kernel_rfl
    f129 := by kernel_rfl
    t3 := by kernel_rfl
    a3 := fun _ => by kernel_rfl
    z3 := fun _ => by kernel_rfl
    v3 := fun _ => by kernel_rfl
    t4 := by kernel_rfl
    a4 := fun _ => by kernel_rfl
    z4 := fun _ => by kernel_rfl
    v4 := fun _ => by kernel_rfl
    t5 := by kernel_rfl
    a5 := fun _ => by kernel_rfl
    z5 := fun _ => by kernel_rfl
    v5 := fun _ => by kernel_rfl
    t9 := by kernel_rfl
    a9 := fun _ => by kernel_rfl
    z9 := fun _ => by kernel_rfl
    v9 := fun _ => by kernel_rfl
    t46 := by kernel_rfl
    a46 := fun _ => by kernel_rfl
    z46 := fun _ => by kernel_rfl
    v46 := fun _ => by kernel_rfl
    t53 := by kernel_rfl
    a53 := fun _ => by kernel_rfl
    z53 := fun _ => by kernel_rfl
    v53 := fun _ => by kernel_rfl }
theorem len64_fnd (n : Int) (h0 : 0 ≤ n) (h1 : n < 18446744073709551616) : FnD Try.prog 148 [.v (.c (.int .u64 n))] (.v (.c (.int .i64 (Lib.bitLen n.toNat : Nat)))) [] :=
  fnd_same fun x vs hd => by
    cases hd with | cons d1 hd =>
    cases hd
    rw [D_int d1]
    exact ⟨_, Any.bits_Len64 laysL n x.w h0 (by omega), ⟨rfl, 0, rfl⟩⟩
def lenSpec : FnSpec
  | [.v (.c (.int .u64 n))] => some ([0 ≤ n, n < 18446744073709551616], .v (.c (.int .i64 (Lib.bitLen n.toNat : Nat))), [])
  | _ => none
noncomputable def qeH1 : Env := qeG.set (addT qeG.fn 148 lenSpec)
theorem qeH1_ok : EnvOk Try.prog qeH1 := env_add qeG_ok 148 lenSpec (enters_of Try.func148 rfl rfl) fun args o r es h ho => by
  unfold lenSpec at h
  split at h
  · cases h; exact len64_fnd _ ho.1 ho.2.1
  · cases h
--@env qeH1 qeH1_ok
theorem ct (l : List Int) : fnRes qeH1 Try.f147 3000 [.v (.c (.sl (.u64 l)))] [] [] [] = (some ([((0:Int) ≤ (ite ((16:Int) < (((List.length l) : Nat):Int)) (16:Int) (((List.length l) : Nat):Int))),((ite ((16:Int) < (((List.length l) : Nat):Int)) (16:Int) (((List.length l) : Nat):Int)) ≤ (ite ((16:Int) < (((List.length l) : Nat):Int)) (16:Int) (((List.length l) : Nat):Int))),((ite ((16:Int) < (((List.length l) : Nat):Int)) (16:Int) (((List.length l) : Nat):Int)) ≤ (((List.length l) : Nat):Int))],((.v (.c (.sl (.u64 (List.take ((ite ((16:Int) < (((List.length l) : Nat):Int)) (16:Int) (((List.length l) : Nat):Int))).toNat (List.drop 0 l)))))),[]))) := by kernel_rfl

theorem cut_fnd (l : List Int) (hl : l.length ≤ 16) : FnD Try.prog 147 [.v (.c (.sl (.u64 l)))] (.v (.c (.sl (.u64 l)))) [] := by
  have r := ct l
  have e : (if (16 : Int) < ((l.length : Nat) : Int) then (16 : Int) else ((l.length : Nat) : Int)) = ((l.length : Nat) : Int) := if_neg (by omega)
  rw [e, Int.toNat_natCast, List.drop_zero, List.take_length] at r
  exact fn_sound qeH1_ok Try.func147 r ⟨by omega, Int.le_refl _, Int.le_refl _, trivial⟩
def cutSpec : FnSpec
  | [.v (.c (.sl (.u64 l)))] => some ([l.length ≤ 16], .v (.c (.sl (.u64 l))), [])
  | _ => none
noncomputable def qeH2 : Env := qeH1.set (addT qeH1.fn 147 cutSpec)
theorem qeH2_ok : EnvOk Try.prog qeH2 := env_add qeH1_ok 147 cutSpec (enters_of Try.func147 rfl rfl) fun args o r es h ho => by
  unfold cutSpec at h
  split at h
  · cases h; exact cut_fnd _ ho.1
  · cases h
--@env qeH2 qeH2_ok
noncomputable def nbIn_k : List KI := (run qeH2 false 3000 ((fun (l : List Int) => (⟨[.code (bodyOf Try.f146)], .normal, initSt Try.f146.ntmps [.v (.c (.sl (.u64 l)))]⟩ : Cfg)) default) []).cfg.k
theorem nbIn_hk (l : List Int) : (run qeH2 false 3000 ((⟨[.code (bodyOf Try.f146)], .normal, initSt Try.f146.ntmps [.v (.c (.sl (.u64 l)))]⟩ : Cfg)) []).cfg.k = nbIn_k := by kernel_rfl
theorem nbIn (l : List Int) (ho : AllP [((List.length l) ≤ 16)]) (hs : Sim w0 F0 K ac (initSt Try.f146.ntmps [.v (.c (.sl (.u64 l)))]) cX aX) (hK : ∀ ac cY aY,Sim w0 F0 K ac (mkSt 26 [0,3] [(.v (.c (.sl (.u64 l)))),(.ii (IntKind.wrap .i64 ((((List.length l) : Nat):Int) - (1:Int))))] [] [] 144 [] []) cY aY → Wq Try.prog Q (nbIn_k) ac Exit.normal aY cY.w) : Wq Try.prog Q ([.code (bodyOf Try.f146)]) ac .normal aX cX.w :=
  run_at2 (o := ⟨_, _, _, _, _, _, _⟩) qeH2_ok (by kernel_rfl) (nbIn_hk l) ho hs hK
noncomputable def nbS (l : List Int) (i:Int) : St := mkSt 26 [0,3] [(.v (.c (.sl (.u64 l)))),.v (.c (.int .i64 i))] [] [] 144 [] []
theorem nbN_hk (l : List Int) (i : Int) : (run qeH2 false 3000 ((⟨lpIn nbIn_k, .normal, nbS l i⟩ : Cfg)) [true, false]).cfg.k = lpBk nbIn_k := by kernel_rfl
theorem nbN (l : List Int) (i:Int) (ho : AllP [((decide (i ≥ (0:Int))) = true),((0:Int) ≤ i),(i < (((List.length l) : Nat):Int)),(((List.getD l (i).toNat (0:Int)) != (0:Int)) = false)]) (hs : Sim w0 F0 K ac (nbS l i) cX aX) (hK : ∀ ac cY aY,Sim w0 F0 K ac (mkSt 26 [0,3] [(.v (.c (.sl (.u64 l)))),(.ii (IntKind.wrap .i64 (i - (1:Int))))] [] [] 304 [] []) cY aY → Wq Try.prog Q (lpBk nbIn_k) ac Exit.normal aY cY.w) : Wq Try.prog Q (lpIn nbIn_k) ac .normal aX cX.w :=
  run_at2 (o := ⟨_, _, _, _, _, _, _⟩) qeH2_ok (by kernel_rfl) (nbN_hk l i) ho hs hK
theorem nbY_end (l : List Int) (i:Int) : runEnd qeH2 Try.f146 false 3000 (⟨lpIn nbIn_k,.normal,nbS l i⟩) [true,true] [] [] = (some ([((decide (i ≥ (0:Int))) = true),((0:Int) ≤ i),(i < (((List.length l) : Nat):Int)),(((List.getD l (i).toNat (0:Int)) != (0:Int)) = true),((0:Int) ≤ i),(i < (((List.length l) : Nat):Int)),((0:Int) ≤ (List.getD l (i).toNat (0:Int))),((List.getD l (i).toNat (0:Int)) < (18446744073709551616:Int))],((.ii (IntKind.wrap .i64 ((IntKind.wrap .i64 ((64:Int) * i)) + (((Lib.bitLen ((List.getD l (i).toNat (0:Int))).toNat) : Nat):Int)))),[]))) := by kernel_rfl
theorem nbX_end (l : List Int) (i:Int) : runEnd qeH2 Try.f146 false 3000 (⟨lpIn nbIn_k,.normal,nbS l i⟩) [false] [] [] = (some ([((decide (i ≥ (0:Int))) = false)],((.ii (0:Int)),[]))) := by kernel_rfl
theorem bits_fnd (l : List Int) (hl : l.length ≤ 16) (hlim : lims l) : FnD Try.prog 146 [.v (.c (.sl (.u64 l)))] (.v (.c (.int .i64 (bitsC l l.length : Nat)))) [] := by
  refine fn_start (fn := Try.f146) (c := bodyOf Try.f146) Try.func146 rfl rfl fun x a hk hF hs => ?_
  refine nbIn l ⟨hl, trivial⟩ hs fun ac cY aY hs1 => ?_
  rw [wrap_id (by omega) (by omega)] at hs1
  refine loop_rule (ι := { n : Nat // n ≤ l.length ∧ bitsC l n = bitsC l l.length }) (fun n => nbS l ((n.1 : Int) - 1)) (fun n => n.1) (c := lpC nbIn_k) (k := lpR nbIn_k) (by kernel_rfl) (fun n ih ac cY aY hs => ?_) ⟨l.length, Nat.le_refl _, rfl⟩ (hs1.nx _)
  obtain ⟨n, hn, he⟩ := n
  simp only at ih hs
  cases n with
  | zero =>
    rw [← he]
    exact run_end2 qeH2_ok hk hF (nbX_end l _) ⟨by simp, trivial⟩ (fun y v hd => hd) hs
  | succ n =>
    have e1 : ((n + 1 : Nat) : Int) - 1 = (n : Int) := by omega
    rw [e1] at hs
    have hg := lims_get hlim n
    by_cases h0 : l.getD n 0 = 0
    · refine nbN l _ ⟨by simp, by omega, by omega, by rw [Int.toNat_natCast, h0]; rfl, trivial⟩ hs fun ac cZ aZ hs2 => ?_
      rw [wrap_id (by omega) (by omega)] at hs2
      refine ih ⟨n, by omega, ?_⟩ (Nat.lt_succ_self n) ac cZ aZ (hs2.nx _)
      rw [← he]
      show _ = if l.getD n 0 ≠ 0 then _ else bitsC l n
      rw [if_neg (by simpa using h0)]
    · have r := nbY_end l (n : Int)
      have hb : bitsC l l.length = 64 * n + Lib.bitLen (l.getD n 0).toNat := by
        rw [← he]
        show (if l.getD n 0 ≠ 0 then _ else bitsC l n) = _
        rw [if_pos h0]
      have hle := bitLen_le (l.getD n 0).toNat
      rw [Int.toNat_natCast] at r
      have e2 : IntKind.wrap IntKind.i64 (IntKind.wrap IntKind.i64 ((64 : Int) * (n : Int)) + ((Lib.bitLen (l.getD n 0).toNat : Nat) : Int)) = ((bitsC l l.length : Nat) : Int) := by
        rw [hb]
        generalize Lib.bitLen (l.getD n 0).toNat = B at *
        rw [wrap_id (n := (64 : Int) * (n : Int)) (by omega) (by omega), wrap_id (by omega) (by omega)]
        omega
      rw [e2] at r
      have hne : (l.getD n 0 != (0 : Int)) = true := by simpa using h0
      exact run_end2 qeH2_ok hk hF r ⟨by simp, by omega, by omega, hne, by omega, by omega, hg.1, hg.2, trivial⟩ (fun y v hd => hd) hs
def bitsSpec : FnSpec
  | [.v (.c (.sl (.u64 l)))] => some ([l.length ≤ 16, lims l], .v (.c (.int .i64 (bitsC l l.length : Nat))), [])
  | _ => none
noncomputable def qeH : Env := qeH2.set (addT qeH2.fn 146 bitsSpec)
theorem qeH_ok : EnvOk Try.prog qeH := env_add qeH2_ok 146 bitsSpec (enters_of Try.func146 rfl rfl) fun args o r es h ho => by
  unfold bitsSpec at h
  split at h
  · cases h; exact bits_fnd _ ho.1 ho.2.1
  · cases h
--@env qeH qeH_ok
noncomputable def bt_k : List KI := (run qeH false 3000 ((fun (l : Nat) (v : Value) => (⟨[.code (bodyOf Try.f145)], .normal, ⟨argT [.v (.c (.val (.func (.yield l) #[] #[]))), .v (.c (.ptr 0 0))], one (.fl [.val v]), Try.f145.ntmps, 16, []⟩⟩ : Cfg)) default default) []).cfg.k
theorem bt_hk (l : Nat) (v : Value) : (run qeH false 3000 ((⟨[.code (bodyOf Try.f145)], .normal, ⟨argT [.v (.c (.val (.func (.yield l) #[] #[]))), .v (.c (.ptr 0 0))], one (.fl [.val v]), Try.f145.ntmps, 16, []⟩⟩ : Cfg)) []).cfg.k = bt_k := by kernel_rfl
theorem bt (l : Nat) (v : Value) (ho : AllP []) (hs : Sim w0 F0 K ac (⟨argT [.v (.c (.val (.func (.yield l) #[] #[]))),.v (.c (.ptr 0 0))],one (.fl [.val v]),Try.f145.ntmps,16,[]⟩) cX aX) (hK : ∀ ac cY aY,Sim w0 F0 K ac (mkSt 24 [0,1,4] [(.v (.c (.val (Value.func (Fn.yield l) (Array.mk ([] : List Value)) (Array.mk ([] : List Value)))))),.pt 0 0,(.v (.c (.val v)))] [0] [(some (.fl [(.val v)]))] 32 [] []) cY aY → Wq Try.prog Q (bt_k) ac Exit.normal aY cY.w) : Wq Try.prog Q ([.code (bodyOf Try.f145)]) ac .normal aX cX.w :=
  run_at2 (o := ⟨_, _, _, _, _, _, _⟩) qeH_ok (by kernel_rfl) (bt_hk l v) ho hs hK
noncomputable def btA (l : Nat) (v : Value) (e : List Int) : St := mkSt 24 [0,1,4] [(.v (.c (.val (Value.func (Fn.yield l) (Array.mk ([] : List Value)) (Array.mk ([] : List Value)))))),.pt 0 0,.v (.c (.sl (.u64 e)))] [0] [(some (.fl [(.val v)]))] 32 [] []
noncomputable def bu_k : List KI := (run qeH false 3000 ((fun (l : Nat) (v : Value) (e : List Int) => (⟨bt_k, .normal, btA l v e⟩ : Cfg)) default default default) []).cfg.k
theorem bu_hk (l : Nat) (v : Value) (e : List Int) : (run qeH false 3000 ((⟨bt_k, .normal, btA l v e⟩ : Cfg)) []).cfg.k = bu_k := by kernel_rfl
theorem bu (l : Nat) (v : Value) (e : List Int) (ho : AllP [((List.length e) ≤ 16),(lims e)]) (hs : Sim w0 F0 K ac (btA l v e) cX aX) (hK : ∀ ac cY aY,Sim w0 F0 K ac (mkSt 24 [0,1,3] [(.v (.c (.val (Value.func (Fn.yield l) (Array.mk ([] : List Value)) (Array.mk ([] : List Value)))))),.pt 0 0,(.ii (IntKind.wrap .i64 ((((bitsC e (List.length e)) : Nat):Int) - (1:Int))))] [0] [(some (.fl [(.val v)]))] 80 [] []) cY aY → Wq Try.prog Q (bu_k) ac Exit.normal aY cY.w) : Wq Try.prog Q (bt_k) ac .normal aX cX.w :=
  run_at2 (o := ⟨_, _, _, _, _, _, _⟩) qeH_ok (by kernel_rfl) (bu_hk l v e) ho hs hK
noncomputable def buS (l : Nat) (v : Value) (i:Int) : St := mkSt 24 [0,1,3] [(.v (.c (.val (Value.func (Fn.yield l) (Array.mk ([] : List Value)) (Array.mk ([] : List Value)))))),.pt 0 0,.v (.c (.int .i64 i))] [0] [(some (.fl [(.val v)]))] 80 [] []
noncomputable def bv_k : List KI := (run qeH false 3000 ((fun (l : Nat) (v : Value) (i : Int) => (⟨lpIn bu_k, .normal, buS l v i⟩ : Cfg)) default default default) [true]).cfg.k
theorem bv_hk (l : Nat) (v : Value) (i : Int) : (run qeH false 3000 ((⟨lpIn bu_k, .normal, buS l v i⟩ : Cfg)) [true]).cfg.k = bv_k := by kernel_rfl
theorem bv (l : Nat) (v : Value) (i:Int) (ho : AllP [((decide (i ≥ (0:Int))) = true),((64:Int) ≠ (0:Int))]) (hs : Sim w0 F0 K ac (buS l v i) cX aX) (hK : ∀ ac cY aY,Sim w0 F0 K ac (mkSt 24 [0,1,3,11,12,14] [(.v (.c (.val (Value.func (Fn.yield l) (Array.mk ([] : List Value)) (Array.mk ([] : List Value)))))),.pt 0 0,.ii i,(.v (.c (.val (Value.func (Fn.yield l) (Array.mk ([] : List Value)) (Array.mk ([] : List Value)))))),(.v (.c (.val v))),(.ii (IntKind.wrap .i64 (Int.tdiv i (64:Int))))] [0] [(some (.fl [(.val v)]))] 176 [] []) cY aY → Wq Try.prog Q (bv_k) ac Exit.normal aY cY.w) : Wq Try.prog Q (lpIn bu_k) ac .normal aX cX.w :=
  run_at2 (o := ⟨_, _, _, _, _, _, _⟩) qeH_ok (by kernel_rfl) (bv_hk l v i) ho hs hK
noncomputable def bvA (l : Nat) (v : Value) (e : List Int) (i:Int) : St := mkSt 24 [0,1,3,11,12,14] [(.v (.c (.val (Value.func (Fn.yield l) (Array.mk ([] : List Value)) (Array.mk ([] : List Value)))))),.pt 0 0,.ii i,(.v (.c (.val (Value.func (Fn.yield l) (Array.mk ([] : List Value)) (Array.mk ([] : List Value)))))),.v (.c (.sl (.u64 e))),(.ii (IntKind.wrap .i64 (Int.tdiv i (64:Int))))] [0] [(some (.fl [(.val v)]))] 176 [] []
noncomputable def bw_k : List KI := (run qeH false 3000 ((fun (l : Nat) (v : Value) (e : List Int) (i : Int) => (⟨bv_k, .normal, bvA l v e i⟩ : Cfg)) default default default default) []).cfg.k
theorem bw_hk (l : Nat) (v : Value) (e : List Int) (i : Int) : (run qeH false 3000 ((⟨bv_k, .normal, bvA l v e i⟩ : Cfg)) []).cfg.k = bw_k := by kernel_rfl
theorem bw (l : Nat) (v : Value) (e : List Int) (i:Int) (ho : AllP [((0:Int) ≤ (IntKind.wrap .i64 (Int.tdiv i (64:Int)))),((IntKind.wrap .i64 (Int.tdiv i (64:Int))) < (((List.length e) : Nat):Int)),((64:Int) ≠ (0:Int)),((0:Int) ≤ (Int.tmod i (64:Int)))]) (hs : Sim w0 F0 K ac (bvA l v e i) cX aX) (hK : ∀ ac cY aY,Sim w0 F0 K ac (mkSt 24 [0,1,3,11,21] [(.v (.c (.val (Value.func (Fn.yield l) (Array.mk ([] : List Value)) (Array.mk ([] : List Value)))))),.pt 0 0,.ii i,(.v (.c (.val (Value.func (Fn.yield l) (Array.mk ([] : List Value)) (Array.mk ([] : List Value)))))),(.v (.c (.bool ((bitsOp BinOp.and IntKind.u64 (Int.fdiv (List.getD e ((IntKind.wrap .i64 (Int.tdiv i (64:Int)))).toNat (0:Int)) ((2:Int) ^ (Min.min ((Int.tmod i (64:Int))).toNat 64))) (1:Int)) == (1:Int)))))] [0] [(some (.fl [(.val v)]))] 288 [] []) cY aY → Wq Try.prog Q (bw_k) ac Exit.normal aY cY.w) : Wq Try.prog Q (bv_k) ac .normal aX cX.w :=
  run_at2 (o := ⟨_, _, _, _, _, _, _⟩) qeH_ok (by kernel_rfl) (bw_hk l v e i) ho hs hK
theorem bX_hk (l : Nat) (v : Value) (i : Int) : (run qeH false 3000 ((⟨lpIn bu_k, .normal, buS l v i⟩ : Cfg)) [false]).cfg.k = [] := by kernel_rfl
theorem bX (l : Nat) (v : Value) (i:Int) (ho : AllP [((decide (i ≥ (0:Int))) = false)]) (hs : Sim w0 F0 K ac (buS l v i) cX aX) (hK : ∀ ac cY aY,Sim w0 F0 K ac (mkSt 24 [] [] [0] [(some (.fl [(.val v)]))] 112 [] []) cY aY → Wq Try.prog Q ([]) ac Exit.normal aY cY.w) : Wq Try.prog Q (lpIn bu_k) ac .normal aX cX.w :=
  run_at2 (o := ⟨_, _, _, _, _, _, _⟩) qeH_ok (by kernel_rfl) (bX_hk l v i) ho hs hK
theorem bB_hk (l : Nat) (v : Value) (i : Int) (b : Bool) : (run qeH false 3000 ((⟨opsNext bw_k, .normal, ⟨setT (look .top [0, 1, 3, 11, 21] [(.v (.c (.val (.func (.yield l) #[] #[])))), .v (.c (.ptr 0 0)), .v (.c (.int .i64 i)), (.v (.c (.val (.func (.yield l) #[] #[])))), .v (.c (.bool b))]) 22 (.v (.c (.lit true))), one (.fl [.val v]), 24, 400, []⟩⟩ : Cfg)) []).cfg.k = lpBk bu_k := by kernel_rfl
theorem bB (l : Nat) (v : Value) (i:Int) (b : Bool) (ho : AllP []) (hs : Sim w0 F0 K ac (⟨setT (look .top [0,1,3,11,21] [(.v (.c (.val (.func (.yield l) #[] #[])))),.v (.c (.ptr 0 0)),.v (.c (.int .i64 i)),(.v (.c (.val (.func (.yield l) #[] #[])))),.v (.c (.bool b))]) 22 (.v (.c (.lit true))),one (.fl [.val v]),24,400,[]⟩) cX aX) (hK : ∀ ac cY aY,Sim w0 F0 K ac (mkSt 24 [0,1,3] [(.v (.c (.val (Value.func (Fn.yield l) (Array.mk ([] : List Value)) (Array.mk ([] : List Value)))))),.pt 0 0,(.ii (IntKind.wrap .i64 (i - (1:Int))))] [0] [(some (.fl [(.val v)]))] 464 [] []) cY aY → Wq Try.prog Q (lpBk bu_k) ac Exit.normal aY cY.w) : Wq Try.prog Q (opsNext bw_k) ac .normal aX cX.w :=
  run_at2 (o := ⟨_, _, _, _, _, _, _⟩) qeH_ok (by kernel_rfl) (bB_hk l v i b) ho hs hK

theorem meth82_Times (v : Value) (w : World) : (method (Try.prog.types.size + Made.depth) 82 v "Times").run Try.prog w = .ok (130, v) w := by kernel_rfl
theorem meth82_Plus (v : Value) (w : World) : (method (Try.prog.types.size + Made.depth) 82 v "Plus").run Try.prog w = .ok (131, v) w := by kernel_rfl
theorem meth82_Minus (v : Value) (w : World) : (method (Try.prog.types.size + Made.depth) 82 v "Minus").run Try.prog w = .ok (143, v) w := by kernel_rfl
theorem meth82_IsZero (v : Value) (w : World) : (method (Try.prog.types.size + Made.depth) 82 v "IsZero").run Try.prog w = .ok (84, v) w := by kernel_rfl
theorem meth82_Negative (v : Value) (w : World) : (method (Try.prog.types.size + Made.depth) 82 v "Negative").run Try.prog w = .ok (166, v) w := by kernel_rfl
theorem meth82_Inverse (v : Value) (w : World) : (method (Try.prog.types.size + Made.depth) 82 v "Inverse").run Try.prog w = .ok (165, v) w := by kernel_rfl
noncomputable def invP (t : Nat) : Option (List (String × Nat)) := if t = 82 then some [("Times", 130), ("Plus", 131), ("Minus", 143), ("IsZero", 84), ("Negative", 166), ("Inverse", 165)] else none
noncomputable def qeI : Env := { qeH with inv := invP }
theorem qeI_ok : EnvOk Try.prog qeI := by
  refine ⟨qeH_ok.ty, qeH_ok.mixed, qeH_ok.fn, qeH_ok.mu, qeH_ok.inl, qeH_ok.ex, fun t l h => ?_⟩
  have h : invP t = some l := h
  unfold invP at h
  split at h
  · rename_i ht
    cases h
    subst ht
    refine ⟨by kernel_rfl, fun name g hg v args w => ?_⟩
    unfold lookM at hg
    split at hg
    · rename_i hn
      cases hg
      subst hn
      simp only [callMethod, Sem.run_bind, run_program, Result.andThen_ok, meth82_Times]
    unfold lookM at hg
    split at hg
    · rename_i hn
      cases hg
      subst hn
      simp only [callMethod, Sem.run_bind, run_program, Result.andThen_ok, meth82_Plus]
    unfold lookM at hg
    split at hg
    · rename_i hn
      cases hg
      subst hn
      simp only [callMethod, Sem.run_bind, run_program, Result.andThen_ok, meth82_Minus]
    unfold lookM at hg
    split at hg
    · rename_i hn
      cases hg
      subst hn
      simp only [callMethod, Sem.run_bind, run_program, Result.andThen_ok, meth82_IsZero]
    unfold lookM at hg
    split at hg
    · rename_i hn
      cases hg
      subst hn
      simp only [callMethod, Sem.run_bind, run_program, Result.andThen_ok, meth82_Negative]
    unfold lookM at hg
    split at hg
    · rename_i hn
      cases hg
      subst hn
      simp only [callMethod, Sem.run_bind, run_program, Result.andThen_ok, meth82_Inverse]
    cases hg
  · cases h
--@env qeI qeI_ok
noncomputable def qp_k : List KI := (run qeI false 3000 ((fun (a : Fp) (e : List Int) => (⟨[.code (bodyOf Try.f167)], .normal, initSt Try.f167.ntmps [.v (.a [.ob (.p a)]), .v (.a [.ob (.p 1)]), .v (.c (.sl (.u64 e)))]⟩ : Cfg)) default default) []).cfg.k
theorem qp_hk (a : Fp) (e : List Int) : (run qeI false 3000 ((⟨[.code (bodyOf Try.f167)], .normal, initSt Try.f167.ntmps [.v (.a [.ob (.p a)]), .v (.a [.ob (.p 1)]), .v (.c (.sl (.u64 e)))]⟩ : Cfg)) []).cfg.k = qp_k := by kernel_rfl
theorem qp (a : Fp) (e : List Int) (ho : AllP []) (hs : Sim w0 F0 K ac (initSt Try.f167.ntmps [.v (.a [.ob (.p a)]),.v (.a [.ob (.p 1)]),.v (.c (.sl (.u64 e)))]) cX aX) (hK : ∀ ac cY aY,Sim w0 F0 K ac (mkSt 23 [3,6,7,11] [.pt 16 0,.pt 48 0,.pt 80 0,(.v (.c (.clo 145 [(128,0)])))] [16,48,80,128] [(some (.fl [.ob (.p a)])),(some (.fl [(.ob (.p (0:Fp)))])),(some (.fl [(.ob (.p (1:Fp)))])),(some (.fl [.sl (.u64 e)]))] 192 [] []) cY aY → Wq Try.prog Q (qp_k) ac Exit.normal aY cY.w) : Wq Try.prog Q ([.code (bodyOf Try.f167)]) ac .normal aX cX.w :=
  run_at2 (o := ⟨_, _, _, _, _, _, _⟩) qeI_ok (by kernel_rfl) (qp_hk a e) ho hs hK
noncomputable def qpS (a : Fp) (e : List Int) (o : Fp) : St := mkSt 23 [3,6,7,11] [.pt 16 0,.pt 48 0,.pt 80 0,(.v (.c (.clo 145 [(128,0)])))] [16,48,80,128] [(some (.fl [.ob (.p a)])),(some (.fl [(.ob (.p (0:Fp)))])),some (.fl [.ob (.p o)]),(some (.fl [.sl (.u64 e)]))] 192 [] []
theorem qpA_hk (a : Fp) (e : List Int) (o : Fp) (z : Bool) : (run qeI false 3000 ((⟨[.code (rfA qp_k)], .normal, roundSt (qpS a e o) [(12, .v (.c (.bool z)))]⟩ : Cfg)) []).cfg.k = [] := by kernel_rfl
theorem qpA (a : Fp) (e : List Int) (o : Fp) (z : Bool) {ρ : Option Nat} (ho : AllP []) (hs : Sim w0 F0 K ac (roundSt (qpS a e o) [(12,.v (.c (.bool z)))]) cX aX) (hK : ∀ cY aY,Sim w0 F0 K ac (mkSt 23 [3,6,7,8] [.pt 16 0,.pt 48 0,.pt 80 0,(.v (.c (.bool z)))] [16,48,80,128] [(some (.fl [.ob (.p a)])),(some (.fl [(.ob (.p (0:Fp)))])),(some (.fl [.ob (.p o)])),(some (.fl [.sl (.u64 e)]))] 208 [[3,6,7,11]] [([.pt 16 0,.pt 48 0,.pt 80 0,(.v (.c (.clo 145 [(128,0)])))],23)]) cY aY → Wq Try.prog Q ([]) ac Exit.normal aY cY.w ρ) : Wq Try.prog Q ([.code (rfA qp_k)]) ac .normal aX cX.w ρ :=
  run_atT (o := ⟨_, _, _, _, _, _, _⟩) qeI_ok (by kernel_rfl) (qpA_hk a e o z) ho (by kernel_rfl) (by kernel_rfl) hs hK
noncomputable def qpB (a : Fp) (e : List Int) (o : Fp) (z : Bool) : St := mkSt 23 [3,6,7,8] [.pt 16 0,.pt 48 0,.pt 80 0,(.v (.c (.bool z)))] [16,48,80,128] [(some (.fl [.ob (.p a)])),(some (.fl [(.ob (.p (0:Fp)))])),some (.fl [.ob (.p o)]),(some (.fl [.sl (.u64 e)]))] 208 [[3,6,7,11]] [([.pt 16 0,.pt 48 0,.pt 80 0,(.v (.c (.clo 145 [(128,0)])))],23)]
theorem qpC_hk (a : Fp) (e : List Int) (o : Fp) (z : Bool) : (run qeI false 3000 ((⟨[.code (rfB qp_k)], .normal, qpB a e o z⟩ : Cfg)) [true]).cfg.k = [] := by kernel_rfl
theorem qpC (a : Fp) (e : List Int) (o : Fp) (z : Bool) {ρ : Option Nat} (ho : AllP [(z = true)]) (hs : Sim w0 F0 K ac (qpB a e o z) cX aX) (hK : ∀ cY aY,Sim w0 F0 K ac (mkSt 23 [6] [.pt 48 0] [16,48,80,128] [(some (.fl [.ob (.p a)])),(some (.fl [(.ob (.p (0:Fp)))])),(some (.fl [(.ob (.p ((o * o) * a)))])),(some (.fl [.sl (.u64 e)]))] 384 [[3,6,7,11]] [([.pt 16 0,.pt 48 0,.pt 80 0,(.v (.c (.clo 145 [(128,0)])))],23)]) cY aY → Wq Try.prog Q ([]) ac Exit.normal aY cY.w ρ) : Wq Try.prog Q ([.code (rfB qp_k)]) ac .normal aX cX.w ρ :=
  run_atT (o := ⟨_, _, _, _, _, _, _⟩) qeI_ok (by kernel_rfl) (qpC_hk a e o z) ho (by kernel_rfl) (by kernel_rfl) hs hK
theorem qpD_hk (a : Fp) (e : List Int) (o : Fp) (z : Bool) : (run qeI false 3000 ((⟨[.code (rfB qp_k)], .normal, qpB a e o z⟩ : Cfg)) [false]).cfg.k = [] := by kernel_rfl
theorem qpD (a : Fp) (e : List Int) (o : Fp) (z : Bool) {ρ : Option Nat} (ho : AllP [(z = false)]) (hs : Sim w0 F0 K ac (qpB a e o z) cX aX) (hK : ∀ cY aY,Sim w0 F0 K ac (mkSt 23 [6] [.pt 48 0] [16,48,80,128] [(some (.fl [.ob (.p a)])),(some (.fl [(.ob (.p (0:Fp)))])),(some (.fl [(.ob (.p (o * o)))])),(some (.fl [.sl (.u64 e)]))] 304 [[3,6,7,11]] [([.pt 16 0,.pt 48 0,.pt 80 0,(.v (.c (.clo 145 [(128,0)])))],23)]) cY aY → Wq Try.prog Q ([]) ac Exit.normal aY cY.w ρ) : Wq Try.prog Q ([.code (rfB qp_k)]) ac .normal aX cX.w ρ :=
  run_atT (o := ⟨_, _, _, _, _, _, _⟩) qeI_ok (by kernel_rfl) (qpD_hk a e o z) ho (by kernel_rfl) (by kernel_rfl) hs hK
theorem qpX_hk (a : Fp) (e : List Int) (o : Fp) : (run qeI false 3000 ((⟨rfR qp_k, .normal, qpS a e o⟩ : Cfg)) []).cfg.k = [] := by kernel_rfl
theorem qpX (a : Fp) (e : List Int) (o : Fp) (ho : AllP []) (hs : Sim w0 F0 K ac (qpS a e o) cX aX) (hK : ∀ ac cY aY,Sim w0 F0 K ac (mkSt 23 [6] [.pt 48 0] [48] [(some (.fl [.ob (.p o)]))] 224 [] []) cY aY → Wq Try.prog Q ([]) ac Exit.ret aY cY.w) : Wq Try.prog Q (rfR qp_k) ac .normal aX cX.w :=
  run_at2 (o := ⟨_, _, _, _, _, _, _⟩) qeI_ok (by kernel_rfl) (qpX_hk a e o) ho hs hK
noncomputable def qpE (a : Fp) (e : List Int) (o : Fp) : St := mkSt 23 [6] [.pt 48 0] [16,48,80,128] [(some (.fl [.ob (.p a)])),(some (.fl [(.ob (.p (0:Fp)))])),some (.fl [.ob (.p o)]),(some (.fl [.sl (.u64 e)]))] 384 [[3,6,7,11]] [([.pt 16 0,.pt 48 0,.pt 80 0,(.v (.c (.clo 145 [(128,0)])))],23)]
noncomputable def qpZ (o : Fp) : St := mkSt 23 [6] [.pt 48 0] [48] [some (.fl [.ob (.p o)])] 224 [] []
theorem qpR_end (o : Fp) : runEnd qeI Try.f167 false 3000 (⟨[],.ret,qpZ o⟩) [] [] [] = (some ([],((.v (.a [.ob (.p o)])),[]))) := by kernel_rfl
end
end Go.Proofs.Ytkfcphigoncgjaa

/- Bits handed on; powers of an element. No conditions. -/
namespace Go.Proofs.Ytkfcphigoncgjaa

theorem and1 {m : Nat} : bitsOp BinOp.and IntKind.u64 (m : Int) (1 : Int) = ((m % 2 : Nat) : Int) := by
  show IntKind.wrap IntKind.u64 ((BitVec.ofInt 64 (m : Int) &&& BitVec.ofInt 64 ((1 : Nat) : Int)).toNat : Int) = _
  rw [BitVec.ofInt_natCast, BitVec.ofInt_natCast, BitVec.toNat_and, BitVec.toNat_ofNat, BitVec.toNat_ofNat]
  have e : 1 % 2 ^ 64 = 2 ^ 1 - 1 := by decide
  rw [e, Nat.and_two_pow_sub_one_eq_mod, wrap_u64]
  omega

theorem bit_expr {e : List Int} (h : lims e) {i : Nat} (hi : i < 1024) : (bitsOp BinOp.and IntKind.u64 (Int.fdiv (List.getD e (IntKind.wrap IntKind.i64 (Int.tdiv (i : Int) (64 : Int))).toNat (0 : Int)) ((2 : Int) ^ (Min.min (Int.tmod (i : Int) (64 : Int)).toNat 64))) (1 : Int) == (1 : Int)) = decide (numL e / 2 ^ i % 2 = 1) := by
  have e1 : Int.tdiv (i : Int) (64 : Int) = ((i / 64 : Nat) : Int) := Int.tdiv_eq_ediv_of_nonneg (by omega)
  have e2 : Int.tmod (i : Int) (64 : Int) = ((i % 64 : Nat) : Int) := Int.tmod_eq_emod_of_nonneg (by omega)
  have e3 : Min.min (((i % 64 : Nat) : Int)).toNat 64 = i % 64 := by omega
  have hg := lims_get h (i / 64)
  rw [e1, wrap_id (by omega) (by omega), Int.toNat_natCast, e2, e3, numL_bit h i]
  obtain ⟨g, hg2⟩ := Int.eq_ofNat_of_zero_le hg.1
  have hp : ((2 : Int) ^ (i % 64)) = ((2 ^ (i % 64) : Nat) : Int) := by simp
  rw [hg2, hp, Int.fdiv_eq_ediv_of_nonneg _ (Int.natCast_nonneg _), ← Int.natCast_ediv, and1, Int.toNat_natCast]
  generalize g / 2 ^ (i % 64) = m
  by_cases hm : m % 2 = 1
  · rw [hm]; rfl
  · have : m % 2 = 0 := by omega
    rw [this]; rfl

def btEnc (z : Bool) : List Value := [.bool z]

theorem bits_iter {x : Ctx} {p : Nat} {e : List Int} {M : List Bool → Nat → Option En} (hl : e.length ≤ 16) (hlim : lims e) (hM : ∀ s, M s p = some (.fl [.sl (.u64 e)])) :
    IterC Try.prog x 145 [(p, 0)] btEnc (btL (numL e) (bitsC e e.length) (bitsC e e.length)) M := by
  intro l J W hgrow hread hyield hJ
  have hcl := bitsC_le e e.length
  generalize hc : bitsC e e.length = c at *
  generalize hN : numL e = N at *
  have key : Wq Try.prog (bodyPost Try.prog Try.f145 fun e' W' => (∃ v, e' = Ending.returned v) ∧ J (btL N c c) W') [.code (bodyOf Try.f145)] [] .normal { tmps := [Value.func (.yield l) #[] #[], .pointer (some ⟨x.β p, 0, none⟩)].toArray ++ Array.replicate 22 undef, defers := [] } W := ?_
  · exact calls_of_wp (c := bodyOf Try.f145) Try.func145 rfl ((wpIn_wide (n := 0)).1 key.wp)
  obtain ⟨y, rfl, hm, hcp⟩ := hread [] W hJ
  obtain ⟨hr, hβ⟩ := hcp (p, 0) List.mem_cons_self
  have hr : y.k p = .real := hr
  have hβ : y.β p = x.β p := hβ
  have hargs : denSs (itCtx y p) [.v (.c (.val (.func (.yield l) #[] #[]))), .v (.c (.ptr 0 0))] [.func (.yield l) #[] #[], .pointer (some ⟨x.β p, 0, none⟩)] :=
    .cons ⟨rfl, 0, rfl, rfl⟩ (.cons ⟨rfl, 0, rfl, by show _ = [Value.pointer (some ⟨y.β p, 0, none⟩)]; rw [hβ]⟩ .nil)
  obtain ⟨v, hv, hbox⟩ := box_sl hm (hM []) hr
  have hs := it_sim (nx := 16) (nt := 24) (a := { tmps := [Value.func (.yield l) #[] #[], .pointer (some ⟨x.β p, 0, none⟩)].toArray ++ Array.replicate 22 undef, defers := [] }) hm (hM []) hr hbox rfl (by simp) (argT_den hargs 22)
  change Wq Try.prog _ _ _ _ _ (itCtx y p).w
  refine bt l v trivial hs fun ac cY aY hs1 => ?_
  have hmb : Mem (itCtx y p) (one (.fl [.val v])) := it_mem hm (hM _) hr hbox
  obtain ⟨hg1, _, _⟩ := it_back hmb rfl hs1 rfl
  have hsl : cY.D (.sl (.u64 e)) [v] := data_grow hg1 (fun b hb => hs1.base.f0 b hb) hm.fw rfl hv
  have hs2 := hs1.slots (svs' := [.v (.c (.val (.func (.yield l) #[] #[]))), .v (.c (.ptr 0 0)), .v (.c (.sl (.u64 e)))]) ⟨fun _ h => h, fun _ h => h, conv_val rfl hsl, trivial⟩
  refine bu l v e ⟨hl, hlim, trivial⟩ hs2 fun ac cZ aZ hs3 => ?_
  rw [hc, wrap_id (by omega) (by omega)] at hs3
  let I : { t : Nat // t ≤ c } → List Act → Act → World → Prop := fun t ac a w => ∃ y z v, z.w = w ∧ y.k p = .real ∧ y.β p = x.β p ∧ Mem y (M (btL N c t.1)) ∧ J (btL N c t.1) y.w ∧ y.D (.sl (.u64 e)) [v] ∧ Mem (itCtx y p) (one (.fl [.val v])) ∧ Sim y.w y.F (kPin (itCtx y p)) ac (buS l v ((c : Int) - 1 - (t.1 : Int))) z a
  refine loop_inv I (fun t => c - t.1) (c := lpC bu_k) (k := lpR bu_k) (by kernel_rfl) (fun t ih ac b w hI => ?_) ⟨0, Nat.zero_le _⟩ ⟨y, cZ, v, rfl, hr, hβ, hm, hJ, hv, hmb, by
      show Sim _ _ _ _ (buS l v ((c : Int) - 1 - ((0 : Nat) : Int))) _ _
      rw [show (c : Int) - 1 - ((0 : Nat) : Int) = (c : Int) - 1 from by omega]
      exact hs3.nx _⟩
  obtain ⟨t, ht⟩ := t
  obtain ⟨y, z, v, rfl, hr, hβ, hm, hJ, hv, hmb, hs⟩ := hI
  simp only at hm hJ hs ih
  by_cases h : t < c
  · obtain ⟨i, hi⟩ : ∃ i : Nat, i = c - 1 - t := ⟨_, rfl⟩
    have ei : (c : Int) - 1 - (t : Int) = (i : Int) := by omega
    rw [ei] at hs
    refine bv l v _ ⟨by simp, by decide, trivial⟩ hs fun ac cV aV hs4 => ?_
    obtain ⟨hg4, _, _⟩ := it_back hmb rfl hs4 rfl
    have hsl4 : cV.D (.sl (.u64 e)) [v] := data_grow hg4 (fun b hb => hs4.base.f0 b hb) hm.fw rfl hv
    have hs5 := hs4.slots (svs' := [.v (.c (.val (.func (.yield l) #[] #[]))), .v (.c (.ptr 0 0)), .v (.c (.int .i64 (i : Int))), .v (.c (.val (.func (.yield l) #[] #[]))), .v (.c (.sl (.u64 e))), .v (.c (.int .i64 (IntKind.wrap IntKind.i64 (Int.tdiv (i : Int) (64 : Int)))))])
      ⟨fun _ h => h, fun _ h => h, fun _ h => h, fun _ h => h, conv_val rfl hsl4, fun _ h => h, trivial⟩
    have e1 : Int.tdiv (i : Int) (64 : Int) = ((i / 64 : Nat) : Int) := Int.tdiv_eq_ediv_of_nonneg (by omega)
    have e2 : Int.tmod (i : Int) (64 : Int) = ((i % 64 : Nat) : Int) := Int.tmod_eq_emod_of_nonneg (by omega)
    refine bw l v e _ ⟨by rw [e1, wrap_id (by omega) (by omega)]; omega, by rw [e1, wrap_id (by omega) (by omega)]; omega, by decide, by rw [e2]; omega, trivial⟩ hs5 fun ac cU aU hs6 => ?_
    rw [bit_expr hlim (by omega : i < 1024), hN] at hs6
    obtain ⟨hg, hk2, hβ2⟩ := it_back hmb rfl hs6 rfl
    have hJ2 := hgrow _ _ _ hJ hg
    have e3 : btL N c (t + 1) = btL N c t ++ [decide (N / 2 ^ i % 2 = 1)] := by rw [btL_succ, hi]
    obtain ⟨r, hr1⟩ := btL_pre N c (n := c) (t := t + 1) h
    refine yield_at (R := fun W' => J (btL N c (t + 1)) W') (dst := some 22) (f := .tmp 11) (args := [.tmp 21]) (by kernel_rfl) hs6 (l := l) rfl (vs := btEnc (decide (N / 2 ^ i % 2 = 1))) ?_ ?_ fun W' hJ3 => ?_
    · have h21 := D_bool (hs6.t 21)
      show [aU.tmps.getD 21 undef] = _
      rw [h21]
      rfl
    · have := hyield (btL N c t) (decide (N / 2 ^ i % 2 = 1)) _ hJ2 ⟨r, by rw [hr1, e3, List.append_assoc]; rfl⟩
      rw [← e3] at this
      exact this
    · obtain ⟨y3, rfl, hm3, hc3⟩ := hread _ _ hJ3
      obtain ⟨hr3, hβ3⟩ := hc3 (p, 0) List.mem_cons_self
      have hr3 : y3.k p = .real := hr3
      have hβ3 : y3.β p = x.β p := hβ3
      obtain ⟨v3, hv3, hbox3⟩ := box_sl hm3 (hM _) hr3
      have hmb3 : Mem (itCtx y3 p) (one (.fl [.val v3])) := it_mem hm3 (hM _) hr3 hbox3
      have hs7 := it_again (nx' := 400) (dst := 22) (b := true) hs6 (by kernel_rfl) rfl hm3 (hM _) hr3 hbox3 (by rw [hβ2, hβ]; exact hβ3.symm) (by decide)
      change Wq Try.prog _ _ _ _ _ (itCtx y3 p).w
      refine bB l v3 _ _ trivial hs7 fun ac cT aT hs8 => ?_
      have e4 : IntKind.wrap IntKind.i64 ((i : Int) - 1) = (c : Int) - 1 - ((t + 1 : Nat) : Int) := by rw [wrap_id (by omega) (by omega)]; omega
      rw [e4] at hs8
      exact ih ⟨t + 1, by omega⟩ (by show c - (t + 1) < c - t; omega) ac aT _ ⟨y3, cT, v3, rfl, hr3, hβ3, hm3, hJ3, hv3, hmb3, hs8.nx _⟩
  · have e5 : t = c := by omega
    subst e5
    refine bX l v _ ⟨by simp; omega, trivial⟩ hs fun ac cV aV hs4 => ?_
    obtain ⟨hg, _, _⟩ := it_back hmb rfl hs4 rfl
    exact ⟨it_end qeH_ok hs4 rfl rfl rfl (fun v => ⟨⟨v, rfl⟩, hgrow _ _ _ hJ hg⟩) (.inr rfl)⟩

def btVals (z : Bool) : List SV := [.v (.c (.bool z))]

theorem pw_bit (a : Fp) (l : List Bool) (z : Bool) : pw a (pv (l ++ [z])) = if z = true then pw a (pv l) * pw a (pv l) * a else pw a (pv l) * pw a (pv l) := by
  rw [pv_snoc, Nat.two_mul]
  cases z with
  | true =>
    rw [if_pos rfl, ← pw_add_g]
    rfl
  | false =>
    rw [if_neg (by decide), ← pw_add_g]
    rfl

theorem powerP_fnd (a : Fp) (e : List Int) (hl : e.length ≤ 16) (hlim : lims e) :
    FnD Try.prog 167 [.v (.a [.ob (.p a)]), .v (.a [.ob (.p 1)]), .v (.c (.sl (.u64 e)))] (.v (.a [.ob (.p (pw a (numL e)))])) [] := by
  refine fn_start_m (fn := Try.f167) (c := bodyOf Try.f167) Try.func167 rfl rfl fun x b hk hF hs => ?_
  refine qp a e trivial hs fun ac cY aY hs1 => ?_
  obtain ⟨e1, e2⟩ := isRf_eq (k := qp_k) (by kernel_rfl)
  rw [e1]
  have eP : (rfP qp_k).toList = [12] := by kernel_rfl
  have eG : rfG qp_k = .tmp 11 := by kernel_rfl
  refine range_rule (ps := rfP qp_k) e2 hs1 (gf := 145) (caps := [(128, 0)]) (enters_of Try.func145 rfl rfl) (fun pre => qpS a e (pw a (pv pre))) (fun s => by rw [eG]; rfl) ⟨_, rfl⟩ (btL (numL e) (bitsC e e.length) (bitsC e e.length)) btVals btEnc
    (fun y z => .cons ⟨rfl, 0, rfl⟩ .nil) (fun z => by rw [← Array.length_toList, eP]; rfl) (fun pre p hp => ?_) (bits_iter hl hlim fun s => rfl) (fun pre z => qpB a e (pw a (pv pre)) z)
    (fun pre z => qpE a e (pw a (pv (pre ++ [z])))) (fun pre z => ⟨_, rfl⟩) (fun pre z hz w1 F1 K1 as1 Q1 l y b hs2 hQ => ?_) (fun pre z hz w1 F1 K1 as1 Q1 l y b hs2 hQ => ?_) fun D y hs2 hD hFD hd => ?_
  · rw [eP] at hp
    have h23 : (qpS a e (pw a (pv pre))).nt = 23 := rfl
    rw [h23]
    simp only [List.mem_cons, List.not_mem_nil, or_false] at hp
    subst hp
    decide
  · rw [eP] at hs2
    exact qpA a e _ z trivial hs2 fun cZ aZ hs3 => ⟨hQ _ _ (hs3.nx _)⟩
  · rw [pw_bit] at hQ
    cases z with
    | true => exact qpC a e _ true ⟨rfl, trivial⟩ hs2 fun cZ aZ hs3 => ⟨hQ _ _ (hs3.nx _)⟩
    | false => exact qpD a e _ false ⟨rfl, trivial⟩ hs2 fun cZ aZ hs3 => ⟨hQ _ _ (hs3.nx _)⟩
  · have hs3 := hs2.marked rfl rfl D
    have hN : numL e < 2 ^ bitsC e e.length := by
      have := numL_lt hlim e.length (Nat.le_refl _)
      rwa [List.take_length] at this
    rw [pv_bits hN _ (Nat.le_refl _), Nat.sub_self, Nat.pow_zero, Nat.div_one] at hs2 hs3
    generalize pw a (numL e) = o at hs2 hs3 ⊢
    refine qpX a e o trivial hs3 fun ac cV aV hs6 => ⟨?_⟩
    have hs7 : Sim y.w y.F (kOwn y kAll (markOf D)) ac (qpZ o) cV aV := hs6
    exact fn_finish qeI_ok hk hF (qpR_end o) trivial (fun y v hd => hd) hs2 hD hFD hd rfl hs7

end Go.Proofs.Ytkfcphigoncgjaa

/- The inverse in the greater field; sums and doubles of points, walked. No conditions. -/
namespace Go.Proofs.Ytkfcphigoncgjaa

theorem powerP_fnd2 (a u : Fp) (e : List Int) (hu : u = 1) (hl : e.length ≤ 16) (hlim : lims e) :
    FnD Try.prog 167 [.v (.a [.ob (.p a)]), .v (.a [.ob (.p u)]), .v (.c (.sl (.u64 e)))] (.v (.a [.ob (.p (pw a (numL e)))])) [] := by
  subst hu
  exact powerP_fnd a e hl hlim
def powerPSpec : FnSpec
  | [.v (.a [.ob (.p a)]), .v (.a [.ob (.p u)]), .v (.c (.sl (.u64 e)))] => some ([u = 1, e.length ≤ 16, lims e], .v (.a [.ob (.p (pw a (numL e)))]), [])
  | _ => none
noncomputable def qeI1 : Env := qeI.set (addT qeI.fn 167 powerPSpec)
theorem qeI1_ok : EnvOk Try.prog qeI1 := env_add qeI_ok 167 powerPSpec (enters_of Try.func167 rfl rfl) fun args o r es h ho => by
  unfold powerPSpec at h
  split at h
  · cases h; exact powerP_fnd2 _ _ _ ho.1 ho.2.1 ho.2.2.1
  · cases h
--@env qeI1 qeI1_ok
theorem invP0 (a : Fp) : fnRes qeI1 Try.f165 3000 [.v (.a [.ob (.p a)])] [] [] [] = (some ([((0:Int) ≤ (0:Int)),((0:Int) < (6:Int)),(0 < 6),((0:Int) ≤ (0:Int)),((0:Int) < (6:Int)),((0:Int) ≤ (1:Int)),((1:Int) < (18446744073709551616:Int)),((Fin.ofNat pN 1) = (1:Fp)),(6 ≤ 16),(lims [(13402431016077863593:Int),(2210141511517208575:Int),(7435674573564081700:Int),(7239337960414712511:Int),(5412103778470702295:Int),(1873798617647539866:Int)])],((.v (.a [(.ob (.p (pw a 4002409555221667393417789825735904156556882819939007885332058136124031650490837864442687629129015664037894272559785)))])),[]))) := by kernel_rfl
/-- 1 divided by it; 0 of 0. -/
def ivP (a : Fp) : Fp := pw a (pN - 2)
theorem ivP_mul (x : Fp) (hx : x ≠ 0) : x * ivP x = 1 := by
  have h := fermat_p x hx
  have e : pN - 1 = (pN - 2) + 1 := by decide
  rw [e] at h
  have h2 : ivP x * x = 1 := h
  rw [mul_comm_g]
  exact h2
theorem invP_fnd (a : Fp) : FnD Try.prog 165 [.v (.a [.ob (.p a)])] (.v (.a [.ob (.p (ivP a))])) [] := by
  have e : 4002409555221667393417789825735904156556882819939007885332058136124031650490837864442687629129015664037894272559785 = pN - 2 := by decide +kernel
  have r := invP0 a
  rw [e] at r
  refine fn_sound qeI1_ok Try.func165 r ⟨by decide, by decide, by decide, by decide, by decide, by decide, by decide, rfl, by decide, ?_, trivial⟩
  intro x hx
  simp only [List.mem_cons, List.not_mem_nil, or_false] at hx
  rcases hx with rfl | rfl | rfl | rfl | rfl | rfl <;> decide
def invPSpec : FnSpec
  | [.v (.a [.ob (.p a)])] => some ([], .v (.a [.ob (.p (ivP a))]), [])
  | _ => none
noncomputable def qeJ : Env := qeI1.set (addT qeI1.fn 165 invPSpec)
theorem qeJ_ok : EnvOk Try.prog qeJ := env_add qeI1_ok 165 invPSpec (enters_of Try.func165 rfl rfl) fun args o r es h _ => by
  unfold invPSpec at h
  split at h
  · cases h; exact invP_fnd _
  · cases h
--@env qeJ qeJ_ok
theorem twA (x y z : Fp) : fnRes qeJ Try.f107 3000 [.v (.a [.ob (.p x),.ob (.p y),.ob (.p z)])] [true] [] [] = (some ([((decide (z = (0:Fp))) = true)],((.v (.a [.ob (.p x),.ob (.p y),.ob (.p z)])),[]))) := by kernel_rfl
theorem twB (x y z : Fp) : fnRes qeJ Try.f107 3000 [.v (.a [.ob (.p x),.ob (.p y),.ob (.p z)])] [false] [] [] = (some ([((decide (z = (0:Fp))) = false)],((.v (.a [(.ob (.p ((((((x * x) + (x * x)) + (x * x)) * (((x * x) + (x * x)) + (x * x))) - (((((x + (y * y)) * (x + (y * y))) - (x * x)) - ((y * y) * (y * y))) + ((((x + (y * y)) * (x + (y * y))) - (x * x)) - ((y * y) * (y * y))))) - (((((x + (y * y)) * (x + (y * y))) - (x * x)) - ((y * y) * (y * y))) + ((((x + (y * y)) * (x + (y * y))) - (x * x)) - ((y * y) * (y * y))))))),(.ob (.p (((((x * x) + (x * x)) + (x * x)) * ((((((x + (y * y)) * (x + (y * y))) - (x * x)) - ((y * y) * (y * y))) + ((((x + (y * y)) * (x + (y * y))) - (x * x)) - ((y * y) * (y * y)))) - ((((((x * x) + (x * x)) + (x * x)) * (((x * x) + (x * x)) + (x * x))) - (((((x + (y * y)) * (x + (y * y))) - (x * x)) - ((y * y) * (y * y))) + ((((x + (y * y)) * (x + (y * y))) - (x * x)) - ((y * y) * (y * y))))) - (((((x + (y * y)) * (x + (y * y))) - (x * x)) - ((y * y) * (y * y))) + ((((x + (y * y)) * (x + (y * y))) - (x * x)) - ((y * y) * (y * y))))))) - (((((y * y) * (y * y)) + ((y * y) * (y * y))) + (((y * y) * (y * y)) + ((y * y) * (y * y)))) + ((((y * y) * (y * y)) + ((y * y) * (y * y))) + (((y * y) * (y * y)) + ((y * y) * (y * y)))))))),(.ob (.p ((y * z) + (y * z))))])),[]))) := by kernel_rfl
theorem ngP (x y z : Fp) : fnRes qeJ Try.f57 3000 [.v (.a [.ob (.p x),.ob (.p y),.ob (.p z)])] [] [] [] = (some ([],((.v (.a [.ob (.p x),(.ob (.p ((0:Fp) - y))),.ob (.p z)])),[]))) := by kernel_rfl
end Go.Proofs.Ytkfcphigoncgjaa

/- The reference's Less for six limbs, walked. No conditions. -/
namespace Go.Proofs.Ytkfcphigoncgjaa

--@env qeJ qeJ_ok
theorem ls60 (a b : U6) : fnRes qeJ Try.f112 3000 [.v (.a [.ob (.fp a)]),.v (.a [.ob (.fp b)])] [true,true] [] [] = (some ([((decide ((5:Int) ≥ (0:Int))) = true),((0:Int) ≤ (5:Int)),((5:Int) < (6:Int)),(5 < (Ob.k (.fp a))),((0:Int) ≤ (5:Int)),((5:Int) < (6:Int)),(5 < (Ob.k (.fp b))),(((limb (Ob.n (.fp a)) 5) != (limb (Ob.n (.fp b)) 5)) = true),((0:Int) ≤ (5:Int)),((5:Int) < (6:Int)),(5 < (Ob.k (.fp a))),((0:Int) ≤ (5:Int)),((5:Int) < (6:Int)),(5 < (Ob.k (.fp b)))],((.v (.c (.bool (decide ((limb (Ob.n (.fp a)) 5) < (limb (Ob.n (.fp b)) 5)))))),[]))) := by kernel_rfl
theorem ls61 (a b : U6) : fnRes qeJ Try.f112 3000 [.v (.a [.ob (.fp a)]),.v (.a [.ob (.fp b)])] [true,false,true,true] [] [] = (some ([((decide ((5:Int) ≥ (0:Int))) = true),((0:Int) ≤ (5:Int)),((5:Int) < (6:Int)),(5 < (Ob.k (.fp a))),((0:Int) ≤ (5:Int)),((5:Int) < (6:Int)),(5 < (Ob.k (.fp b))),(((limb (Ob.n (.fp a)) 5) != (limb (Ob.n (.fp b)) 5)) = false),((decide ((4:Int) ≥ (0:Int))) = true),((0:Int) ≤ (4:Int)),((4:Int) < (6:Int)),(4 < (Ob.k (.fp a))),((0:Int) ≤ (4:Int)),((4:Int) < (6:Int)),(4 < (Ob.k (.fp b))),(((limb (Ob.n (.fp a)) 4) != (limb (Ob.n (.fp b)) 4)) = true),((0:Int) ≤ (4:Int)),((4:Int) < (6:Int)),(4 < (Ob.k (.fp a))),((0:Int) ≤ (4:Int)),((4:Int) < (6:Int)),(4 < (Ob.k (.fp b)))],((.v (.c (.bool (decide ((limb (Ob.n (.fp a)) 4) < (limb (Ob.n (.fp b)) 4)))))),[]))) := by kernel_rfl
theorem ls62 (a b : U6) : fnRes qeJ Try.f112 3000 [.v (.a [.ob (.fp a)]),.v (.a [.ob (.fp b)])] [true,false,true,false,true,true] [] [] = (some ([((decide ((5:Int) ≥ (0:Int))) = true),((0:Int) ≤ (5:Int)),((5:Int) < (6:Int)),(5 < (Ob.k (.fp a))),((0:Int) ≤ (5:Int)),((5:Int) < (6:Int)),(5 < (Ob.k (.fp b))),(((limb (Ob.n (.fp a)) 5) != (limb (Ob.n (.fp b)) 5)) = false),((decide ((4:Int) ≥ (0:Int))) = true),((0:Int) ≤ (4:Int)),((4:Int) < (6:Int)),(4 < (Ob.k (.fp a))),((0:Int) ≤ (4:Int)),((4:Int) < (6:Int)),(4 < (Ob.k (.fp b))),(((limb (Ob.n (.fp a)) 4) != (limb (Ob.n (.fp b)) 4)) = false),((decide ((3:Int) ≥ (0:Int))) = true),((0:Int) ≤ (3:Int)),((3:Int) < (6:Int)),(3 < (Ob.k (.fp a))),((0:Int) ≤ (3:Int)),((3:Int) < (6:Int)),(3 < (Ob.k (.fp b))),(((limb (Ob.n (.fp a)) 3) != (limb (Ob.n (.fp b)) 3)) = true),((0:Int) ≤ (3:Int)),((3:Int) < (6:Int)),(3 < (Ob.k (.fp a))),((0:Int) ≤ (3:Int)),((3:Int) < (6:Int)),(3 < (Ob.k (.fp b)))],((.v (.c (.bool (decide ((limb (Ob.n (.fp a)) 3) < (limb (Ob.n (.fp b)) 3)))))),[]))) := by kernel_rfl
theorem ls63 (a b : U6) : fnRes qeJ Try.f112 3000 [.v (.a [.ob (.fp a)]),.v (.a [.ob (.fp b)])] [true,false,true,false,true,false,true,true] [] [] = (some ([((decide ((5:Int) ≥ (0:Int))) = true),((0:Int) ≤ (5:Int)),((5:Int) < (6:Int)),(5 < (Ob.k (.fp a))),((0:Int) ≤ (5:Int)),((5:Int) < (6:Int)),(5 < (Ob.k (.fp b))),(((limb (Ob.n (.fp a)) 5) != (limb (Ob.n (.fp b)) 5)) = false),((decide ((4:Int) ≥ (0:Int))) = true),((0:Int) ≤ (4:Int)),((4:Int) < (6:Int)),(4 < (Ob.k (.fp a))),((0:Int) ≤ (4:Int)),((4:Int) < (6:Int)),(4 < (Ob.k (.fp b))),(((limb (Ob.n (.fp a)) 4) != (limb (Ob.n (.fp b)) 4)) = false),((decide ((3:Int) ≥ (0:Int))) = true),((0:Int) ≤ (3:Int)),((3:Int) < (6:Int)),(3 < (Ob.k (.fp a))),((0:Int) ≤ (3:Int)),((3:Int) < (6:Int)),(3 < (Ob.k (.fp b))),(((limb (Ob.n (.fp a)) 3) != (limb (Ob.n (.fp b)) 3)) = false),((decide ((2:Int) ≥ (0:Int))) = true),((0:Int) ≤ (2:Int)),((2:Int) < (6:Int)),(2 < (Ob.k (.fp a))),((0:Int) ≤ (2:Int)),((2:Int) < (6:Int)),(2 < (Ob.k (.fp b))),(((limb (Ob.n (.fp a)) 2) != (limb (Ob.n (.fp b)) 2)) = true),((0:Int) ≤ (2:Int)),((2:Int) < (6:Int)),(2 < (Ob.k (.fp a))),((0:Int) ≤ (2:Int)),((2:Int) < (6:Int)),(2 < (Ob.k (.fp b)))],((.v (.c (.bool (decide ((limb (Ob.n (.fp a)) 2) < (limb (Ob.n (.fp b)) 2)))))),[]))) := by kernel_rfl
theorem ls64 (a b : U6) : fnRes qeJ Try.f112 3000 [.v (.a [.ob (.fp a)]),.v (.a [.ob (.fp b)])] [true,false,true,false,true,false,true,false,true,true] [] [] = (some ([((decide ((5:Int) ≥ (0:Int))) = true),((0:Int) ≤ (5:Int)),((5:Int) < (6:Int)),(5 < (Ob.k (.fp a))),((0:Int) ≤ (5:Int)),((5:Int) < (6:Int)),(5 < (Ob.k (.fp b))),(((limb (Ob.n (.fp a)) 5) != (limb (Ob.n (.fp b)) 5)) = false),((decide ((4:Int) ≥ (0:Int))) = true),((0:Int) ≤ (4:Int)),((4:Int) < (6:Int)),(4 < (Ob.k (.fp a))),((0:Int) ≤ (4:Int)),((4:Int) < (6:Int)),(4 < (Ob.k (.fp b))),(((limb (Ob.n (.fp a)) 4) != (limb (Ob.n (.fp b)) 4)) = false),((decide ((3:Int) ≥ (0:Int))) = true),((0:Int) ≤ (3:Int)),((3:Int) < (6:Int)),(3 < (Ob.k (.fp a))),((0:Int) ≤ (3:Int)),((3:Int) < (6:Int)),(3 < (Ob.k (.fp b))),(((limb (Ob.n (.fp a)) 3) != (limb (Ob.n (.fp b)) 3)) = false),((decide ((2:Int) ≥ (0:Int))) = true),((0:Int) ≤ (2:Int)),((2:Int) < (6:Int)),(2 < (Ob.k (.fp a))),((0:Int) ≤ (2:Int)),((2:Int) < (6:Int)),(2 < (Ob.k (.fp b))),(((limb (Ob.n (.fp a)) 2) != (limb (Ob.n (.fp b)) 2)) = false),((decide ((1:Int) ≥ (0:Int))) = true),((0:Int) ≤ (1:Int)),((1:Int) < (6:Int)),(1 < (Ob.k (.fp a))),((0:Int) ≤ (1:Int)),((1:Int) < (6:Int)),(1 < (Ob.k (.fp b))),(((limb (Ob.n (.fp a)) 1) != (limb (Ob.n (.fp b)) 1)) = true),((0:Int) ≤ (1:Int)),((1:Int) < (6:Int)),(1 < (Ob.k (.fp a))),((0:Int) ≤ (1:Int)),((1:Int) < (6:Int)),(1 < (Ob.k (.fp b)))],((.v (.c (.bool (decide ((limb (Ob.n (.fp a)) 1) < (limb (Ob.n (.fp b)) 1)))))),[]))) := by kernel_rfl
theorem ls65 (a b : U6) : fnRes qeJ Try.f112 3000 [.v (.a [.ob (.fp a)]),.v (.a [.ob (.fp b)])] [true,false,true,false,true,false,true,false,true,false,true,true] [] [] = (some ([((decide ((5:Int) ≥ (0:Int))) = true),((0:Int) ≤ (5:Int)),((5:Int) < (6:Int)),(5 < (Ob.k (.fp a))),((0:Int) ≤ (5:Int)),((5:Int) < (6:Int)),(5 < (Ob.k (.fp b))),(((limb (Ob.n (.fp a)) 5) != (limb (Ob.n (.fp b)) 5)) = false),((decide ((4:Int) ≥ (0:Int))) = true),((0:Int) ≤ (4:Int)),((4:Int) < (6:Int)),(4 < (Ob.k (.fp a))),((0:Int) ≤ (4:Int)),((4:Int) < (6:Int)),(4 < (Ob.k (.fp b))),(((limb (Ob.n (.fp a)) 4) != (limb (Ob.n (.fp b)) 4)) = false),((decide ((3:Int) ≥ (0:Int))) = true),((0:Int) ≤ (3:Int)),((3:Int) < (6:Int)),(3 < (Ob.k (.fp a))),((0:Int) ≤ (3:Int)),((3:Int) < (6:Int)),(3 < (Ob.k (.fp b))),(((limb (Ob.n (.fp a)) 3) != (limb (Ob.n (.fp b)) 3)) = false),((decide ((2:Int) ≥ (0:Int))) = true),((0:Int) ≤ (2:Int)),((2:Int) < (6:Int)),(2 < (Ob.k (.fp a))),((0:Int) ≤ (2:Int)),((2:Int) < (6:Int)),(2 < (Ob.k (.fp b))),(((limb (Ob.n (.fp a)) 2) != (limb (Ob.n (.fp b)) 2)) = false),((decide ((1:Int) ≥ (0:Int))) = true),((0:Int) ≤ (1:Int)),((1:Int) < (6:Int)),(1 < (Ob.k (.fp a))),((0:Int) ≤ (1:Int)),((1:Int) < (6:Int)),(1 < (Ob.k (.fp b))),(((limb (Ob.n (.fp a)) 1) != (limb (Ob.n (.fp b)) 1)) = false),((decide ((0:Int) ≥ (0:Int))) = true),((0:Int) ≤ (0:Int)),((0:Int) < (6:Int)),(0 < (Ob.k (.fp a))),((0:Int) ≤ (0:Int)),((0:Int) < (6:Int)),(0 < (Ob.k (.fp b))),(((limb (Ob.n (.fp a)) 0) != (limb (Ob.n (.fp b)) 0)) = true),((0:Int) ≤ (0:Int)),((0:Int) < (6:Int)),(0 < (Ob.k (.fp a))),((0:Int) ≤ (0:Int)),((0:Int) < (6:Int)),(0 < (Ob.k (.fp b)))],((.v (.c (.bool (decide ((limb (Ob.n (.fp a)) 0) < (limb (Ob.n (.fp b)) 0)))))),[]))) := by kernel_rfl
theorem ls6E (a b : U6) : fnRes qeJ Try.f112 3000 [.v (.a [.ob (.fp a)]),.v (.a [.ob (.fp b)])] [true,false,true,false,true,false,true,false,true,false,true,false,false] [] [] = (some ([((decide ((5:Int) ≥ (0:Int))) = true),((0:Int) ≤ (5:Int)),((5:Int) < (6:Int)),(5 < (Ob.k (.fp a))),((0:Int) ≤ (5:Int)),((5:Int) < (6:Int)),(5 < (Ob.k (.fp b))),(((limb (Ob.n (.fp a)) 5) != (limb (Ob.n (.fp b)) 5)) = false),((decide ((4:Int) ≥ (0:Int))) = true),((0:Int) ≤ (4:Int)),((4:Int) < (6:Int)),(4 < (Ob.k (.fp a))),((0:Int) ≤ (4:Int)),((4:Int) < (6:Int)),(4 < (Ob.k (.fp b))),(((limb (Ob.n (.fp a)) 4) != (limb (Ob.n (.fp b)) 4)) = false),((decide ((3:Int) ≥ (0:Int))) = true),((0:Int) ≤ (3:Int)),((3:Int) < (6:Int)),(3 < (Ob.k (.fp a))),((0:Int) ≤ (3:Int)),((3:Int) < (6:Int)),(3 < (Ob.k (.fp b))),(((limb (Ob.n (.fp a)) 3) != (limb (Ob.n (.fp b)) 3)) = false),((decide ((2:Int) ≥ (0:Int))) = true),((0:Int) ≤ (2:Int)),((2:Int) < (6:Int)),(2 < (Ob.k (.fp a))),((0:Int) ≤ (2:Int)),((2:Int) < (6:Int)),(2 < (Ob.k (.fp b))),(((limb (Ob.n (.fp a)) 2) != (limb (Ob.n (.fp b)) 2)) = false),((decide ((1:Int) ≥ (0:Int))) = true),((0:Int) ≤ (1:Int)),((1:Int) < (6:Int)),(1 < (Ob.k (.fp a))),((0:Int) ≤ (1:Int)),((1:Int) < (6:Int)),(1 < (Ob.k (.fp b))),(((limb (Ob.n (.fp a)) 1) != (limb (Ob.n (.fp b)) 1)) = false),((decide ((0:Int) ≥ (0:Int))) = true),((0:Int) ≤ (0:Int)),((0:Int) < (6:Int)),(0 < (Ob.k (.fp a))),((0:Int) ≤ (0:Int)),((0:Int) < (6:Int)),(0 < (Ob.k (.fp b))),(((limb (Ob.n (.fp a)) 0) != (limb (Ob.n (.fp b)) 0)) = false),((decide ((-(1:Int)) ≥ (0:Int))) = false)],((.v (.c (.lit false))),[]))) := by kernel_rfl
theorem refP0  : fnRes qeJ Try.f113 3000 [] [] [] [] = (some ([((0:Int) ≤ (13402431016077863595:Int)),((13402431016077863595:Int) < (18446744073709551616:Int)),((0:Int) ≤ (2210141511517208575:Int)),((2210141511517208575:Int) < (18446744073709551616:Int)),((0:Int) ≤ (7435674573564081700:Int)),((7435674573564081700:Int) < (18446744073709551616:Int)),((0:Int) ≤ (7239337960414712511:Int)),((7239337960414712511:Int) < (18446744073709551616:Int)),((0:Int) ≤ (5412103778470702295:Int)),((5412103778470702295:Int) < (18446744073709551616:Int)),((0:Int) ≤ (1873798617647539866:Int)),((1873798617647539866:Int) < (18446744073709551616:Int))],((.v (.a [(.ob (.fp (Fin.ofNat B6 4002409555221667393417789825735904156556882819939007885332058136124031650490837864442687629129015664037894272559787)))])),[]))) := by kernel_rfl
end Go.Proofs.Ytkfcphigoncgjaa

/- The reference's Less for six limbs: contract. No conditions. -/
namespace Go.Proofs.Ytkfcphigoncgjaa

theorem lt_limbs6 {A B : Nat} {a0 a1 a2 a3 a4 a5 b0 b1 b2 b3 b4 b5 : Int} (ha : (A : Int) = num6 a0 a1 a2 a3 a4 a5) (hb : (B : Int) = num6 b0 b1 b2 b3 b4 b5) (h0 : Lim6 a0) (h1 : Lim6 a1) (h2 : Lim6 a2) (h3 : Lim6 a3) (h4 : Lim6 a4) (g0 : Lim6 b0) (g1 : Lim6 b1) (g2 : Lim6 b2) (g3 : Lim6 b3) (g4 : Lim6 b4) :
    decide (A < B) = (if a5 = b5 then (if a4 = b4 then (if a3 = b3 then (if a2 = b2 then (if a1 = b1 then decide (a0 < b0) else decide (a1 < b1)) else decide (a2 < b2)) else decide (a3 < b3)) else decide (a4 < b4)) else decide (a5 < b5)) := by
  obtain ⟨_, _⟩ := h0
  obtain ⟨_, _⟩ := h1
  obtain ⟨_, _⟩ := h2
  obtain ⟨_, _⟩ := h3
  obtain ⟨_, _⟩ := h4
  obtain ⟨_, _⟩ := g0
  obtain ⟨_, _⟩ := g1
  obtain ⟨_, _⟩ := g2
  obtain ⟨_, _⟩ := g3
  obtain ⟨_, _⟩ := g4
  unfold num6 at ha hb
  split
  · split
    · split
      · split
        · split <;> (congr 1; apply propext; omega)
        · congr 1; apply propext; omega
      · congr 1; apply propext; omega
    · congr 1; apply propext; omega
  · congr 1; apply propext; omega

theorem fp_num (a : U6) : ((a.val : Nat) : Int) = num6 (limb (Ob.fp a).n 0) (limb (Ob.fp a).n 1) (limb (Ob.fp a).n 2) (limb (Ob.fp a).n 3) (limb (Ob.fp a).n 4) (limb (Ob.fp a).n 5) := (limbsOf6 a.val a.isLt).1

theorem less6_fnd (a b : U6) : FnD Try.prog 112 [.v (.a [.ob (.fp a)]), .v (.a [.ob (.fp b)])] (.v (.c (.bool (decide (a.val < b.val))))) [] := by
  rw [lt_limbs6 (fp_num a) (fp_num b) (limb_lim _ 0) (limb_lim _ 1) (limb_lim _ 2) (limb_lim _ 3) (limb_lim _ 4) (limb_lim _ 0) (limb_lim _ 1) (limb_lim _ 2) (limb_lim _ 3) (limb_lim _ 4)]
  have r0 := ls60 a b
  have r1 := ls61 a b
  have r2 := ls62 a b
  have r3 := ls63 a b
  have r4 := ls64 a b
  have r5 := ls65 a b
  have rE := ls6E a b
  generalize limb (Ob.fp a).n 0 = a0 at *
  generalize limb (Ob.fp a).n 1 = a1 at *
  generalize limb (Ob.fp a).n 2 = a2 at *
  generalize limb (Ob.fp a).n 3 = a3 at *
  generalize limb (Ob.fp a).n 4 = a4 at *
  generalize limb (Ob.fp a).n 5 = a5 at *
  generalize limb (Ob.fp b).n 0 = b0 at *
  generalize limb (Ob.fp b).n 1 = b1 at *
  generalize limb (Ob.fp b).n 2 = b2 at *
  generalize limb (Ob.fp b).n 3 = b3 at *
  generalize limb (Ob.fp b).n 4 = b4 at *
  generalize limb (Ob.fp b).n 5 = b5 at *
  by_cases e5 : a5 = b5
  · rw [if_pos e5]
    by_cases e4 : a4 = b4
    · rw [if_pos e4]
      by_cases e3 : a3 = b3
      · rw [if_pos e3]
        by_cases e2 : a2 = b2
        · rw [if_pos e2]
          by_cases e1 : a1 = b1
          · rw [if_pos e1]
            by_cases e0 : a0 = b0
            · refine (fn_sound qeJ_ok Try.func112 rE ?_).conv (fun _ _ h => h) fun y v hd => lit_bool (by simp [e0]) hd
              subst e0 e1 e2 e3 e4 e5
              simp [AllP, Ob.k]
            · refine fn_sound qeJ_ok Try.func112 r5 ?_
              subst e1 e2 e3 e4 e5
              simp [AllP, Ob.k, e0]
          · rw [if_neg e1]
            refine fn_sound qeJ_ok Try.func112 r4 ?_
            subst e2 e3 e4 e5
            simp [AllP, Ob.k, e1]
        · rw [if_neg e2]
          refine fn_sound qeJ_ok Try.func112 r3 ?_
          subst e3 e4 e5
          simp [AllP, Ob.k, e2]
      · rw [if_neg e3]
        refine fn_sound qeJ_ok Try.func112 r2 ?_
        subst e4 e5
        simp [AllP, Ob.k, e3]
    · rw [if_neg e4]
      refine fn_sound qeJ_ok Try.func112 r1 ?_
      subst e5
      simp [AllP, Ob.k, e4]
  · rw [if_neg e5]
    refine fn_sound qeJ_ok Try.func112 r0 ?_
    simp [AllP, Ob.k, e5]

end Go.Proofs.Ytkfcphigoncgjaa

/- The reference's minus for six limbs, walked. No conditions. -/
namespace Go.Proofs.Ytkfcphigoncgjaa

noncomputable def qm0 (a b : U6) : Cfg := ⟨[.code (bodyOf Try.f114)], .normal, initSt Try.f114.ntmps [.v (.a [.ob (.fp a)]), .v (.a [.ob (.fp b)])]⟩
--@env qeJ qeJ_ok
--@unroll true
noncomputable def qmA0_k : List KI := (run qeJ true 42 ((fun (a b : U6) => (qm0 a b : Cfg)) default default) [true, true, true]).cfg.k
theorem qmA0_hk (a b : U6) : (run qeJ true 42 ((qm0 a b : Cfg)) [true, true, true]).cfg.k = qmA0_k := by kernel_rfl
theorem qmA0 (a b : U6) {w0 : World} {F0 : Nat → Prop} {K : Kp} {ac : List Act} {Q : Exit → Act → World → Prop} {cX : Ctx} {aX : Act} (ho : AllP [((decide ((0:Int) < (6:Int))) = true),((0:Int) ≤ (0:Int)),((0:Int) < (6:Int)),(0 < (Ob.k (.fp a))),((0:Int) ≤ (0:Int)),((0:Int) < (6:Int)),(0 < (Ob.k (.fp b))),((0:Int) ≤ (0:Int)),((0:Int) < (6:Int)),((0:Int) ≤ (0:Int)),((0:Int) < (6:Int)),(0 < (Ob.k (.fp a))),((0:Int) ≤ (0:Int)),((0:Int) < (6:Int)),(0 < (Ob.k (.fp b))),((decide ((limb (Ob.n (.fp a)) 0) < (limb (Ob.n (.fp b)) 0))) = true)]) (hs : Sim w0 F0 K ac (((qm0 a b : Cfg)).σ) cX aX) (hK : ∀ ac cY aY,Sim w0 F0 K ac (mkSt 45 [2,3,4,5,6,7] [.pt 16 0,.pt 32 0,.pt 48 0,.pt 80 0,.iu (1:Int),.ii (0:Int)] [16,32,48,80] [(some (.fl [.ob (.fp a)])),(some (.fl [.ob (.fp b)])),(some (.fl [(.ob (.fp (0:U6)))])),(some (.fl [(.int .u64 (IntKind.wrap .u64 ((IntKind.wrap .u64 ((limb (Ob.n (.fp a)) 0) - (limb (Ob.n (.fp b)) 0))) - (0:Int)))),(.int .u64 (0:Int)),(.int .u64 (0:Int)),(.int .u64 (0:Int)),(.int .u64 (0:Int)),(.int .u64 (0:Int))]))] 704 [] []) cY aY → Wq Try.prog Q (qmA0_k) ac Exit.normal aY cY.w) : Wq Try.prog Q (((qm0 a b : Cfg)).k) ac ((qm0 a b : Cfg)).x aX cX.w :=
  run_at (o := ⟨_, _, _, _, _, _, _⟩) qeJ_ok (by kernel_rfl) (qmA0_hk a b) ho hs hK
theorem qmB0_hk (a b : U6) : (run qeJ true 42 ((qm0 a b : Cfg)) [true, true, false, true]).cfg.k = qmA0_k := by kernel_rfl
theorem qmB0 (a b : U6) {w0 : World} {F0 : Nat → Prop} {K : Kp} {ac : List Act} {Q : Exit → Act → World → Prop} {cX : Ctx} {aX : Act} (ho : AllP [((decide ((0:Int) < (6:Int))) = true),((0:Int) ≤ (0:Int)),((0:Int) < (6:Int)),(0 < (Ob.k (.fp a))),((0:Int) ≤ (0:Int)),((0:Int) < (6:Int)),(0 < (Ob.k (.fp b))),((0:Int) ≤ (0:Int)),((0:Int) < (6:Int)),((0:Int) ≤ (0:Int)),((0:Int) < (6:Int)),(0 < (Ob.k (.fp a))),((0:Int) ≤ (0:Int)),((0:Int) < (6:Int)),(0 < (Ob.k (.fp b))),((decide ((limb (Ob.n (.fp a)) 0) < (limb (Ob.n (.fp b)) 0))) = false),((0:Int) ≤ (0:Int)),((0:Int) < (6:Int)),(0 < (Ob.k (.fp a))),((0:Int) ≤ (0:Int)),((0:Int) < (6:Int)),(0 < (Ob.k (.fp b))),(((limb (Ob.n (.fp a)) 0) == (limb (Ob.n (.fp b)) 0)) = true),(((0:Int) == (1:Int)) = true)]) (hs : Sim w0 F0 K ac (((qm0 a b : Cfg)).σ) cX aX) (hK : ∀ ac cY aY,Sim w0 F0 K ac (mkSt 45 [2,3,4,5,6,7] [.pt 16 0,.pt 32 0,.pt 48 0,.pt 80 0,.iu (1:Int),.ii (0:Int)] [16,32,48,80] [(some (.fl [.ob (.fp a)])),(some (.fl [.ob (.fp b)])),(some (.fl [(.ob (.fp (0:U6)))])),(some (.fl [(.int .u64 (IntKind.wrap .u64 ((IntKind.wrap .u64 ((limb (Ob.n (.fp a)) 0) - (limb (Ob.n (.fp b)) 0))) - (0:Int)))),(.int .u64 (0:Int)),(.int .u64 (0:Int)),(.int .u64 (0:Int)),(.int .u64 (0:Int)),(.int .u64 (0:Int))]))] 704 [] []) cY aY → Wq Try.prog Q (qmA0_k) ac Exit.normal aY cY.w) : Wq Try.prog Q (((qm0 a b : Cfg)).k) ac ((qm0 a b : Cfg)).x aX cX.w :=
  run_at (o := ⟨_, _, _, _, _, _, _⟩) qeJ_ok (by kernel_rfl) (qmB0_hk a b) ho hs hK
theorem qmC0_hk (a b : U6) : (run qeJ true 42 ((qm0 a b : Cfg)) [true, true, false, false]).cfg.k = qmA0_k := by kernel_rfl
theorem qmC0 (a b : U6) {w0 : World} {F0 : Nat → Prop} {K : Kp} {ac : List Act} {Q : Exit → Act → World → Prop} {cX : Ctx} {aX : Act} (ho : AllP [((decide ((0:Int) < (6:Int))) = true),((0:Int) ≤ (0:Int)),((0:Int) < (6:Int)),(0 < (Ob.k (.fp a))),((0:Int) ≤ (0:Int)),((0:Int) < (6:Int)),(0 < (Ob.k (.fp b))),((0:Int) ≤ (0:Int)),((0:Int) < (6:Int)),((0:Int) ≤ (0:Int)),((0:Int) < (6:Int)),(0 < (Ob.k (.fp a))),((0:Int) ≤ (0:Int)),((0:Int) < (6:Int)),(0 < (Ob.k (.fp b))),((decide ((limb (Ob.n (.fp a)) 0) < (limb (Ob.n (.fp b)) 0))) = false),((0:Int) ≤ (0:Int)),((0:Int) < (6:Int)),(0 < (Ob.k (.fp a))),((0:Int) ≤ (0:Int)),((0:Int) < (6:Int)),(0 < (Ob.k (.fp b))),(((limb (Ob.n (.fp a)) 0) == (limb (Ob.n (.fp b)) 0)) = true),(((0:Int) == (1:Int)) = false)]) (hs : Sim w0 F0 K ac (((qm0 a b : Cfg)).σ) cX aX) (hK : ∀ ac cY aY,Sim w0 F0 K ac (mkSt 45 [2,3,4,5,6,7] [.pt 16 0,.pt 32 0,.pt 48 0,.pt 80 0,.iu (0:Int),.ii (0:Int)] [16,32,48,80] [(some (.fl [.ob (.fp a)])),(some (.fl [.ob (.fp b)])),(some (.fl [(.ob (.fp (0:U6)))])),(some (.fl [(.int .u64 (IntKind.wrap .u64 ((IntKind.wrap .u64 ((limb (Ob.n (.fp a)) 0) - (limb (Ob.n (.fp b)) 0))) - (0:Int)))),(.int .u64 (0:Int)),(.int .u64 (0:Int)),(.int .u64 (0:Int)),(.int .u64 (0:Int)),(.int .u64 (0:Int))]))] 704 [] []) cY aY → Wq Try.prog Q (qmA0_k) ac Exit.normal aY cY.w) : Wq Try.prog Q (((qm0 a b : Cfg)).k) ac ((qm0 a b : Cfg)).x aX cX.w :=
  run_at (o := ⟨_, _, _, _, _, _, _⟩) qeJ_ok (by kernel_rfl) (qmC0_hk a b) ho hs hK
theorem qmD0_hk (a b : U6) : (run qeJ true 42 ((qm0 a b : Cfg)) [true, false, false]).cfg.k = qmA0_k := by kernel_rfl
theorem qmD0 (a b : U6) {w0 : World} {F0 : Nat → Prop} {K : Kp} {ac : List Act} {Q : Exit → Act → World → Prop} {cX : Ctx} {aX : Act} (ho : AllP [((decide ((0:Int) < (6:Int))) = true),((0:Int) ≤ (0:Int)),((0:Int) < (6:Int)),(0 < (Ob.k (.fp a))),((0:Int) ≤ (0:Int)),((0:Int) < (6:Int)),(0 < (Ob.k (.fp b))),((0:Int) ≤ (0:Int)),((0:Int) < (6:Int)),((0:Int) ≤ (0:Int)),((0:Int) < (6:Int)),(0 < (Ob.k (.fp a))),((0:Int) ≤ (0:Int)),((0:Int) < (6:Int)),(0 < (Ob.k (.fp b))),((decide ((limb (Ob.n (.fp a)) 0) < (limb (Ob.n (.fp b)) 0))) = false),((0:Int) ≤ (0:Int)),((0:Int) < (6:Int)),(0 < (Ob.k (.fp a))),((0:Int) ≤ (0:Int)),((0:Int) < (6:Int)),(0 < (Ob.k (.fp b))),(((limb (Ob.n (.fp a)) 0) == (limb (Ob.n (.fp b)) 0)) = false)]) (hs : Sim w0 F0 K ac (((qm0 a b : Cfg)).σ) cX aX) (hK : ∀ ac cY aY,Sim w0 F0 K ac (mkSt 45 [2,3,4,5,6,7] [.pt 16 0,.pt 32 0,.pt 48 0,.pt 80 0,.iu (0:Int),.ii (0:Int)] [16,32,48,80] [(some (.fl [.ob (.fp a)])),(some (.fl [.ob (.fp b)])),(some (.fl [(.ob (.fp (0:U6)))])),(some (.fl [(.int .u64 (IntKind.wrap .u64 ((IntKind.wrap .u64 ((limb (Ob.n (.fp a)) 0) - (limb (Ob.n (.fp b)) 0))) - (0:Int)))),(.int .u64 (0:Int)),(.int .u64 (0:Int)),(.int .u64 (0:Int)),(.int .u64 (0:Int)),(.int .u64 (0:Int))]))] 704 [] []) cY aY → Wq Try.prog Q (qmA0_k) ac Exit.normal aY cY.w) : Wq Try.prog Q (((qm0 a b : Cfg)).k) ac ((qm0 a b : Cfg)).x aX cX.w :=
  run_at (o := ⟨_, _, _, _, _, _, _⟩) qeJ_ok (by kernel_rfl) (qmD0_hk a b) ho hs hK
noncomputable def qmS1 (a b : U6) (v0 v1 v2 v3 v4 v5 c:Int) : St := mkSt 45 [2,3,4,5,6,7] [.pt 16 0,.pt 32 0,.pt 48 0,.pt 80 0,.v (.c (.int .u64 c)),.ii (0:Int)] [16,32,48,80] [(some (.fl [.ob (.fp a)])),(some (.fl [.ob (.fp b)])),(some (.fl [(.ob (.fp (0:U6)))])),some (.fl [.int .u64 v0,.int .u64 v1,.int .u64 v2,.int .u64 v3,.int .u64 v4,.int .u64 v5])] 704 [] []
noncomputable def qmA1_k : List KI := (run qeJ true 25 ((fun (a b : U6) (v0 v1 v2 v3 v4 v5 c : Int) => (⟨qmA0_k, .normal, qmS1 a b v0 v1 v2 v3 v4 v5 c⟩ : Cfg)) default default default default default default default default default) [true, true, true]).cfg.k
theorem qmA1_hk (a b : U6) (v0 v1 v2 v3 v4 v5 c : Int) : (run qeJ true 25 ((⟨qmA0_k, .normal, qmS1 a b v0 v1 v2 v3 v4 v5 c⟩ : Cfg)) [true, true, true]).cfg.k = qmA1_k := by kernel_rfl
theorem qmA1 (a b : U6) (v0 v1 v2 v3 v4 v5 c:Int) {w0 : World} {F0 : Nat → Prop} {K : Kp} {ac : List Act} {Q : Exit → Act → World → Prop} {cX : Ctx} {aX : Act} (ho : AllP [((decide ((1:Int) < (6:Int))) = true),((0:Int) ≤ (1:Int)),((1:Int) < (6:Int)),(1 < (Ob.k (.fp a))),((0:Int) ≤ (1:Int)),((1:Int) < (6:Int)),(1 < (Ob.k (.fp b))),((0:Int) ≤ (1:Int)),((1:Int) < (6:Int)),((0:Int) ≤ (1:Int)),((1:Int) < (6:Int)),(1 < (Ob.k (.fp a))),((0:Int) ≤ (1:Int)),((1:Int) < (6:Int)),(1 < (Ob.k (.fp b))),((decide ((limb (Ob.n (.fp a)) 1) < (limb (Ob.n (.fp b)) 1))) = true)]) (hs : Sim w0 F0 K ac (qmS1 a b v0 v1 v2 v3 v4 v5 c) cX aX) (hK : ∀ ac cY aY,Sim w0 F0 K ac (mkSt 45 [2,3,4,5,6,7] [.pt 16 0,.pt 32 0,.pt 48 0,.pt 80 0,.iu (1:Int),.ii (1:Int)] [16,32,48,80] [(some (.fl [.ob (.fp a)])),(some (.fl [.ob (.fp b)])),(some (.fl [(.ob (.fp (0:U6)))])),(some (.fl [(.int .u64 v0),(.int .u64 (IntKind.wrap .u64 ((IntKind.wrap .u64 ((limb (Ob.n (.fp a)) 1) - (limb (Ob.n (.fp b)) 1))) - c))),(.int .u64 v2),(.int .u64 v3),(.int .u64 v4),(.int .u64 v5)]))] 1312 [] []) cY aY → Wq Try.prog Q (qmA1_k) ac Exit.normal aY cY.w) : Wq Try.prog Q (qmA0_k) ac .normal aX cX.w :=
  run_at2 (o := ⟨_, _, _, _, _, _, _⟩) qeJ_ok (by kernel_rfl) (qmA1_hk a b v0 v1 v2 v3 v4 v5 c) ho hs hK
theorem qmB1_hk (a b : U6) (v0 v1 v2 v3 v4 v5 c : Int) : (run qeJ true 25 ((⟨qmA0_k, .normal, qmS1 a b v0 v1 v2 v3 v4 v5 c⟩ : Cfg)) [true, true, false, true]).cfg.k = qmA1_k := by kernel_rfl
theorem qmB1 (a b : U6) (v0 v1 v2 v3 v4 v5 c:Int) {w0 : World} {F0 : Nat → Prop} {K : Kp} {ac : List Act} {Q : Exit → Act → World → Prop} {cX : Ctx} {aX : Act} (ho : AllP [((decide ((1:Int) < (6:Int))) = true),((0:Int) ≤ (1:Int)),((1:Int) < (6:Int)),(1 < (Ob.k (.fp a))),((0:Int) ≤ (1:Int)),((1:Int) < (6:Int)),(1 < (Ob.k (.fp b))),((0:Int) ≤ (1:Int)),((1:Int) < (6:Int)),((0:Int) ≤ (1:Int)),((1:Int) < (6:Int)),(1 < (Ob.k (.fp a))),((0:Int) ≤ (1:Int)),((1:Int) < (6:Int)),(1 < (Ob.k (.fp b))),((decide ((limb (Ob.n (.fp a)) 1) < (limb (Ob.n (.fp b)) 1))) = false),((0:Int) ≤ (1:Int)),((1:Int) < (6:Int)),(1 < (Ob.k (.fp a))),((0:Int) ≤ (1:Int)),((1:Int) < (6:Int)),(1 < (Ob.k (.fp b))),(((limb (Ob.n (.fp a)) 1) == (limb (Ob.n (.fp b)) 1)) = true),((c == (1:Int)) = true)]) (hs : Sim w0 F0 K ac (qmS1 a b v0 v1 v2 v3 v4 v5 c) cX aX) (hK : ∀ ac cY aY,Sim w0 F0 K ac (mkSt 45 [2,3,4,5,6,7] [.pt 16 0,.pt 32 0,.pt 48 0,.pt 80 0,.iu (1:Int),.ii (1:Int)] [16,32,48,80] [(some (.fl [.ob (.fp a)])),(some (.fl [.ob (.fp b)])),(some (.fl [(.ob (.fp (0:U6)))])),(some (.fl [(.int .u64 v0),(.int .u64 (IntKind.wrap .u64 ((IntKind.wrap .u64 ((limb (Ob.n (.fp a)) 1) - (limb (Ob.n (.fp b)) 1))) - c))),(.int .u64 v2),(.int .u64 v3),(.int .u64 v4),(.int .u64 v5)]))] 1312 [] []) cY aY → Wq Try.prog Q (qmA1_k) ac Exit.normal aY cY.w) : Wq Try.prog Q (qmA0_k) ac .normal aX cX.w :=
  run_at2 (o := ⟨_, _, _, _, _, _, _⟩) qeJ_ok (by kernel_rfl) (qmB1_hk a b v0 v1 v2 v3 v4 v5 c) ho hs hK
theorem qmC1_hk (a b : U6) (v0 v1 v2 v3 v4 v5 c : Int) : (run qeJ true 25 ((⟨qmA0_k, .normal, qmS1 a b v0 v1 v2 v3 v4 v5 c⟩ : Cfg)) [true, true, false, false]).cfg.k = qmA1_k := by kernel_rfl
theorem qmC1 (a b : U6) (v0 v1 v2 v3 v4 v5 c:Int) {w0 : World} {F0 : Nat → Prop} {K : Kp} {ac : List Act} {Q : Exit → Act → World → Prop} {cX : Ctx} {aX : Act} (ho : AllP [((decide ((1:Int) < (6:Int))) = true),((0:Int) ≤ (1:Int)),((1:Int) < (6:Int)),(1 < (Ob.k (.fp a))),((0:Int) ≤ (1:Int)),((1:Int) < (6:Int)),(1 < (Ob.k (.fp b))),((0:Int) ≤ (1:Int)),((1:Int) < (6:Int)),((0:Int) ≤ (1:Int)),((1:Int) < (6:Int)),(1 < (Ob.k (.fp a))),((0:Int) ≤ (1:Int)),((1:Int) < (6:Int)),(1 < (Ob.k (.fp b))),((decide ((limb (Ob.n (.fp a)) 1) < (limb (Ob.n (.fp b)) 1))) = false),((0:Int) ≤ (1:Int)),((1:Int) < (6:Int)),(1 < (Ob.k (.fp a))),((0:Int) ≤ (1:Int)),((1:Int) < (6:Int)),(1 < (Ob.k (.fp b))),(((limb (Ob.n (.fp a)) 1) == (limb (Ob.n (.fp b)) 1)) = true),((c == (1:Int)) = false)]) (hs : Sim w0 F0 K ac (qmS1 a b v0 v1 v2 v3 v4 v5 c) cX aX) (hK : ∀ ac cY aY,Sim w0 F0 K ac (mkSt 45 [2,3,4,5,6,7] [.pt 16 0,.pt 32 0,.pt 48 0,.pt 80 0,.iu (0:Int),.ii (1:Int)] [16,32,48,80] [(some (.fl [.ob (.fp a)])),(some (.fl [.ob (.fp b)])),(some (.fl [(.ob (.fp (0:U6)))])),(some (.fl [(.int .u64 v0),(.int .u64 (IntKind.wrap .u64 ((IntKind.wrap .u64 ((limb (Ob.n (.fp a)) 1) - (limb (Ob.n (.fp b)) 1))) - c))),(.int .u64 v2),(.int .u64 v3),(.int .u64 v4),(.int .u64 v5)]))] 1312 [] []) cY aY → Wq Try.prog Q (qmA1_k) ac Exit.normal aY cY.w) : Wq Try.prog Q (qmA0_k) ac .normal aX cX.w :=
  run_at2 (o := ⟨_, _, _, _, _, _, _⟩) qeJ_ok (by kernel_rfl) (qmC1_hk a b v0 v1 v2 v3 v4 v5 c) ho hs hK
theorem qmD1_hk (a b : U6) (v0 v1 v2 v3 v4 v5 c : Int) : (run qeJ true 25 ((⟨qmA0_k, .normal, qmS1 a b v0 v1 v2 v3 v4 v5 c⟩ : Cfg)) [true, false, false]).cfg.k = qmA1_k := by kernel_rfl
theorem qmD1 (a b : U6) (v0 v1 v2 v3 v4 v5 c:Int) {w0 : World} {F0 : Nat → Prop} {K : Kp} {ac : List Act} {Q : Exit → Act → World → Prop} {cX : Ctx} {aX : Act} (ho : AllP [((decide ((1:Int) < (6:Int))) = true),((0:Int) ≤ (1:Int)),((1:Int) < (6:Int)),(1 < (Ob.k (.fp a))),((0:Int) ≤ (1:Int)),((1:Int) < (6:Int)),(1 < (Ob.k (.fp b))),((0:Int) ≤ (1:Int)),((1:Int) < (6:Int)),((0:Int) ≤ (1:Int)),((1:Int) < (6:Int)),(1 < (Ob.k (.fp a))),((0:Int) ≤ (1:Int)),((1:Int) < (6:Int)),(1 < (Ob.k (.fp b))),((decide ((limb (Ob.n (.fp a)) 1) < (limb (Ob.n (.fp b)) 1))) = false),((0:Int) ≤ (1:Int)),((1:Int) < (6:Int)),(1 < (Ob.k (.fp a))),((0:Int) ≤ (1:Int)),((1:Int) < (6:Int)),(1 < (Ob.k (.fp b))),(((limb (Ob.n (.fp a)) 1) == (limb (Ob.n (.fp b)) 1)) = false)]) (hs : Sim w0 F0 K ac (qmS1 a b v0 v1 v2 v3 v4 v5 c) cX aX) (hK : ∀ ac cY aY,Sim w0 F0 K ac (mkSt 45 [2,3,4,5,6,7] [.pt 16 0,.pt 32 0,.pt 48 0,.pt 80 0,.iu (0:Int),.ii (1:Int)] [16,32,48,80] [(some (.fl [.ob (.fp a)])),(some (.fl [.ob (.fp b)])),(some (.fl [(.ob (.fp (0:U6)))])),(some (.fl [(.int .u64 v0),(.int .u64 (IntKind.wrap .u64 ((IntKind.wrap .u64 ((limb (Ob.n (.fp a)) 1) - (limb (Ob.n (.fp b)) 1))) - c))),(.int .u64 v2),(.int .u64 v3),(.int .u64 v4),(.int .u64 v5)]))] 1312 [] []) cY aY → Wq Try.prog Q (qmA1_k) ac Exit.normal aY cY.w) : Wq Try.prog Q (qmA0_k) ac .normal aX cX.w :=
  run_at2 (o := ⟨_, _, _, _, _, _, _⟩) qeJ_ok (by kernel_rfl) (qmD1_hk a b v0 v1 v2 v3 v4 v5 c) ho hs hK
noncomputable def qmS2 (a b : U6) (v0 v1 v2 v3 v4 v5 c:Int) : St := mkSt 45 [2,3,4,5,6,7] [.pt 16 0,.pt 32 0,.pt 48 0,.pt 80 0,.v (.c (.int .u64 c)),.ii (1:Int)] [16,32,48,80] [(some (.fl [.ob (.fp a)])),(some (.fl [.ob (.fp b)])),(some (.fl [(.ob (.fp (0:U6)))])),some (.fl [.int .u64 v0,.int .u64 v1,.int .u64 v2,.int .u64 v3,.int .u64 v4,.int .u64 v5])] 1312 [] []
noncomputable def qmA2_k : List KI := (run qeJ true 25 ((fun (a b : U6) (v0 v1 v2 v3 v4 v5 c : Int) => (⟨qmA1_k, .normal, qmS2 a b v0 v1 v2 v3 v4 v5 c⟩ : Cfg)) default default default default default default default default default) [true, true, true]).cfg.k
theorem qmA2_hk (a b : U6) (v0 v1 v2 v3 v4 v5 c : Int) : (run qeJ true 25 ((⟨qmA1_k, .normal, qmS2 a b v0 v1 v2 v3 v4 v5 c⟩ : Cfg)) [true, true, true]).cfg.k = qmA2_k := by kernel_rfl
theorem qmA2 (a b : U6) (v0 v1 v2 v3 v4 v5 c:Int) {w0 : World} {F0 : Nat → Prop} {K : Kp} {ac : List Act} {Q : Exit → Act → World → Prop} {cX : Ctx} {aX : Act} (ho : AllP [((decide ((2:Int) < (6:Int))) = true),((0:Int) ≤ (2:Int)),((2:Int) < (6:Int)),(2 < (Ob.k (.fp a))),((0:Int) ≤ (2:Int)),((2:Int) < (6:Int)),(2 < (Ob.k (.fp b))),((0:Int) ≤ (2:Int)),((2:Int) < (6:Int)),((0:Int) ≤ (2:Int)),((2:Int) < (6:Int)),(2 < (Ob.k (.fp a))),((0:Int) ≤ (2:Int)),((2:Int) < (6:Int)),(2 < (Ob.k (.fp b))),((decide ((limb (Ob.n (.fp a)) 2) < (limb (Ob.n (.fp b)) 2))) = true)]) (hs : Sim w0 F0 K ac (qmS2 a b v0 v1 v2 v3 v4 v5 c) cX aX) (hK : ∀ ac cY aY,Sim w0 F0 K ac (mkSt 45 [2,3,4,5,6,7] [.pt 16 0,.pt 32 0,.pt 48 0,.pt 80 0,.iu (1:Int),.ii (2:Int)] [16,32,48,80] [(some (.fl [.ob (.fp a)])),(some (.fl [.ob (.fp b)])),(some (.fl [(.ob (.fp (0:U6)))])),(some (.fl [(.int .u64 v0),(.int .u64 v1),(.int .u64 (IntKind.wrap .u64 ((IntKind.wrap .u64 ((limb (Ob.n (.fp a)) 2) - (limb (Ob.n (.fp b)) 2))) - c))),(.int .u64 v3),(.int .u64 v4),(.int .u64 v5)]))] 1920 [] []) cY aY → Wq Try.prog Q (qmA2_k) ac Exit.normal aY cY.w) : Wq Try.prog Q (qmA1_k) ac .normal aX cX.w :=
  run_at2 (o := ⟨_, _, _, _, _, _, _⟩) qeJ_ok (by kernel_rfl) (qmA2_hk a b v0 v1 v2 v3 v4 v5 c) ho hs hK
theorem qmB2_hk (a b : U6) (v0 v1 v2 v3 v4 v5 c : Int) : (run qeJ true 25 ((⟨qmA1_k, .normal, qmS2 a b v0 v1 v2 v3 v4 v5 c⟩ : Cfg)) [true, true, false, true]).cfg.k = qmA2_k := by kernel_rfl
theorem qmB2 (a b : U6) (v0 v1 v2 v3 v4 v5 c:Int) {w0 : World} {F0 : Nat → Prop} {K : Kp} {ac : List Act} {Q : Exit → Act → World → Prop} {cX : Ctx} {aX : Act} (ho : AllP [((decide ((2:Int) < (6:Int))) = true),((0:Int) ≤ (2:Int)),((2:Int) < (6:Int)),(2 < (Ob.k (.fp a))),((0:Int) ≤ (2:Int)),((2:Int) < (6:Int)),(2 < (Ob.k (.fp b))),((0:Int) ≤ (2:Int)),((2:Int) < (6:Int)),((0:Int) ≤ (2:Int)),((2:Int) < (6:Int)),(2 < (Ob.k (.fp a))),((0:Int) ≤ (2:Int)),((2:Int) < (6:Int)),(2 < (Ob.k (.fp b))),((decide ((limb (Ob.n (.fp a)) 2) < (limb (Ob.n (.fp b)) 2))) = false),((0:Int) ≤ (2:Int)),((2:Int) < (6:Int)),(2 < (Ob.k (.fp a))),((0:Int) ≤ (2:Int)),((2:Int) < (6:Int)),(2 < (Ob.k (.fp b))),(((limb (Ob.n (.fp a)) 2) == (limb (Ob.n (.fp b)) 2)) = true),((c == (1:Int)) = true)]) (hs : Sim w0 F0 K ac (qmS2 a b v0 v1 v2 v3 v4 v5 c) cX aX) (hK : ∀ ac cY aY,Sim w0 F0 K ac (mkSt 45 [2,3,4,5,6,7] [.pt 16 0,.pt 32 0,.pt 48 0,.pt 80 0,.iu (1:Int),.ii (2:Int)] [16,32,48,80] [(some (.fl [.ob (.fp a)])),(some (.fl [.ob (.fp b)])),(some (.fl [(.ob (.fp (0:U6)))])),(some (.fl [(.int .u64 v0),(.int .u64 v1),(.int .u64 (IntKind.wrap .u64 ((IntKind.wrap .u64 ((limb (Ob.n (.fp a)) 2) - (limb (Ob.n (.fp b)) 2))) - c))),(.int .u64 v3),(.int .u64 v4),(.int .u64 v5)]))] 1920 [] []) cY aY → Wq Try.prog Q (qmA2_k) ac Exit.normal aY cY.w) : Wq Try.prog Q (qmA1_k) ac .normal aX cX.w :=
  run_at2 (o := ⟨_, _, _, _, _, _, _⟩) qeJ_ok (by kernel_rfl) (qmB2_hk a b v0 v1 v2 v3 v4 v5 c) ho hs hK
theorem qmC2_hk (a b : U6) (v0 v1 v2 v3 v4 v5 c : Int) : (run qeJ true 25 ((⟨qmA1_k, .normal, qmS2 a b v0 v1 v2 v3 v4 v5 c⟩ : Cfg)) [true, true, false, false]).cfg.k = qmA2_k := by kernel_rfl
theorem qmC2 (a b : U6) (v0 v1 v2 v3 v4 v5 c:Int) {w0 : World} {F0 : Nat → Prop} {K : Kp} {ac : List Act} {Q : Exit → Act → World → Prop} {cX : Ctx} {aX : Act} (ho : AllP [((decide ((2:Int) < (6:Int))) = true),((0:Int) ≤ (2:Int)),((2:Int) < (6:Int)),(2 < (Ob.k (.fp a))),((0:Int) ≤ (2:Int)),((2:Int) < (6:Int)),(2 < (Ob.k (.fp b))),((0:Int) ≤ (2:Int)),((2:Int) < (6:Int)),((0:Int) ≤ (2:Int)),((2:Int) < (6:Int)),(2 < (Ob.k (.fp a))),((0:Int) ≤ (2:Int)),((2:Int) < (6:Int)),(2 < (Ob.k (.fp b))),((decide ((limb (Ob.n (.fp a)) 2) < (limb (Ob.n (.fp b)) 2))) = false),((0:Int) ≤ (2:Int)),((2:Int) < (6:Int)),(2 < (Ob.k (.fp a))),((0:Int) ≤ (2:Int)),((2:Int) < (6:Int)),(2 < (Ob.k (.fp b))),(((limb (Ob.n (.fp a)) 2) == (limb (Ob.n (.fp b)) 2)) = true),((c == (1:Int)) = false)]) (hs : Sim w0 F0 K ac (qmS2 a b v0 v1 v2 v3 v4 v5 c) cX aX) (hK : ∀ ac cY aY,Sim w0 F0 K ac (mkSt 45 [2,3,4,5,6,7] [.pt 16 0,.pt 32 0,.pt 48 0,.pt 80 0,.iu (0:Int),.ii (2:Int)] [16,32,48,80] [(some (.fl [.ob (.fp a)])),(some (.fl [.ob (.fp b)])),(some (.fl [(.ob (.fp (0:U6)))])),(some (.fl [(.int .u64 v0),(.int .u64 v1),(.int .u64 (IntKind.wrap .u64 ((IntKind.wrap .u64 ((limb (Ob.n (.fp a)) 2) - (limb (Ob.n (.fp b)) 2))) - c))),(.int .u64 v3),(.int .u64 v4),(.int .u64 v5)]))] 1920 [] []) cY aY → Wq Try.prog Q (qmA2_k) ac Exit.normal aY cY.w) : Wq Try.prog Q (qmA1_k) ac .normal aX cX.w :=
  run_at2 (o := ⟨_, _, _, _, _, _, _⟩) qeJ_ok (by kernel_rfl) (qmC2_hk a b v0 v1 v2 v3 v4 v5 c) ho hs hK
theorem qmD2_hk (a b : U6) (v0 v1 v2 v3 v4 v5 c : Int) : (run qeJ true 25 ((⟨qmA1_k, .normal, qmS2 a b v0 v1 v2 v3 v4 v5 c⟩ : Cfg)) [true, false, false]).cfg.k = qmA2_k := by kernel_rfl
theorem qmD2 (a b : U6) (v0 v1 v2 v3 v4 v5 c:Int) {w0 : World} {F0 : Nat → Prop} {K : Kp} {ac : List Act} {Q : Exit → Act → World → Prop} {cX : Ctx} {aX : Act} (ho : AllP [((decide ((2:Int) < (6:Int))) = true),((0:Int) ≤ (2:Int)),((2:Int) < (6:Int)),(2 < (Ob.k (.fp a))),((0:Int) ≤ (2:Int)),((2:Int) < (6:Int)),(2 < (Ob.k (.fp b))),((0:Int) ≤ (2:Int)),((2:Int) < (6:Int)),((0:Int) ≤ (2:Int)),((2:Int) < (6:Int)),(2 < (Ob.k (.fp a))),((0:Int) ≤ (2:Int)),((2:Int) < (6:Int)),(2 < (Ob.k (.fp b))),((decide ((limb (Ob.n (.fp a)) 2) < (limb (Ob.n (.fp b)) 2))) = false),((0:Int) ≤ (2:Int)),((2:Int) < (6:Int)),(2 < (Ob.k (.fp a))),((0:Int) ≤ (2:Int)),((2:Int) < (6:Int)),(2 < (Ob.k (.fp b))),(((limb (Ob.n (.fp a)) 2) == (limb (Ob.n (.fp b)) 2)) = false)]) (hs : Sim w0 F0 K ac (qmS2 a b v0 v1 v2 v3 v4 v5 c) cX aX) (hK : ∀ ac cY aY,Sim w0 F0 K ac (mkSt 45 [2,3,4,5,6,7] [.pt 16 0,.pt 32 0,.pt 48 0,.pt 80 0,.iu (0:Int),.ii (2:Int)] [16,32,48,80] [(some (.fl [.ob (.fp a)])),(some (.fl [.ob (.fp b)])),(some (.fl [(.ob (.fp (0:U6)))])),(some (.fl [(.int .u64 v0),(.int .u64 v1),(.int .u64 (IntKind.wrap .u64 ((IntKind.wrap .u64 ((limb (Ob.n (.fp a)) 2) - (limb (Ob.n (.fp b)) 2))) - c))),(.int .u64 v3),(.int .u64 v4),(.int .u64 v5)]))] 1920 [] []) cY aY → Wq Try.prog Q (qmA2_k) ac Exit.normal aY cY.w) : Wq Try.prog Q (qmA1_k) ac .normal aX cX.w :=
  run_at2 (o := ⟨_, _, _, _, _, _, _⟩) qeJ_ok (by kernel_rfl) (qmD2_hk a b v0 v1 v2 v3 v4 v5 c) ho hs hK
noncomputable def qmS3 (a b : U6) (v0 v1 v2 v3 v4 v5 c:Int) : St := mkSt 45 [2,3,4,5,6,7] [.pt 16 0,.pt 32 0,.pt 48 0,.pt 80 0,.v (.c (.int .u64 c)),.ii (2:Int)] [16,32,48,80] [(some (.fl [.ob (.fp a)])),(some (.fl [.ob (.fp b)])),(some (.fl [(.ob (.fp (0:U6)))])),some (.fl [.int .u64 v0,.int .u64 v1,.int .u64 v2,.int .u64 v3,.int .u64 v4,.int .u64 v5])] 1920 [] []
noncomputable def qmA3_k : List KI := (run qeJ true 25 ((fun (a b : U6) (v0 v1 v2 v3 v4 v5 c : Int) => (⟨qmA2_k, .normal, qmS3 a b v0 v1 v2 v3 v4 v5 c⟩ : Cfg)) default default default default default default default default default) [true, true, true]).cfg.k
theorem qmA3_hk (a b : U6) (v0 v1 v2 v3 v4 v5 c : Int) : (run qeJ true 25 ((⟨qmA2_k, .normal, qmS3 a b v0 v1 v2 v3 v4 v5 c⟩ : Cfg)) [true, true, true]).cfg.k = qmA3_k := by kernel_rfl
theorem qmA3 (a b : U6) (v0 v1 v2 v3 v4 v5 c:Int) {w0 : World} {F0 : Nat → Prop} {K : Kp} {ac : List Act} {Q : Exit → Act → World → Prop} {cX : Ctx} {aX : Act} (ho : AllP [((decide ((3:Int) < (6:Int))) = true),((0:Int) ≤ (3:Int)),((3:Int) < (6:Int)),(3 < (Ob.k (.fp a))),((0:Int) ≤ (3:Int)),((3:Int) < (6:Int)),(3 < (Ob.k (.fp b))),((0:Int) ≤ (3:Int)),((3:Int) < (6:Int)),((0:Int) ≤ (3:Int)),((3:Int) < (6:Int)),(3 < (Ob.k (.fp a))),((0:Int) ≤ (3:Int)),((3:Int) < (6:Int)),(3 < (Ob.k (.fp b))),((decide ((limb (Ob.n (.fp a)) 3) < (limb (Ob.n (.fp b)) 3))) = true)]) (hs : Sim w0 F0 K ac (qmS3 a b v0 v1 v2 v3 v4 v5 c) cX aX) (hK : ∀ ac cY aY,Sim w0 F0 K ac (mkSt 45 [2,3,4,5,6,7] [.pt 16 0,.pt 32 0,.pt 48 0,.pt 80 0,.iu (1:Int),.ii (3:Int)] [16,32,48,80] [(some (.fl [.ob (.fp a)])),(some (.fl [.ob (.fp b)])),(some (.fl [(.ob (.fp (0:U6)))])),(some (.fl [(.int .u64 v0),(.int .u64 v1),(.int .u64 v2),(.int .u64 (IntKind.wrap .u64 ((IntKind.wrap .u64 ((limb (Ob.n (.fp a)) 3) - (limb (Ob.n (.fp b)) 3))) - c))),(.int .u64 v4),(.int .u64 v5)]))] 2528 [] []) cY aY → Wq Try.prog Q (qmA3_k) ac Exit.normal aY cY.w) : Wq Try.prog Q (qmA2_k) ac .normal aX cX.w :=
  run_at2 (o := ⟨_, _, _, _, _, _, _⟩) qeJ_ok (by kernel_rfl) (qmA3_hk a b v0 v1 v2 v3 v4 v5 c) ho hs hK
theorem qmB3_hk (a b : U6) (v0 v1 v2 v3 v4 v5 c : Int) : (run qeJ true 25 ((⟨qmA2_k, .normal, qmS3 a b v0 v1 v2 v3 v4 v5 c⟩ : Cfg)) [true, true, false, true]).cfg.k = qmA3_k := by kernel_rfl
theorem qmB3 (a b : U6) (v0 v1 v2 v3 v4 v5 c:Int) {w0 : World} {F0 : Nat → Prop} {K : Kp} {ac : List Act} {Q : Exit → Act → World → Prop} {cX : Ctx} {aX : Act} (ho : AllP [((decide ((3:Int) < (6:Int))) = true),((0:Int) ≤ (3:Int)),((3:Int) < (6:Int)),(3 < (Ob.k (.fp a))),((0:Int) ≤ (3:Int)),((3:Int) < (6:Int)),(3 < (Ob.k (.fp b))),((0:Int) ≤ (3:Int)),((3:Int) < (6:Int)),((0:Int) ≤ (3:Int)),((3:Int) < (6:Int)),(3 < (Ob.k (.fp a))),((0:Int) ≤ (3:Int)),((3:Int) < (6:Int)),(3 < (Ob.k (.fp b))),((decide ((limb (Ob.n (.fp a)) 3) < (limb (Ob.n (.fp b)) 3))) = false),((0:Int) ≤ (3:Int)),((3:Int) < (6:Int)),(3 < (Ob.k (.fp a))),((0:Int) ≤ (3:Int)),((3:Int) < (6:Int)),(3 < (Ob.k (.fp b))),(((limb (Ob.n (.fp a)) 3) == (limb (Ob.n (.fp b)) 3)) = true),((c == (1:Int)) = true)]) (hs : Sim w0 F0 K ac (qmS3 a b v0 v1 v2 v3 v4 v5 c) cX aX) (hK : ∀ ac cY aY,Sim w0 F0 K ac (mkSt 45 [2,3,4,5,6,7] [.pt 16 0,.pt 32 0,.pt 48 0,.pt 80 0,.iu (1:Int),.ii (3:Int)] [16,32,48,80] [(some (.fl [.ob (.fp a)])),(some (.fl [.ob (.fp b)])),(some (.fl [(.ob (.fp (0:U6)))])),(some (.fl [(.int .u64 v0),(.int .u64 v1),(.int .u64 v2),(.int .u64 (IntKind.wrap .u64 ((IntKind.wrap .u64 ((limb (Ob.n (.fp a)) 3) - (limb (Ob.n (.fp b)) 3))) - c))),(.int .u64 v4),(.int .u64 v5)]))] 2528 [] []) cY aY → Wq Try.prog Q (qmA3_k) ac Exit.normal aY cY.w) : Wq Try.prog Q (qmA2_k) ac .normal aX cX.w :=
  run_at2 (o := ⟨_, _, _, _, _, _, _⟩) qeJ_ok (by kernel_rfl) (qmB3_hk a b v0 v1 v2 v3 v4 v5 c) ho hs hK
theorem qmC3_hk (a b : U6) (v0 v1 v2 v3 v4 v5 c : Int) : (run qeJ true 25 ((⟨qmA2_k, .normal, qmS3 a b v0 v1 v2 v3 v4 v5 c⟩ : Cfg)) [true, true, false, false]).cfg.k = qmA3_k := by kernel_rfl
theorem qmC3 (a b : U6) (v0 v1 v2 v3 v4 v5 c:Int) {w0 : World} {F0 : Nat → Prop} {K : Kp} {ac : List Act} {Q : Exit → Act → World → Prop} {cX : Ctx} {aX : Act} (ho : AllP [((decide ((3:Int) < (6:Int))) = true),((0:Int) ≤ (3:Int)),((3:Int) < (6:Int)),(3 < (Ob.k (.fp a))),((0:Int) ≤ (3:Int)),((3:Int) < (6:Int)),(3 < (Ob.k (.fp b))),((0:Int) ≤ (3:Int)),((3:Int) < (6:Int)),((0:Int) ≤ (3:Int)),((3:Int) < (6:Int)),(3 < (Ob.k (.fp a))),((0:Int) ≤ (3:Int)),((3:Int) < (6:Int)),(3 < (Ob.k (.fp b))),((decide ((limb (Ob.n (.fp a)) 3) < (limb (Ob.n (.fp b)) 3))) = false),((0:Int) ≤ (3:Int)),((3:Int) < (6:Int)),(3 < (Ob.k (.fp a))),((0:Int) ≤ (3:Int)),((3:Int) < (6:Int)),(3 < (Ob.k (.fp b))),(((limb (Ob.n (.fp a)) 3) == (limb (Ob.n (.fp b)) 3)) = true),((c == (1:Int)) = false)]) (hs : Sim w0 F0 K ac (qmS3 a b v0 v1 v2 v3 v4 v5 c) cX aX) (hK : ∀ ac cY aY,Sim w0 F0 K ac (mkSt 45 [2,3,4,5,6,7] [.pt 16 0,.pt 32 0,.pt 48 0,.pt 80 0,.iu (0:Int),.ii (3:Int)] [16,32,48,80] [(some (.fl [.ob (.fp a)])),(some (.fl [.ob (.fp b)])),(some (.fl [(.ob (.fp (0:U6)))])),(some (.fl [(.int .u64 v0),(.int .u64 v1),(.int .u64 v2),(.int .u64 (IntKind.wrap .u64 ((IntKind.wrap .u64 ((limb (Ob.n (.fp a)) 3) - (limb (Ob.n (.fp b)) 3))) - c))),(.int .u64 v4),(.int .u64 v5)]))] 2528 [] []) cY aY → Wq Try.prog Q (qmA3_k) ac Exit.normal aY cY.w) : Wq Try.prog Q (qmA2_k) ac .normal aX cX.w :=
  run_at2 (o := ⟨_, _, _, _, _, _, _⟩) qeJ_ok (by kernel_rfl) (qmC3_hk a b v0 v1 v2 v3 v4 v5 c) ho hs hK
theorem qmD3_hk (a b : U6) (v0 v1 v2 v3 v4 v5 c : Int) : (run qeJ true 25 ((⟨qmA2_k, .normal, qmS3 a b v0 v1 v2 v3 v4 v5 c⟩ : Cfg)) [true, false, false]).cfg.k = qmA3_k := by kernel_rfl
theorem qmD3 (a b : U6) (v0 v1 v2 v3 v4 v5 c:Int) {w0 : World} {F0 : Nat → Prop} {K : Kp} {ac : List Act} {Q : Exit → Act → World → Prop} {cX : Ctx} {aX : Act} (ho : AllP [((decide ((3:Int) < (6:Int))) = true),((0:Int) ≤ (3:Int)),((3:Int) < (6:Int)),(3 < (Ob.k (.fp a))),((0:Int) ≤ (3:Int)),((3:Int) < (6:Int)),(3 < (Ob.k (.fp b))),((0:Int) ≤ (3:Int)),((3:Int) < (6:Int)),((0:Int) ≤ (3:Int)),((3:Int) < (6:Int)),(3 < (Ob.k (.fp a))),((0:Int) ≤ (3:Int)),((3:Int) < (6:Int)),(3 < (Ob.k (.fp b))),((decide ((limb (Ob.n (.fp a)) 3) < (limb (Ob.n (.fp b)) 3))) = false),((0:Int) ≤ (3:Int)),((3:Int) < (6:Int)),(3 < (Ob.k (.fp a))),((0:Int) ≤ (3:Int)),((3:Int) < (6:Int)),(3 < (Ob.k (.fp b))),(((limb (Ob.n (.fp a)) 3) == (limb (Ob.n (.fp b)) 3)) = false)]) (hs : Sim w0 F0 K ac (qmS3 a b v0 v1 v2 v3 v4 v5 c) cX aX) (hK : ∀ ac cY aY,Sim w0 F0 K ac (mkSt 45 [2,3,4,5,6,7] [.pt 16 0,.pt 32 0,.pt 48 0,.pt 80 0,.iu (0:Int),.ii (3:Int)] [16,32,48,80] [(some (.fl [.ob (.fp a)])),(some (.fl [.ob (.fp b)])),(some (.fl [(.ob (.fp (0:U6)))])),(some (.fl [(.int .u64 v0),(.int .u64 v1),(.int .u64 v2),(.int .u64 (IntKind.wrap .u64 ((IntKind.wrap .u64 ((limb (Ob.n (.fp a)) 3) - (limb (Ob.n (.fp b)) 3))) - c))),(.int .u64 v4),(.int .u64 v5)]))] 2528 [] []) cY aY → Wq Try.prog Q (qmA3_k) ac Exit.normal aY cY.w) : Wq Try.prog Q (qmA2_k) ac .normal aX cX.w :=
  run_at2 (o := ⟨_, _, _, _, _, _, _⟩) qeJ_ok (by kernel_rfl) (qmD3_hk a b v0 v1 v2 v3 v4 v5 c) ho hs hK
noncomputable def qmS4 (a b : U6) (v0 v1 v2 v3 v4 v5 c:Int) : St := mkSt 45 [2,3,4,5,6,7] [.pt 16 0,.pt 32 0,.pt 48 0,.pt 80 0,.v (.c (.int .u64 c)),.ii (3:Int)] [16,32,48,80] [(some (.fl [.ob (.fp a)])),(some (.fl [.ob (.fp b)])),(some (.fl [(.ob (.fp (0:U6)))])),some (.fl [.int .u64 v0,.int .u64 v1,.int .u64 v2,.int .u64 v3,.int .u64 v4,.int .u64 v5])] 2528 [] []
noncomputable def qmA4_k : List KI := (run qeJ true 25 ((fun (a b : U6) (v0 v1 v2 v3 v4 v5 c : Int) => (⟨qmA3_k, .normal, qmS4 a b v0 v1 v2 v3 v4 v5 c⟩ : Cfg)) default default default default default default default default default) [true, true, true]).cfg.k
theorem qmA4_hk (a b : U6) (v0 v1 v2 v3 v4 v5 c : Int) : (run qeJ true 25 ((⟨qmA3_k, .normal, qmS4 a b v0 v1 v2 v3 v4 v5 c⟩ : Cfg)) [true, true, true]).cfg.k = qmA4_k := by kernel_rfl
theorem qmA4 (a b : U6) (v0 v1 v2 v3 v4 v5 c:Int) {w0 : World} {F0 : Nat → Prop} {K : Kp} {ac : List Act} {Q : Exit → Act → World → Prop} {cX : Ctx} {aX : Act} (ho : AllP [((decide ((4:Int) < (6:Int))) = true),((0:Int) ≤ (4:Int)),((4:Int) < (6:Int)),(4 < (Ob.k (.fp a))),((0:Int) ≤ (4:Int)),((4:Int) < (6:Int)),(4 < (Ob.k (.fp b))),((0:Int) ≤ (4:Int)),((4:Int) < (6:Int)),((0:Int) ≤ (4:Int)),((4:Int) < (6:Int)),(4 < (Ob.k (.fp a))),((0:Int) ≤ (4:Int)),((4:Int) < (6:Int)),(4 < (Ob.k (.fp b))),((decide ((limb (Ob.n (.fp a)) 4) < (limb (Ob.n (.fp b)) 4))) = true)]) (hs : Sim w0 F0 K ac (qmS4 a b v0 v1 v2 v3 v4 v5 c) cX aX) (hK : ∀ ac cY aY,Sim w0 F0 K ac (mkSt 45 [2,3,4,5,6,7] [.pt 16 0,.pt 32 0,.pt 48 0,.pt 80 0,.iu (1:Int),.ii (4:Int)] [16,32,48,80] [(some (.fl [.ob (.fp a)])),(some (.fl [.ob (.fp b)])),(some (.fl [(.ob (.fp (0:U6)))])),(some (.fl [(.int .u64 v0),(.int .u64 v1),(.int .u64 v2),(.int .u64 v3),(.int .u64 (IntKind.wrap .u64 ((IntKind.wrap .u64 ((limb (Ob.n (.fp a)) 4) - (limb (Ob.n (.fp b)) 4))) - c))),(.int .u64 v5)]))] 3136 [] []) cY aY → Wq Try.prog Q (qmA4_k) ac Exit.normal aY cY.w) : Wq Try.prog Q (qmA3_k) ac .normal aX cX.w :=
  run_at2 (o := ⟨_, _, _, _, _, _, _⟩) qeJ_ok (by kernel_rfl) (qmA4_hk a b v0 v1 v2 v3 v4 v5 c) ho hs hK
theorem qmB4_hk (a b : U6) (v0 v1 v2 v3 v4 v5 c : Int) : (run qeJ true 25 ((⟨qmA3_k, .normal, qmS4 a b v0 v1 v2 v3 v4 v5 c⟩ : Cfg)) [true, true, false, true]).cfg.k = qmA4_k := by kernel_rfl
theorem qmB4 (a b : U6) (v0 v1 v2 v3 v4 v5 c:Int) {w0 : World} {F0 : Nat → Prop} {K : Kp} {ac : List Act} {Q : Exit → Act → World → Prop} {cX : Ctx} {aX : Act} (ho : AllP [((decide ((4:Int) < (6:Int))) = true),((0:Int) ≤ (4:Int)),((4:Int) < (6:Int)),(4 < (Ob.k (.fp a))),((0:Int) ≤ (4:Int)),((4:Int) < (6:Int)),(4 < (Ob.k (.fp b))),((0:Int) ≤ (4:Int)),((4:Int) < (6:Int)),((0:Int) ≤ (4:Int)),((4:Int) < (6:Int)),(4 < (Ob.k (.fp a))),((0:Int) ≤ (4:Int)),((4:Int) < (6:Int)),(4 < (Ob.k (.fp b))),((decide ((limb (Ob.n (.fp a)) 4) < (limb (Ob.n (.fp b)) 4))) = false),((0:Int) ≤ (4:Int)),((4:Int) < (6:Int)),(4 < (Ob.k (.fp a))),((0:Int) ≤ (4:Int)),((4:Int) < (6:Int)),(4 < (Ob.k (.fp b))),(((limb (Ob.n (.fp a)) 4) == (limb (Ob.n (.fp b)) 4)) = true),((c == (1:Int)) = true)]) (hs : Sim w0 F0 K ac (qmS4 a b v0 v1 v2 v3 v4 v5 c) cX aX) (hK : ∀ ac cY aY,Sim w0 F0 K ac (mkSt 45 [2,3,4,5,6,7] [.pt 16 0,.pt 32 0,.pt 48 0,.pt 80 0,.iu (1:Int),.ii (4:Int)] [16,32,48,80] [(some (.fl [.ob (.fp a)])),(some (.fl [.ob (.fp b)])),(some (.fl [(.ob (.fp (0:U6)))])),(some (.fl [(.int .u64 v0),(.int .u64 v1),(.int .u64 v2),(.int .u64 v3),(.int .u64 (IntKind.wrap .u64 ((IntKind.wrap .u64 ((limb (Ob.n (.fp a)) 4) - (limb (Ob.n (.fp b)) 4))) - c))),(.int .u64 v5)]))] 3136 [] []) cY aY → Wq Try.prog Q (qmA4_k) ac Exit.normal aY cY.w) : Wq Try.prog Q (qmA3_k) ac .normal aX cX.w :=
  run_at2 (o := ⟨_, _, _, _, _, _, _⟩) qeJ_ok (by kernel_rfl) (qmB4_hk a b v0 v1 v2 v3 v4 v5 c) ho hs hK
theorem qmC4_hk (a b : U6) (v0 v1 v2 v3 v4 v5 c : Int) : (run qeJ true 25 ((⟨qmA3_k, .normal, qmS4 a b v0 v1 v2 v3 v4 v5 c⟩ : Cfg)) [true, true, false, false]).cfg.k = qmA4_k := by kernel_rfl
theorem qmC4 (a b : U6) (v0 v1 v2 v3 v4 v5 c:Int) {w0 : World} {F0 : Nat → Prop} {K : Kp} {ac : List Act} {Q : Exit → Act → World → Prop} {cX : Ctx} {aX : Act} (ho : AllP [((decide ((4:Int) < (6:Int))) = true),((0:Int) ≤ (4:Int)),((4:Int) < (6:Int)),(4 < (Ob.k (.fp a))),((0:Int) ≤ (4:Int)),((4:Int) < (6:Int)),(4 < (Ob.k (.fp b))),((0:Int) ≤ (4:Int)),((4:Int) < (6:Int)),((0:Int) ≤ (4:Int)),((4:Int) < (6:Int)),(4 < (Ob.k (.fp a))),((0:Int) ≤ (4:Int)),((4:Int) < (6:Int)),(4 < (Ob.k (.fp b))),((decide ((limb (Ob.n (.fp a)) 4) < (limb (Ob.n (.fp b)) 4))) = false),((0:Int) ≤ (4:Int)),((4:Int) < (6:Int)),(4 < (Ob.k (.fp a))),((0:Int) ≤ (4:Int)),((4:Int) < (6:Int)),(4 < (Ob.k (.fp b))),(((limb (Ob.n (.fp a)) 4) == (limb (Ob.n (.fp b)) 4)) = true),((c == (1:Int)) = false)]) (hs : Sim w0 F0 K ac (qmS4 a b v0 v1 v2 v3 v4 v5 c) cX aX) (hK : ∀ ac cY aY,Sim w0 F0 K ac (mkSt 45 [2,3,4,5,6,7] [.pt 16 0,.pt 32 0,.pt 48 0,.pt 80 0,.iu (0:Int),.ii (4:Int)] [16,32,48,80] [(some (.fl [.ob (.fp a)])),(some (.fl [.ob (.fp b)])),(some (.fl [(.ob (.fp (0:U6)))])),(some (.fl [(.int .u64 v0),(.int .u64 v1),(.int .u64 v2),(.int .u64 v3),(.int .u64 (IntKind.wrap .u64 ((IntKind.wrap .u64 ((limb (Ob.n (.fp a)) 4) - (limb (Ob.n (.fp b)) 4))) - c))),(.int .u64 v5)]))] 3136 [] []) cY aY → Wq Try.prog Q (qmA4_k) ac Exit.normal aY cY.w) : Wq Try.prog Q (qmA3_k) ac .normal aX cX.w :=
  run_at2 (o := ⟨_, _, _, _, _, _, _⟩) qeJ_ok (by kernel_rfl) (qmC4_hk a b v0 v1 v2 v3 v4 v5 c) ho hs hK
theorem qmD4_hk (a b : U6) (v0 v1 v2 v3 v4 v5 c : Int) : (run qeJ true 25 ((⟨qmA3_k, .normal, qmS4 a b v0 v1 v2 v3 v4 v5 c⟩ : Cfg)) [true, false, false]).cfg.k = qmA4_k := by kernel_rfl
theorem qmD4 (a b : U6) (v0 v1 v2 v3 v4 v5 c:Int) {w0 : World} {F0 : Nat → Prop} {K : Kp} {ac : List Act} {Q : Exit → Act → World → Prop} {cX : Ctx} {aX : Act} (ho : AllP [((decide ((4:Int) < (6:Int))) = true),((0:Int) ≤ (4:Int)),((4:Int) < (6:Int)),(4 < (Ob.k (.fp a))),((0:Int) ≤ (4:Int)),((4:Int) < (6:Int)),(4 < (Ob.k (.fp b))),((0:Int) ≤ (4:Int)),((4:Int) < (6:Int)),((0:Int) ≤ (4:Int)),((4:Int) < (6:Int)),(4 < (Ob.k (.fp a))),((0:Int) ≤ (4:Int)),((4:Int) < (6:Int)),(4 < (Ob.k (.fp b))),((decide ((limb (Ob.n (.fp a)) 4) < (limb (Ob.n (.fp b)) 4))) = false),((0:Int) ≤ (4:Int)),((4:Int) < (6:Int)),(4 < (Ob.k (.fp a))),((0:Int) ≤ (4:Int)),((4:Int) < (6:Int)),(4 < (Ob.k (.fp b))),(((limb (Ob.n (.fp a)) 4) == (limb (Ob.n (.fp b)) 4)) = false)]) (hs : Sim w0 F0 K ac (qmS4 a b v0 v1 v2 v3 v4 v5 c) cX aX) (hK : ∀ ac cY aY,Sim w0 F0 K ac (mkSt 45 [2,3,4,5,6,7] [.pt 16 0,.pt 32 0,.pt 48 0,.pt 80 0,.iu (0:Int),.ii (4:Int)] [16,32,48,80] [(some (.fl [.ob (.fp a)])),(some (.fl [.ob (.fp b)])),(some (.fl [(.ob (.fp (0:U6)))])),(some (.fl [(.int .u64 v0),(.int .u64 v1),(.int .u64 v2),(.int .u64 v3),(.int .u64 (IntKind.wrap .u64 ((IntKind.wrap .u64 ((limb (Ob.n (.fp a)) 4) - (limb (Ob.n (.fp b)) 4))) - c))),(.int .u64 v5)]))] 3136 [] []) cY aY → Wq Try.prog Q (qmA4_k) ac Exit.normal aY cY.w) : Wq Try.prog Q (qmA3_k) ac .normal aX cX.w :=
  run_at2 (o := ⟨_, _, _, _, _, _, _⟩) qeJ_ok (by kernel_rfl) (qmD4_hk a b v0 v1 v2 v3 v4 v5 c) ho hs hK
noncomputable def qmS5 (a b : U6) (v0 v1 v2 v3 v4 v5 c:Int) : St := mkSt 45 [2,3,4,5,6,7] [.pt 16 0,.pt 32 0,.pt 48 0,.pt 80 0,.v (.c (.int .u64 c)),.ii (4:Int)] [16,32,48,80] [(some (.fl [.ob (.fp a)])),(some (.fl [.ob (.fp b)])),(some (.fl [(.ob (.fp (0:U6)))])),some (.fl [.int .u64 v0,.int .u64 v1,.int .u64 v2,.int .u64 v3,.int .u64 v4,.int .u64 v5])] 3136 [] []
noncomputable def qmA5_k : List KI := (run qeJ true 25 ((fun (a b : U6) (v0 v1 v2 v3 v4 v5 c : Int) => (⟨qmA4_k, .normal, qmS5 a b v0 v1 v2 v3 v4 v5 c⟩ : Cfg)) default default default default default default default default default) [true, true, true]).cfg.k
theorem qmA5_hk (a b : U6) (v0 v1 v2 v3 v4 v5 c : Int) : (run qeJ true 25 ((⟨qmA4_k, .normal, qmS5 a b v0 v1 v2 v3 v4 v5 c⟩ : Cfg)) [true, true, true]).cfg.k = qmA5_k := by kernel_rfl
theorem qmA5 (a b : U6) (v0 v1 v2 v3 v4 v5 c:Int) {w0 : World} {F0 : Nat → Prop} {K : Kp} {ac : List Act} {Q : Exit → Act → World → Prop} {cX : Ctx} {aX : Act} (ho : AllP [((decide ((5:Int) < (6:Int))) = true),((0:Int) ≤ (5:Int)),((5:Int) < (6:Int)),(5 < (Ob.k (.fp a))),((0:Int) ≤ (5:Int)),((5:Int) < (6:Int)),(5 < (Ob.k (.fp b))),((0:Int) ≤ (5:Int)),((5:Int) < (6:Int)),((0:Int) ≤ (5:Int)),((5:Int) < (6:Int)),(5 < (Ob.k (.fp a))),((0:Int) ≤ (5:Int)),((5:Int) < (6:Int)),(5 < (Ob.k (.fp b))),((decide ((limb (Ob.n (.fp a)) 5) < (limb (Ob.n (.fp b)) 5))) = true)]) (hs : Sim w0 F0 K ac (qmS5 a b v0 v1 v2 v3 v4 v5 c) cX aX) (hK : ∀ ac cY aY,Sim w0 F0 K ac (mkSt 45 [2,3,4,5,6,7] [.pt 16 0,.pt 32 0,.pt 48 0,.pt 80 0,.iu (1:Int),.ii (5:Int)] [16,32,48,80] [(some (.fl [.ob (.fp a)])),(some (.fl [.ob (.fp b)])),(some (.fl [(.ob (.fp (0:U6)))])),(some (.fl [(.int .u64 v0),(.int .u64 v1),(.int .u64 v2),(.int .u64 v3),(.int .u64 v4),(.int .u64 (IntKind.wrap .u64 ((IntKind.wrap .u64 ((limb (Ob.n (.fp a)) 5) - (limb (Ob.n (.fp b)) 5))) - c)))]))] 3744 [] []) cY aY → Wq Try.prog Q (qmA5_k) ac Exit.normal aY cY.w) : Wq Try.prog Q (qmA4_k) ac .normal aX cX.w :=
  run_at2 (o := ⟨_, _, _, _, _, _, _⟩) qeJ_ok (by kernel_rfl) (qmA5_hk a b v0 v1 v2 v3 v4 v5 c) ho hs hK
theorem qmB5_hk (a b : U6) (v0 v1 v2 v3 v4 v5 c : Int) : (run qeJ true 25 ((⟨qmA4_k, .normal, qmS5 a b v0 v1 v2 v3 v4 v5 c⟩ : Cfg)) [true, true, false, true]).cfg.k = qmA5_k := by kernel_rfl
theorem qmB5 (a b : U6) (v0 v1 v2 v3 v4 v5 c:Int) {w0 : World} {F0 : Nat → Prop} {K : Kp} {ac : List Act} {Q : Exit → Act → World → Prop} {cX : Ctx} {aX : Act} (ho : AllP [((decide ((5:Int) < (6:Int))) = true),((0:Int) ≤ (5:Int)),((5:Int) < (6:Int)),(5 < (Ob.k (.fp a))),((0:Int) ≤ (5:Int)),((5:Int) < (6:Int)),(5 < (Ob.k (.fp b))),((0:Int) ≤ (5:Int)),((5:Int) < (6:Int)),((0:Int) ≤ (5:Int)),((5:Int) < (6:Int)),(5 < (Ob.k (.fp a))),((0:Int) ≤ (5:Int)),((5:Int) < (6:Int)),(5 < (Ob.k (.fp b))),((decide ((limb (Ob.n (.fp a)) 5) < (limb (Ob.n (.fp b)) 5))) = false),((0:Int) ≤ (5:Int)),((5:Int) < (6:Int)),(5 < (Ob.k (.fp a))),((0:Int) ≤ (5:Int)),((5:Int) < (6:Int)),(5 < (Ob.k (.fp b))),(((limb (Ob.n (.fp a)) 5) == (limb (Ob.n (.fp b)) 5)) = true),((c == (1:Int)) = true)]) (hs : Sim w0 F0 K ac (qmS5 a b v0 v1 v2 v3 v4 v5 c) cX aX) (hK : ∀ ac cY aY,Sim w0 F0 K ac (mkSt 45 [2,3,4,5,6,7] [.pt 16 0,.pt 32 0,.pt 48 0,.pt 80 0,.iu (1:Int),.ii (5:Int)] [16,32,48,80] [(some (.fl [.ob (.fp a)])),(some (.fl [.ob (.fp b)])),(some (.fl [(.ob (.fp (0:U6)))])),(some (.fl [(.int .u64 v0),(.int .u64 v1),(.int .u64 v2),(.int .u64 v3),(.int .u64 v4),(.int .u64 (IntKind.wrap .u64 ((IntKind.wrap .u64 ((limb (Ob.n (.fp a)) 5) - (limb (Ob.n (.fp b)) 5))) - c)))]))] 3744 [] []) cY aY → Wq Try.prog Q (qmA5_k) ac Exit.normal aY cY.w) : Wq Try.prog Q (qmA4_k) ac .normal aX cX.w :=
  run_at2 (o := ⟨_, _, _, _, _, _, _⟩) qeJ_ok (by kernel_rfl) (qmB5_hk a b v0 v1 v2 v3 v4 v5 c) ho hs hK
theorem qmC5_hk (a b : U6) (v0 v1 v2 v3 v4 v5 c : Int) : (run qeJ true 25 ((⟨qmA4_k, .normal, qmS5 a b v0 v1 v2 v3 v4 v5 c⟩ : Cfg)) [true, true, false, false]).cfg.k = qmA5_k := by kernel_rfl
theorem qmC5 (a b : U6) (v0 v1 v2 v3 v4 v5 c:Int) {w0 : World} {F0 : Nat → Prop} {K : Kp} {ac : List Act} {Q : Exit → Act → World → Prop} {cX : Ctx} {aX : Act} (ho : AllP [((decide ((5:Int) < (6:Int))) = true),((0:Int) ≤ (5:Int)),((5:Int) < (6:Int)),(5 < (Ob.k (.fp a))),((0:Int) ≤ (5:Int)),((5:Int) < (6:Int)),(5 < (Ob.k (.fp b))),((0:Int) ≤ (5:Int)),((5:Int) < (6:Int)),((0:Int) ≤ (5:Int)),((5:Int) < (6:Int)),(5 < (Ob.k (.fp a))),((0:Int) ≤ (5:Int)),((5:Int) < (6:Int)),(5 < (Ob.k (.fp b))),((decide ((limb (Ob.n (.fp a)) 5) < (limb (Ob.n (.fp b)) 5))) = false),((0:Int) ≤ (5:Int)),((5:Int) < (6:Int)),(5 < (Ob.k (.fp a))),((0:Int) ≤ (5:Int)),((5:Int) < (6:Int)),(5 < (Ob.k (.fp b))),(((limb (Ob.n (.fp a)) 5) == (limb (Ob.n (.fp b)) 5)) = true),((c == (1:Int)) = false)]) (hs : Sim w0 F0 K ac (qmS5 a b v0 v1 v2 v3 v4 v5 c) cX aX) (hK : ∀ ac cY aY,Sim w0 F0 K ac (mkSt 45 [2,3,4,5,6,7] [.pt 16 0,.pt 32 0,.pt 48 0,.pt 80 0,.iu (0:Int),.ii (5:Int)] [16,32,48,80] [(some (.fl [.ob (.fp a)])),(some (.fl [.ob (.fp b)])),(some (.fl [(.ob (.fp (0:U6)))])),(some (.fl [(.int .u64 v0),(.int .u64 v1),(.int .u64 v2),(.int .u64 v3),(.int .u64 v4),(.int .u64 (IntKind.wrap .u64 ((IntKind.wrap .u64 ((limb (Ob.n (.fp a)) 5) - (limb (Ob.n (.fp b)) 5))) - c)))]))] 3744 [] []) cY aY → Wq Try.prog Q (qmA5_k) ac Exit.normal aY cY.w) : Wq Try.prog Q (qmA4_k) ac .normal aX cX.w :=
  run_at2 (o := ⟨_, _, _, _, _, _, _⟩) qeJ_ok (by kernel_rfl) (qmC5_hk a b v0 v1 v2 v3 v4 v5 c) ho hs hK
theorem qmD5_hk (a b : U6) (v0 v1 v2 v3 v4 v5 c : Int) : (run qeJ true 25 ((⟨qmA4_k, .normal, qmS5 a b v0 v1 v2 v3 v4 v5 c⟩ : Cfg)) [true, false, false]).cfg.k = qmA5_k := by kernel_rfl
theorem qmD5 (a b : U6) (v0 v1 v2 v3 v4 v5 c:Int) {w0 : World} {F0 : Nat → Prop} {K : Kp} {ac : List Act} {Q : Exit → Act → World → Prop} {cX : Ctx} {aX : Act} (ho : AllP [((decide ((5:Int) < (6:Int))) = true),((0:Int) ≤ (5:Int)),((5:Int) < (6:Int)),(5 < (Ob.k (.fp a))),((0:Int) ≤ (5:Int)),((5:Int) < (6:Int)),(5 < (Ob.k (.fp b))),((0:Int) ≤ (5:Int)),((5:Int) < (6:Int)),((0:Int) ≤ (5:Int)),((5:Int) < (6:Int)),(5 < (Ob.k (.fp a))),((0:Int) ≤ (5:Int)),((5:Int) < (6:Int)),(5 < (Ob.k (.fp b))),((decide ((limb (Ob.n (.fp a)) 5) < (limb (Ob.n (.fp b)) 5))) = false),((0:Int) ≤ (5:Int)),((5:Int) < (6:Int)),(5 < (Ob.k (.fp a))),((0:Int) ≤ (5:Int)),((5:Int) < (6:Int)),(5 < (Ob.k (.fp b))),(((limb (Ob.n (.fp a)) 5) == (limb (Ob.n (.fp b)) 5)) = false)]) (hs : Sim w0 F0 K ac (qmS5 a b v0 v1 v2 v3 v4 v5 c) cX aX) (hK : ∀ ac cY aY,Sim w0 F0 K ac (mkSt 45 [2,3,4,5,6,7] [.pt 16 0,.pt 32 0,.pt 48 0,.pt 80 0,.iu (0:Int),.ii (5:Int)] [16,32,48,80] [(some (.fl [.ob (.fp a)])),(some (.fl [.ob (.fp b)])),(some (.fl [(.ob (.fp (0:U6)))])),(some (.fl [(.int .u64 v0),(.int .u64 v1),(.int .u64 v2),(.int .u64 v3),(.int .u64 v4),(.int .u64 (IntKind.wrap .u64 ((IntKind.wrap .u64 ((limb (Ob.n (.fp a)) 5) - (limb (Ob.n (.fp b)) 5))) - c)))]))] 3744 [] []) cY aY → Wq Try.prog Q (qmA5_k) ac Exit.normal aY cY.w) : Wq Try.prog Q (qmA4_k) ac .normal aX cX.w :=
  run_at2 (o := ⟨_, _, _, _, _, _, _⟩) qeJ_ok (by kernel_rfl) (qmD5_hk a b v0 v1 v2 v3 v4 v5 c) ho hs hK
noncomputable def qmS6 (a b : U6) (v0 v1 v2 v3 v4 v5 c:Int) : St := mkSt 45 [2,3,4,5,6,7] [.pt 16 0,.pt 32 0,.pt 48 0,.pt 80 0,.v (.c (.int .u64 c)),.ii (5:Int)] [16,32,48,80] [(some (.fl [.ob (.fp a)])),(some (.fl [.ob (.fp b)])),(some (.fl [(.ob (.fp (0:U6)))])),some (.fl [.int .u64 v0,.int .u64 v1,.int .u64 v2,.int .u64 v3,.int .u64 v4,.int .u64 v5])] 3744 [] []
theorem qmX_end (a b : U6) (v0 v1 v2 v3 v4 v5 c:Int) : runEnd qeJ Try.f114 true 3000 (⟨qmA5_k,.normal,qmS6 a b v0 v1 v2 v3 v4 v5 c⟩) [false] [] [] = (some ([((decide ((6:Int) < (6:Int))) = false)],((.v (.a [(.int .u64 v0),(.int .u64 v1),(.int .u64 v2),(.int .u64 v3),(.int .u64 v4),(.int .u64 v5)])),[]))) := by kernel_rfl
end Go.Proofs.Ytkfcphigoncgjaa

/- The reference's minus for six limbs: contract. No conditions. -/
namespace Go.Proofs.Ytkfcphigoncgjaa

theorem borrow6 {a b c : Int} (ha : Lim6 a) (hb : Lim6 b) (hc : c = 0 ∨ c = 1) : ∃ c' : Int, (c' = 0 ∨ c' = 1) ∧ (a < b → c' = 1) ∧ (¬ a < b → a = b → c = 1 → c' = 1) ∧ (¬ a < b → a = b → ¬ c = 1 → c' = 0) ∧ (¬ a < b → ¬ a = b → c' = 0) ∧
    IntKind.wrap IntKind.u64 (IntKind.wrap IntKind.u64 (a - b) - c) = a - b - c + 18446744073709551616 * c' := by
  obtain ⟨_, _⟩ := ha
  obtain ⟨_, _⟩ := hb
  rw [wrapU, wrapU]
  refine ⟨if a < b + c then 1 else 0, ?_, ?_, ?_, ?_, ?_, ?_⟩
  · split <;> omega
  · intro h; rw [if_pos (by omega)]
  · intro h1 h2 h3; rw [if_pos (by omega)]
  · intro h1 h2 h3; rw [if_neg (by omega)]
  · intro h1 h2; rw [if_neg (by omega)]
  · split <;> omega

theorem sub_u6 {a b : U6} {N c : Int} (h0 : 0 ≤ N) (hN : N < 39402006196394479212279040100143613805079739270465446667948293404245721771497210611414266254884915640806627990306816) (_hc : c = 0 ∨ c = 1)
    (h : N = (a.val : Int) - (b.val : Int) + 39402006196394479212279040100143613805079739270465446667948293404245721771497210611414266254884915640806627990306816 * c) : ((a - b : U6).val : Int) = N := by
  have ha := a.isLt
  have hb := b.isLt
  have e : (a - b : U6).val = (B6 - b.val + a.val) % B6 := rfl
  rw [e]
  unfold B6 at *
  omega

section
variable {w0 : World} {F0 : Nat → Prop} {K : Kp} {ac : List Act} {Q : Exit → Act → World → Prop} {cX : Ctx} {aX : Act}

theorem qmT0 (a b : U6) (hs : Sim w0 F0 K ac (qm0 a b : Cfg).σ cX aX)
    (k : ∀ c' : Int, (c' = 0 ∨ c' = 1) → (IntKind.wrap IntKind.u64 (IntKind.wrap IntKind.u64 ((limb (Ob.n (Ob.fp a)) 0) - (limb (Ob.n (Ob.fp b)) 0)) - 0)) = (limb (Ob.n (Ob.fp a)) 0) - (limb (Ob.n (Ob.fp b)) 0) - 0 + 18446744073709551616 * c' → ∀ ac cY aY, Sim w0 F0 K ac (qmS1 a b (IntKind.wrap IntKind.u64 (IntKind.wrap IntKind.u64 ((limb (Ob.n (Ob.fp a)) 0) - (limb (Ob.n (Ob.fp b)) 0)) - 0)) 0 0 0 0 0 c') cY aY → Wq Try.prog Q qmA0_k ac .normal aY cY.w) : Wq Try.prog Q (qm0 a b : Cfg).k ac (qm0 a b : Cfg).x aX cX.w := by
  obtain ⟨c', h1, hA1, hB1, hC1, hD1, e⟩ := borrow6 (c := 0) (limb_lim (Ob.n (Ob.fp a)) 0) (limb_lim (Ob.n (Ob.fp b)) 0) (.inl rfl)
  have sA := @qmA0 a b w0 F0 K ac Q cX aX
  have sB := @qmB0 a b w0 F0 K ac Q cX aX
  have sC := @qmC0 a b w0 F0 K ac Q cX aX
  have sD := @qmD0 a b w0 F0 K ac Q cX aX
  replace k := k c' h1 e
  clear e
  generalize (limb (Ob.n (Ob.fp a)) 0) = x at *
  generalize (limb (Ob.n (Ob.fp b)) 0) = y at *
  by_cases l1 : x < y
  · rw [hA1 l1] at k
    exact sA (by simp [AllP, Ob.k, l1]) hs k
  · by_cases l2 : x = y
    · by_cases l3 : (0 : Int) = 1
      · rw [hB1 l1 l2 l3] at k
        exact sB (by simp [AllP, Ob.k, l2, l3]) hs k
      · rw [hC1 l1 l2 l3] at k
        exact sC (by simp [AllP, Ob.k, l2]) hs k
    · rw [hD1 l1 l2] at k
      exact sD (by simp [AllP, Ob.k, l1, l2]) hs k

theorem qmT1 (a b : U6) (v0 v1 v2 v3 v4 v5 c : Int) (hc : c = 0 ∨ c = 1) (hs : Sim w0 F0 K ac (qmS1 a b v0 v1 v2 v3 v4 v5 c) cX aX)
    (k : ∀ c' : Int, (c' = 0 ∨ c' = 1) → (IntKind.wrap IntKind.u64 (IntKind.wrap IntKind.u64 ((limb (Ob.n (Ob.fp a)) 1) - (limb (Ob.n (Ob.fp b)) 1)) - c)) = (limb (Ob.n (Ob.fp a)) 1) - (limb (Ob.n (Ob.fp b)) 1) - c + 18446744073709551616 * c' → ∀ ac cY aY, Sim w0 F0 K ac (qmS2 a b v0 (IntKind.wrap IntKind.u64 (IntKind.wrap IntKind.u64 ((limb (Ob.n (Ob.fp a)) 1) - (limb (Ob.n (Ob.fp b)) 1)) - c)) v2 v3 v4 v5 c') cY aY → Wq Try.prog Q qmA1_k ac .normal aY cY.w) : Wq Try.prog Q qmA0_k ac .normal aX cX.w := by
  obtain ⟨c', h1, hA1, hB1, hC1, hD1, e⟩ := borrow6 (c := c) (limb_lim (Ob.n (Ob.fp a)) 1) (limb_lim (Ob.n (Ob.fp b)) 1) hc
  have sA := @qmA1 a b v0 v1 v2 v3 v4 v5 c w0 F0 K ac Q cX aX
  have sB := @qmB1 a b v0 v1 v2 v3 v4 v5 c w0 F0 K ac Q cX aX
  have sC := @qmC1 a b v0 v1 v2 v3 v4 v5 c w0 F0 K ac Q cX aX
  have sD := @qmD1 a b v0 v1 v2 v3 v4 v5 c w0 F0 K ac Q cX aX
  replace k := k c' h1 e
  clear e
  generalize (limb (Ob.n (Ob.fp a)) 1) = x at *
  generalize (limb (Ob.n (Ob.fp b)) 1) = y at *
  by_cases l1 : x < y
  · rw [hA1 l1] at k
    exact sA (by simp [AllP, Ob.k, l1]) hs k
  · by_cases l2 : x = y
    · by_cases l3 : (c : Int) = 1
      · rw [hB1 l1 l2 l3] at k
        exact sB (by simp [AllP, Ob.k, l2, l3]) hs k
      · rw [hC1 l1 l2 l3] at k
        exact sC (by simp [AllP, Ob.k, l2, l3]) hs k
    · rw [hD1 l1 l2] at k
      exact sD (by simp [AllP, Ob.k, l1, l2]) hs k

theorem qmT2 (a b : U6) (v0 v1 v2 v3 v4 v5 c : Int) (hc : c = 0 ∨ c = 1) (hs : Sim w0 F0 K ac (qmS2 a b v0 v1 v2 v3 v4 v5 c) cX aX)
    (k : ∀ c' : Int, (c' = 0 ∨ c' = 1) → (IntKind.wrap IntKind.u64 (IntKind.wrap IntKind.u64 ((limb (Ob.n (Ob.fp a)) 2) - (limb (Ob.n (Ob.fp b)) 2)) - c)) = (limb (Ob.n (Ob.fp a)) 2) - (limb (Ob.n (Ob.fp b)) 2) - c + 18446744073709551616 * c' → ∀ ac cY aY, Sim w0 F0 K ac (qmS3 a b v0 v1 (IntKind.wrap IntKind.u64 (IntKind.wrap IntKind.u64 ((limb (Ob.n (Ob.fp a)) 2) - (limb (Ob.n (Ob.fp b)) 2)) - c)) v3 v4 v5 c') cY aY → Wq Try.prog Q qmA2_k ac .normal aY cY.w) : Wq Try.prog Q qmA1_k ac .normal aX cX.w := by
  obtain ⟨c', h1, hA1, hB1, hC1, hD1, e⟩ := borrow6 (c := c) (limb_lim (Ob.n (Ob.fp a)) 2) (limb_lim (Ob.n (Ob.fp b)) 2) hc
  have sA := @qmA2 a b v0 v1 v2 v3 v4 v5 c w0 F0 K ac Q cX aX
  have sB := @qmB2 a b v0 v1 v2 v3 v4 v5 c w0 F0 K ac Q cX aX
  have sC := @qmC2 a b v0 v1 v2 v3 v4 v5 c w0 F0 K ac Q cX aX
  have sD := @qmD2 a b v0 v1 v2 v3 v4 v5 c w0 F0 K ac Q cX aX
  replace k := k c' h1 e
  clear e
  generalize (limb (Ob.n (Ob.fp a)) 2) = x at *
  generalize (limb (Ob.n (Ob.fp b)) 2) = y at *
  by_cases l1 : x < y
  · rw [hA1 l1] at k
    exact sA (by simp [AllP, Ob.k, l1]) hs k
  · by_cases l2 : x = y
    · by_cases l3 : (c : Int) = 1
      · rw [hB1 l1 l2 l3] at k
        exact sB (by simp [AllP, Ob.k, l2, l3]) hs k
      · rw [hC1 l1 l2 l3] at k
        exact sC (by simp [AllP, Ob.k, l2, l3]) hs k
    · rw [hD1 l1 l2] at k
      exact sD (by simp [AllP, Ob.k, l1, l2]) hs k

theorem qmT3 (a b : U6) (v0 v1 v2 v3 v4 v5 c : Int) (hc : c = 0 ∨ c = 1) (hs : Sim w0 F0 K ac (qmS3 a b v0 v1 v2 v3 v4 v5 c) cX aX)
    (k : ∀ c' : Int, (c' = 0 ∨ c' = 1) → (IntKind.wrap IntKind.u64 (IntKind.wrap IntKind.u64 ((limb (Ob.n (Ob.fp a)) 3) - (limb (Ob.n (Ob.fp b)) 3)) - c)) = (limb (Ob.n (Ob.fp a)) 3) - (limb (Ob.n (Ob.fp b)) 3) - c + 18446744073709551616 * c' → ∀ ac cY aY, Sim w0 F0 K ac (qmS4 a b v0 v1 v2 (IntKind.wrap IntKind.u64 (IntKind.wrap IntKind.u64 ((limb (Ob.n (Ob.fp a)) 3) - (limb (Ob.n (Ob.fp b)) 3)) - c)) v4 v5 c') cY aY → Wq Try.prog Q qmA3_k ac .normal aY cY.w) : Wq Try.prog Q qmA2_k ac .normal aX cX.w := by
  obtain ⟨c', h1, hA1, hB1, hC1, hD1, e⟩ := borrow6 (c := c) (limb_lim (Ob.n (Ob.fp a)) 3) (limb_lim (Ob.n (Ob.fp b)) 3) hc
  have sA := @qmA3 a b v0 v1 v2 v3 v4 v5 c w0 F0 K ac Q cX aX
  have sB := @qmB3 a b v0 v1 v2 v3 v4 v5 c w0 F0 K ac Q cX aX
  have sC := @qmC3 a b v0 v1 v2 v3 v4 v5 c w0 F0 K ac Q cX aX
  have sD := @qmD3 a b v0 v1 v2 v3 v4 v5 c w0 F0 K ac Q cX aX
  replace k := k c' h1 e
  clear e
  generalize (limb (Ob.n (Ob.fp a)) 3) = x at *
  generalize (limb (Ob.n (Ob.fp b)) 3) = y at *
  by_cases l1 : x < y
  · rw [hA1 l1] at k
    exact sA (by simp [AllP, Ob.k, l1]) hs k
  · by_cases l2 : x = y
    · by_cases l3 : (c : Int) = 1
      · rw [hB1 l1 l2 l3] at k
        exact sB (by simp [AllP, Ob.k, l2, l3]) hs k
      · rw [hC1 l1 l2 l3] at k
        exact sC (by simp [AllP, Ob.k, l2, l3]) hs k
    · rw [hD1 l1 l2] at k
      exact sD (by simp [AllP, Ob.k, l1, l2]) hs k

theorem qmT4 (a b : U6) (v0 v1 v2 v3 v4 v5 c : Int) (hc : c = 0 ∨ c = 1) (hs : Sim w0 F0 K ac (qmS4 a b v0 v1 v2 v3 v4 v5 c) cX aX)
    (k : ∀ c' : Int, (c' = 0 ∨ c' = 1) → (IntKind.wrap IntKind.u64 (IntKind.wrap IntKind.u64 ((limb (Ob.n (Ob.fp a)) 4) - (limb (Ob.n (Ob.fp b)) 4)) - c)) = (limb (Ob.n (Ob.fp a)) 4) - (limb (Ob.n (Ob.fp b)) 4) - c + 18446744073709551616 * c' → ∀ ac cY aY, Sim w0 F0 K ac (qmS5 a b v0 v1 v2 v3 (IntKind.wrap IntKind.u64 (IntKind.wrap IntKind.u64 ((limb (Ob.n (Ob.fp a)) 4) - (limb (Ob.n (Ob.fp b)) 4)) - c)) v5 c') cY aY → Wq Try.prog Q qmA4_k ac .normal aY cY.w) : Wq Try.prog Q qmA3_k ac .normal aX cX.w := by
  obtain ⟨c', h1, hA1, hB1, hC1, hD1, e⟩ := borrow6 (c := c) (limb_lim (Ob.n (Ob.fp a)) 4) (limb_lim (Ob.n (Ob.fp b)) 4) hc
  have sA := @qmA4 a b v0 v1 v2 v3 v4 v5 c w0 F0 K ac Q cX aX
  have sB := @qmB4 a b v0 v1 v2 v3 v4 v5 c w0 F0 K ac Q cX aX
  have sC := @qmC4 a b v0 v1 v2 v3 v4 v5 c w0 F0 K ac Q cX aX
  have sD := @qmD4 a b v0 v1 v2 v3 v4 v5 c w0 F0 K ac Q cX aX
  replace k := k c' h1 e
  clear e
  generalize (limb (Ob.n (Ob.fp a)) 4) = x at *
  generalize (limb (Ob.n (Ob.fp b)) 4) = y at *
  by_cases l1 : x < y
  · rw [hA1 l1] at k
    exact sA (by simp [AllP, Ob.k, l1]) hs k
  · by_cases l2 : x = y
    · by_cases l3 : (c : Int) = 1
      · rw [hB1 l1 l2 l3] at k
        exact sB (by simp [AllP, Ob.k, l2, l3]) hs k
      · rw [hC1 l1 l2 l3] at k
        exact sC (by simp [AllP, Ob.k, l2, l3]) hs k
    · rw [hD1 l1 l2] at k
      exact sD (by simp [AllP, Ob.k, l1, l2]) hs k

theorem qmT5 (a b : U6) (v0 v1 v2 v3 v4 v5 c : Int) (hc : c = 0 ∨ c = 1) (hs : Sim w0 F0 K ac (qmS5 a b v0 v1 v2 v3 v4 v5 c) cX aX)
    (k : ∀ c' : Int, (c' = 0 ∨ c' = 1) → (IntKind.wrap IntKind.u64 (IntKind.wrap IntKind.u64 ((limb (Ob.n (Ob.fp a)) 5) - (limb (Ob.n (Ob.fp b)) 5)) - c)) = (limb (Ob.n (Ob.fp a)) 5) - (limb (Ob.n (Ob.fp b)) 5) - c + 18446744073709551616 * c' → ∀ ac cY aY, Sim w0 F0 K ac (qmS6 a b v0 v1 v2 v3 v4 (IntKind.wrap IntKind.u64 (IntKind.wrap IntKind.u64 ((limb (Ob.n (Ob.fp a)) 5) - (limb (Ob.n (Ob.fp b)) 5)) - c)) c') cY aY → Wq Try.prog Q qmA5_k ac .normal aY cY.w) : Wq Try.prog Q qmA4_k ac .normal aX cX.w := by
  obtain ⟨c', h1, hA1, hB1, hC1, hD1, e⟩ := borrow6 (c := c) (limb_lim (Ob.n (Ob.fp a)) 5) (limb_lim (Ob.n (Ob.fp b)) 5) hc
  have sA := @qmA5 a b v0 v1 v2 v3 v4 v5 c w0 F0 K ac Q cX aX
  have sB := @qmB5 a b v0 v1 v2 v3 v4 v5 c w0 F0 K ac Q cX aX
  have sC := @qmC5 a b v0 v1 v2 v3 v4 v5 c w0 F0 K ac Q cX aX
  have sD := @qmD5 a b v0 v1 v2 v3 v4 v5 c w0 F0 K ac Q cX aX
  replace k := k c' h1 e
  clear e
  generalize (limb (Ob.n (Ob.fp a)) 5) = x at *
  generalize (limb (Ob.n (Ob.fp b)) 5) = y at *
  by_cases l1 : x < y
  · rw [hA1 l1] at k
    exact sA (by simp [AllP, Ob.k, l1]) hs k
  · by_cases l2 : x = y
    · by_cases l3 : (c : Int) = 1
      · rw [hB1 l1 l2 l3] at k
        exact sB (by simp [AllP, Ob.k, l2, l3]) hs k
      · rw [hC1 l1 l2 l3] at k
        exact sC (by simp [AllP, Ob.k, l2, l3]) hs k
    · rw [hD1 l1 l2] at k
      exact sD (by simp [AllP, Ob.k, l1, l2]) hs k

end

theorem qm6_fnd (a b : U6) : FnD Try.prog 114 [.v (.a [.ob (.fp a)]), .v (.a [.ob (.fp b)])] (.v (.a [.ob (.fp (a - b))])) [] := by
  refine fn_start (fn := Try.f114) (c := bodyOf Try.f114) Try.func114 rfl rfl fun x a0 hk hF hs => ?_
  have ha := fp_num a
  have hb := fp_num b
  refine qmT0 a b hs fun c0 hc0 e0 ac cY aY hs => ?_
  refine qmT1 a b _ _ _ _ _ _ c0 hc0 hs fun c1 hc1 e1 ac cY aY hs => ?_
  refine qmT2 a b _ _ _ _ _ _ c1 hc1 hs fun c2 hc2 e2 ac cY aY hs => ?_
  refine qmT3 a b _ _ _ _ _ _ c2 hc2 hs fun c3 hc3 e3 ac cY aY hs => ?_
  refine qmT4 a b _ _ _ _ _ _ c3 hc3 hs fun c4 hc4 e4 ac cY aY hs => ?_
  refine qmT5 a b _ _ _ _ _ _ c4 hc4 hs fun c5 hc5 e5 ac cY aY hs => ?_
  refine run_end2 qeJ_ok hk hF (qmX_end a b _ _ _ _ _ _ c5) (by simp [AllP]) (fun y v hd => ?_) hs
  have l0 : Lim6 (IntKind.wrap IntKind.u64 (IntKind.wrap IntKind.u64 (limb (Ob.n (Ob.fp a)) 0 - limb (Ob.n (Ob.fp b)) 0) - 0)) := wrap_lim6 _
  have l1 : Lim6 (IntKind.wrap IntKind.u64 (IntKind.wrap IntKind.u64 (limb (Ob.n (Ob.fp a)) 1 - limb (Ob.n (Ob.fp b)) 1) - c0)) := wrap_lim6 _
  have l2 : Lim6 (IntKind.wrap IntKind.u64 (IntKind.wrap IntKind.u64 (limb (Ob.n (Ob.fp a)) 2 - limb (Ob.n (Ob.fp b)) 2) - c1)) := wrap_lim6 _
  have l3 : Lim6 (IntKind.wrap IntKind.u64 (IntKind.wrap IntKind.u64 (limb (Ob.n (Ob.fp a)) 3 - limb (Ob.n (Ob.fp b)) 3) - c2)) := wrap_lim6 _
  have l4 : Lim6 (IntKind.wrap IntKind.u64 (IntKind.wrap IntKind.u64 (limb (Ob.n (Ob.fp a)) 4 - limb (Ob.n (Ob.fp b)) 4) - c3)) := wrap_lim6 _
  have l5 : Lim6 (IntKind.wrap IntKind.u64 (IntKind.wrap IntKind.u64 (limb (Ob.n (Ob.fp a)) 5 - limb (Ob.n (Ob.fp b)) 5) - c4)) := wrap_lim6 _
  generalize IntKind.wrap IntKind.u64 (IntKind.wrap IntKind.u64 (limb (Ob.n (Ob.fp a)) 0 - limb (Ob.n (Ob.fp b)) 0) - 0) = u0 at *
  generalize IntKind.wrap IntKind.u64 (IntKind.wrap IntKind.u64 (limb (Ob.n (Ob.fp a)) 1 - limb (Ob.n (Ob.fp b)) 1) - c0) = u1 at *
  generalize IntKind.wrap IntKind.u64 (IntKind.wrap IntKind.u64 (limb (Ob.n (Ob.fp a)) 2 - limb (Ob.n (Ob.fp b)) 2) - c1) = u2 at *
  generalize IntKind.wrap IntKind.u64 (IntKind.wrap IntKind.u64 (limb (Ob.n (Ob.fp a)) 3 - limb (Ob.n (Ob.fp b)) 3) - c2) = u3 at *
  generalize IntKind.wrap IntKind.u64 (IntKind.wrap IntKind.u64 (limb (Ob.n (Ob.fp a)) 4 - limb (Ob.n (Ob.fp b)) 4) - c3) = u4 at *
  generalize IntKind.wrap IntKind.u64 (IntKind.wrap IntKind.u64 (limb (Ob.n (Ob.fp a)) 5 - limb (Ob.n (Ob.fp b)) 5) - c4) = u5 at *
  refine ints_ob6 (o := .fp (a - b)) (Eq.refl 6) (limbsAre6 l0.1 l0.2 l1.1 l1.2 l2.1 l2.2 l3.1 l3.2 l4.1 l4.2 l5.1 l5.2 ?_) hd
  show ((a - b : U6).val : Int) = num6 u0 u1 u2 u3 u4 u5
  have hN : num6 u0 u1 u2 u3 u4 u5 = num6 (limb (Ob.n (Ob.fp a)) 0) (limb (Ob.n (Ob.fp a)) 1) (limb (Ob.n (Ob.fp a)) 2) (limb (Ob.n (Ob.fp a)) 3) (limb (Ob.n (Ob.fp a)) 4) (limb (Ob.n (Ob.fp a)) 5) - num6 (limb (Ob.n (Ob.fp b)) 0) (limb (Ob.n (Ob.fp b)) 1) (limb (Ob.n (Ob.fp b)) 2) (limb (Ob.n (Ob.fp b)) 3) (limb (Ob.n (Ob.fp b)) 4) (limb (Ob.n (Ob.fp b)) 5) + 39402006196394479212279040100143613805079739270465446667948293404245721771497210611414266254884915640806627990306816 * c5 := by
    clear ha hb hd hs hk hF l0 l1 l2 l3 l4 l5
    unfold num6
    omega
  rw [← ha, ← hb] at hN
  exact sub_u6 (num6_pos l0.1 l1.1 l2.1 l3.1 l4.1 l5.1) (lt6 l0.1 l0.2 l1.1 l1.2 l2.1 l2.2 l3.1 l3.2 l4.1 l4.2 l5.1 l5.2) hc5 hN

end Go.Proofs.Ytkfcphigoncgjaa

/- The reference's plus for six limbs, walked. No conditions. -/
namespace Go.Proofs.Ytkfcphigoncgjaa

noncomputable def qp0 (a b : U6) : Cfg := ⟨[.code (bodyOf Try.f116)], .normal, initSt Try.f116.ntmps [.v (.a [.ob (.fp a)]), .v (.a [.ob (.fp b)])]⟩
--@env qeJ qeJ_ok
--@unroll true
noncomputable def qpA0_k : List KI := (run qeJ true 42 ((fun (a b : U6) => (qp0 a b : Cfg)) default default) [true, true, true]).cfg.k
theorem qpA0_hk (a b : U6) : (run qeJ true 42 ((qp0 a b : Cfg)) [true, true, true]).cfg.k = qpA0_k := by kernel_rfl
theorem qpA0 (a b : U6) {w0 : World} {F0 : Nat → Prop} {K : Kp} {ac : List Act} {Q : Exit → Act → World → Prop} {cX : Ctx} {aX : Act} (ho : AllP [((decide ((0:Int) < (6:Int))) = true),((0:Int) ≤ (0:Int)),((0:Int) < (6:Int)),(0 < (Ob.k (.fp a))),((0:Int) ≤ (0:Int)),((0:Int) < (6:Int)),(0 < (Ob.k (.fp b))),((0:Int) ≤ (0:Int)),((0:Int) < (6:Int)),((0:Int) ≤ (0:Int)),((0:Int) < (6:Int)),((0:Int) ≤ (0:Int)),((0:Int) < (6:Int)),(0 < (Ob.k (.fp a))),((decide ((IntKind.wrap .u64 ((IntKind.wrap .u64 ((limb (Ob.n (.fp a)) 0) + (limb (Ob.n (.fp b)) 0))) + (0:Int))) < (limb (Ob.n (.fp a)) 0))) = true)]) (hs : Sim w0 F0 K ac (((qp0 a b : Cfg)).σ) cX aX) (hK : ∀ ac cY aY,Sim w0 F0 K ac (mkSt 45 [2,3,4,5,6,7] [.pt 16 0,.pt 32 0,.pt 48 0,.pt 80 0,.iu (1:Int),.ii (0:Int)] [16,32,48,80] [(some (.fl [.ob (.fp a)])),(some (.fl [.ob (.fp b)])),(some (.fl [(.ob (.fp (0:U6)))])),(some (.fl [(.int .u64 (IntKind.wrap .u64 ((IntKind.wrap .u64 ((limb (Ob.n (.fp a)) 0) + (limb (Ob.n (.fp b)) 0))) + (0:Int)))),(.int .u64 (0:Int)),(.int .u64 (0:Int)),(.int .u64 (0:Int)),(.int .u64 (0:Int)),(.int .u64 (0:Int))]))] 704 [] []) cY aY → Wq Try.prog Q (qpA0_k) ac Exit.normal aY cY.w) : Wq Try.prog Q (((qp0 a b : Cfg)).k) ac ((qp0 a b : Cfg)).x aX cX.w :=
  run_at (o := ⟨_, _, _, _, _, _, _⟩) qeJ_ok (by kernel_rfl) (qpA0_hk a b) ho hs hK
theorem qpB0_hk (a b : U6) : (run qeJ true 42 ((qp0 a b : Cfg)) [true, true, false, true]).cfg.k = qpA0_k := by kernel_rfl
theorem qpB0 (a b : U6) {w0 : World} {F0 : Nat → Prop} {K : Kp} {ac : List Act} {Q : Exit → Act → World → Prop} {cX : Ctx} {aX : Act} (ho : AllP [((decide ((0:Int) < (6:Int))) = true),((0:Int) ≤ (0:Int)),((0:Int) < (6:Int)),(0 < (Ob.k (.fp a))),((0:Int) ≤ (0:Int)),((0:Int) < (6:Int)),(0 < (Ob.k (.fp b))),((0:Int) ≤ (0:Int)),((0:Int) < (6:Int)),((0:Int) ≤ (0:Int)),((0:Int) < (6:Int)),((0:Int) ≤ (0:Int)),((0:Int) < (6:Int)),(0 < (Ob.k (.fp a))),((decide ((IntKind.wrap .u64 ((IntKind.wrap .u64 ((limb (Ob.n (.fp a)) 0) + (limb (Ob.n (.fp b)) 0))) + (0:Int))) < (limb (Ob.n (.fp a)) 0))) = false),((0:Int) ≤ (0:Int)),((0:Int) < (6:Int)),((0:Int) ≤ (0:Int)),((0:Int) < (6:Int)),(0 < (Ob.k (.fp a))),(((IntKind.wrap .u64 ((IntKind.wrap .u64 ((limb (Ob.n (.fp a)) 0) + (limb (Ob.n (.fp b)) 0))) + (0:Int))) == (limb (Ob.n (.fp a)) 0)) = true),(((0:Int) == (1:Int)) = true)]) (hs : Sim w0 F0 K ac (((qp0 a b : Cfg)).σ) cX aX) (hK : ∀ ac cY aY,Sim w0 F0 K ac (mkSt 45 [2,3,4,5,6,7] [.pt 16 0,.pt 32 0,.pt 48 0,.pt 80 0,.iu (1:Int),.ii (0:Int)] [16,32,48,80] [(some (.fl [.ob (.fp a)])),(some (.fl [.ob (.fp b)])),(some (.fl [(.ob (.fp (0:U6)))])),(some (.fl [(.int .u64 (IntKind.wrap .u64 ((IntKind.wrap .u64 ((limb (Ob.n (.fp a)) 0) + (limb (Ob.n (.fp b)) 0))) + (0:Int)))),(.int .u64 (0:Int)),(.int .u64 (0:Int)),(.int .u64 (0:Int)),(.int .u64 (0:Int)),(.int .u64 (0:Int))]))] 704 [] []) cY aY → Wq Try.prog Q (qpA0_k) ac Exit.normal aY cY.w) : Wq Try.prog Q (((qp0 a b : Cfg)).k) ac ((qp0 a b : Cfg)).x aX cX.w :=
  run_at (o := ⟨_, _, _, _, _, _, _⟩) qeJ_ok (by kernel_rfl) (qpB0_hk a b) ho hs hK
theorem qpC0_hk (a b : U6) : (run qeJ true 42 ((qp0 a b : Cfg)) [true, true, false, false]).cfg.k = qpA0_k := by kernel_rfl
theorem qpC0 (a b : U6) {w0 : World} {F0 : Nat → Prop} {K : Kp} {ac : List Act} {Q : Exit → Act → World → Prop} {cX : Ctx} {aX : Act} (ho : AllP [((decide ((0:Int) < (6:Int))) = true),((0:Int) ≤ (0:Int)),((0:Int) < (6:Int)),(0 < (Ob.k (.fp a))),((0:Int) ≤ (0:Int)),((0:Int) < (6:Int)),(0 < (Ob.k (.fp b))),((0:Int) ≤ (0:Int)),((0:Int) < (6:Int)),((0:Int) ≤ (0:Int)),((0:Int) < (6:Int)),((0:Int) ≤ (0:Int)),((0:Int) < (6:Int)),(0 < (Ob.k (.fp a))),((decide ((IntKind.wrap .u64 ((IntKind.wrap .u64 ((limb (Ob.n (.fp a)) 0) + (limb (Ob.n (.fp b)) 0))) + (0:Int))) < (limb (Ob.n (.fp a)) 0))) = false),((0:Int) ≤ (0:Int)),((0:Int) < (6:Int)),((0:Int) ≤ (0:Int)),((0:Int) < (6:Int)),(0 < (Ob.k (.fp a))),(((IntKind.wrap .u64 ((IntKind.wrap .u64 ((limb (Ob.n (.fp a)) 0) + (limb (Ob.n (.fp b)) 0))) + (0:Int))) == (limb (Ob.n (.fp a)) 0)) = true),(((0:Int) == (1:Int)) = false)]) (hs : Sim w0 F0 K ac (((qp0 a b : Cfg)).σ) cX aX) (hK : ∀ ac cY aY,Sim w0 F0 K ac (mkSt 45 [2,3,4,5,6,7] [.pt 16 0,.pt 32 0,.pt 48 0,.pt 80 0,.iu (0:Int),.ii (0:Int)] [16,32,48,80] [(some (.fl [.ob (.fp a)])),(some (.fl [.ob (.fp b)])),(some (.fl [(.ob (.fp (0:U6)))])),(some (.fl [(.int .u64 (IntKind.wrap .u64 ((IntKind.wrap .u64 ((limb (Ob.n (.fp a)) 0) + (limb (Ob.n (.fp b)) 0))) + (0:Int)))),(.int .u64 (0:Int)),(.int .u64 (0:Int)),(.int .u64 (0:Int)),(.int .u64 (0:Int)),(.int .u64 (0:Int))]))] 704 [] []) cY aY → Wq Try.prog Q (qpA0_k) ac Exit.normal aY cY.w) : Wq Try.prog Q (((qp0 a b : Cfg)).k) ac ((qp0 a b : Cfg)).x aX cX.w :=
  run_at (o := ⟨_, _, _, _, _, _, _⟩) qeJ_ok (by kernel_rfl) (qpC0_hk a b) ho hs hK
theorem qpD0_hk (a b : U6) : (run qeJ true 42 ((qp0 a b : Cfg)) [true, false, false]).cfg.k = qpA0_k := by kernel_rfl
theorem qpD0 (a b : U6) {w0 : World} {F0 : Nat → Prop} {K : Kp} {ac : List Act} {Q : Exit → Act → World → Prop} {cX : Ctx} {aX : Act} (ho : AllP [((decide ((0:Int) < (6:Int))) = true),((0:Int) ≤ (0:Int)),((0:Int) < (6:Int)),(0 < (Ob.k (.fp a))),((0:Int) ≤ (0:Int)),((0:Int) < (6:Int)),(0 < (Ob.k (.fp b))),((0:Int) ≤ (0:Int)),((0:Int) < (6:Int)),((0:Int) ≤ (0:Int)),((0:Int) < (6:Int)),((0:Int) ≤ (0:Int)),((0:Int) < (6:Int)),(0 < (Ob.k (.fp a))),((decide ((IntKind.wrap .u64 ((IntKind.wrap .u64 ((limb (Ob.n (.fp a)) 0) + (limb (Ob.n (.fp b)) 0))) + (0:Int))) < (limb (Ob.n (.fp a)) 0))) = false),((0:Int) ≤ (0:Int)),((0:Int) < (6:Int)),((0:Int) ≤ (0:Int)),((0:Int) < (6:Int)),(0 < (Ob.k (.fp a))),(((IntKind.wrap .u64 ((IntKind.wrap .u64 ((limb (Ob.n (.fp a)) 0) + (limb (Ob.n (.fp b)) 0))) + (0:Int))) == (limb (Ob.n (.fp a)) 0)) = false)]) (hs : Sim w0 F0 K ac (((qp0 a b : Cfg)).σ) cX aX) (hK : ∀ ac cY aY,Sim w0 F0 K ac (mkSt 45 [2,3,4,5,6,7] [.pt 16 0,.pt 32 0,.pt 48 0,.pt 80 0,.iu (0:Int),.ii (0:Int)] [16,32,48,80] [(some (.fl [.ob (.fp a)])),(some (.fl [.ob (.fp b)])),(some (.fl [(.ob (.fp (0:U6)))])),(some (.fl [(.int .u64 (IntKind.wrap .u64 ((IntKind.wrap .u64 ((limb (Ob.n (.fp a)) 0) + (limb (Ob.n (.fp b)) 0))) + (0:Int)))),(.int .u64 (0:Int)),(.int .u64 (0:Int)),(.int .u64 (0:Int)),(.int .u64 (0:Int)),(.int .u64 (0:Int))]))] 704 [] []) cY aY → Wq Try.prog Q (qpA0_k) ac Exit.normal aY cY.w) : Wq Try.prog Q (((qp0 a b : Cfg)).k) ac ((qp0 a b : Cfg)).x aX cX.w :=
  run_at (o := ⟨_, _, _, _, _, _, _⟩) qeJ_ok (by kernel_rfl) (qpD0_hk a b) ho hs hK
noncomputable def qpS1 (a b : U6) (v0 v1 v2 v3 v4 v5 c:Int) : St := mkSt 45 [2,3,4,5,6,7] [.pt 16 0,.pt 32 0,.pt 48 0,.pt 80 0,.v (.c (.int .u64 c)),.ii (0:Int)] [16,32,48,80] [(some (.fl [.ob (.fp a)])),(some (.fl [.ob (.fp b)])),(some (.fl [(.ob (.fp (0:U6)))])),some (.fl [.int .u64 v0,.int .u64 v1,.int .u64 v2,.int .u64 v3,.int .u64 v4,.int .u64 v5])] 704 [] []
noncomputable def qpA1_k : List KI := (run qeJ true 25 ((fun (a b : U6) (v0 v1 v2 v3 v4 v5 c : Int) => (⟨qpA0_k, .normal, qpS1 a b v0 v1 v2 v3 v4 v5 c⟩ : Cfg)) default default default default default default default default default) [true, true, true]).cfg.k
theorem qpA1_hk (a b : U6) (v0 v1 v2 v3 v4 v5 c : Int) : (run qeJ true 25 ((⟨qpA0_k, .normal, qpS1 a b v0 v1 v2 v3 v4 v5 c⟩ : Cfg)) [true, true, true]).cfg.k = qpA1_k := by kernel_rfl
theorem qpA1 (a b : U6) (v0 v1 v2 v3 v4 v5 c:Int) {w0 : World} {F0 : Nat → Prop} {K : Kp} {ac : List Act} {Q : Exit → Act → World → Prop} {cX : Ctx} {aX : Act} (ho : AllP [((decide ((1:Int) < (6:Int))) = true),((0:Int) ≤ (1:Int)),((1:Int) < (6:Int)),(1 < (Ob.k (.fp a))),((0:Int) ≤ (1:Int)),((1:Int) < (6:Int)),(1 < (Ob.k (.fp b))),((0:Int) ≤ (1:Int)),((1:Int) < (6:Int)),((0:Int) ≤ (1:Int)),((1:Int) < (6:Int)),((0:Int) ≤ (1:Int)),((1:Int) < (6:Int)),(1 < (Ob.k (.fp a))),((decide ((IntKind.wrap .u64 ((IntKind.wrap .u64 ((limb (Ob.n (.fp a)) 1) + (limb (Ob.n (.fp b)) 1))) + c)) < (limb (Ob.n (.fp a)) 1))) = true)]) (hs : Sim w0 F0 K ac (qpS1 a b v0 v1 v2 v3 v4 v5 c) cX aX) (hK : ∀ ac cY aY,Sim w0 F0 K ac (mkSt 45 [2,3,4,5,6,7] [.pt 16 0,.pt 32 0,.pt 48 0,.pt 80 0,.iu (1:Int),.ii (1:Int)] [16,32,48,80] [(some (.fl [.ob (.fp a)])),(some (.fl [.ob (.fp b)])),(some (.fl [(.ob (.fp (0:U6)))])),(some (.fl [(.int .u64 v0),(.int .u64 (IntKind.wrap .u64 ((IntKind.wrap .u64 ((limb (Ob.n (.fp a)) 1) + (limb (Ob.n (.fp b)) 1))) + c))),(.int .u64 v2),(.int .u64 v3),(.int .u64 v4),(.int .u64 v5)]))] 1312 [] []) cY aY → Wq Try.prog Q (qpA1_k) ac Exit.normal aY cY.w) : Wq Try.prog Q (qpA0_k) ac .normal aX cX.w :=
  run_at2 (o := ⟨_, _, _, _, _, _, _⟩) qeJ_ok (by kernel_rfl) (qpA1_hk a b v0 v1 v2 v3 v4 v5 c) ho hs hK
theorem qpB1_hk (a b : U6) (v0 v1 v2 v3 v4 v5 c : Int) : (run qeJ true 25 ((⟨qpA0_k, .normal, qpS1 a b v0 v1 v2 v3 v4 v5 c⟩ : Cfg)) [true, true, false, true]).cfg.k = qpA1_k := by kernel_rfl
theorem qpB1 (a b : U6) (v0 v1 v2 v3 v4 v5 c:Int) {w0 : World} {F0 : Nat → Prop} {K : Kp} {ac : List Act} {Q : Exit → Act → World → Prop} {cX : Ctx} {aX : Act} (ho : AllP [((decide ((1:Int) < (6:Int))) = true),((0:Int) ≤ (1:Int)),((1:Int) < (6:Int)),(1 < (Ob.k (.fp a))),((0:Int) ≤ (1:Int)),((1:Int) < (6:Int)),(1 < (Ob.k (.fp b))),((0:Int) ≤ (1:Int)),((1:Int) < (6:Int)),((0:Int) ≤ (1:Int)),((1:Int) < (6:Int)),((0:Int) ≤ (1:Int)),((1:Int) < (6:Int)),(1 < (Ob.k (.fp a))),((decide ((IntKind.wrap .u64 ((IntKind.wrap .u64 ((limb (Ob.n (.fp a)) 1) + (limb (Ob.n (.fp b)) 1))) + c)) < (limb (Ob.n (.fp a)) 1))) = false),((0:Int) ≤ (1:Int)),((1:Int) < (6:Int)),((0:Int) ≤ (1:Int)),((1:Int) < (6:Int)),(1 < (Ob.k (.fp a))),(((IntKind.wrap .u64 ((IntKind.wrap .u64 ((limb (Ob.n (.fp a)) 1) + (limb (Ob.n (.fp b)) 1))) + c)) == (limb (Ob.n (.fp a)) 1)) = true),((c == (1:Int)) = true)]) (hs : Sim w0 F0 K ac (qpS1 a b v0 v1 v2 v3 v4 v5 c) cX aX) (hK : ∀ ac cY aY,Sim w0 F0 K ac (mkSt 45 [2,3,4,5,6,7] [.pt 16 0,.pt 32 0,.pt 48 0,.pt 80 0,.iu (1:Int),.ii (1:Int)] [16,32,48,80] [(some (.fl [.ob (.fp a)])),(some (.fl [.ob (.fp b)])),(some (.fl [(.ob (.fp (0:U6)))])),(some (.fl [(.int .u64 v0),(.int .u64 (IntKind.wrap .u64 ((IntKind.wrap .u64 ((limb (Ob.n (.fp a)) 1) + (limb (Ob.n (.fp b)) 1))) + c))),(.int .u64 v2),(.int .u64 v3),(.int .u64 v4),(.int .u64 v5)]))] 1312 [] []) cY aY → Wq Try.prog Q (qpA1_k) ac Exit.normal aY cY.w) : Wq Try.prog Q (qpA0_k) ac .normal aX cX.w :=
  run_at2 (o := ⟨_, _, _, _, _, _, _⟩) qeJ_ok (by kernel_rfl) (qpB1_hk a b v0 v1 v2 v3 v4 v5 c) ho hs hK
theorem qpC1_hk (a b : U6) (v0 v1 v2 v3 v4 v5 c : Int) : (run qeJ true 25 ((⟨qpA0_k, .normal, qpS1 a b v0 v1 v2 v3 v4 v5 c⟩ : Cfg)) [true, true, false, false]).cfg.k = qpA1_k := by kernel_rfl
theorem qpC1 (a b : U6) (v0 v1 v2 v3 v4 v5 c:Int) {w0 : World} {F0 : Nat → Prop} {K : Kp} {ac : List Act} {Q : Exit → Act → World → Prop} {cX : Ctx} {aX : Act} (ho : AllP [((decide ((1:Int) < (6:Int))) = true),((0:Int) ≤ (1:Int)),((1:Int) < (6:Int)),(1 < (Ob.k (.fp a))),((0:Int) ≤ (1:Int)),((1:Int) < (6:Int)),(1 < (Ob.k (.fp b))),((0:Int) ≤ (1:Int)),((1:Int) < (6:Int)),((0:Int) ≤ (1:Int)),((1:Int) < (6:Int)),((0:Int) ≤ (1:Int)),((1:Int) < (6:Int)),(1 < (Ob.k (.fp a))),((decide ((IntKind.wrap .u64 ((IntKind.wrap .u64 ((limb (Ob.n (.fp a)) 1) + (limb (Ob.n (.fp b)) 1))) + c)) < (limb (Ob.n (.fp a)) 1))) = false),((0:Int) ≤ (1:Int)),((1:Int) < (6:Int)),((0:Int) ≤ (1:Int)),((1:Int) < (6:Int)),(1 < (Ob.k (.fp a))),(((IntKind.wrap .u64 ((IntKind.wrap .u64 ((limb (Ob.n (.fp a)) 1) + (limb (Ob.n (.fp b)) 1))) + c)) == (limb (Ob.n (.fp a)) 1)) = true),((c == (1:Int)) = false)]) (hs : Sim w0 F0 K ac (qpS1 a b v0 v1 v2 v3 v4 v5 c) cX aX) (hK : ∀ ac cY aY,Sim w0 F0 K ac (mkSt 45 [2,3,4,5,6,7] [.pt 16 0,.pt 32 0,.pt 48 0,.pt 80 0,.iu (0:Int),.ii (1:Int)] [16,32,48,80] [(some (.fl [.ob (.fp a)])),(some (.fl [.ob (.fp b)])),(some (.fl [(.ob (.fp (0:U6)))])),(some (.fl [(.int .u64 v0),(.int .u64 (IntKind.wrap .u64 ((IntKind.wrap .u64 ((limb (Ob.n (.fp a)) 1) + (limb (Ob.n (.fp b)) 1))) + c))),(.int .u64 v2),(.int .u64 v3),(.int .u64 v4),(.int .u64 v5)]))] 1312 [] []) cY aY → Wq Try.prog Q (qpA1_k) ac Exit.normal aY cY.w) : Wq Try.prog Q (qpA0_k) ac .normal aX cX.w :=
  run_at2 (o := ⟨_, _, _, _, _, _, _⟩) qeJ_ok (by kernel_rfl) (qpC1_hk a b v0 v1 v2 v3 v4 v5 c) ho hs hK
theorem qpD1_hk (a b : U6) (v0 v1 v2 v3 v4 v5 c : Int) : (run qeJ true 25 ((⟨qpA0_k, .normal, qpS1 a b v0 v1 v2 v3 v4 v5 c⟩ : Cfg)) [true, false, false]).cfg.k = qpA1_k := by kernel_rfl
theorem qpD1 (a b : U6) (v0 v1 v2 v3 v4 v5 c:Int) {w0 : World} {F0 : Nat → Prop} {K : Kp} {ac : List Act} {Q : Exit → Act → World → Prop} {cX : Ctx} {aX : Act} (ho : AllP [((decide ((1:Int) < (6:Int))) = true),((0:Int) ≤ (1:Int)),((1:Int) < (6:Int)),(1 < (Ob.k (.fp a))),((0:Int) ≤ (1:Int)),((1:Int) < (6:Int)),(1 < (Ob.k (.fp b))),((0:Int) ≤ (1:Int)),((1:Int) < (6:Int)),((0:Int) ≤ (1:Int)),((1:Int) < (6:Int)),((0:Int) ≤ (1:Int)),((1:Int) < (6:Int)),(1 < (Ob.k (.fp a))),((decide ((IntKind.wrap .u64 ((IntKind.wrap .u64 ((limb (Ob.n (.fp a)) 1) + (limb (Ob.n (.fp b)) 1))) + c)) < (limb (Ob.n (.fp a)) 1))) = false),((0:Int) ≤ (1:Int)),((1:Int) < (6:Int)),((0:Int) ≤ (1:Int)),((1:Int) < (6:Int)),(1 < (Ob.k (.fp a))),(((IntKind.wrap .u64 ((IntKind.wrap .u64 ((limb (Ob.n (.fp a)) 1) + (limb (Ob.n (.fp b)) 1))) + c)) == (limb (Ob.n (.fp a)) 1)) = false)]) (hs : Sim w0 F0 K ac (qpS1 a b v0 v1 v2 v3 v4 v5 c) cX aX) (hK : ∀ ac cY aY,Sim w0 F0 K ac (mkSt 45 [2,3,4,5,6,7] [.pt 16 0,.pt 32 0,.pt 48 0,.pt 80 0,.iu (0:Int),.ii (1:Int)] [16,32,48,80] [(some (.fl [.ob (.fp a)])),(some (.fl [.ob (.fp b)])),(some (.fl [(.ob (.fp (0:U6)))])),(some (.fl [(.int .u64 v0),(.int .u64 (IntKind.wrap .u64 ((IntKind.wrap .u64 ((limb (Ob.n (.fp a)) 1) + (limb (Ob.n (.fp b)) 1))) + c))),(.int .u64 v2),(.int .u64 v3),(.int .u64 v4),(.int .u64 v5)]))] 1312 [] []) cY aY → Wq Try.prog Q (qpA1_k) ac Exit.normal aY cY.w) : Wq Try.prog Q (qpA0_k) ac .normal aX cX.w :=
  run_at2 (o := ⟨_, _, _, _, _, _, _⟩) qeJ_ok (by kernel_rfl) (qpD1_hk a b v0 v1 v2 v3 v4 v5 c) ho hs hK
noncomputable def qpS2 (a b : U6) (v0 v1 v2 v3 v4 v5 c:Int) : St := mkSt 45 [2,3,4,5,6,7] [.pt 16 0,.pt 32 0,.pt 48 0,.pt 80 0,.v (.c (.int .u64 c)),.ii (1:Int)] [16,32,48,80] [(some (.fl [.ob (.fp a)])),(some (.fl [.ob (.fp b)])),(some (.fl [(.ob (.fp (0:U6)))])),some (.fl [.int .u64 v0,.int .u64 v1,.int .u64 v2,.int .u64 v3,.int .u64 v4,.int .u64 v5])] 1312 [] []
noncomputable def qpA2_k : List KI := (run qeJ true 25 ((fun (a b : U6) (v0 v1 v2 v3 v4 v5 c : Int) => (⟨qpA1_k, .normal, qpS2 a b v0 v1 v2 v3 v4 v5 c⟩ : Cfg)) default default default default default default default default default) [true, true, true]).cfg.k
theorem qpA2_hk (a b : U6) (v0 v1 v2 v3 v4 v5 c : Int) : (run qeJ true 25 ((⟨qpA1_k, .normal, qpS2 a b v0 v1 v2 v3 v4 v5 c⟩ : Cfg)) [true, true, true]).cfg.k = qpA2_k := by kernel_rfl
theorem qpA2 (a b : U6) (v0 v1 v2 v3 v4 v5 c:Int) {w0 : World} {F0 : Nat → Prop} {K : Kp} {ac : List Act} {Q : Exit → Act → World → Prop} {cX : Ctx} {aX : Act} (ho : AllP [((decide ((2:Int) < (6:Int))) = true),((0:Int) ≤ (2:Int)),((2:Int) < (6:Int)),(2 < (Ob.k (.fp a))),((0:Int) ≤ (2:Int)),((2:Int) < (6:Int)),(2 < (Ob.k (.fp b))),((0:Int) ≤ (2:Int)),((2:Int) < (6:Int)),((0:Int) ≤ (2:Int)),((2:Int) < (6:Int)),((0:Int) ≤ (2:Int)),((2:Int) < (6:Int)),(2 < (Ob.k (.fp a))),((decide ((IntKind.wrap .u64 ((IntKind.wrap .u64 ((limb (Ob.n (.fp a)) 2) + (limb (Ob.n (.fp b)) 2))) + c)) < (limb (Ob.n (.fp a)) 2))) = true)]) (hs : Sim w0 F0 K ac (qpS2 a b v0 v1 v2 v3 v4 v5 c) cX aX) (hK : ∀ ac cY aY,Sim w0 F0 K ac (mkSt 45 [2,3,4,5,6,7] [.pt 16 0,.pt 32 0,.pt 48 0,.pt 80 0,.iu (1:Int),.ii (2:Int)] [16,32,48,80] [(some (.fl [.ob (.fp a)])),(some (.fl [.ob (.fp b)])),(some (.fl [(.ob (.fp (0:U6)))])),(some (.fl [(.int .u64 v0),(.int .u64 v1),(.int .u64 (IntKind.wrap .u64 ((IntKind.wrap .u64 ((limb (Ob.n (.fp a)) 2) + (limb (Ob.n (.fp b)) 2))) + c))),(.int .u64 v3),(.int .u64 v4),(.int .u64 v5)]))] 1920 [] []) cY aY → Wq Try.prog Q (qpA2_k) ac Exit.normal aY cY.w) : Wq Try.prog Q (qpA1_k) ac .normal aX cX.w :=
  run_at2 (o := ⟨_, _, _, _, _, _, _⟩) qeJ_ok (by kernel_rfl) (qpA2_hk a b v0 v1 v2 v3 v4 v5 c) ho hs hK
theorem qpB2_hk (a b : U6) (v0 v1 v2 v3 v4 v5 c : Int) : (run qeJ true 25 ((⟨qpA1_k, .normal, qpS2 a b v0 v1 v2 v3 v4 v5 c⟩ : Cfg)) [true, true, false, true]).cfg.k = qpA2_k := by kernel_rfl
theorem qpB2 (a b : U6) (v0 v1 v2 v3 v4 v5 c:Int) {w0 : World} {F0 : Nat → Prop} {K : Kp} {ac : List Act} {Q : Exit → Act → World → Prop} {cX : Ctx} {aX : Act} (ho : AllP [((decide ((2:Int) < (6:Int))) = true),((0:Int) ≤ (2:Int)),((2:Int) < (6:Int)),(2 < (Ob.k (.fp a))),((0:Int) ≤ (2:Int)),((2:Int) < (6:Int)),(2 < (Ob.k (.fp b))),((0:Int) ≤ (2:Int)),((2:Int) < (6:Int)),((0:Int) ≤ (2:Int)),((2:Int) < (6:Int)),((0:Int) ≤ (2:Int)),((2:Int) < (6:Int)),(2 < (Ob.k (.fp a))),((decide ((IntKind.wrap .u64 ((IntKind.wrap .u64 ((limb (Ob.n (.fp a)) 2) + (limb (Ob.n (.fp b)) 2))) + c)) < (limb (Ob.n (.fp a)) 2))) = false),((0:Int) ≤ (2:Int)),((2:Int) < (6:Int)),((0:Int) ≤ (2:Int)),((2:Int) < (6:Int)),(2 < (Ob.k (.fp a))),(((IntKind.wrap .u64 ((IntKind.wrap .u64 ((limb (Ob.n (.fp a)) 2) + (limb (Ob.n (.fp b)) 2))) + c)) == (limb (Ob.n (.fp a)) 2)) = true),((c == (1:Int)) = true)]) (hs : Sim w0 F0 K ac (qpS2 a b v0 v1 v2 v3 v4 v5 c) cX aX) (hK : ∀ ac cY aY,Sim w0 F0 K ac (mkSt 45 [2,3,4,5,6,7] [.pt 16 0,.pt 32 0,.pt 48 0,.pt 80 0,.iu (1:Int),.ii (2:Int)] [16,32,48,80] [(some (.fl [.ob (.fp a)])),(some (.fl [.ob (.fp b)])),(some (.fl [(.ob (.fp (0:U6)))])),(some (.fl [(.int .u64 v0),(.int .u64 v1),(.int .u64 (IntKind.wrap .u64 ((IntKind.wrap .u64 ((limb (Ob.n (.fp a)) 2) + (limb (Ob.n (.fp b)) 2))) + c))),(.int .u64 v3),(.int .u64 v4),(.int .u64 v5)]))] 1920 [] []) cY aY → Wq Try.prog Q (qpA2_k) ac Exit.normal aY cY.w) : Wq Try.prog Q (qpA1_k) ac .normal aX cX.w :=
  run_at2 (o := ⟨_, _, _, _, _, _, _⟩) qeJ_ok (by kernel_rfl) (qpB2_hk a b v0 v1 v2 v3 v4 v5 c) ho hs hK
theorem qpC2_hk (a b : U6) (v0 v1 v2 v3 v4 v5 c : Int) : (run qeJ true 25 ((⟨qpA1_k, .normal, qpS2 a b v0 v1 v2 v3 v4 v5 c⟩ : Cfg)) [true, true, false, false]).cfg.k = qpA2_k := by kernel_rfl
theorem qpC2 (a b : U6) (v0 v1 v2 v3 v4 v5 c:Int) {w0 : World} {F0 : Nat → Prop} {K : Kp} {ac : List Act} {Q : Exit → Act → World → Prop} {cX : Ctx} {aX : Act} (ho : AllP [((decide ((2:Int) < (6:Int))) = true),((0:Int) ≤ (2:Int)),((2:Int) < (6:Int)),(2 < (Ob.k (.fp a))),((0:Int) ≤ (2:Int)),((2:Int) < (6:Int)),(2 < (Ob.k (.fp b))),((0:Int) ≤ (2:Int)),((2:Int) < (6:Int)),((0:Int) ≤ (2:Int)),((2:Int) < (6:Int)),((0:Int) ≤ (2:Int)),((2:Int) < (6:Int)),(2 < (Ob.k (.fp a))),((decide ((IntKind.wrap .u64 ((IntKind.wrap .u64 ((limb (Ob.n (.fp a)) 2) + (limb (Ob.n (.fp b)) 2))) + c)) < (limb (Ob.n (.fp a)) 2))) = false),((0:Int) ≤ (2:Int)),((2:Int) < (6:Int)),((0:Int) ≤ (2:Int)),((2:Int) < (6:Int)),(2 < (Ob.k (.fp a))),(((IntKind.wrap .u64 ((IntKind.wrap .u64 ((limb (Ob.n (.fp a)) 2) + (limb (Ob.n (.fp b)) 2))) + c)) == (limb (Ob.n (.fp a)) 2)) = true),((c == (1:Int)) = false)]) (hs : Sim w0 F0 K ac (qpS2 a b v0 v1 v2 v3 v4 v5 c) cX aX) (hK : ∀ ac cY aY,Sim w0 F0 K ac (mkSt 45 [2,3,4,5,6,7] [.pt 16 0,.pt 32 0,.pt 48 0,.pt 80 0,.iu (0:Int),.ii (2:Int)] [16,32,48,80] [(some (.fl [.ob (.fp a)])),(some (.fl [.ob (.fp b)])),(some (.fl [(.ob (.fp (0:U6)))])),(some (.fl [(.int .u64 v0),(.int .u64 v1),(.int .u64 (IntKind.wrap .u64 ((IntKind.wrap .u64 ((limb (Ob.n (.fp a)) 2) + (limb (Ob.n (.fp b)) 2))) + c))),(.int .u64 v3),(.int .u64 v4),(.int .u64 v5)]))] 1920 [] []) cY aY → Wq Try.prog Q (qpA2_k) ac Exit.normal aY cY.w) : Wq Try.prog Q (qpA1_k) ac .normal aX cX.w :=
  run_at2 (o := ⟨_, _, _, _, _, _, _⟩) qeJ_ok (by kernel_rfl) (qpC2_hk a b v0 v1 v2 v3 v4 v5 c) ho hs hK
theorem qpD2_hk (a b : U6) (v0 v1 v2 v3 v4 v5 c : Int) : (run qeJ true 25 ((⟨qpA1_k, .normal, qpS2 a b v0 v1 v2 v3 v4 v5 c⟩ : Cfg)) [true, false, false]).cfg.k = qpA2_k := by kernel_rfl
theorem qpD2 (a b : U6) (v0 v1 v2 v3 v4 v5 c:Int) {w0 : World} {F0 : Nat → Prop} {K : Kp} {ac : List Act} {Q : Exit → Act → World → Prop} {cX : Ctx} {aX : Act} (ho : AllP [((decide ((2:Int) < (6:Int))) = true),((0:Int) ≤ (2:Int)),((2:Int) < (6:Int)),(2 < (Ob.k (.fp a))),((0:Int) ≤ (2:Int)),((2:Int) < (6:Int)),(2 < (Ob.k (.fp b))),((0:Int) ≤ (2:Int)),((2:Int) < (6:Int)),((0:Int) ≤ (2:Int)),((2:Int) < (6:Int)),((0:Int) ≤ (2:Int)),((2:Int) < (6:Int)),(2 < (Ob.k (.fp a))),((decide ((IntKind.wrap .u64 ((IntKind.wrap .u64 ((limb (Ob.n (.fp a)) 2) + (limb (Ob.n (.fp b)) 2))) + c)) < (limb (Ob.n (.fp a)) 2))) = false),((0:Int) ≤ (2:Int)),((2:Int) < (6:Int)),((0:Int) ≤ (2:Int)),((2:Int) < (6:Int)),(2 < (Ob.k (.fp a))),(((IntKind.wrap .u64 ((IntKind.wrap .u64 ((limb (Ob.n (.fp a)) 2) + (limb (Ob.n (.fp b)) 2))) + c)) == (limb (Ob.n (.fp a)) 2)) = false)]) (hs : Sim w0 F0 K ac (qpS2 a b v0 v1 v2 v3 v4 v5 c) cX aX) (hK : ∀ ac cY aY,Sim w0 F0 K ac (mkSt 45 [2,3,4,5,6,7] [.pt 16 0,.pt 32 0,.pt 48 0,.pt 80 0,.iu (0:Int),.ii (2:Int)] [16,32,48,80] [(some (.fl [.ob (.fp a)])),(some (.fl [.ob (.fp b)])),(some (.fl [(.ob (.fp (0:U6)))])),(some (.fl [(.int .u64 v0),(.int .u64 v1),(.int .u64 (IntKind.wrap .u64 ((IntKind.wrap .u64 ((limb (Ob.n (.fp a)) 2) + (limb (Ob.n (.fp b)) 2))) + c))),(.int .u64 v3),(.int .u64 v4),(.int .u64 v5)]))] 1920 [] []) cY aY → Wq Try.prog Q (qpA2_k) ac Exit.normal aY cY.w) : Wq Try.prog Q (qpA1_k) ac .normal aX cX.w :=
  run_at2 (o := ⟨_, _, _, _, _, _, _⟩) qeJ_ok (by kernel_rfl) (qpD2_hk a b v0 v1 v2 v3 v4 v5 c) ho hs hK
noncomputable def qpS3 (a b : U6) (v0 v1 v2 v3 v4 v5 c:Int) : St := mkSt 45 [2,3,4,5,6,7] [.pt 16 0,.pt 32 0,.pt 48 0,.pt 80 0,.v (.c (.int .u64 c)),.ii (2:Int)] [16,32,48,80] [(some (.fl [.ob (.fp a)])),(some (.fl [.ob (.fp b)])),(some (.fl [(.ob (.fp (0:U6)))])),some (.fl [.int .u64 v0,.int .u64 v1,.int .u64 v2,.int .u64 v3,.int .u64 v4,.int .u64 v5])] 1920 [] []
noncomputable def qpA3_k : List KI := (run qeJ true 25 ((fun (a b : U6) (v0 v1 v2 v3 v4 v5 c : Int) => (⟨qpA2_k, .normal, qpS3 a b v0 v1 v2 v3 v4 v5 c⟩ : Cfg)) default default default default default default default default default) [true, true, true]).cfg.k
theorem qpA3_hk (a b : U6) (v0 v1 v2 v3 v4 v5 c : Int) : (run qeJ true 25 ((⟨qpA2_k, .normal, qpS3 a b v0 v1 v2 v3 v4 v5 c⟩ : Cfg)) [true, true, true]).cfg.k = qpA3_k := by kernel_rfl
theorem qpA3 (a b : U6) (v0 v1 v2 v3 v4 v5 c:Int) {w0 : World} {F0 : Nat → Prop} {K : Kp} {ac : List Act} {Q : Exit → Act → World → Prop} {cX : Ctx} {aX : Act} (ho : AllP [((decide ((3:Int) < (6:Int))) = true),((0:Int) ≤ (3:Int)),((3:Int) < (6:Int)),(3 < (Ob.k (.fp a))),((0:Int) ≤ (3:Int)),((3:Int) < (6:Int)),(3 < (Ob.k (.fp b))),((0:Int) ≤ (3:Int)),((3:Int) < (6:Int)),((0:Int) ≤ (3:Int)),((3:Int) < (6:Int)),((0:Int) ≤ (3:Int)),((3:Int) < (6:Int)),(3 < (Ob.k (.fp a))),((decide ((IntKind.wrap .u64 ((IntKind.wrap .u64 ((limb (Ob.n (.fp a)) 3) + (limb (Ob.n (.fp b)) 3))) + c)) < (limb (Ob.n (.fp a)) 3))) = true)]) (hs : Sim w0 F0 K ac (qpS3 a b v0 v1 v2 v3 v4 v5 c) cX aX) (hK : ∀ ac cY aY,Sim w0 F0 K ac (mkSt 45 [2,3,4,5,6,7] [.pt 16 0,.pt 32 0,.pt 48 0,.pt 80 0,.iu (1:Int),.ii (3:Int)] [16,32,48,80] [(some (.fl [.ob (.fp a)])),(some (.fl [.ob (.fp b)])),(some (.fl [(.ob (.fp (0:U6)))])),(some (.fl [(.int .u64 v0),(.int .u64 v1),(.int .u64 v2),(.int .u64 (IntKind.wrap .u64 ((IntKind.wrap .u64 ((limb (Ob.n (.fp a)) 3) + (limb (Ob.n (.fp b)) 3))) + c))),(.int .u64 v4),(.int .u64 v5)]))] 2528 [] []) cY aY → Wq Try.prog Q (qpA3_k) ac Exit.normal aY cY.w) : Wq Try.prog Q (qpA2_k) ac .normal aX cX.w :=
  run_at2 (o := ⟨_, _, _, _, _, _, _⟩) qeJ_ok (by kernel_rfl) (qpA3_hk a b v0 v1 v2 v3 v4 v5 c) ho hs hK
theorem qpB3_hk (a b : U6) (v0 v1 v2 v3 v4 v5 c : Int) : (run qeJ true 25 ((⟨qpA2_k, .normal, qpS3 a b v0 v1 v2 v3 v4 v5 c⟩ : Cfg)) [true, true, false, true]).cfg.k = qpA3_k := by kernel_rfl
theorem qpB3 (a b : U6) (v0 v1 v2 v3 v4 v5 c:Int) {w0 : World} {F0 : Nat → Prop} {K : Kp} {ac : List Act} {Q : Exit → Act → World → Prop} {cX : Ctx} {aX : Act} (ho : AllP [((decide ((3:Int) < (6:Int))) = true),((0:Int) ≤ (3:Int)),((3:Int) < (6:Int)),(3 < (Ob.k (.fp a))),((0:Int) ≤ (3:Int)),((3:Int) < (6:Int)),(3 < (Ob.k (.fp b))),((0:Int) ≤ (3:Int)),((3:Int) < (6:Int)),((0:Int) ≤ (3:Int)),((3:Int) < (6:Int)),((0:Int) ≤ (3:Int)),((3:Int) < (6:Int)),(3 < (Ob.k (.fp a))),((decide ((IntKind.wrap .u64 ((IntKind.wrap .u64 ((limb (Ob.n (.fp a)) 3) + (limb (Ob.n (.fp b)) 3))) + c)) < (limb (Ob.n (.fp a)) 3))) = false),((0:Int) ≤ (3:Int)),((3:Int) < (6:Int)),((0:Int) ≤ (3:Int)),((3:Int) < (6:Int)),(3 < (Ob.k (.fp a))),(((IntKind.wrap .u64 ((IntKind.wrap .u64 ((limb (Ob.n (.fp a)) 3) + (limb (Ob.n (.fp b)) 3))) + c)) == (limb (Ob.n (.fp a)) 3)) = true),((c == (1:Int)) = true)]) (hs : Sim w0 F0 K ac (qpS3 a b v0 v1 v2 v3 v4 v5 c) cX aX) (hK : ∀ ac cY aY,Sim w0 F0 K ac (mkSt 45 [2,3,4,5,6,7] [.pt 16 0,.pt 32 0,.pt 48 0,.pt 80 0,.iu (1:Int),.ii (3:Int)] [16,32,48,80] [(some (.fl [.ob (.fp a)])),(some (.fl [.ob (.fp b)])),(some (.fl [(.ob (.fp (0:U6)))])),(some (.fl [(.int .u64 v0),(.int .u64 v1),(.int .u64 v2),(.int .u64 (IntKind.wrap .u64 ((IntKind.wrap .u64 ((limb (Ob.n (.fp a)) 3) + (limb (Ob.n (.fp b)) 3))) + c))),(.int .u64 v4),(.int .u64 v5)]))] 2528 [] []) cY aY → Wq Try.prog Q (qpA3_k) ac Exit.normal aY cY.w) : Wq Try.prog Q (qpA2_k) ac .normal aX cX.w :=
  run_at2 (o := ⟨_, _, _, _, _, _, _⟩) qeJ_ok (by kernel_rfl) (qpB3_hk a b v0 v1 v2 v3 v4 v5 c) ho hs hK
theorem qpC3_hk (a b : U6) (v0 v1 v2 v3 v4 v5 c : Int) : (run qeJ true 25 ((⟨qpA2_k, .normal, qpS3 a b v0 v1 v2 v3 v4 v5 c⟩ : Cfg)) [true, true, false, false]).cfg.k = qpA3_k := by kernel_rfl
theorem qpC3 (a b : U6) (v0 v1 v2 v3 v4 v5 c:Int) {w0 : World} {F0 : Nat → Prop} {K : Kp} {ac : List Act} {Q : Exit → Act → World → Prop} {cX : Ctx} {aX : Act} (ho : AllP [((decide ((3:Int) < (6:Int))) = true),((0:Int) ≤ (3:Int)),((3:Int) < (6:Int)),(3 < (Ob.k (.fp a))),((0:Int) ≤ (3:Int)),((3:Int) < (6:Int)),(3 < (Ob.k (.fp b))),((0:Int) ≤ (3:Int)),((3:Int) < (6:Int)),((0:Int) ≤ (3:Int)),((3:Int) < (6:Int)),((0:Int) ≤ (3:Int)),((3:Int) < (6:Int)),(3 < (Ob.k (.fp a))),((decide ((IntKind.wrap .u64 ((IntKind.wrap .u64 ((limb (Ob.n (.fp a)) 3) + (limb (Ob.n (.fp b)) 3))) + c)) < (limb (Ob.n (.fp a)) 3))) = false),((0:Int) ≤ (3:Int)),((3:Int) < (6:Int)),((0:Int) ≤ (3:Int)),((3:Int) < (6:Int)),(3 < (Ob.k (.fp a))),(((IntKind.wrap .u64 ((IntKind.wrap .u64 ((limb (Ob.n (.fp a)) 3) + (limb (Ob.n (.fp b)) 3))) + c)) == (limb (Ob.n (.fp a)) 3)) = true),((c == (1:Int)) = false)]) (hs : Sim w0 F0 K ac (qpS3 a b v0 v1 v2 v3 v4 v5 c) cX aX) (hK : ∀ ac cY aY,Sim w0 F0 K ac (mkSt 45 [2,3,4,5,6,7] [.pt 16 0,.pt 32 0,.pt 48 0,.pt 80 0,.iu (0:Int),.ii (3:Int)] [16,32,48,80] [(some (.fl [.ob (.fp a)])),(some (.fl [.ob (.fp b)])),(some (.fl [(.ob (.fp (0:U6)))])),(some (.fl [(.int .u64 v0),(.int .u64 v1),(.int .u64 v2),(.int .u64 (IntKind.wrap .u64 ((IntKind.wrap .u64 ((limb (Ob.n (.fp a)) 3) + (limb (Ob.n (.fp b)) 3))) + c))),(.int .u64 v4),(.int .u64 v5)]))] 2528 [] []) cY aY → Wq Try.prog Q (qpA3_k) ac Exit.normal aY cY.w) : Wq Try.prog Q (qpA2_k) ac .normal aX cX.w :=
  run_at2 (o := ⟨_, _, _, _, _, _, _⟩) qeJ_ok (by kernel_rfl) (qpC3_hk a b v0 v1 v2 v3 v4 v5 c) ho hs hK
theorem qpD3_hk (a b : U6) (v0 v1 v2 v3 v4 v5 c : Int) : (run qeJ true 25 ((⟨qpA2_k, .normal, qpS3 a b v0 v1 v2 v3 v4 v5 c⟩ : Cfg)) [true, false, false]).cfg.k = qpA3_k := by kernel_rfl
theorem qpD3 (a b : U6) (v0 v1 v2 v3 v4 v5 c:Int) {w0 : World} {F0 : Nat → Prop} {K : Kp} {ac : List Act} {Q : Exit → Act → World → Prop} {cX : Ctx} {aX : Act} (ho : AllP [((decide ((3:Int) < (6:Int))) = true),((0:Int) ≤ (3:Int)),((3:Int) < (6:Int)),(3 < (Ob.k (.fp a))),((0:Int) ≤ (3:Int)),((3:Int) < (6:Int)),(3 < (Ob.k (.fp b))),((0:Int) ≤ (3:Int)),((3:Int) < (6:Int)),((0:Int) ≤ (3:Int)),((3:Int) < (6:Int)),((0:Int) ≤ (3:Int)),((3:Int) < (6:Int)),(3 < (Ob.k (.fp a))),((decide ((IntKind.wrap .u64 ((IntKind.wrap .u64 ((limb (Ob.n (.fp a)) 3) + (limb (Ob.n (.fp b)) 3))) + c)) < (limb (Ob.n (.fp a)) 3))) = false),((0:Int) ≤ (3:Int)),((3:Int) < (6:Int)),((0:Int) ≤ (3:Int)),((3:Int) < (6:Int)),(3 < (Ob.k (.fp a))),(((IntKind.wrap .u64 ((IntKind.wrap .u64 ((limb (Ob.n (.fp a)) 3) + (limb (Ob.n (.fp b)) 3))) + c)) == (limb (Ob.n (.fp a)) 3)) = false)]) (hs : Sim w0 F0 K ac (qpS3 a b v0 v1 v2 v3 v4 v5 c) cX aX) (hK : ∀ ac cY aY,Sim w0 F0 K ac (mkSt 45 [2,3,4,5,6,7] [.pt 16 0,.pt 32 0,.pt 48 0,.pt 80 0,.iu (0:Int),.ii (3:Int)] [16,32,48,80] [(some (.fl [.ob (.fp a)])),(some (.fl [.ob (.fp b)])),(some (.fl [(.ob (.fp (0:U6)))])),(some (.fl [(.int .u64 v0),(.int .u64 v1),(.int .u64 v2),(.int .u64 (IntKind.wrap .u64 ((IntKind.wrap .u64 ((limb (Ob.n (.fp a)) 3) + (limb (Ob.n (.fp b)) 3))) + c))),(.int .u64 v4),(.int .u64 v5)]))] 2528 [] []) cY aY → Wq Try.prog Q (qpA3_k) ac Exit.normal aY cY.w) : Wq Try.prog Q (qpA2_k) ac .normal aX cX.w :=
  run_at2 (o := ⟨_, _, _, _, _, _, _⟩) qeJ_ok (by kernel_rfl) (qpD3_hk a b v0 v1 v2 v3 v4 v5 c) ho hs hK
noncomputable def qpS4 (a b : U6) (v0 v1 v2 v3 v4 v5 c:Int) : St := mkSt 45 [2,3,4,5,6,7] [.pt 16 0,.pt 32 0,.pt 48 0,.pt 80 0,.v (.c (.int .u64 c)),.ii (3:Int)] [16,32,48,80] [(some (.fl [.ob (.fp a)])),(some (.fl [.ob (.fp b)])),(some (.fl [(.ob (.fp (0:U6)))])),some (.fl [.int .u64 v0,.int .u64 v1,.int .u64 v2,.int .u64 v3,.int .u64 v4,.int .u64 v5])] 2528 [] []
noncomputable def qpA4_k : List KI := (run qeJ true 25 ((fun (a b : U6) (v0 v1 v2 v3 v4 v5 c : Int) => (⟨qpA3_k, .normal, qpS4 a b v0 v1 v2 v3 v4 v5 c⟩ : Cfg)) default default default default default default default default default) [true, true, true]).cfg.k
theorem qpA4_hk (a b : U6) (v0 v1 v2 v3 v4 v5 c : Int) : (run qeJ true 25 ((⟨qpA3_k, .normal, qpS4 a b v0 v1 v2 v3 v4 v5 c⟩ : Cfg)) [true, true, true]).cfg.k = qpA4_k := by kernel_rfl
theorem qpA4 (a b : U6) (v0 v1 v2 v3 v4 v5 c:Int) {w0 : World} {F0 : Nat → Prop} {K : Kp} {ac : List Act} {Q : Exit → Act → World → Prop} {cX : Ctx} {aX : Act} (ho : AllP [((decide ((4:Int) < (6:Int))) = true),((0:Int) ≤ (4:Int)),((4:Int) < (6:Int)),(4 < (Ob.k (.fp a))),((0:Int) ≤ (4:Int)),((4:Int) < (6:Int)),(4 < (Ob.k (.fp b))),((0:Int) ≤ (4:Int)),((4:Int) < (6:Int)),((0:Int) ≤ (4:Int)),((4:Int) < (6:Int)),((0:Int) ≤ (4:Int)),((4:Int) < (6:Int)),(4 < (Ob.k (.fp a))),((decide ((IntKind.wrap .u64 ((IntKind.wrap .u64 ((limb (Ob.n (.fp a)) 4) + (limb (Ob.n (.fp b)) 4))) + c)) < (limb (Ob.n (.fp a)) 4))) = true)]) (hs : Sim w0 F0 K ac (qpS4 a b v0 v1 v2 v3 v4 v5 c) cX aX) (hK : ∀ ac cY aY,Sim w0 F0 K ac (mkSt 45 [2,3,4,5,6,7] [.pt 16 0,.pt 32 0,.pt 48 0,.pt 80 0,.iu (1:Int),.ii (4:Int)] [16,32,48,80] [(some (.fl [.ob (.fp a)])),(some (.fl [.ob (.fp b)])),(some (.fl [(.ob (.fp (0:U6)))])),(some (.fl [(.int .u64 v0),(.int .u64 v1),(.int .u64 v2),(.int .u64 v3),(.int .u64 (IntKind.wrap .u64 ((IntKind.wrap .u64 ((limb (Ob.n (.fp a)) 4) + (limb (Ob.n (.fp b)) 4))) + c))),(.int .u64 v5)]))] 3136 [] []) cY aY → Wq Try.prog Q (qpA4_k) ac Exit.normal aY cY.w) : Wq Try.prog Q (qpA3_k) ac .normal aX cX.w :=
  run_at2 (o := ⟨_, _, _, _, _, _, _⟩) qeJ_ok (by kernel_rfl) (qpA4_hk a b v0 v1 v2 v3 v4 v5 c) ho hs hK
theorem qpB4_hk (a b : U6) (v0 v1 v2 v3 v4 v5 c : Int) : (run qeJ true 25 ((⟨qpA3_k, .normal, qpS4 a b v0 v1 v2 v3 v4 v5 c⟩ : Cfg)) [true, true, false, true]).cfg.k = qpA4_k := by kernel_rfl
theorem qpB4 (a b : U6) (v0 v1 v2 v3 v4 v5 c:Int) {w0 : World} {F0 : Nat → Prop} {K : Kp} {ac : List Act} {Q : Exit → Act → World → Prop} {cX : Ctx} {aX : Act} (ho : AllP [((decide ((4:Int) < (6:Int))) = true),((0:Int) ≤ (4:Int)),((4:Int) < (6:Int)),(4 < (Ob.k (.fp a))),((0:Int) ≤ (4:Int)),((4:Int) < (6:Int)),(4 < (Ob.k (.fp b))),((0:Int) ≤ (4:Int)),((4:Int) < (6:Int)),((0:Int) ≤ (4:Int)),((4:Int) < (6:Int)),((0:Int) ≤ (4:Int)),((4:Int) < (6:Int)),(4 < (Ob.k (.fp a))),((decide ((IntKind.wrap .u64 ((IntKind.wrap .u64 ((limb (Ob.n (.fp a)) 4) + (limb (Ob.n (.fp b)) 4))) + c)) < (limb (Ob.n (.fp a)) 4))) = false),((0:Int) ≤ (4:Int)),((4:Int) < (6:Int)),((0:Int) ≤ (4:Int)),((4:Int) < (6:Int)),(4 < (Ob.k (.fp a))),(((IntKind.wrap .u64 ((IntKind.wrap .u64 ((limb (Ob.n (.fp a)) 4) + (limb (Ob.n (.fp b)) 4))) + c)) == (limb (Ob.n (.fp a)) 4)) = true),((c == (1:Int)) = true)]) (hs : Sim w0 F0 K ac (qpS4 a b v0 v1 v2 v3 v4 v5 c) cX aX) (hK : ∀ ac cY aY,Sim w0 F0 K ac (mkSt 45 [2,3,4,5,6,7] [.pt 16 0,.pt 32 0,.pt 48 0,.pt 80 0,.iu (1:Int),.ii (4:Int)] [16,32,48,80] [(some (.fl [.ob (.fp a)])),(some (.fl [.ob (.fp b)])),(some (.fl [(.ob (.fp (0:U6)))])),(some (.fl [(.int .u64 v0),(.int .u64 v1),(.int .u64 v2),(.int .u64 v3),(.int .u64 (IntKind.wrap .u64 ((IntKind.wrap .u64 ((limb (Ob.n (.fp a)) 4) + (limb (Ob.n (.fp b)) 4))) + c))),(.int .u64 v5)]))] 3136 [] []) cY aY → Wq Try.prog Q (qpA4_k) ac Exit.normal aY cY.w) : Wq Try.prog Q (qpA3_k) ac .normal aX cX.w :=
  run_at2 (o := ⟨_, _, _, _, _, _, _⟩) qeJ_ok (by kernel_rfl) (qpB4_hk a b v0 v1 v2 v3 v4 v5 c) ho hs hK
theorem qpC4_hk (a b : U6) (v0 v1 v2 v3 v4 v5 c : Int) : (run qeJ true 25 ((⟨qpA3_k, .normal, qpS4 a b v0 v1 v2 v3 v4 v5 c⟩ : Cfg)) [true, true, false, false]).cfg.k = qpA4_k := by kernel_rfl
theorem qpC4 (a b : U6) (v0 v1 v2 v3 v4 v5 c:Int) {w0 : World} {F0 : Nat → Prop} {K : Kp} {ac : List Act} {Q : Exit → Act → World → Prop} {cX : Ctx} {aX : Act} (ho : AllP [((decide ((4:Int) < (6:Int))) = true),((0:Int) ≤ (4:Int)),((4:Int) < (6:Int)),(4 < (Ob.k (.fp a))),((0:Int) ≤ (4:Int)),((4:Int) < (6:Int)),(4 < (Ob.k (.fp b))),((0:Int) ≤ (4:Int)),((4:Int) < (6:Int)),((0:Int) ≤ (4:Int)),((4:Int) < (6:Int)),((0:Int) ≤ (4:Int)),((4:Int) < (6:Int)),(4 < (Ob.k (.fp a))),((decide ((IntKind.wrap .u64 ((IntKind.wrap .u64 ((limb (Ob.n (.fp a)) 4) + (limb (Ob.n (.fp b)) 4))) + c)) < (limb (Ob.n (.fp a)) 4))) = false),((0:Int) ≤ (4:Int)),((4:Int) < (6:Int)),((0:Int) ≤ (4:Int)),((4:Int) < (6:Int)),(4 < (Ob.k (.fp a))),(((IntKind.wrap .u64 ((IntKind.wrap .u64 ((limb (Ob.n (.fp a)) 4) + (limb (Ob.n (.fp b)) 4))) + c)) == (limb (Ob.n (.fp a)) 4)) = true),((c == (1:Int)) = false)]) (hs : Sim w0 F0 K ac (qpS4 a b v0 v1 v2 v3 v4 v5 c) cX aX) (hK : ∀ ac cY aY,Sim w0 F0 K ac (mkSt 45 [2,3,4,5,6,7] [.pt 16 0,.pt 32 0,.pt 48 0,.pt 80 0,.iu (0:Int),.ii (4:Int)] [16,32,48,80] [(some (.fl [.ob (.fp a)])),(some (.fl [.ob (.fp b)])),(some (.fl [(.ob (.fp (0:U6)))])),(some (.fl [(.int .u64 v0),(.int .u64 v1),(.int .u64 v2),(.int .u64 v3),(.int .u64 (IntKind.wrap .u64 ((IntKind.wrap .u64 ((limb (Ob.n (.fp a)) 4) + (limb (Ob.n (.fp b)) 4))) + c))),(.int .u64 v5)]))] 3136 [] []) cY aY → Wq Try.prog Q (qpA4_k) ac Exit.normal aY cY.w) : Wq Try.prog Q (qpA3_k) ac .normal aX cX.w :=
  run_at2 (o := ⟨_, _, _, _, _, _, _⟩) qeJ_ok (by kernel_rfl) (qpC4_hk a b v0 v1 v2 v3 v4 v5 c) ho hs hK
theorem qpD4_hk (a b : U6) (v0 v1 v2 v3 v4 v5 c : Int) : (run qeJ true 25 ((⟨qpA3_k, .normal, qpS4 a b v0 v1 v2 v3 v4 v5 c⟩ : Cfg)) [true, false, false]).cfg.k = qpA4_k := by kernel_rfl
theorem qpD4 (a b : U6) (v0 v1 v2 v3 v4 v5 c:Int) {w0 : World} {F0 : Nat → Prop} {K : Kp} {ac : List Act} {Q : Exit → Act → World → Prop} {cX : Ctx} {aX : Act} (ho : AllP [((decide ((4:Int) < (6:Int))) = true),((0:Int) ≤ (4:Int)),((4:Int) < (6:Int)),(4 < (Ob.k (.fp a))),((0:Int) ≤ (4:Int)),((4:Int) < (6:Int)),(4 < (Ob.k (.fp b))),((0:Int) ≤ (4:Int)),((4:Int) < (6:Int)),((0:Int) ≤ (4:Int)),((4:Int) < (6:Int)),((0:Int) ≤ (4:Int)),((4:Int) < (6:Int)),(4 < (Ob.k (.fp a))),((decide ((IntKind.wrap .u64 ((IntKind.wrap .u64 ((limb (Ob.n (.fp a)) 4) + (limb (Ob.n (.fp b)) 4))) + c)) < (limb (Ob.n (.fp a)) 4))) = false),((0:Int) ≤ (4:Int)),((4:Int) < (6:Int)),((0:Int) ≤ (4:Int)),((4:Int) < (6:Int)),(4 < (Ob.k (.fp a))),(((IntKind.wrap .u64 ((IntKind.wrap .u64 ((limb (Ob.n (.fp a)) 4) + (limb (Ob.n (.fp b)) 4))) + c)) == (limb (Ob.n (.fp a)) 4)) = false)]) (hs : Sim w0 F0 K ac (qpS4 a b v0 v1 v2 v3 v4 v5 c) cX aX) (hK : ∀ ac cY aY,Sim w0 F0 K ac (mkSt 45 [2,3,4,5,6,7] [.pt 16 0,.pt 32 0,.pt 48 0,.pt 80 0,.iu (0:Int),.ii (4:Int)] [16,32,48,80] [(some (.fl [.ob (.fp a)])),(some (.fl [.ob (.fp b)])),(some (.fl [(.ob (.fp (0:U6)))])),(some (.fl [(.int .u64 v0),(.int .u64 v1),(.int .u64 v2),(.int .u64 v3),(.int .u64 (IntKind.wrap .u64 ((IntKind.wrap .u64 ((limb (Ob.n (.fp a)) 4) + (limb (Ob.n (.fp b)) 4))) + c))),(.int .u64 v5)]))] 3136 [] []) cY aY → Wq Try.prog Q (qpA4_k) ac Exit.normal aY cY.w) : Wq Try.prog Q (qpA3_k) ac .normal aX cX.w :=
  run_at2 (o := ⟨_, _, _, _, _, _, _⟩) qeJ_ok (by kernel_rfl) (qpD4_hk a b v0 v1 v2 v3 v4 v5 c) ho hs hK
noncomputable def qpS5 (a b : U6) (v0 v1 v2 v3 v4 v5 c:Int) : St := mkSt 45 [2,3,4,5,6,7] [.pt 16 0,.pt 32 0,.pt 48 0,.pt 80 0,.v (.c (.int .u64 c)),.ii (4:Int)] [16,32,48,80] [(some (.fl [.ob (.fp a)])),(some (.fl [.ob (.fp b)])),(some (.fl [(.ob (.fp (0:U6)))])),some (.fl [.int .u64 v0,.int .u64 v1,.int .u64 v2,.int .u64 v3,.int .u64 v4,.int .u64 v5])] 3136 [] []
noncomputable def qpA5_k : List KI := (run qeJ true 25 ((fun (a b : U6) (v0 v1 v2 v3 v4 v5 c : Int) => (⟨qpA4_k, .normal, qpS5 a b v0 v1 v2 v3 v4 v5 c⟩ : Cfg)) default default default default default default default default default) [true, true, true]).cfg.k
theorem qpA5_hk (a b : U6) (v0 v1 v2 v3 v4 v5 c : Int) : (run qeJ true 25 ((⟨qpA4_k, .normal, qpS5 a b v0 v1 v2 v3 v4 v5 c⟩ : Cfg)) [true, true, true]).cfg.k = qpA5_k := by kernel_rfl
theorem qpA5 (a b : U6) (v0 v1 v2 v3 v4 v5 c:Int) {w0 : World} {F0 : Nat → Prop} {K : Kp} {ac : List Act} {Q : Exit → Act → World → Prop} {cX : Ctx} {aX : Act} (ho : AllP [((decide ((5:Int) < (6:Int))) = true),((0:Int) ≤ (5:Int)),((5:Int) < (6:Int)),(5 < (Ob.k (.fp a))),((0:Int) ≤ (5:Int)),((5:Int) < (6:Int)),(5 < (Ob.k (.fp b))),((0:Int) ≤ (5:Int)),((5:Int) < (6:Int)),((0:Int) ≤ (5:Int)),((5:Int) < (6:Int)),((0:Int) ≤ (5:Int)),((5:Int) < (6:Int)),(5 < (Ob.k (.fp a))),((decide ((IntKind.wrap .u64 ((IntKind.wrap .u64 ((limb (Ob.n (.fp a)) 5) + (limb (Ob.n (.fp b)) 5))) + c)) < (limb (Ob.n (.fp a)) 5))) = true)]) (hs : Sim w0 F0 K ac (qpS5 a b v0 v1 v2 v3 v4 v5 c) cX aX) (hK : ∀ ac cY aY,Sim w0 F0 K ac (mkSt 45 [2,3,4,5,6,7] [.pt 16 0,.pt 32 0,.pt 48 0,.pt 80 0,.iu (1:Int),.ii (5:Int)] [16,32,48,80] [(some (.fl [.ob (.fp a)])),(some (.fl [.ob (.fp b)])),(some (.fl [(.ob (.fp (0:U6)))])),(some (.fl [(.int .u64 v0),(.int .u64 v1),(.int .u64 v2),(.int .u64 v3),(.int .u64 v4),(.int .u64 (IntKind.wrap .u64 ((IntKind.wrap .u64 ((limb (Ob.n (.fp a)) 5) + (limb (Ob.n (.fp b)) 5))) + c)))]))] 3744 [] []) cY aY → Wq Try.prog Q (qpA5_k) ac Exit.normal aY cY.w) : Wq Try.prog Q (qpA4_k) ac .normal aX cX.w :=
  run_at2 (o := ⟨_, _, _, _, _, _, _⟩) qeJ_ok (by kernel_rfl) (qpA5_hk a b v0 v1 v2 v3 v4 v5 c) ho hs hK
theorem qpB5_hk (a b : U6) (v0 v1 v2 v3 v4 v5 c : Int) : (run qeJ true 25 ((⟨qpA4_k, .normal, qpS5 a b v0 v1 v2 v3 v4 v5 c⟩ : Cfg)) [true, true, false, true]).cfg.k = qpA5_k := by kernel_rfl
theorem qpB5 (a b : U6) (v0 v1 v2 v3 v4 v5 c:Int) {w0 : World} {F0 : Nat → Prop} {K : Kp} {ac : List Act} {Q : Exit → Act → World → Prop} {cX : Ctx} {aX : Act} (ho : AllP [((decide ((5:Int) < (6:Int))) = true),((0:Int) ≤ (5:Int)),((5:Int) < (6:Int)),(5 < (Ob.k (.fp a))),((0:Int) ≤ (5:Int)),((5:Int) < (6:Int)),(5 < (Ob.k (.fp b))),((0:Int) ≤ (5:Int)),((5:Int) < (6:Int)),((0:Int) ≤ (5:Int)),((5:Int) < (6:Int)),((0:Int) ≤ (5:Int)),((5:Int) < (6:Int)),(5 < (Ob.k (.fp a))),((decide ((IntKind.wrap .u64 ((IntKind.wrap .u64 ((limb (Ob.n (.fp a)) 5) + (limb (Ob.n (.fp b)) 5))) + c)) < (limb (Ob.n (.fp a)) 5))) = false),((0:Int) ≤ (5:Int)),((5:Int) < (6:Int)),((0:Int) ≤ (5:Int)),((5:Int) < (6:Int)),(5 < (Ob.k (.fp a))),(((IntKind.wrap .u64 ((IntKind.wrap .u64 ((limb (Ob.n (.fp a)) 5) + (limb (Ob.n (.fp b)) 5))) + c)) == (limb (Ob.n (.fp a)) 5)) = true),((c == (1:Int)) = true)]) (hs : Sim w0 F0 K ac (qpS5 a b v0 v1 v2 v3 v4 v5 c) cX aX) (hK : ∀ ac cY aY,Sim w0 F0 K ac (mkSt 45 [2,3,4,5,6,7] [.pt 16 0,.pt 32 0,.pt 48 0,.pt 80 0,.iu (1:Int),.ii (5:Int)] [16,32,48,80] [(some (.fl [.ob (.fp a)])),(some (.fl [.ob (.fp b)])),(some (.fl [(.ob (.fp (0:U6)))])),(some (.fl [(.int .u64 v0),(.int .u64 v1),(.int .u64 v2),(.int .u64 v3),(.int .u64 v4),(.int .u64 (IntKind.wrap .u64 ((IntKind.wrap .u64 ((limb (Ob.n (.fp a)) 5) + (limb (Ob.n (.fp b)) 5))) + c)))]))] 3744 [] []) cY aY → Wq Try.prog Q (qpA5_k) ac Exit.normal aY cY.w) : Wq Try.prog Q (qpA4_k) ac .normal aX cX.w :=
  run_at2 (o := ⟨_, _, _, _, _, _, _⟩) qeJ_ok (by kernel_rfl) (qpB5_hk a b v0 v1 v2 v3 v4 v5 c) ho hs hK
theorem qpC5_hk (a b : U6) (v0 v1 v2 v3 v4 v5 c : Int) : (run qeJ true 25 ((⟨qpA4_k, .normal, qpS5 a b v0 v1 v2 v3 v4 v5 c⟩ : Cfg)) [true, true, false, false]).cfg.k = qpA5_k := by kernel_rfl
theorem qpC5 (a b : U6) (v0 v1 v2 v3 v4 v5 c:Int) {w0 : World} {F0 : Nat → Prop} {K : Kp} {ac : List Act} {Q : Exit → Act → World → Prop} {cX : Ctx} {aX : Act} (ho : AllP [((decide ((5:Int) < (6:Int))) = true),((0:Int) ≤ (5:Int)),((5:Int) < (6:Int)),(5 < (Ob.k (.fp a))),((0:Int) ≤ (5:Int)),((5:Int) < (6:Int)),(5 < (Ob.k (.fp b))),((0:Int) ≤ (5:Int)),((5:Int) < (6:Int)),((0:Int) ≤ (5:Int)),((5:Int) < (6:Int)),((0:Int) ≤ (5:Int)),((5:Int) < (6:Int)),(5 < (Ob.k (.fp a))),((decide ((IntKind.wrap .u64 ((IntKind.wrap .u64 ((limb (Ob.n (.fp a)) 5) + (limb (Ob.n (.fp b)) 5))) + c)) < (limb (Ob.n (.fp a)) 5))) = false),((0:Int) ≤ (5:Int)),((5:Int) < (6:Int)),((0:Int) ≤ (5:Int)),((5:Int) < (6:Int)),(5 < (Ob.k (.fp a))),(((IntKind.wrap .u64 ((IntKind.wrap .u64 ((limb (Ob.n (.fp a)) 5) + (limb (Ob.n (.fp b)) 5))) + c)) == (limb (Ob.n (.fp a)) 5)) = true),((c == (1:Int)) = false)]) (hs : Sim w0 F0 K ac (qpS5 a b v0 v1 v2 v3 v4 v5 c) cX aX) (hK : ∀ ac cY aY,Sim w0 F0 K ac (mkSt 45 [2,3,4,5,6,7] [.pt 16 0,.pt 32 0,.pt 48 0,.pt 80 0,.iu (0:Int),.ii (5:Int)] [16,32,48,80] [(some (.fl [.ob (.fp a)])),(some (.fl [.ob (.fp b)])),(some (.fl [(.ob (.fp (0:U6)))])),(some (.fl [(.int .u64 v0),(.int .u64 v1),(.int .u64 v2),(.int .u64 v3),(.int .u64 v4),(.int .u64 (IntKind.wrap .u64 ((IntKind.wrap .u64 ((limb (Ob.n (.fp a)) 5) + (limb (Ob.n (.fp b)) 5))) + c)))]))] 3744 [] []) cY aY → Wq Try.prog Q (qpA5_k) ac Exit.normal aY cY.w) : Wq Try.prog Q (qpA4_k) ac .normal aX cX.w :=
  run_at2 (o := ⟨_, _, _, _, _, _, _⟩) qeJ_ok (by kernel_rfl) (qpC5_hk a b v0 v1 v2 v3 v4 v5 c) ho hs hK
theorem qpD5_hk (a b : U6) (v0 v1 v2 v3 v4 v5 c : Int) : (run qeJ true 25 ((⟨qpA4_k, .normal, qpS5 a b v0 v1 v2 v3 v4 v5 c⟩ : Cfg)) [true, false, false]).cfg.k = qpA5_k := by kernel_rfl
theorem qpD5 (a b : U6) (v0 v1 v2 v3 v4 v5 c:Int) {w0 : World} {F0 : Nat → Prop} {K : Kp} {ac : List Act} {Q : Exit → Act → World → Prop} {cX : Ctx} {aX : Act} (ho : AllP [((decide ((5:Int) < (6:Int))) = true),((0:Int) ≤ (5:Int)),((5:Int) < (6:Int)),(5 < (Ob.k (.fp a))),((0:Int) ≤ (5:Int)),((5:Int) < (6:Int)),(5 < (Ob.k (.fp b))),((0:Int) ≤ (5:Int)),((5:Int) < (6:Int)),((0:Int) ≤ (5:Int)),((5:Int) < (6:Int)),((0:Int) ≤ (5:Int)),((5:Int) < (6:Int)),(5 < (Ob.k (.fp a))),((decide ((IntKind.wrap .u64 ((IntKind.wrap .u64 ((limb (Ob.n (.fp a)) 5) + (limb (Ob.n (.fp b)) 5))) + c)) < (limb (Ob.n (.fp a)) 5))) = false),((0:Int) ≤ (5:Int)),((5:Int) < (6:Int)),((0:Int) ≤ (5:Int)),((5:Int) < (6:Int)),(5 < (Ob.k (.fp a))),(((IntKind.wrap .u64 ((IntKind.wrap .u64 ((limb (Ob.n (.fp a)) 5) + (limb (Ob.n (.fp b)) 5))) + c)) == (limb (Ob.n (.fp a)) 5)) = false)]) (hs : Sim w0 F0 K ac (qpS5 a b v0 v1 v2 v3 v4 v5 c) cX aX) (hK : ∀ ac cY aY,Sim w0 F0 K ac (mkSt 45 [2,3,4,5,6,7] [.pt 16 0,.pt 32 0,.pt 48 0,.pt 80 0,.iu (0:Int),.ii (5:Int)] [16,32,48,80] [(some (.fl [.ob (.fp a)])),(some (.fl [.ob (.fp b)])),(some (.fl [(.ob (.fp (0:U6)))])),(some (.fl [(.int .u64 v0),(.int .u64 v1),(.int .u64 v2),(.int .u64 v3),(.int .u64 v4),(.int .u64 (IntKind.wrap .u64 ((IntKind.wrap .u64 ((limb (Ob.n (.fp a)) 5) + (limb (Ob.n (.fp b)) 5))) + c)))]))] 3744 [] []) cY aY → Wq Try.prog Q (qpA5_k) ac Exit.normal aY cY.w) : Wq Try.prog Q (qpA4_k) ac .normal aX cX.w :=
  run_at2 (o := ⟨_, _, _, _, _, _, _⟩) qeJ_ok (by kernel_rfl) (qpD5_hk a b v0 v1 v2 v3 v4 v5 c) ho hs hK
noncomputable def qpS6 (a b : U6) (v0 v1 v2 v3 v4 v5 c:Int) : St := mkSt 45 [2,3,4,5,6,7] [.pt 16 0,.pt 32 0,.pt 48 0,.pt 80 0,.v (.c (.int .u64 c)),.ii (5:Int)] [16,32,48,80] [(some (.fl [.ob (.fp a)])),(some (.fl [.ob (.fp b)])),(some (.fl [(.ob (.fp (0:U6)))])),some (.fl [.int .u64 v0,.int .u64 v1,.int .u64 v2,.int .u64 v3,.int .u64 v4,.int .u64 v5])] 3744 [] []
theorem qpX_end (a b : U6) (v0 v1 v2 v3 v4 v5 c:Int) : runEnd qeJ Try.f116 true 3000 (⟨qpA5_k,.normal,qpS6 a b v0 v1 v2 v3 v4 v5 c⟩) [false] [] [] = (some ([((decide ((6:Int) < (6:Int))) = false)],((.v (.a [(.int .u64 v0),(.int .u64 v1),(.int .u64 v2),(.int .u64 v3),(.int .u64 v4),(.int .u64 v5)])),[]))) := by kernel_rfl
end Go.Proofs.Ytkfcphigoncgjaa

/- The reference's plus for six limbs: contract. No conditions. -/
namespace Go.Proofs.Ytkfcphigoncgjaa

theorem carry6 {a b c : Int} (ha : Lim6 a) (hb : Lim6 b) (hc : c = 0 ∨ c = 1) : ∃ c' : Int, (c' = 0 ∨ c' = 1) ∧ (IntKind.wrap IntKind.u64 (IntKind.wrap IntKind.u64 (a + b) + c) < a → c' = 1) ∧ (¬ IntKind.wrap IntKind.u64 (IntKind.wrap IntKind.u64 (a + b) + c) < a → IntKind.wrap IntKind.u64 (IntKind.wrap IntKind.u64 (a + b) + c) = a → c = 1 → c' = 1) ∧
    (¬ IntKind.wrap IntKind.u64 (IntKind.wrap IntKind.u64 (a + b) + c) < a → IntKind.wrap IntKind.u64 (IntKind.wrap IntKind.u64 (a + b) + c) = a → ¬ c = 1 → c' = 0) ∧ (¬ IntKind.wrap IntKind.u64 (IntKind.wrap IntKind.u64 (a + b) + c) < a → ¬ IntKind.wrap IntKind.u64 (IntKind.wrap IntKind.u64 (a + b) + c) = a → c' = 0) ∧
    IntKind.wrap IntKind.u64 (IntKind.wrap IntKind.u64 (a + b) + c) + 18446744073709551616 * c' = a + b + c := by
  obtain ⟨_, _⟩ := ha
  obtain ⟨_, _⟩ := hb
  rw [wrapU, wrapU]
  refine ⟨if 18446744073709551616 ≤ a + b + c then 1 else 0, ?_, ?_, ?_, ?_, ?_, ?_⟩
  · split <;> omega
  · intro h; rw [if_pos (by omega)]
  · intro h1 h2 h3; rw [if_pos (by omega)]
  · intro h1 h2 h3; rw [if_neg (by omega)]
  · intro h1 h2; rw [if_neg (by omega)]
  · split <;> omega

theorem add_u6 {a b : U6} {N c : Int} (h0 : 0 ≤ N) (hN : N < 39402006196394479212279040100143613805079739270465446667948293404245721771497210611414266254884915640806627990306816) (_hc : c = 0 ∨ c = 1)
    (h : N + 39402006196394479212279040100143613805079739270465446667948293404245721771497210611414266254884915640806627990306816 * c = (a.val : Int) + (b.val : Int)) : ((a + b : U6).val : Int) = N := by
  have ha := a.isLt
  have hb := b.isLt
  have e : (a + b : U6).val = (a.val + b.val) % B6 := rfl
  rw [e]
  unfold B6 at *
  omega

section
variable {w0 : World} {F0 : Nat → Prop} {K : Kp} {ac : List Act} {Q : Exit → Act → World → Prop} {cX : Ctx} {aX : Act}

theorem qpT0 (a b : U6) (hs : Sim w0 F0 K ac (qp0 a b : Cfg).σ cX aX)
    (k : ∀ c' : Int, (c' = 0 ∨ c' = 1) → (IntKind.wrap IntKind.u64 (IntKind.wrap IntKind.u64 ((limb (Ob.n (Ob.fp a)) 0) + (limb (Ob.n (Ob.fp b)) 0)) + 0)) + 18446744073709551616 * c' = (limb (Ob.n (Ob.fp a)) 0) + (limb (Ob.n (Ob.fp b)) 0) + 0 → ∀ ac cY aY, Sim w0 F0 K ac (qpS1 a b (IntKind.wrap IntKind.u64 (IntKind.wrap IntKind.u64 ((limb (Ob.n (Ob.fp a)) 0) + (limb (Ob.n (Ob.fp b)) 0)) + 0)) 0 0 0 0 0 c') cY aY → Wq Try.prog Q qpA0_k ac .normal aY cY.w) : Wq Try.prog Q (qp0 a b : Cfg).k ac (qp0 a b : Cfg).x aX cX.w := by
  obtain ⟨c', h1, hA1, hB1, hC1, hD1, e⟩ := carry6 (c := 0) (limb_lim (Ob.n (Ob.fp a)) 0) (limb_lim (Ob.n (Ob.fp b)) 0) (.inl rfl)
  have sA := @qpA0 a b w0 F0 K ac Q cX aX
  have sB := @qpB0 a b w0 F0 K ac Q cX aX
  have sC := @qpC0 a b w0 F0 K ac Q cX aX
  have sD := @qpD0 a b w0 F0 K ac Q cX aX
  replace k := k c' h1 e
  clear e
  generalize (IntKind.wrap IntKind.u64 (IntKind.wrap IntKind.u64 ((limb (Ob.n (Ob.fp a)) 0) + (limb (Ob.n (Ob.fp b)) 0)) + 0)) = z at *
  generalize (limb (Ob.n (Ob.fp a)) 0) = x at *
  generalize (limb (Ob.n (Ob.fp b)) 0) = y at *
  by_cases l1 : z < x
  · rw [hA1 l1] at k
    exact sA (by simp [AllP, Ob.k, l1]) hs k
  · by_cases l2 : z = x
    · by_cases l3 : (0 : Int) = 1
      · rw [hB1 l1 l2 l3] at k
        exact sB (by simp [AllP, Ob.k, l2, l3]) hs k
      · rw [hC1 l1 l2 l3] at k
        exact sC (by simp [AllP, Ob.k, l2]) hs k
    · rw [hD1 l1 l2] at k
      exact sD (by simp [AllP, Ob.k, l1, l2]) hs k

theorem qpT1 (a b : U6) (v0 v1 v2 v3 v4 v5 c : Int) (hc : c = 0 ∨ c = 1) (hs : Sim w0 F0 K ac (qpS1 a b v0 v1 v2 v3 v4 v5 c) cX aX)
    (k : ∀ c' : Int, (c' = 0 ∨ c' = 1) → (IntKind.wrap IntKind.u64 (IntKind.wrap IntKind.u64 ((limb (Ob.n (Ob.fp a)) 1) + (limb (Ob.n (Ob.fp b)) 1)) + c)) + 18446744073709551616 * c' = (limb (Ob.n (Ob.fp a)) 1) + (limb (Ob.n (Ob.fp b)) 1) + c → ∀ ac cY aY, Sim w0 F0 K ac (qpS2 a b v0 (IntKind.wrap IntKind.u64 (IntKind.wrap IntKind.u64 ((limb (Ob.n (Ob.fp a)) 1) + (limb (Ob.n (Ob.fp b)) 1)) + c)) v2 v3 v4 v5 c') cY aY → Wq Try.prog Q qpA1_k ac .normal aY cY.w) : Wq Try.prog Q qpA0_k ac .normal aX cX.w := by
  obtain ⟨c', h1, hA1, hB1, hC1, hD1, e⟩ := carry6 (c := c) (limb_lim (Ob.n (Ob.fp a)) 1) (limb_lim (Ob.n (Ob.fp b)) 1) hc
  have sA := @qpA1 a b v0 v1 v2 v3 v4 v5 c w0 F0 K ac Q cX aX
  have sB := @qpB1 a b v0 v1 v2 v3 v4 v5 c w0 F0 K ac Q cX aX
  have sC := @qpC1 a b v0 v1 v2 v3 v4 v5 c w0 F0 K ac Q cX aX
  have sD := @qpD1 a b v0 v1 v2 v3 v4 v5 c w0 F0 K ac Q cX aX
  replace k := k c' h1 e
  clear e
  generalize (IntKind.wrap IntKind.u64 (IntKind.wrap IntKind.u64 ((limb (Ob.n (Ob.fp a)) 1) + (limb (Ob.n (Ob.fp b)) 1)) + c)) = z at *
  generalize (limb (Ob.n (Ob.fp a)) 1) = x at *
  generalize (limb (Ob.n (Ob.fp b)) 1) = y at *
  by_cases l1 : z < x
  · rw [hA1 l1] at k
    exact sA (by simp [AllP, Ob.k, l1]) hs k
  · by_cases l2 : z = x
    · by_cases l3 : (c : Int) = 1
      · rw [hB1 l1 l2 l3] at k
        exact sB (by simp [AllP, Ob.k, l2, l3]) hs k
      · rw [hC1 l1 l2 l3] at k
        exact sC (by simp [AllP, Ob.k, l2, l3]) hs k
    · rw [hD1 l1 l2] at k
      exact sD (by simp [AllP, Ob.k, l1, l2]) hs k

theorem qpT2 (a b : U6) (v0 v1 v2 v3 v4 v5 c : Int) (hc : c = 0 ∨ c = 1) (hs : Sim w0 F0 K ac (qpS2 a b v0 v1 v2 v3 v4 v5 c) cX aX)
    (k : ∀ c' : Int, (c' = 0 ∨ c' = 1) → (IntKind.wrap IntKind.u64 (IntKind.wrap IntKind.u64 ((limb (Ob.n (Ob.fp a)) 2) + (limb (Ob.n (Ob.fp b)) 2)) + c)) + 18446744073709551616 * c' = (limb (Ob.n (Ob.fp a)) 2) + (limb (Ob.n (Ob.fp b)) 2) + c → ∀ ac cY aY, Sim w0 F0 K ac (qpS3 a b v0 v1 (IntKind.wrap IntKind.u64 (IntKind.wrap IntKind.u64 ((limb (Ob.n (Ob.fp a)) 2) + (limb (Ob.n (Ob.fp b)) 2)) + c)) v3 v4 v5 c') cY aY → Wq Try.prog Q qpA2_k ac .normal aY cY.w) : Wq Try.prog Q qpA1_k ac .normal aX cX.w := by
  obtain ⟨c', h1, hA1, hB1, hC1, hD1, e⟩ := carry6 (c := c) (limb_lim (Ob.n (Ob.fp a)) 2) (limb_lim (Ob.n (Ob.fp b)) 2) hc
  have sA := @qpA2 a b v0 v1 v2 v3 v4 v5 c w0 F0 K ac Q cX aX
  have sB := @qpB2 a b v0 v1 v2 v3 v4 v5 c w0 F0 K ac Q cX aX
  have sC := @qpC2 a b v0 v1 v2 v3 v4 v5 c w0 F0 K ac Q cX aX
  have sD := @qpD2 a b v0 v1 v2 v3 v4 v5 c w0 F0 K ac Q cX aX
  replace k := k c' h1 e
  clear e
  generalize (IntKind.wrap IntKind.u64 (IntKind.wrap IntKind.u64 ((limb (Ob.n (Ob.fp a)) 2) + (limb (Ob.n (Ob.fp b)) 2)) + c)) = z at *
  generalize (limb (Ob.n (Ob.fp a)) 2) = x at *
  generalize (limb (Ob.n (Ob.fp b)) 2) = y at *
  by_cases l1 : z < x
  · rw [hA1 l1] at k
    exact sA (by simp [AllP, Ob.k, l1]) hs k
  · by_cases l2 : z = x
    · by_cases l3 : (c : Int) = 1
      · rw [hB1 l1 l2 l3] at k
        exact sB (by simp [AllP, Ob.k, l2, l3]) hs k
      · rw [hC1 l1 l2 l3] at k
        exact sC (by simp [AllP, Ob.k, l2, l3]) hs k
    · rw [hD1 l1 l2] at k
      exact sD (by simp [AllP, Ob.k, l1, l2]) hs k

theorem qpT3 (a b : U6) (v0 v1 v2 v3 v4 v5 c : Int) (hc : c = 0 ∨ c = 1) (hs : Sim w0 F0 K ac (qpS3 a b v0 v1 v2 v3 v4 v5 c) cX aX)
    (k : ∀ c' : Int, (c' = 0 ∨ c' = 1) → (IntKind.wrap IntKind.u64 (IntKind.wrap IntKind.u64 ((limb (Ob.n (Ob.fp a)) 3) + (limb (Ob.n (Ob.fp b)) 3)) + c)) + 18446744073709551616 * c' = (limb (Ob.n (Ob.fp a)) 3) + (limb (Ob.n (Ob.fp b)) 3) + c → ∀ ac cY aY, Sim w0 F0 K ac (qpS4 a b v0 v1 v2 (IntKind.wrap IntKind.u64 (IntKind.wrap IntKind.u64 ((limb (Ob.n (Ob.fp a)) 3) + (limb (Ob.n (Ob.fp b)) 3)) + c)) v4 v5 c') cY aY → Wq Try.prog Q qpA3_k ac .normal aY cY.w) : Wq Try.prog Q qpA2_k ac .normal aX cX.w := by
  obtain ⟨c', h1, hA1, hB1, hC1, hD1, e⟩ := carry6 (c := c) (limb_lim (Ob.n (Ob.fp a)) 3) (limb_lim (Ob.n (Ob.fp b)) 3) hc
  have sA := @qpA3 a b v0 v1 v2 v3 v4 v5 c w0 F0 K ac Q cX aX
  have sB := @qpB3 a b v0 v1 v2 v3 v4 v5 c w0 F0 K ac Q cX aX
  have sC := @qpC3 a b v0 v1 v2 v3 v4 v5 c w0 F0 K ac Q cX aX
  have sD := @qpD3 a b v0 v1 v2 v3 v4 v5 c w0 F0 K ac Q cX aX
  replace k := k c' h1 e
  clear e
  generalize (IntKind.wrap IntKind.u64 (IntKind.wrap IntKind.u64 ((limb (Ob.n (Ob.fp a)) 3) + (limb (Ob.n (Ob.fp b)) 3)) + c)) = z at *
  generalize (limb (Ob.n (Ob.fp a)) 3) = x at *
  generalize (limb (Ob.n (Ob.fp b)) 3) = y at *
  by_cases l1 : z < x
  · rw [hA1 l1] at k
    exact sA (by simp [AllP, Ob.k, l1]) hs k
  · by_cases l2 : z = x
    · by_cases l3 : (c : Int) = 1
      · rw [hB1 l1 l2 l3] at k
        exact sB (by simp [AllP, Ob.k, l2, l3]) hs k
      · rw [hC1 l1 l2 l3] at k
        exact sC (by simp [AllP, Ob.k, l2, l3]) hs k
    · rw [hD1 l1 l2] at k
      exact sD (by simp [AllP, Ob.k, l1, l2]) hs k

theorem qpT4 (a b : U6) (v0 v1 v2 v3 v4 v5 c : Int) (hc : c = 0 ∨ c = 1) (hs : Sim w0 F0 K ac (qpS4 a b v0 v1 v2 v3 v4 v5 c) cX aX)
    (k : ∀ c' : Int, (c' = 0 ∨ c' = 1) → (IntKind.wrap IntKind.u64 (IntKind.wrap IntKind.u64 ((limb (Ob.n (Ob.fp a)) 4) + (limb (Ob.n (Ob.fp b)) 4)) + c)) + 18446744073709551616 * c' = (limb (Ob.n (Ob.fp a)) 4) + (limb (Ob.n (Ob.fp b)) 4) + c → ∀ ac cY aY, Sim w0 F0 K ac (qpS5 a b v0 v1 v2 v3 (IntKind.wrap IntKind.u64 (IntKind.wrap IntKind.u64 ((limb (Ob.n (Ob.fp a)) 4) + (limb (Ob.n (Ob.fp b)) 4)) + c)) v5 c') cY aY → Wq Try.prog Q qpA4_k ac .normal aY cY.w) : Wq Try.prog Q qpA3_k ac .normal aX cX.w := by
  obtain ⟨c', h1, hA1, hB1, hC1, hD1, e⟩ := carry6 (c := c) (limb_lim (Ob.n (Ob.fp a)) 4) (limb_lim (Ob.n (Ob.fp b)) 4) hc
  have sA := @qpA4 a b v0 v1 v2 v3 v4 v5 c w0 F0 K ac Q cX aX
  have sB := @qpB4 a b v0 v1 v2 v3 v4 v5 c w0 F0 K ac Q cX aX
  have sC := @qpC4 a b v0 v1 v2 v3 v4 v5 c w0 F0 K ac Q cX aX
  have sD := @qpD4 a b v0 v1 v2 v3 v4 v5 c w0 F0 K ac Q cX aX
  replace k := k c' h1 e
  clear e
  generalize (IntKind.wrap IntKind.u64 (IntKind.wrap IntKind.u64 ((limb (Ob.n (Ob.fp a)) 4) + (limb (Ob.n (Ob.fp b)) 4)) + c)) = z at *
  generalize (limb (Ob.n (Ob.fp a)) 4) = x at *
  generalize (limb (Ob.n (Ob.fp b)) 4) = y at *
  by_cases l1 : z < x
  · rw [hA1 l1] at k
    exact sA (by simp [AllP, Ob.k, l1]) hs k
  · by_cases l2 : z = x
    · by_cases l3 : (c : Int) = 1
      · rw [hB1 l1 l2 l3] at k
        exact sB (by simp [AllP, Ob.k, l2, l3]) hs k
      · rw [hC1 l1 l2 l3] at k
        exact sC (by simp [AllP, Ob.k, l2, l3]) hs k
    · rw [hD1 l1 l2] at k
      exact sD (by simp [AllP, Ob.k, l1, l2]) hs k

theorem qpT5 (a b : U6) (v0 v1 v2 v3 v4 v5 c : Int) (hc : c = 0 ∨ c = 1) (hs : Sim w0 F0 K ac (qpS5 a b v0 v1 v2 v3 v4 v5 c) cX aX)
    (k : ∀ c' : Int, (c' = 0 ∨ c' = 1) → (IntKind.wrap IntKind.u64 (IntKind.wrap IntKind.u64 ((limb (Ob.n (Ob.fp a)) 5) + (limb (Ob.n (Ob.fp b)) 5)) + c)) + 18446744073709551616 * c' = (limb (Ob.n (Ob.fp a)) 5) + (limb (Ob.n (Ob.fp b)) 5) + c → ∀ ac cY aY, Sim w0 F0 K ac (qpS6 a b v0 v1 v2 v3 v4 (IntKind.wrap IntKind.u64 (IntKind.wrap IntKind.u64 ((limb (Ob.n (Ob.fp a)) 5) + (limb (Ob.n (Ob.fp b)) 5)) + c)) c') cY aY → Wq Try.prog Q qpA5_k ac .normal aY cY.w) : Wq Try.prog Q qpA4_k ac .normal aX cX.w := by
  obtain ⟨c', h1, hA1, hB1, hC1, hD1, e⟩ := carry6 (c := c) (limb_lim (Ob.n (Ob.fp a)) 5) (limb_lim (Ob.n (Ob.fp b)) 5) hc
  have sA := @qpA5 a b v0 v1 v2 v3 v4 v5 c w0 F0 K ac Q cX aX
  have sB := @qpB5 a b v0 v1 v2 v3 v4 v5 c w0 F0 K ac Q cX aX
  have sC := @qpC5 a b v0 v1 v2 v3 v4 v5 c w0 F0 K ac Q cX aX
  have sD := @qpD5 a b v0 v1 v2 v3 v4 v5 c w0 F0 K ac Q cX aX
  replace k := k c' h1 e
  clear e
  generalize (IntKind.wrap IntKind.u64 (IntKind.wrap IntKind.u64 ((limb (Ob.n (Ob.fp a)) 5) + (limb (Ob.n (Ob.fp b)) 5)) + c)) = z at *
  generalize (limb (Ob.n (Ob.fp a)) 5) = x at *
  generalize (limb (Ob.n (Ob.fp b)) 5) = y at *
  by_cases l1 : z < x
  · rw [hA1 l1] at k
    exact sA (by simp [AllP, Ob.k, l1]) hs k
  · by_cases l2 : z = x
    · by_cases l3 : (c : Int) = 1
      · rw [hB1 l1 l2 l3] at k
        exact sB (by simp [AllP, Ob.k, l2, l3]) hs k
      · rw [hC1 l1 l2 l3] at k
        exact sC (by simp [AllP, Ob.k, l2, l3]) hs k
    · rw [hD1 l1 l2] at k
      exact sD (by simp [AllP, Ob.k, l1, l2]) hs k

end

theorem qp6_fnd (a b : U6) : FnD Try.prog 116 [.v (.a [.ob (.fp a)]), .v (.a [.ob (.fp b)])] (.v (.a [.ob (.fp (a + b))])) [] := by
  refine fn_start (fn := Try.f116) (c := bodyOf Try.f116) Try.func116 rfl rfl fun x a0 hk hF hs => ?_
  have ha := fp_num a
  have hb := fp_num b
  refine qpT0 a b hs fun c0 hc0 e0 ac cY aY hs => ?_
  refine qpT1 a b _ _ _ _ _ _ c0 hc0 hs fun c1 hc1 e1 ac cY aY hs => ?_
  refine qpT2 a b _ _ _ _ _ _ c1 hc1 hs fun c2 hc2 e2 ac cY aY hs => ?_
  refine qpT3 a b _ _ _ _ _ _ c2 hc2 hs fun c3 hc3 e3 ac cY aY hs => ?_
  refine qpT4 a b _ _ _ _ _ _ c3 hc3 hs fun c4 hc4 e4 ac cY aY hs => ?_
  refine qpT5 a b _ _ _ _ _ _ c4 hc4 hs fun c5 hc5 e5 ac cY aY hs => ?_
  refine run_end2 qeJ_ok hk hF (qpX_end a b _ _ _ _ _ _ c5) (by simp [AllP]) (fun y v hd => ?_) hs
  have l0 : Lim6 (IntKind.wrap IntKind.u64 (IntKind.wrap IntKind.u64 (limb (Ob.n (Ob.fp a)) 0 + limb (Ob.n (Ob.fp b)) 0) + 0)) := wrap_lim6 _
  have l1 : Lim6 (IntKind.wrap IntKind.u64 (IntKind.wrap IntKind.u64 (limb (Ob.n (Ob.fp a)) 1 + limb (Ob.n (Ob.fp b)) 1) + c0)) := wrap_lim6 _
  have l2 : Lim6 (IntKind.wrap IntKind.u64 (IntKind.wrap IntKind.u64 (limb (Ob.n (Ob.fp a)) 2 + limb (Ob.n (Ob.fp b)) 2) + c1)) := wrap_lim6 _
  have l3 : Lim6 (IntKind.wrap IntKind.u64 (IntKind.wrap IntKind.u64 (limb (Ob.n (Ob.fp a)) 3 + limb (Ob.n (Ob.fp b)) 3) + c2)) := wrap_lim6 _
  have l4 : Lim6 (IntKind.wrap IntKind.u64 (IntKind.wrap IntKind.u64 (limb (Ob.n (Ob.fp a)) 4 + limb (Ob.n (Ob.fp b)) 4) + c3)) := wrap_lim6 _
  have l5 : Lim6 (IntKind.wrap IntKind.u64 (IntKind.wrap IntKind.u64 (limb (Ob.n (Ob.fp a)) 5 + limb (Ob.n (Ob.fp b)) 5) + c4)) := wrap_lim6 _
  generalize IntKind.wrap IntKind.u64 (IntKind.wrap IntKind.u64 (limb (Ob.n (Ob.fp a)) 0 + limb (Ob.n (Ob.fp b)) 0) + 0) = u0 at *
  generalize IntKind.wrap IntKind.u64 (IntKind.wrap IntKind.u64 (limb (Ob.n (Ob.fp a)) 1 + limb (Ob.n (Ob.fp b)) 1) + c0) = u1 at *
  generalize IntKind.wrap IntKind.u64 (IntKind.wrap IntKind.u64 (limb (Ob.n (Ob.fp a)) 2 + limb (Ob.n (Ob.fp b)) 2) + c1) = u2 at *
  generalize IntKind.wrap IntKind.u64 (IntKind.wrap IntKind.u64 (limb (Ob.n (Ob.fp a)) 3 + limb (Ob.n (Ob.fp b)) 3) + c2) = u3 at *
  generalize IntKind.wrap IntKind.u64 (IntKind.wrap IntKind.u64 (limb (Ob.n (Ob.fp a)) 4 + limb (Ob.n (Ob.fp b)) 4) + c3) = u4 at *
  generalize IntKind.wrap IntKind.u64 (IntKind.wrap IntKind.u64 (limb (Ob.n (Ob.fp a)) 5 + limb (Ob.n (Ob.fp b)) 5) + c4) = u5 at *
  refine ints_ob6 (o := .fp (a + b)) (Eq.refl 6) (limbsAre6 l0.1 l0.2 l1.1 l1.2 l2.1 l2.2 l3.1 l3.2 l4.1 l4.2 l5.1 l5.2 ?_) hd
  show ((a + b : U6).val : Int) = num6 u0 u1 u2 u3 u4 u5
  have hN : num6 u0 u1 u2 u3 u4 u5 + 39402006196394479212279040100143613805079739270465446667948293404245721771497210611414266254884915640806627990306816 * c5 = num6 (limb (Ob.n (Ob.fp a)) 0) (limb (Ob.n (Ob.fp a)) 1) (limb (Ob.n (Ob.fp a)) 2) (limb (Ob.n (Ob.fp a)) 3) (limb (Ob.n (Ob.fp a)) 4) (limb (Ob.n (Ob.fp a)) 5) + num6 (limb (Ob.n (Ob.fp b)) 0) (limb (Ob.n (Ob.fp b)) 1) (limb (Ob.n (Ob.fp b)) 2) (limb (Ob.n (Ob.fp b)) 3) (limb (Ob.n (Ob.fp b)) 4) (limb (Ob.n (Ob.fp b)) 5) := by
    clear ha hb hd hs hk hF l0 l1 l2 l3 l4 l5
    unfold num6
    omega
  rw [← ha, ← hb] at hN
  exact add_u6 (num6_pos l0.1 l1.1 l2.1 l3.1 l4.1 l5.1) (lt6 l0.1 l0.2 l1.1 l1.2 l2.1 l2.2 l3.1 l3.2 l4.1 l4.2 l5.1 l5.2) hc5 hN

end Go.Proofs.Ytkfcphigoncgjaa

/- The reference's Clean for six limbs, walked. No conditions. -/
namespace Go.Proofs.Ytkfcphigoncgjaa
section
variable {w0 : World} {F0 : Nat → Prop} {K : Kp} {ac : List Act} {Q : Exit → Act → World → Prop} {cX : Ctx} {aX : Act}

theorem refP_fnd : FnD Try.prog 113 [] (.v (.a [.ob (.fp pU)])) [] :=
  (fn_sound qeJ_ok Try.func113 refP0 (by simp [AllP])).conv (fun _ _ h => h) fun y v hd => by
    have e : pU = Fin.ofNat B6 4002409555221667393417789825735904156556882819939007885332058136124031650490837864442687629129015664037894272559787 := by kernel_rfl
    rw [e]
    exact hd
def refPSpec : FnSpec
  | [] => some ([], .v (.a [.ob (.fp pU)]), [])
  | _ => none
noncomputable def qrA : Env := qeJ.set (addT qeJ.fn 113 refPSpec)
theorem qrA_ok : EnvOk Try.prog qrA := env_add qeJ_ok 113 refPSpec (enters_of Try.func113 rfl rfl) fun args o r es h _ => by
  unfold refPSpec at h
  split at h
  · cases h; exact refP_fnd
  · cases h
def less6Spec : FnSpec
  | [.v (.a [.ob (.fp a)]), .v (.a [.ob (.fp b)])] => some ([], .v (.c (.bool (decide (a.val < b.val)))), [])
  | _ => none
noncomputable def qrB : Env := qrA.set (addT qrA.fn 112 less6Spec)
theorem qrB_ok : EnvOk Try.prog qrB := env_add qrA_ok 112 less6Spec (enters_of Try.func112 rfl rfl) fun args o r es h _ => by
  unfold less6Spec at h
  split at h
  · cases h; exact less6_fnd _ _
  · cases h
def minus6Spec : FnSpec
  | [.v (.a [.ob (.fp a)]), .v (.a [.ob (.fp b)])] => some ([], .v (.a [.ob (.fp (a - b))]), [])
  | _ => none
noncomputable def qrC : Env := qrB.set (addT qrB.fn 114 minus6Spec)
theorem qrC_ok : EnvOk Try.prog qrC := env_add qrB_ok 114 minus6Spec (enters_of Try.func114 rfl rfl) fun args o r es h _ => by
  unfold minus6Spec at h
  split at h
  · cases h; exact qm6_fnd _ _
  · cases h
def plus6Spec : FnSpec
  | [.v (.a [.ob (.fp a)]), .v (.a [.ob (.fp b)])] => some ([], .v (.a [.ob (.fp (a + b))]), [])
  | _ => none
noncomputable def qrD : Env := qrC.set (addT qrC.fn 116 plus6Spec)
theorem qrD_ok : EnvOk Try.prog qrD := env_add qrC_ok 116 plus6Spec (enters_of Try.func116 rfl rfl) fun args o r es h _ => by
  unfold plus6Spec at h
  split at h
  · cases h; exact qp6_fnd _ _
  · cases h
noncomputable def qc0 (a : U6) : Cfg := ⟨[.code (bodyOf Try.f58)], .normal, initSt Try.f58.ntmps [.v (.a [.ob (.fp a)])]⟩
--@env qrD qrD_ok
noncomputable def qcIn_k : List KI := (run qrD false 3000 ((fun (a : U6) => (qc0 a : Cfg)) default) []).cfg.k
theorem qcIn_hk (a : U6) : (run qrD false 3000 ((qc0 a : Cfg)) []).cfg.k = qcIn_k := by kernel_rfl
theorem qcIn (a : U6) (ho : AllP []) (hs : Sim w0 F0 K ac (((qc0 a : Cfg)).σ) cX aX) (hK : ∀ ac cY aY,Sim w0 F0 K ac (mkSt 11 [1,2] [.pt 16 0,.pt 32 0] [16,32] [(some (.fl [.ob (.fp a)])),(some (.fl [(.ob (.fp (0:U6)))]))] 48 [] []) cY aY → Wq Try.prog Q (qcIn_k) ac Exit.normal aY cY.w) : Wq Try.prog Q (((qc0 a : Cfg)).k) ac ((qc0 a : Cfg)).x aX cX.w :=
  run_at (o := ⟨_, _, _, _, _, _, _⟩) qrD_ok (by kernel_rfl) (qcIn_hk a) ho hs hK
noncomputable def qcS (a : U6) : St := mkSt 11 [1,2] [.pt 16 0,.pt 32 0] [16,32] [(some (.fl [.ob (.fp a)])),(some (.fl [(.ob (.fp (0:U6)))]))] 48 [] []
theorem qcN_hk (a : U6) : (run qrD false 3000 ((⟨lpIn qcIn_k, .normal, qcS a⟩ : Cfg)) [true]).cfg.k = lpBk qcIn_k := by kernel_rfl
theorem qcN (a : U6) (ho : AllP [((Bool.not (decide ((Fin.val a) < 4002409555221667393417789825735904156556882819939007885332058136124031650490837864442687629129015664037894272559787))) = true)]) (hs : Sim w0 F0 K ac (qcS a) cX aX) (hK : ∀ ac cY aY,Sim w0 F0 K ac (mkSt 11 [1,2] [.pt 16 0,.pt 32 0] [16,32] [(some (.fl [(.ob (.fp (a - pU)))])),(some (.fl [(.ob (.fp (0:U6)))]))] 176 [] []) cY aY → Wq Try.prog Q (lpBk qcIn_k) ac Exit.normal aY cY.w) : Wq Try.prog Q (lpIn qcIn_k) ac .normal aX cX.w :=
  run_at2 (o := ⟨_, _, _, _, _, _, _⟩) qrD_ok (by kernel_rfl) (qcN_hk a) ho hs hK
theorem qcX_end (a : U6) : runEnd qrD Try.f58 false 3000 (⟨lpIn qcIn_k,.normal,qcS a⟩) [false] [] [] = (some ([((Bool.not (decide ((Fin.val a) < 4002409555221667393417789825735904156556882819939007885332058136124031650490837864442687629129015664037894272559787))) = false)],((.v (.a [.ob (.fp a)])),[]))) := by kernel_rfl
theorem qbit (a : U6) (i:Int) : fnRes qrD Try.f115 3000 [.v (.a [.ob (.fp a)]),.v (.c (.int .i64 i))] [] [] [] = (some ([((64:Int) ≠ (0:Int)),((0:Int) ≤ (IntKind.wrap .i64 (Int.tdiv i (64:Int)))),((IntKind.wrap .i64 (Int.tdiv i (64:Int))) < (6:Int)),((0 + (((IntKind.wrap .i64 (Int.tdiv i (64:Int)))).toNat * 1)) < (Ob.k (.fp a))),((64:Int) ≠ (0:Int)),((0:Int) ≤ (IntKind.wrap .u64 (Int.tmod i (64:Int)))),((2:Int) ≠ (0:Int))],((.iu (Int.tmod (Int.fdiv (limb (Ob.n (.fp a)) (0 + (((IntKind.wrap .i64 (Int.tdiv i (64:Int)))).toNat * 1))) ((2:Int) ^ (Min.min ((IntKind.wrap .u64 (Int.tmod i (64:Int)))).toNat 64))) (2:Int))),[]))) := by kernel_rfl
theorem qnegA (a : U6) : fnRes qrD Try.f61 3000 [.v (.a [.ob (.fp a)])] [true] [] [] = (some ([((ite (true = true) (decide (a = (0:U6))) (Bool.not (decide (a = (0:U6))))) = true)],((.v (.a [.ob (.fp a)])),[]))) := by kernel_rfl
theorem qnegB (a : U6) : fnRes qrD Try.f61 3000 [.v (.a [.ob (.fp a)])] [false] [] [] = (some ([((ite (true = true) (decide (a = (0:U6))) (Bool.not (decide (a = (0:U6))))) = false)],((.v (.a [(.ob (.fp (pU - a)))])),[]))) := by kernel_rfl
end
end Go.Proofs.Ytkfcphigoncgjaa

/- The reference's Clean, Neg, Bit for six limbs: contracts. No conditions. -/
namespace Go.Proofs.Ytkfcphigoncgjaa

def cleanP (a : U6) : U6 := Fin.ofNat B6 (a.val % pN)
theorem cleanP_val (a : U6) : (cleanP a).val = a.val % pN := Nat.mod_eq_of_lt (Nat.lt_trans (Nat.mod_lt _ (by decide)) (by decide))
theorem pU_val : pU.val = pN := by kernel_rfl
theorem sub_pU {a : U6} (h : pN ≤ a.val) : (a - pU).val = a.val - pN := by
  have e : (a - pU).val = (B6 - pU.val + a.val) % B6 := rfl
  rw [e, pU_val]
  have ha := a.isLt
  have hr : pN < B6 := by decide
  rw [show B6 - pN + a.val = (a.val - pN) + B6 from by omega, Nat.add_mod_right, Nat.mod_eq_of_lt (by omega)]

theorem cleanP_fnd (a : U6) : FnD Try.prog 58 [.v (.a [.ob (.fp a)])] (.v (.a [.ob (.fp (cleanP a))])) [] := by
  refine fn_start (fn := Try.f58) (c := bodyOf Try.f58) Try.func58 rfl rfl fun x a0 hk hF hs => ?_
  refine qcIn a trivial hs fun ac cY aY hs1 => ?_
  refine loop_rule (ι := { b : U6 // cleanP b = cleanP a }) (fun b => qcS b.1) (fun b => b.1.val) (c := lpC qcIn_k) (k := lpR qcIn_k) (by kernel_rfl) (fun b ih ac cY aY hs => ?_) ⟨a, rfl⟩ hs1
  obtain ⟨b, hb⟩ := b
  simp only at ih hs
  by_cases h : b.val < pU.val
  · have h2 : b.val < pN := by rw [← pU_val]; exact h
    have h3 : decide (b.val < pU.val) = true := decide_eq_true h
    refine run_end2 qrD_ok hk hF (qcX_end b) ⟨by simpa [pU_val, pN] using h2, trivial⟩ (fun y v hd => ?_) hs
    refine ob_ob (o := .fp b) (o' := .fp (cleanP a)) (Eq.refl 6) ?_ hd
    show b.val = (cleanP a).val
    rw [← hb, cleanP_val]
    exact (Nat.mod_eq_of_lt h2).symm
  · have h' : pN ≤ b.val := by rw [pU_val] at h; omega
    refine qcN b ⟨by simpa [pU_val, pN] using h', trivial⟩ hs fun ac cY aY hs2 => ?_
    refine ih ⟨b - pU, ?_⟩ ?_ ac cY aY (hs2.nx _)
    · rw [← hb]
      apply Fin.ext
      rw [cleanP_val, cleanP_val, sub_pU h', ← Nat.mod_eq_sub_mod h']
    · show (b - pU).val < b.val
      rw [sub_pU h']
      have : 0 < pN := by decide
      omega

theorem bit_nat6 (n i : Nat) : n / 2 ^ (64 * (i / 64)) % 18446744073709551616 / 2 ^ (i % 64) % 2 = n / 2 ^ i % 2 := by
  have h64 : 18446744073709551616 = 2 ^ (i % 64) * (2 * 2 ^ (63 - i % 64)) := by
    rw [← Nat.pow_succ', ← Nat.pow_add, show i % 64 + (63 - i % 64 + 1) = 64 from by omega]
  rw [h64, Nat.mod_mul_right_div_self, Nat.mod_mul_right_mod, Nat.div_div_eq_div_mul, ← Nat.pow_add, show 64 * (i / 64) + i % 64 = i from Nat.div_add_mod i 64]

def bitP (a : U6) (i : Nat) : Int := ((a.val / 2 ^ i % 2 : Nat) : Int)
theorem bitP_fnd (a : U6) (i : Nat) (hi : i < 384) : FnD Try.prog 115 [.v (.a [.ob (.fp a)]), .v (.c (.int .i64 (i : Int)))] (.v (.c (.int .u64 (bitP a i)))) [] := by
  have e1 : IntKind.wrap IntKind.i64 (Int.tdiv (i : Int) 64) = ((i / 64 : Nat) : Int) := by
    rw [show Int.tdiv (i : Int) 64 = ((i / 64 : Nat) : Int) from by rw [Int.tdiv_eq_ediv_of_nonneg (by omega)]; omega]
    exact wrap_id (by omega) (by omega)
  have e2 : IntKind.wrap IntKind.u64 (Int.tmod (i : Int) 64) = ((i % 64 : Nat) : Int) := by
    rw [show Int.tmod (i : Int) 64 = ((i % 64 : Nat) : Int) from by rw [Int.tmod_eq_emod_of_nonneg (by omega)]; omega, wrapU]
    omega
  have r := qbit a (i : Int)
  rw [e1, e2, Int.toNat_natCast, Int.toNat_natCast] at r
  refine (fn_sound qrD_ok Try.func115 r ?_).conv (fun _ _ h => h) fun y v hd => ?_
  · refine ⟨by decide, by omega, by omega, by show 0 + i / 64 * 1 < 6; omega, by decide, by omega, by decide, trivial⟩
  · have e3 : Min.min (i % 64) 64 = i % 64 := by omega
    have e4 : 0 + i / 64 * 1 = i / 64 := by omega
    rw [e3, e4] at hd
    have hl : limb (Ob.n (Ob.fp a)) (i / 64) = ((a.val / 2 ^ (64 * (i / 64)) % 18446744073709551616 : Nat) : Int) := rfl
    rw [hl] at hd
    have e5 : Int.tmod (Int.fdiv ((a.val / 2 ^ (64 * (i / 64)) % 18446744073709551616 : Nat) : Int) ((2 : Int) ^ (i % 64))) 2 = bitP a i := by
      unfold bitP
      rw [← bit_nat6 a.val i]
      generalize a.val / 2 ^ (64 * (i / 64)) % 18446744073709551616 = m
      have hp : ((2 : Int) ^ (i % 64)) = ((2 ^ (i % 64) : Nat) : Int) := by simp
      rw [hp, Int.fdiv_eq_ediv_of_nonneg _ (Int.natCast_nonneg _), ← Int.natCast_ediv, Int.tmod_eq_emod_of_nonneg (Int.natCast_nonneg _)]
      rfl
    rw [e5] at hd
    exact hd

/-- An element's negative, outside. -/
def negU (a : U6) : U6 := Fin.ofNat B6 ((pN - a.val) % pN)
theorem negU_val (a : U6) : (negU a).val = (pN - a.val) % pN := Nat.mod_eq_of_lt (Nat.lt_trans (Nat.mod_lt _ (by decide)) (by decide))
theorem neg6_fnd (a : U6) (h : a.val < pN) : FnD Try.prog 61 [.v (.a [.ob (.fp a)])] (.v (.a [.ob (.fp (negU a))])) [] := by
  by_cases h0 : a = 0
  · refine (fn_sound qrD_ok Try.func61 (qnegA a) ⟨by simp [h0], trivial⟩).conv (fun _ _ h => h) fun y v hd => ?_
    refine ob_ob (o := .fp a) (o' := .fp (negU a)) (Eq.refl 6) ?_ hd
    show a.val = (negU a).val
    rw [negU_val, h0]
    show 0 = (pN - 0) % pN
    rw [Nat.sub_zero, Nat.mod_self]
  · refine (fn_sound qrD_ok Try.func61 (qnegB a) ⟨by simp [h0], trivial⟩).conv (fun _ _ h => h) fun y v hd => ?_
    refine ob_ob (o := .fp (pU - a)) (o' := .fp (negU a)) (Eq.refl 6) ?_ hd
    show (pU - a).val = (negU a).val
    have e : (pU - a).val = (B6 - a.val + pU.val) % B6 := rfl
    have hne : a.val ≠ 0 := fun e => h0 (Fin.ext e)
    rw [negU_val, e, pU_val, Nat.mod_eq_of_lt (a := pN - a.val) (by omega)]
    have hr : pN < B6 := by decide
    rw [show B6 - a.val + pN = (pN - a.val) + B6 from by omega, Nat.add_mod_right, Nat.mod_eq_of_lt (by omega)]

end Go.Proofs.Ytkfcphigoncgjaa

/- The reference's Add, Mul, Sub for six limbs, walked. No conditions. -/
namespace Go.Proofs.Ytkfcphigoncgjaa
section
variable {w0 : World} {F0 : Nat → Prop} {K : Kp} {ac : List Act} {Q : Exit → Act → World → Prop} {cX : Ctx} {aX : Act}

def cleanPSpec : FnSpec
  | [.v (.a [.ob (.fp a)])] => some ([], .v (.a [.ob (.fp (cleanP a))]), [])
  | _ => none
noncomputable def qrE : Env := qrD.set (addT qrD.fn 58 cleanPSpec)
theorem qrE_ok : EnvOk Try.prog qrE := env_add qrD_ok 58 cleanPSpec (enters_of Try.func58 rfl rfl) fun args o r es h _ => by
  unfold cleanPSpec at h
  split at h
  · cases h; exact cleanP_fnd _
  · cases h
--@env qrE qrE_ok
theorem qadd (a b : U6) : fnRes qrE Try.f60 3000 [.v (.a [.ob (.fp a)]),.v (.a [.ob (.fp b)])] [] [] [] = (some ([],((.v (.a [(.ob (.fp (cleanP (a + b))))])),[]))) := by kernel_rfl
def add6Spec : FnSpec
  | [.v (.a [.ob (.fp a)]), .v (.a [.ob (.fp b)])] => some ([], .v (.a [.ob (.fp (cleanP (a + b)))]), [])
  | _ => none
noncomputable def qrF : Env := qrE.set (addT qrE.fn 60 add6Spec)
theorem qrF_ok : EnvOk Try.prog qrF := env_add qrE_ok 60 add6Spec (enters_of Try.func60 rfl rfl) fun args o r es h _ => by
  unfold add6Spec at h
  split at h
  · cases h; exact fn_sound qrE_ok Try.func60 (qadd _ _) trivial
  · cases h
theorem bitP_fnd2 (a : U6) (i : Int) (h0 : 0 ≤ i) (h1 : i < 384) : FnD Try.prog 115 [.v (.a [.ob (.fp a)]), .v (.c (.int .i64 i))] (.v (.c (.int .u64 (bitP a i.toNat)))) [] := by
  obtain ⟨i, rfl⟩ := Int.eq_ofNat_of_zero_le h0
  exact bitP_fnd _ i (by omega)
def bitPSpec : FnSpec
  | [.v (.a [.ob (.fp a)]), .v (.c (.int .i64 i))] => some ([0 ≤ i, i < 384], .v (.c (.int .u64 (bitP a i.toNat))), [])
  | _ => none
noncomputable def qrG : Env := qrF.set (addT qrF.fn 115 bitPSpec)
theorem qrG_ok : EnvOk Try.prog qrG := env_add qrF_ok 115 bitPSpec (enters_of Try.func115 rfl rfl) fun args o r es h ho => by
  unfold bitPSpec at h
  split at h
  · cases h; exact bitP_fnd2 _ _ ho.1 ho.2.1
  · cases h
def neg6Spec : FnSpec
  | [.v (.a [.ob (.fp a)])] => some ([a.val < pN], .v (.a [.ob (.fp (negU a))]), [])
  | _ => none
noncomputable def qrH : Env := qrG.set (addT qrG.fn 61 neg6Spec)
theorem qrH_ok : EnvOk Try.prog qrH := env_add qrG_ok 61 neg6Spec (enters_of Try.func61 rfl rfl) fun args o r es h ho => by
  unfold neg6Spec at h
  split at h
  · cases h; exact neg6_fnd _ ho.1
  · cases h
noncomputable def qu0 (a b : U6) : Cfg := ⟨[.code (bodyOf Try.f59)], .normal, initSt Try.f59.ntmps [.v (.a [.ob (.fp a)]), .v (.a [.ob (.fp b)])]⟩
--@env qrH qrH_ok
noncomputable def quIn_k : List KI := (run qrH false 3000 ((fun (a b : U6) => (qu0 a b : Cfg)) default default) []).cfg.k
theorem quIn_hk (a b : U6) : (run qrH false 3000 ((qu0 a b : Cfg)) []).cfg.k = quIn_k := by kernel_rfl
theorem quIn (a b : U6) (ho : AllP []) (hs : Sim w0 F0 K ac (((qu0 a b : Cfg)).σ) cX aX) (hK : ∀ ac cY aY,Sim w0 F0 K ac (mkSt 23 [2,3,4,5,6] [.pt 16 0,.pt 32 0,.pt 48 0,.pt 80 0,.ii (380:Int)] [16,32,48,80] [(some (.fl [.ob (.fp a)])),(some (.fl [.ob (.fp b)])),(some (.fl [(.ob (.fp (0:U6)))])),(some (.fl [(.ob (.fp (0:U6)))]))] 128 [] []) cY aY → Wq Try.prog Q (quIn_k) ac Exit.normal aY cY.w) : Wq Try.prog Q (((qu0 a b : Cfg)).k) ac ((qu0 a b : Cfg)).x aX cX.w :=
  run_at (o := ⟨_, _, _, _, _, _, _⟩) qrH_ok (by kernel_rfl) (quIn_hk a b) ho hs hK
noncomputable def quS (a b o : U6) (i:Int) : St := mkSt 23 [2,3,4,5,6] [.pt 16 0,.pt 32 0,.pt 48 0,.pt 80 0,.v (.c (.int .i64 i))] [16,32,48,80] [(some (.fl [.ob (.fp a)])),(some (.fl [.ob (.fp b)])),(some (.fl [(.ob (.fp (0:U6)))])),some (.fl [.ob (.fp o)])] 128 [] []
theorem quA_hk (a b o : U6) (i : Int) : (run qrH false 3000 ((⟨lpIn quIn_k, .normal, quS a b o i⟩ : Cfg)) [true, true]).cfg.k = lpBk quIn_k := by kernel_rfl
theorem quA (a b o : U6) (i:Int) (ho : AllP [((decide (i ≥ (0:Int))) = true),((0:Int) ≤ i),(i < (384:Int)),(((bitP a (i).toNat) == (1:Int)) = true)]) (hs : Sim w0 F0 K ac (quS a b o i) cX aX) (hK : ∀ ac cY aY,Sim w0 F0 K ac (mkSt 23 [2,3,4,5,6] [.pt 16 0,.pt 32 0,.pt 48 0,.pt 80 0,(.ii (IntKind.wrap .i64 (i - (1:Int))))] [16,32,48,80] [(some (.fl [.ob (.fp a)])),(some (.fl [.ob (.fp b)])),(some (.fl [(.ob (.fp (0:U6)))])),(some (.fl [(.ob (.fp (cleanP ((cleanP (o + o)) + b))))]))] 400 [] []) cY aY → Wq Try.prog Q (lpBk quIn_k) ac Exit.normal aY cY.w) : Wq Try.prog Q (lpIn quIn_k) ac .normal aX cX.w :=
  run_at2 (o := ⟨_, _, _, _, _, _, _⟩) qrH_ok (by kernel_rfl) (quA_hk a b o i) ho hs hK
theorem quB_hk (a b o : U6) (i : Int) : (run qrH false 3000 ((⟨lpIn quIn_k, .normal, quS a b o i⟩ : Cfg)) [true, false]).cfg.k = lpBk quIn_k := by kernel_rfl
theorem quB (a b o : U6) (i:Int) (ho : AllP [((decide (i ≥ (0:Int))) = true),((0:Int) ≤ i),(i < (384:Int)),(((bitP a (i).toNat) == (1:Int)) = false)]) (hs : Sim w0 F0 K ac (quS a b o i) cX aX) (hK : ∀ ac cY aY,Sim w0 F0 K ac (mkSt 23 [2,3,4,5,6] [.pt 16 0,.pt 32 0,.pt 48 0,.pt 80 0,(.ii (IntKind.wrap .i64 (i - (1:Int))))] [16,32,48,80] [(some (.fl [.ob (.fp a)])),(some (.fl [.ob (.fp b)])),(some (.fl [(.ob (.fp (0:U6)))])),(some (.fl [(.ob (.fp (cleanP (o + o))))]))] 336 [] []) cY aY → Wq Try.prog Q (lpBk quIn_k) ac Exit.normal aY cY.w) : Wq Try.prog Q (lpIn quIn_k) ac .normal aX cX.w :=
  run_at2 (o := ⟨_, _, _, _, _, _, _⟩) qrH_ok (by kernel_rfl) (quB_hk a b o i) ho hs hK
theorem quX_end (a b o : U6) (i:Int) : runEnd qrH Try.f59 false 3000 (⟨lpIn quIn_k,.normal,quS a b o i⟩) [false] [] [] = (some ([((decide (i ≥ (0:Int))) = false)],((.v (.a [.ob (.fp o)])),[]))) := by kernel_rfl
theorem qsub (a b : U6) : fnRes qrH Try.f66 3000 [.v (.a [.ob (.fp a)]),.v (.a [.ob (.fp b)])] [] [] [] = (some ([((Fin.val b) < pN)],((.v (.a [(.ob (.fp (cleanP (a + (negU b)))))])),[]))) := by kernel_rfl
end
end Go.Proofs.Ytkfcphigoncgjaa

/- The reference's Mul for six limbs: contract. No conditions. -/
namespace Go.Proofs.Ytkfcphigoncgjaa

theorem clean_add6 {x y : U6} (hx : x.val < pN) (hy : y.val < pN) : (cleanP (x + y)).val = (x.val + y.val) % pN := by
  rw [cleanP_val]
  have e : (x + y : U6).val = (x.val + y.val) % B6 := rfl
  have hr : pN + pN < B6 := by decide
  rw [e, Nat.mod_eq_of_lt (a := x.val + y.val) (by omega)]

theorem half6 (n j : Nat) : n / 2 ^ j = 2 * (n / 2 ^ (j + 1)) + n / 2 ^ j % 2 := by
  rw [Nat.pow_succ, ← Nat.div_div_eq_div_mul]
  omega

theorem dbl6 {r p q b : Nat} (x : Nat) (hx : x = p * b % r) (_hq : q = 0 ∨ q = 1) : ((x + x) % r + q * b) % r = (2 * p + q) * b % r := by
  subst hx
  rw [Nat.mod_add_mod, ← Nat.two_mul, Nat.add_mod, Nat.mul_mod_mod, ← Nat.add_mod]
  congr 1
  rw [Nat.add_mul, Nat.mul_assoc]

def mulP (a b : U6) : U6 := Fin.ofNat B6 (a.val * b.val % pN)
theorem mulP_val (a b : U6) : (mulP a b).val = a.val * b.val % pN := Nat.mod_eq_of_lt (Nat.lt_trans (Nat.mod_lt _ (by decide)) (by decide))

/-- A power of two, told apart. -/
def pow2 (n : Nat) : Nat := 2 ^ n
theorem mulP_start (a b : U6) (ha : a.val < pN) : -1 ≤ (380 : Int) ∧ (380 : Int) ≤ 380 ∧ (0 : U6).val = a.val / pow2 ((380 : Int) + 1).toNat * b.val % pN := by
  refine ⟨by decide, by decide, ?_⟩
  unfold pow2
  have h : pN < 2 ^ ((380 : Int) + 1).toNat := by decide +kernel
  rw [Nat.div_eq_of_lt (Nat.lt_trans ha h), Nat.zero_mul, Nat.zero_mod]
  rfl

theorem mulP_fnd (a b : U6) (ha : a.val < pN) (hb : b.val < pN) : FnD Try.prog 59 [.v (.a [.ob (.fp a)]), .v (.a [.ob (.fp b)])] (.v (.a [.ob (.fp (mulP a b))])) [] := by
  refine fn_start (fn := Try.f59) (c := bodyOf Try.f59) Try.func59 rfl rfl fun x a0 hk hF hs => ?_
  refine quIn a b trivial hs fun ac cY aY hs1 => ?_
  refine loop_rule (ι := { p : Int × U6 // -1 ≤ p.1 ∧ p.1 ≤ 380 ∧ p.2.val = a.val / pow2 (p.1 + 1).toNat * b.val % pN }) (fun p => quS a b p.1.2 p.1.1) (fun p => (p.1.1 + 1).toNat) (c := lpC quIn_k) (k := lpR quIn_k) (by kernel_rfl) (fun p ih ac cY aY hs => ?_)
    ⟨(380, 0), mulP_start a b ha⟩ hs1
  obtain ⟨⟨i, o⟩, hi1, hi2, ho⟩ := p
  simp only at ih hs ho hi1 hi2
  unfold pow2 at ho
  have hor : o.val < pN := by rw [ho]; exact Nat.mod_lt _ (by decide)
  by_cases h : 0 ≤ i
  · obtain ⟨j, rfl⟩ := Int.eq_ofNat_of_zero_le h
    have e1 : ((j : Int) + 1).toNat = j + 1 := by omega
    rw [e1] at ho
    have hd := clean_add6 hor hor
    have hdr : (cleanP (o + o)).val < pN := by rw [hd]; exact Nat.mod_lt _ (by decide)
    have hhs := half6 a.val j
    have e2 : ((j : Int) - 1 + 1).toNat = j := by omega
    by_cases hbit : a.val / 2 ^ j % 2 = 1
    · refine quA a b o j ⟨by simp, by omega, by omega, by simp [bitP, hbit], trivial⟩ hs fun ac cY aY hs2 => ?_
      rw [wrap_id (by omega) (by omega)] at hs2
      refine ih ⟨((j : Int) - 1, cleanP (cleanP (o + o) + b)), by omega, by omega, ?_⟩ (by show ((j : Int) - 1 + 1).toNat < ((j : Int) + 1).toNat; omega) ac cY aY (hs2.nx _)
      show (cleanP (cleanP (o + o) + b)).val = a.val / pow2 ((j : Int) - 1 + 1).toNat * b.val % pN
      unfold pow2
      rw [e2, clean_add6 hdr hb, hd, hhs, hbit]
      have := dbl6 (q := 1) o.val ho (.inr rfl)
      rw [Nat.one_mul] at this
      exact this
    · have hbit0 : a.val / 2 ^ j % 2 = 0 := by omega
      refine quB a b o j ⟨by simp, by omega, by omega, by simp [bitP, hbit0], trivial⟩ hs fun ac cY aY hs2 => ?_
      rw [wrap_id (by omega) (by omega)] at hs2
      refine ih ⟨((j : Int) - 1, cleanP (o + o)), by omega, by omega, ?_⟩ (by show ((j : Int) - 1 + 1).toNat < ((j : Int) + 1).toNat; omega) ac cY aY (hs2.nx _)
      show (cleanP (o + o)).val = a.val / pow2 ((j : Int) - 1 + 1).toNat * b.val % pN
      unfold pow2
      rw [e2, hd, hhs, hbit0]
      have := dbl6 (q := 0) o.val ho (.inl rfl)
      rw [Nat.zero_mul, Nat.add_zero, Nat.mod_mod] at this
      exact this
  · have hi : i = -1 := by omega
    subst hi
    refine run_end2 qrH_ok hk hF (quX_end a b o (-1)) ⟨by decide, trivial⟩ (fun y v hd => ?_) hs
    refine ob_ob (o := .fp o) (o' := .fp (mulP a b)) (Eq.refl 6) ?_ hd
    show o.val = (mulP a b).val
    rw [mulP_val, ho]
    show a.val / 2 ^ 0 * b.val % pN = _
    rw [Nat.pow_zero, Nat.div_one]

/-- An element less another one, outside. -/
def subP (a b : U6) : U6 := cleanP (a + negU b)
theorem sub6_fnd (a b : U6) (hb : b.val < pN) : FnD Try.prog 66 [.v (.a [.ob (.fp a)]), .v (.a [.ob (.fp b)])] (.v (.a [.ob (.fp (subP a b))])) [] :=
  fn_sound qrH_ok Try.func66 (qsub a b) ⟨hb, trivial⟩

end Go.Proofs.Ytkfcphigoncgjaa

/- The reference's functions for six limbs: all contracts. No conditions. -/
namespace Go.Proofs.Ytkfcphigoncgjaa

def mulPSpec : FnSpec
  | [.v (.a [.ob (.fp a)]), .v (.a [.ob (.fp b)])] => some ([a.val < pN, b.val < pN], .v (.a [.ob (.fp (mulP a b))]), [])
  | _ => none
noncomputable def qrI : Env := qrH.set (addT qrH.fn 59 mulPSpec)
theorem qrI_ok : EnvOk Try.prog qrI := env_add qrH_ok 59 mulPSpec (enters_of Try.func59 rfl rfl) fun args o r es h ho => by
  unfold mulPSpec at h
  split at h
  · cases h; exact mulP_fnd _ _ ho.1 ho.2.1
  · cases h
def sub6Spec : FnSpec
  | [.v (.a [.ob (.fp a)]), .v (.a [.ob (.fp b)])] => some ([b.val < pN], .v (.a [.ob (.fp (subP a b))]), [])
  | _ => none
noncomputable def qrJ : Env := qrI.set (addT qrI.fn 66 sub6Spec)
theorem qrJ_ok : EnvOk Try.prog qrJ := env_add qrI_ok 66 sub6Spec (enters_of Try.func66 rfl rfl) fun args o r es h ho => by
  unfold sub6Spec at h
  split at h
  · cases h; exact sub6_fnd _ _ ho.1
  · cases h
--@env qrJ qrJ_ok
end Go.Proofs.Ytkfcphigoncgjaa

/- Elements of the greater field, inside and outside; the field; lines. No conditions. -/
namespace Go.Proofs.Ytkfcphigoncgjaa

def fp1 : Fp := Fin.ofNat pN 1
def fp4 : Fp := Fin.ofNat pN 4
theorem fin_mul_val {r : Nat} (x y : Fin r) : x.val * y.val % r = (x * y).val := rfl
theorem fin_add_val {r : Nat} (x y : Fin r) : (x.val + y.val) % r = (x + y).val := rfl
section
variable {r : Nat} [NeZero r]
theorem add_neg_g (x y : Fin r) : x + (0 - y) = x - y := by grind
theorem fin_neg_val (x : Fin r) : (r - x.val) % r = (0 - x).val := by
  show _ = (r - x.val + (0 : Fin r).val) % r
  have e : (0 : Fin r).val = 0 := Nat.zero_mod r
  rw [e, Nat.add_zero]
theorem fin_of_val (n : Nat) : (Fin.ofNat r n).val = n % r := rfl
end

theorem out_in (x : U6) : outP (inP x) = cleanP x := by
  apply Fin.ext
  rw [outP_val, cleanP_val]
  exact fin_of_val _
theorem inP_val (x : U6) : (inP x).val = x.val % pN := fin_of_val _
theorem clean_lt {x : U6} (h : cleanP x = x) : x.val < pN := by
  rw [← h, cleanP_val]
  exact Nat.mod_lt _ (by decide)
theorem inP_lt {x : U6} (h : x.val < pN) : (inP x).val = x.val := Nat.mod_eq_of_lt h
theorem outP_lt (x : Fp) : (outP x).val < pN := by rw [outP_val]; exact x.isLt
theorem in_out (x : Fp) : inP (outP x) = x := by
  apply Fin.ext
  rw [inP_val, outP_val]
  exact Nat.mod_eq_of_lt x.isLt
theorem mulP_out (x y : Fp) : mulP (outP x) (outP y) = outP (x * y) := by
  apply Fin.ext
  rw [mulP_val, outP_val, outP_val, outP_val]
  exact fin_mul_val x y
theorem addP_out (x y : Fp) : cleanP (outP x + outP y) = outP (x + y) := by
  apply Fin.ext
  rw [clean_add6 (outP_lt x) (outP_lt y), outP_val, outP_val, outP_val]
  exact fin_add_val x y
theorem negU_out (x : Fp) : negU (outP x) = outP (0 - x) := by
  apply Fin.ext
  rw [negU_val, outP_val, outP_val]
  exact fin_neg_val x
theorem subP_out (x y : Fp) : subP (outP x) (outP y) = outP (x - y) := by
  unfold subP
  rw [negU_out, addP_out]
  congr 1
  exact add_neg_g x y
theorem outP_inj {x y : Fp} (h : outP x = outP y) : x = y := by rw [← in_out x, h, in_out]
theorem four_out : (Fin.ofNat B6 4 : U6) = outP fp4 := by
  apply Fin.ext
  rw [outP_val]
  show 4 % B6 = 4 % pN
  rw [Nat.mod_eq_of_lt (by decide), Nat.mod_eq_of_lt (by decide)]

section
variable {r : Nat} [NeZero r]
theorem mul6_g (a b c d e f : Fin r) : a * b * c * (d * e * f) = a * d * (b * e) * (c * f) := by grind
theorem pw_cube (x : Fin r) : ∀ n, pw (x * x * x) n = pw x n * pw x n * pw x n
  | 0 => by show (1 : Fin r) = 1 * 1 * 1; grind
  | n + 1 => by
    show pw (x * x * x) n * (x * x * x) = pw x n * x * (pw x n * x) * (pw x n * x)
    rw [pw_cube x n]
    grind
theorem pw_three (x : Fin r) (n : Nat) : pw (x * x * x) n = pw x (n + n + n) := by
  rw [pw_add_g, pw_add_g, pw_cube]
theorem neg_of_sum {a b : Fin r} (h : a + b = 0) : a = 0 - b := by grind
theorem zero_cube (b : Fin r) : (0 : Fin r) * 0 * 0 + b = b := by grind
end

theorem one_ne_p : (1 : Fp) ≠ 0 := by decide +kernel
theorem two_ne_p : (1 : Fp) + 1 ≠ 0 := by decide +kernel
theorem fp1_one : fp1 = 1 := by decide +kernel
theorem fp4_ne : fp4 ≠ 0 := by decide +kernel
theorem neg4 : (0 : Fp) - fp4 = Fin.ofNat pN (pN - 4) := by decide +kernel
theorem thirds : pN - 1 = (pN - 1) / 3 + (pN - 1) / 3 + (pN - 1) / 3 := by decide +kernel
theorem neg4_val : (Fin.ofNat pN (pN - 4)).val = pN - 4 := by decide +kernel
theorem neg4_pow : mpow pN (pN - 4) 384 ((pN - 1) / 3) ≠ 1 := by decide +kernel
theorem third_lt : (pN - 1) / 3 < 2 ^ 384 := by decide +kernel
theorem one_val_p : ((1 : Fp) : Nat) = 1 := by decide +kernel

theorem cube_ne (c : Fp) (hc : pw c ((pN - 1) / 3) ≠ 1) (h0 : c ≠ 0) (x : Fp) : x * x * x ≠ c := by
  intro h
  by_cases hx : x = 0
  · apply h0
    rw [← h, hx]
    exact mul_zero6
  · apply hc
    rw [← h, pw_three, ← thirds]
    exact fermat_p x hx
where mul_zero6 : (0 : Fp) * 0 * 0 = 0 := by decide +kernel

instance fldP : Fld Fp :=
  { (inferInstance : CRing (Fin pN)) with
    inv := ivP
    mul_inv := ivP_mul
    one_ne := one_ne_p }

section
variable {F : Type} [Fld F]
theorem line1 (e d x1 x2 y1 : F) (hd : d ≠ 0) : ((thr e d x1 x2 y1).1 + (x1 + x2)) * (d * d) = e * e := by
  have h := thr1 e d x1 x2 y1 hd
  unfold nX at h
  grind
theorem line2 (e d x1 x2 y1 : F) (hd : d ≠ 0) : ((thr e d x1 x2 y1).2 + y1) * d = e * (x1 - (thr e d x1 x2 y1).1) := by
  have h := Fld.mul_inv d hd
  unfold thr
  dsimp only
  grind
theorem opp_y {y1 y2 : F} (h : y1 * y1 = y2 * y2) (hn : ¬ y1 = 0 - y2) : y1 = y2 ∧ y1 ≠ 0 := by
  have h0 : y1 = y2 := by
    by_cases e : y1 = y2
    · exact e
    · have hd : y1 - y2 ≠ 0 := fun h => e (by grind)
      exfalso
      apply hn
      have : y1 + y2 = 0 := fcan hd (by grind)
      grind
  refine ⟨h0, fun e => hn ?_⟩
  rw [← h0, e]
  grind
theorem opp_none {y : F} (two : (1 : F) + 1 ≠ 0) (h : y = 0 - y) : y = 0 := fcan two (by grind)
end

theorem negU_zero : negU 0 = 0 := by
  apply Fin.ext
  rw [negU_val]
  show (pN - 0) % pN = 0
  rw [Nat.sub_zero, Nat.mod_self]
end Go.Proofs.Ytkfcphigoncgjaa

/- Pairs of elements of the greater field: the functions, walked. No conditions. -/
namespace Go.Proofs.Ytkfcphigoncgjaa

abbrev F2 := Q2 pN
def f2I (x : F2) : List It := [.ob (.p x.1), .ob (.p x.2)]
section
variable {r : Nat} [NeZero r]
theorem kar_g (a b c d : Fin r) : (a + b) * (c + d) - a * c - b * d = a * d + b * c := by grind
end
--@env qrJ qrJ_ok
theorem t2A (a b c d : Fp) : fnRes qrJ Try.f132 3000 [.v (.a [.ob (.p a),.ob (.p b)]),.v (.a [.ob (.p c),.ob (.p d)])] [] [] [] = (some ([],((.v (.a [(.ob (.p ((a * c) - (b * d)))),(.ob (.p ((((a + b) * (c + d)) - (a * c)) - (b * d))))])),[]))) := by kernel_rfl
theorem p2A (a b c d : Fp) : fnRes qrJ Try.f133 3000 [.v (.a [.ob (.p a),.ob (.p b)]),.v (.a [.ob (.p c),.ob (.p d)])] [] [] [] = (some ([],((.v (.a [(.ob (.p (a + c))),(.ob (.p (b + d)))])),[]))) := by kernel_rfl
theorem m2A (a b c d : Fp) : fnRes qrJ Try.f170 3000 [.v (.a [.ob (.p a),.ob (.p b)]),.v (.a [.ob (.p c),.ob (.p d)])] [] [] [] = (some ([],((.v (.a [(.ob (.p (a - c))),(.ob (.p (b - d)))])),[]))) := by kernel_rfl
theorem n2A (a b : Fp) : fnRes qrJ Try.f171 3000 [.v (.a [.ob (.p a),.ob (.p b)])] [] [] [] = (some ([],((.v (.a [(.ob (.p ((0:Fp) - a))),(.ob (.p ((0:Fp) - b)))])),[]))) := by kernel_rfl
theorem z2A (a b : Fp) : fnRes qrJ Try.f89 3000 [.v (.a [.ob (.p a),.ob (.p b)])] [] [] [] = (some ([],((.v (.c (.bool (ite (true = true) (Bool.and (decide (a = (0:Fp))) (decide (b = (0:Fp)))) (Bool.not (Bool.and (decide (a = (0:Fp))) (decide (b = (0:Fp))))))))),[]))) := by kernel_rfl
theorem no2A (a b : Fp) : fnRes qrJ Try.f172 3000 [.v (.a [.ob (.p a),.ob (.p b)])] [] [] [] = (some ([],((.v (.a [(.ob (.p ((a * a) + (b * b))))])),[]))) := by kernel_rfl
theorem i2A (a b : U6) : fnRes qrJ Try.f120 3000 [.v (.a [.ob (.fp a),.ob (.fp b)])] [] [] [] = (some ([],((.v (.a [(.ob (.p (inP a))),(.ob (.p (inP b)))])),[]))) := by kernel_rfl
theorem o2A (a b : Fp) : fnRes qrJ Try.f119 3000 [.v (.a [.ob (.p a),.ob (.p b)])] [] [] [] = (some ([],((.v (.a [(.ob (.fp (outP a))),(.ob (.fp (outP b)))])),[]))) := by kernel_rfl
theorem times2_fnd (a b c d : Fp) : FnD Try.prog 132 [.v (.a [.ob (.p a), .ob (.p b)]), .v (.a [.ob (.p c), .ob (.p d)])] (.v (.a (f2I ((a, b) * (c, d))))) [] := by
  have r := t2A a b c d
  rw [kar_g] at r
  exact fn_sound qrJ_ok Try.func132 r trivial
theorem zero2_fnd (a b : Fp) : FnD Try.prog 89 [.v (.a [.ob (.p a), .ob (.p b)])] (.v (.c (.bool (decide (((a, b) : F2) = 0))))) [] := by
  have r := z2A a b
  rw [if_pos rfl] at r
  have e : decide (((a, b) : F2) = 0) = (decide (a = 0) && decide (b = 0)) := pair_dec a 0 b 0
  rw [e]
  exact fn_sound qrJ_ok Try.func89 r trivial
def inP2 (a b : U6) : F2 := (inP a, inP b)
def times2Spec : FnSpec
  | [.v (.a [.ob (.p a), .ob (.p b)]), .v (.a [.ob (.p c), .ob (.p d)])] => some ([], .v (.a (f2I ((a, b) * (c, d)))), [])
  | _ => none
noncomputable def qxA : Env := qrJ.set (addT qrJ.fn 132 times2Spec)
theorem qxA_ok : EnvOk Try.prog qxA := env_add qrJ_ok 132 times2Spec (enters_of Try.func132 rfl rfl) fun args o r es h _ => by
  unfold times2Spec at h
  split at h
  · cases h; exact times2_fnd _ _ _ _
  · cases h
def plus2Spec : FnSpec
  | [.v (.a [.ob (.p a), .ob (.p b)]), .v (.a [.ob (.p c), .ob (.p d)])] => some ([], .v (.a (f2I ((a, b) + (c, d)))), [])
  | _ => none
noncomputable def qxB : Env := qxA.set (addT qxA.fn 133 plus2Spec)
theorem qxB_ok : EnvOk Try.prog qxB := env_add qxA_ok 133 plus2Spec (enters_of Try.func133 rfl rfl) fun args o r es h _ => by
  unfold plus2Spec at h
  split at h
  · cases h; exact fn_sound qrJ_ok Try.func133 (p2A _ _ _ _) trivial
  · cases h
def minus2Spec : FnSpec
  | [.v (.a [.ob (.p a), .ob (.p b)]), .v (.a [.ob (.p c), .ob (.p d)])] => some ([], .v (.a (f2I ((a, b) - (c, d)))), [])
  | _ => none
noncomputable def qxC : Env := qxB.set (addT qxB.fn 170 minus2Spec)
theorem qxC_ok : EnvOk Try.prog qxC := env_add qxB_ok 170 minus2Spec (enters_of Try.func170 rfl rfl) fun args o r es h _ => by
  unfold minus2Spec at h
  split at h
  · cases h; exact fn_sound qrJ_ok Try.func170 (m2A _ _ _ _) trivial
  · cases h
def neg2Spec : FnSpec
  | [.v (.a [.ob (.p a), .ob (.p b)])] => some ([], .v (.a (f2I (0 - (a, b)))), [])
  | _ => none
noncomputable def qxD : Env := qxC.set (addT qxC.fn 171 neg2Spec)
theorem qxD_ok : EnvOk Try.prog qxD := env_add qxC_ok 171 neg2Spec (enters_of Try.func171 rfl rfl) fun args o r es h _ => by
  unfold neg2Spec at h
  split at h
  · cases h; exact fn_sound qrJ_ok Try.func171 (n2A _ _) trivial
  · cases h
def zero2Spec : FnSpec
  | [.v (.a [.ob (.p a), .ob (.p b)])] => some ([], .v (.c (.bool (decide (((a, b) : F2) = 0)))), [])
  | _ => none
noncomputable def qxE : Env := qxD.set (addT qxD.fn 89 zero2Spec)
theorem qxE_ok : EnvOk Try.prog qxE := env_add qxD_ok 89 zero2Spec (enters_of Try.func89 rfl rfl) fun args o r es h _ => by
  unfold zero2Spec at h
  split at h
  · cases h; exact zero2_fnd _ _
  · cases h
def norm2Spec : FnSpec
  | [.v (.a [.ob (.p a), .ob (.p b)])] => some ([], .v (.a [.ob (.p (nQ2 (a, b)))]), [])
  | _ => none
noncomputable def qxF : Env := qxE.set (addT qxE.fn 172 norm2Spec)
theorem qxF_ok : EnvOk Try.prog qxF := env_add qxE_ok 172 norm2Spec (enters_of Try.func172 rfl rfl) fun args o r es h _ => by
  unfold norm2Spec at h
  split at h
  · cases h; exact fn_sound qrJ_ok Try.func172 (no2A _ _) trivial
  · cases h
def in2Spec : FnSpec
  | [.v (.a [.ob (.fp a), .ob (.fp b)])] => some ([], .v (.a (f2I (inP2 a b))), [])
  | _ => none
noncomputable def qxG : Env := qxF.set (addT qxF.fn 120 in2Spec)
theorem qxG_ok : EnvOk Try.prog qxG := env_add qxF_ok 120 in2Spec (enters_of Try.func120 rfl rfl) fun args o r es h _ => by
  unfold in2Spec at h
  split at h
  · cases h; exact fn_sound qrJ_ok Try.func120 (i2A _ _) trivial
  · cases h
def out2Spec : FnSpec
  | [.v (.a [.ob (.p a), .ob (.p b)])] => some ([], .v (.a [.ob (.fp (outP a)), .ob (.fp (outP b))]), [])
  | _ => none
noncomputable def qxH : Env := qxG.set (addT qxG.fn 119 out2Spec)
theorem qxH_ok : EnvOk Try.prog qxH := env_add qxG_ok 119 out2Spec (enters_of Try.func119 rfl rfl) fun args o r es h _ => by
  unfold out2Spec at h
  split at h
  · cases h; exact fn_sound qrJ_ok Try.func119 (o2A _ _) trivial
  · cases h
--@env qxH qxH_ok
theorem v2A (a b : Fp) : fnRes qxH Try.f169 3000 [.v (.a [.ob (.p a),.ob (.p b)])] [] [] [] = (some ([],((.v (.a [(.ob (.p (a * (ivP (nQ2 (a,b)))))),(.ob (.p ((0:Fp) - (b * (ivP (nQ2 (a,b)))))))])),[]))) := by kernel_rfl
def inv2Spec : FnSpec
  | [.v (.a [.ob (.p a), .ob (.p b)])] => some ([], .v (.a (f2I (ivQ2 ivP (a, b)))), [])
  | _ => none
noncomputable def qxI : Env := qxH.set (addT qxH.fn 169 inv2Spec)
theorem qxI_ok : EnvOk Try.prog qxI := env_add qxH_ok 169 inv2Spec (enters_of Try.func169 rfl rfl) fun args o r es h _ => by
  unfold inv2Spec at h
  split at h
  · cases h; exact fn_sound qxH_ok Try.func169 (v2A _ _) trivial
  · cases h
theorem meth96_Times (v : Value) (w : World) : (method (Try.prog.types.size + Made.depth) 96 v "Times").run Try.prog w = .ok (132, v) w := by kernel_rfl
theorem meth96_Plus (v : Value) (w : World) : (method (Try.prog.types.size + Made.depth) 96 v "Plus").run Try.prog w = .ok (133, v) w := by kernel_rfl
theorem meth96_Minus (v : Value) (w : World) : (method (Try.prog.types.size + Made.depth) 96 v "Minus").run Try.prog w = .ok (170, v) w := by kernel_rfl
theorem meth96_IsZero (v : Value) (w : World) : (method (Try.prog.types.size + Made.depth) 96 v "IsZero").run Try.prog w = .ok (89, v) w := by kernel_rfl
theorem meth96_Negative (v : Value) (w : World) : (method (Try.prog.types.size + Made.depth) 96 v "Negative").run Try.prog w = .ok (171, v) w := by kernel_rfl
theorem meth96_Inverse (v : Value) (w : World) : (method (Try.prog.types.size + Made.depth) 96 v "Inverse").run Try.prog w = .ok (169, v) w := by kernel_rfl
noncomputable def inv2T (T : Nat → Option (List (String × Nat))) (t : Nat) : Option (List (String × Nat)) := if t = 96 then some [("Times", 132), ("Plus", 133), ("Minus", 170), ("IsZero", 89), ("Negative", 171), ("Inverse", 169)] else T t
noncomputable def qxJ : Env := { qxI with inv := inv2T qxI.inv }
theorem qxJ_ok : EnvOk Try.prog qxJ := by
  refine ⟨qxI_ok.ty, qxI_ok.mixed, qxI_ok.fn, qxI_ok.mu, qxI_ok.inl, qxI_ok.ex, fun t l h => ?_⟩
  have h : inv2T qxI.inv t = some l := h
  unfold inv2T at h
  split at h
  · rename_i ht
    cases h
    subst ht
    refine ⟨by kernel_rfl, fun name g hg v args w => ?_⟩
    unfold lookM at hg
    split at hg
    · rename_i hn
      cases hg
      subst hn
      simp only [callMethod, Sem.run_bind, run_program, Result.andThen_ok, meth96_Times]
    unfold lookM at hg
    split at hg
    · rename_i hn
      cases hg
      subst hn
      simp only [callMethod, Sem.run_bind, run_program, Result.andThen_ok, meth96_Plus]
    unfold lookM at hg
    split at hg
    · rename_i hn
      cases hg
      subst hn
      simp only [callMethod, Sem.run_bind, run_program, Result.andThen_ok, meth96_Minus]
    unfold lookM at hg
    split at hg
    · rename_i hn
      cases hg
      subst hn
      simp only [callMethod, Sem.run_bind, run_program, Result.andThen_ok, meth96_IsZero]
    unfold lookM at hg
    split at hg
    · rename_i hn
      cases hg
      subst hn
      simp only [callMethod, Sem.run_bind, run_program, Result.andThen_ok, meth96_Negative]
    unfold lookM at hg
    split at hg
    · rename_i hn
      cases hg
      subst hn
      simp only [callMethod, Sem.run_bind, run_program, Result.andThen_ok, meth96_Inverse]
    cases hg
  · exact qxI_ok.inv t l h
--@env qxJ qxJ_ok
theorem tw2A (a b c d e f : Fp) : fnRes qxJ Try.f117 3000 [.v (.a [.ob (.p a),.ob (.p b),.ob (.p c),.ob (.p d),.ob (.p e),.ob (.p f)])] [true] [] [] = (some ([((decide ((e,f) = (0 : (Prod (Fin pN) (Fin pN))))) = true)],((.v (.a [.ob (.p a),.ob (.p b),.ob (.p c),.ob (.p d),.ob (.p e),.ob (.p f)])),[]))) := by kernel_rfl
theorem tw2B (a b c d e f : Fp) : fnRes qxJ Try.f117 3000 [.v (.a [.ob (.p a),.ob (.p b),.ob (.p c),.ob (.p d),.ob (.p e),.ob (.p f)])] [false] [] [] = (some ([((decide ((e,f) = (0 : (Prod (Fin pN) (Fin pN))))) = false)],((.v (.a [(.ob (.p (Prod.fst (((((((a,b) * (a,b)) + ((a,b) * (a,b))) + ((a,b) * (a,b))) * ((((a,b) * (a,b)) + ((a,b) * (a,b))) + ((a,b) * (a,b)))) - ((((((a,b) + ((c,d) * (c,d))) * ((a,b) + ((c,d) * (c,d)))) - ((a,b) * (a,b))) - (((c,d) * (c,d)) * ((c,d) * (c,d)))) + (((((a,b) + ((c,d) * (c,d))) * ((a,b) + ((c,d) * (c,d)))) - ((a,b) * (a,b))) - (((c,d) * (c,d)) * ((c,d) * (c,d)))))) - ((((((a,b) + ((c,d) * (c,d))) * ((a,b) + ((c,d) * (c,d)))) - ((a,b) * (a,b))) - (((c,d) * (c,d)) * ((c,d) * (c,d)))) + (((((a,b) + ((c,d) * (c,d))) * ((a,b) + ((c,d) * (c,d)))) - ((a,b) * (a,b))) - (((c,d) * (c,d)) * ((c,d) * (c,d))))))))),(.ob (.p (Prod.snd (((((((a,b) * (a,b)) + ((a,b) * (a,b))) + ((a,b) * (a,b))) * ((((a,b) * (a,b)) + ((a,b) * (a,b))) + ((a,b) * (a,b)))) - ((((((a,b) + ((c,d) * (c,d))) * ((a,b) + ((c,d) * (c,d)))) - ((a,b) * (a,b))) - (((c,d) * (c,d)) * ((c,d) * (c,d)))) + (((((a,b) + ((c,d) * (c,d))) * ((a,b) + ((c,d) * (c,d)))) - ((a,b) * (a,b))) - (((c,d) * (c,d)) * ((c,d) * (c,d)))))) - ((((((a,b) + ((c,d) * (c,d))) * ((a,b) + ((c,d) * (c,d)))) - ((a,b) * (a,b))) - (((c,d) * (c,d)) * ((c,d) * (c,d)))) + (((((a,b) + ((c,d) * (c,d))) * ((a,b) + ((c,d) * (c,d)))) - ((a,b) * (a,b))) - (((c,d) * (c,d)) * ((c,d) * (c,d))))))))),(.ob (.p (Prod.fst ((((((a,b) * (a,b)) + ((a,b) * (a,b))) + ((a,b) * (a,b))) * (((((((a,b) + ((c,d) * (c,d))) * ((a,b) + ((c,d) * (c,d)))) - ((a,b) * (a,b))) - (((c,d) * (c,d)) * ((c,d) * (c,d)))) + (((((a,b) + ((c,d) * (c,d))) * ((a,b) + ((c,d) * (c,d)))) - ((a,b) * (a,b))) - (((c,d) * (c,d)) * ((c,d) * (c,d))))) - (((((((a,b) * (a,b)) + ((a,b) * (a,b))) + ((a,b) * (a,b))) * ((((a,b) * (a,b)) + ((a,b) * (a,b))) + ((a,b) * (a,b)))) - ((((((a,b) + ((c,d) * (c,d))) * ((a,b) + ((c,d) * (c,d)))) - ((a,b) * (a,b))) - (((c,d) * (c,d)) * ((c,d) * (c,d)))) + (((((a,b) + ((c,d) * (c,d))) * ((a,b) + ((c,d) * (c,d)))) - ((a,b) * (a,b))) - (((c,d) * (c,d)) * ((c,d) * (c,d)))))) - ((((((a,b) + ((c,d) * (c,d))) * ((a,b) + ((c,d) * (c,d)))) - ((a,b) * (a,b))) - (((c,d) * (c,d)) * ((c,d) * (c,d)))) + (((((a,b) + ((c,d) * (c,d))) * ((a,b) + ((c,d) * (c,d)))) - ((a,b) * (a,b))) - (((c,d) * (c,d)) * ((c,d) * (c,d)))))))) - ((((((c,d) * (c,d)) * ((c,d) * (c,d))) + (((c,d) * (c,d)) * ((c,d) * (c,d)))) + ((((c,d) * (c,d)) * ((c,d) * (c,d))) + (((c,d) * (c,d)) * ((c,d) * (c,d))))) + (((((c,d) * (c,d)) * ((c,d) * (c,d))) + (((c,d) * (c,d)) * ((c,d) * (c,d)))) + ((((c,d) * (c,d)) * ((c,d) * (c,d))) + (((c,d) * (c,d)) * ((c,d) * (c,d)))))))))),(.ob (.p (Prod.snd ((((((a,b) * (a,b)) + ((a,b) * (a,b))) + ((a,b) * (a,b))) * (((((((a,b) + ((c,d) * (c,d))) * ((a,b) + ((c,d) * (c,d)))) - ((a,b) * (a,b))) - (((c,d) * (c,d)) * ((c,d) * (c,d)))) + (((((a,b) + ((c,d) * (c,d))) * ((a,b) + ((c,d) * (c,d)))) - ((a,b) * (a,b))) - (((c,d) * (c,d)) * ((c,d) * (c,d))))) - (((((((a,b) * (a,b)) + ((a,b) * (a,b))) + ((a,b) * (a,b))) * ((((a,b) * (a,b)) + ((a,b) * (a,b))) + ((a,b) * (a,b)))) - ((((((a,b) + ((c,d) * (c,d))) * ((a,b) + ((c,d) * (c,d)))) - ((a,b) * (a,b))) - (((c,d) * (c,d)) * ((c,d) * (c,d)))) + (((((a,b) + ((c,d) * (c,d))) * ((a,b) + ((c,d) * (c,d)))) - ((a,b) * (a,b))) - (((c,d) * (c,d)) * ((c,d) * (c,d)))))) - ((((((a,b) + ((c,d) * (c,d))) * ((a,b) + ((c,d) * (c,d)))) - ((a,b) * (a,b))) - (((c,d) * (c,d)) * ((c,d) * (c,d)))) + (((((a,b) + ((c,d) * (c,d))) * ((a,b) + ((c,d) * (c,d)))) - ((a,b) * (a,b))) - (((c,d) * (c,d)) * ((c,d) * (c,d)))))))) - ((((((c,d) * (c,d)) * ((c,d) * (c,d))) + (((c,d) * (c,d)) * ((c,d) * (c,d)))) + ((((c,d) * (c,d)) * ((c,d) * (c,d))) + (((c,d) * (c,d)) * ((c,d) * (c,d))))) + (((((c,d) * (c,d)) * ((c,d) * (c,d))) + (((c,d) * (c,d)) * ((c,d) * (c,d)))) + ((((c,d) * (c,d)) * ((c,d) * (c,d))) + (((c,d) * (c,d)) * ((c,d) * (c,d)))))))))),(.ob (.p (Prod.fst (((c,d) * (e,f)) + ((c,d) * (e,f)))))),(.ob (.p (Prod.snd (((c,d) * (e,f)) + ((c,d) * (e,f))))))])),[]))) := by kernel_rfl
theorem ng2P (a b c d e f : Fp) : fnRes qxJ Try.f71 3000 [.v (.a [.ob (.p a),.ob (.p b),.ob (.p c),.ob (.p d),.ob (.p e),.ob (.p f)])] [] [] [] = (some ([],((.v (.a [.ob (.p a),.ob (.p b),(.ob (.p (Prod.fst ((0 : F2) - (c,d))))),(.ob (.p (Prod.snd ((0 : F2) - (c,d))))),.ob (.p e),.ob (.p f)])),[]))) := by kernel_rfl
end Go.Proofs.Ytkfcphigoncgjaa

/- Points of the second curve: twice, negative, sums, walked. No conditions. -/
namespace Go.Proofs.Ytkfcphigoncgjaa

theorem twice2_fnd (a b c d e f : Fp) : FnD Try.prog 117 [.v (.a [.ob (.p a), .ob (.p b), .ob (.p c), .ob (.p d), .ob (.p e), .ob (.p f)])] (.v (.a (pt2Its (jtw (F := F2) ((a, b), (c, d), (e, f)))))) [] := by
  by_cases h : ((e, f) : F2) = 0
  · have e0 : jtw (F := F2) ((a, b), (c, d), (e, f)) = ((a, b), (c, d), (e, f)) := if_pos h
    rw [e0]
    exact fn_sound qxJ_ok Try.func117 (tw2A a b c d e f) ⟨decide_eq_true h, trivial⟩
  · unfold jtw
    rw [if_neg h]
    exact fn_sound qxJ_ok Try.func117 (tw2B a b c d e f) ⟨decide_eq_false h, trivial⟩
def tw2Spec : FnSpec
  | [.v (.a [.ob (.p a), .ob (.p b), .ob (.p c), .ob (.p d), .ob (.p e), .ob (.p f)])] => some ([], .v (.a (pt2Its (jtw (F := F2) ((a, b), (c, d), (e, f))))), [])
  | _ => none
noncomputable def qyA : Env := qxJ.set (addT qxJ.fn 117 tw2Spec)
theorem qyA_ok : EnvOk Try.prog qyA := env_add qxJ_ok 117 tw2Spec (enters_of Try.func117 rfl rfl) fun args o r es h _ => by
  unfold tw2Spec at h
  split at h
  · cases h; exact twice2_fnd _ _ _ _ _ _
  · cases h
def ng2Spec : FnSpec
  | [.v (.a [.ob (.p a), .ob (.p b), .ob (.p c), .ob (.p d), .ob (.p e), .ob (.p f)])] => some ([], .v (.a (pt2Its (jng (F := F2) ((a, b), (c, d), (e, f))))), [])
  | _ => none
noncomputable def qyB : Env := qyA.set (addT qyA.fn 71 ng2Spec)
theorem qyB_ok : EnvOk Try.prog qyB := env_add qyA_ok 71 ng2Spec (enters_of Try.func71 rfl rfl) fun args o r es h _ => by
  unfold ng2Spec at h
  split at h
  · cases h; exact fn_sound qxJ_ok Try.func71 (ng2P _ _ _ _ _ _) trivial
  · cases h
--@env qyB qyB_ok
theorem pq2A (a b c d e f a' b' c' d' e' f' : Fp) : fnRes qyB Try.f68 3000 [.v (.a [.ob (.p a),.ob (.p b),.ob (.p c),.ob (.p d),.ob (.p e),.ob (.p f)]),.v (.a [.ob (.p a'),.ob (.p b'),.ob (.p c'),.ob (.p d'),.ob (.p e'),.ob (.p f')])] [true] [] [] = (some ([((decide ((e,f) = (0 : (Prod (Fin pN) (Fin pN))))) = true)],((.v (.a [(.ob (.p a')),(.ob (.p b')),(.ob (.p c')),(.ob (.p d')),(.ob (.p e')),(.ob (.p f'))])),[]))) := by kernel_rfl
theorem pq2B (a b c d e f a' b' c' d' e' f' : Fp) : fnRes qyB Try.f68 3000 [.v (.a [.ob (.p a),.ob (.p b),.ob (.p c),.ob (.p d),.ob (.p e),.ob (.p f)]),.v (.a [.ob (.p a'),.ob (.p b'),.ob (.p c'),.ob (.p d'),.ob (.p e'),.ob (.p f')])] [false,true] [] [] = (some ([((decide ((e,f) = (0 : (Prod (Fin pN) (Fin pN))))) = false),((decide ((e',f') = (0 : (Prod (Fin pN) (Fin pN))))) = true)],((.v (.a [.ob (.p a),.ob (.p b),.ob (.p c),.ob (.p d),.ob (.p e),.ob (.p f)])),[]))) := by kernel_rfl
theorem pq2C (a b c d e f a' b' c' d' e' f' : Fp) : fnRes qyB Try.f68 3000 [.v (.a [.ob (.p a),.ob (.p b),.ob (.p c),.ob (.p d),.ob (.p e),.ob (.p f)]),.v (.a [.ob (.p a'),.ob (.p b'),.ob (.p c'),.ob (.p d'),.ob (.p e'),.ob (.p f')])] [false,false,true,true] [] [] = (some ([((decide ((e,f) = (0 : (Prod (Fin pN) (Fin pN))))) = false),((decide ((e',f') = (0 : (Prod (Fin pN) (Fin pN))))) = false),((decide ((((a',b') * ((e,f) * (e,f))) - ((a,b) * ((e',f') * (e',f')))) = (0 : (Prod (Fin pN) (Fin pN))))) = true),((decide (((((c',d') * ((e,f) * (e,f))) * (e,f)) - (((c,d) * ((e',f') * (e',f'))) * (e',f'))) = (0 : (Prod (Fin pN) (Fin pN))))) = true)],((.v (.a [(.ob (.p (Prod.fst (Prod.fst (jtw ((a,b),((c,d),(e,f)))))))),(.ob (.p (Prod.snd (Prod.fst (jtw ((a,b),((c,d),(e,f)))))))),(.ob (.p (Prod.fst (Prod.fst (Prod.snd (jtw ((a,b),((c,d),(e,f))))))))),(.ob (.p (Prod.snd (Prod.fst (Prod.snd (jtw ((a,b),((c,d),(e,f))))))))),(.ob (.p (Prod.fst (Prod.snd (Prod.snd (jtw ((a,b),((c,d),(e,f))))))))),(.ob (.p (Prod.snd (Prod.snd (Prod.snd (jtw ((a,b),((c,d),(e,f)))))))))])),[]))) := by kernel_rfl
theorem pq2D (a b c d e f a' b' c' d' e' f' : Fp) : fnRes qyB Try.f68 3000 [.v (.a [.ob (.p a),.ob (.p b),.ob (.p c),.ob (.p d),.ob (.p e),.ob (.p f)]),.v (.a [.ob (.p a'),.ob (.p b'),.ob (.p c'),.ob (.p d'),.ob (.p e'),.ob (.p f')])] [false,false,true,false] [] [] = (some ([((decide ((e,f) = (0 : (Prod (Fin pN) (Fin pN))))) = false),((decide ((e',f') = (0 : (Prod (Fin pN) (Fin pN))))) = false),((decide ((((a',b') * ((e,f) * (e,f))) - ((a,b) * ((e',f') * (e',f')))) = (0 : (Prod (Fin pN) (Fin pN))))) = true),((decide (((((c',d') * ((e,f) * (e,f))) * (e,f)) - (((c,d) * ((e',f') * (e',f'))) * (e',f'))) = (0 : (Prod (Fin pN) (Fin pN))))) = false)],((.v (.a [.ob (.p a),.ob (.p b),.ob (.p c),.ob (.p d),(.ob (.p (0:Fp))),(.ob (.p (0:Fp)))])),[]))) := by kernel_rfl
theorem pq2E (a b c d e f a' b' c' d' e' f' : Fp) : fnRes qyB Try.f68 3000 [.v (.a [.ob (.p a),.ob (.p b),.ob (.p c),.ob (.p d),.ob (.p e),.ob (.p f)]),.v (.a [.ob (.p a'),.ob (.p b'),.ob (.p c'),.ob (.p d'),.ob (.p e'),.ob (.p f')])] [false,false,false] [] [] = (some ([((decide ((e,f) = (0 : (Prod (Fin pN) (Fin pN))))) = false),((decide ((e',f') = (0 : (Prod (Fin pN) (Fin pN))))) = false),((decide ((((a',b') * ((e,f) * (e,f))) - ((a,b) * ((e',f') * (e',f')))) = (0 : (Prod (Fin pN) (Fin pN))))) = false)],((.v (.a [(.ob (.p (Prod.fst ((((((((c',d') * ((e,f) * (e,f))) * (e,f)) - (((c,d) * ((e',f') * (e',f'))) * (e',f'))) * ((((c',d') * ((e,f) * (e,f))) * (e,f)) - (((c,d) * ((e',f') * (e',f'))) * (e',f')))) - (((((a',b') * ((e,f) * (e,f))) - ((a,b) * ((e',f') * (e',f')))) * (((a',b') * ((e,f) * (e,f))) - ((a,b) * ((e',f') * (e',f'))))) * (((a',b') * ((e,f) * (e,f))) - ((a,b) * ((e',f') * (e',f')))))) - (((a,b) * ((e',f') * (e',f'))) * ((((a',b') * ((e,f) * (e,f))) - ((a,b) * ((e',f') * (e',f')))) * (((a',b') * ((e,f) * (e,f))) - ((a,b) * ((e',f') * (e',f'))))))) - (((a,b) * ((e',f') * (e',f'))) * ((((a',b') * ((e,f) * (e,f))) - ((a,b) * ((e',f') * (e',f')))) * (((a',b') * ((e,f) * (e,f))) - ((a,b) * ((e',f') * (e',f')))))))))),(.ob (.p (Prod.snd ((((((((c',d') * ((e,f) * (e,f))) * (e,f)) - (((c,d) * ((e',f') * (e',f'))) * (e',f'))) * ((((c',d') * ((e,f) * (e,f))) * (e,f)) - (((c,d) * ((e',f') * (e',f'))) * (e',f')))) - (((((a',b') * ((e,f) * (e,f))) - ((a,b) * ((e',f') * (e',f')))) * (((a',b') * ((e,f) * (e,f))) - ((a,b) * ((e',f') * (e',f'))))) * (((a',b') * ((e,f) * (e,f))) - ((a,b) * ((e',f') * (e',f')))))) - (((a,b) * ((e',f') * (e',f'))) * ((((a',b') * ((e,f) * (e,f))) - ((a,b) * ((e',f') * (e',f')))) * (((a',b') * ((e,f) * (e,f))) - ((a,b) * ((e',f') * (e',f'))))))) - (((a,b) * ((e',f') * (e',f'))) * ((((a',b') * ((e,f) * (e,f))) - ((a,b) * ((e',f') * (e',f')))) * (((a',b') * ((e,f) * (e,f))) - ((a,b) * ((e',f') * (e',f')))))))))),(.ob (.p (Prod.fst ((((((c',d') * ((e,f) * (e,f))) * (e,f)) - (((c,d) * ((e',f') * (e',f'))) * (e',f'))) * ((((a,b) * ((e',f') * (e',f'))) * ((((a',b') * ((e,f) * (e,f))) - ((a,b) * ((e',f') * (e',f')))) * (((a',b') * ((e,f) * (e,f))) - ((a,b) * ((e',f') * (e',f')))))) - ((((((((c',d') * ((e,f) * (e,f))) * (e,f)) - (((c,d) * ((e',f') * (e',f'))) * (e',f'))) * ((((c',d') * ((e,f) * (e,f))) * (e,f)) - (((c,d) * ((e',f') * (e',f'))) * (e',f')))) - (((((a',b') * ((e,f) * (e,f))) - ((a,b) * ((e',f') * (e',f')))) * (((a',b') * ((e,f) * (e,f))) - ((a,b) * ((e',f') * (e',f'))))) * (((a',b') * ((e,f) * (e,f))) - ((a,b) * ((e',f') * (e',f')))))) - (((a,b) * ((e',f') * (e',f'))) * ((((a',b') * ((e,f) * (e,f))) - ((a,b) * ((e',f') * (e',f')))) * (((a',b') * ((e,f) * (e,f))) - ((a,b) * ((e',f') * (e',f'))))))) - (((a,b) * ((e',f') * (e',f'))) * ((((a',b') * ((e,f) * (e,f))) - ((a,b) * ((e',f') * (e',f')))) * (((a',b') * ((e,f) * (e,f))) - ((a,b) * ((e',f') * (e',f'))))))))) - ((((c,d) * ((e',f') * (e',f'))) * (e',f')) * (((((a',b') * ((e,f) * (e,f))) - ((a,b) * ((e',f') * (e',f')))) * (((a',b') * ((e,f) * (e,f))) - ((a,b) * ((e',f') * (e',f'))))) * (((a',b') * ((e,f) * (e,f))) - ((a,b) * ((e',f') * (e',f')))))))))),(.ob (.p (Prod.snd ((((((c',d') * ((e,f) * (e,f))) * (e,f)) - (((c,d) * ((e',f') * (e',f'))) * (e',f'))) * ((((a,b) * ((e',f') * (e',f'))) * ((((a',b') * ((e,f) * (e,f))) - ((a,b) * ((e',f') * (e',f')))) * (((a',b') * ((e,f) * (e,f))) - ((a,b) * ((e',f') * (e',f')))))) - ((((((((c',d') * ((e,f) * (e,f))) * (e,f)) - (((c,d) * ((e',f') * (e',f'))) * (e',f'))) * ((((c',d') * ((e,f) * (e,f))) * (e,f)) - (((c,d) * ((e',f') * (e',f'))) * (e',f')))) - (((((a',b') * ((e,f) * (e,f))) - ((a,b) * ((e',f') * (e',f')))) * (((a',b') * ((e,f) * (e,f))) - ((a,b) * ((e',f') * (e',f'))))) * (((a',b') * ((e,f) * (e,f))) - ((a,b) * ((e',f') * (e',f')))))) - (((a,b) * ((e',f') * (e',f'))) * ((((a',b') * ((e,f) * (e,f))) - ((a,b) * ((e',f') * (e',f')))) * (((a',b') * ((e,f) * (e,f))) - ((a,b) * ((e',f') * (e',f'))))))) - (((a,b) * ((e',f') * (e',f'))) * ((((a',b') * ((e,f) * (e,f))) - ((a,b) * ((e',f') * (e',f')))) * (((a',b') * ((e,f) * (e,f))) - ((a,b) * ((e',f') * (e',f'))))))))) - ((((c,d) * ((e',f') * (e',f'))) * (e',f')) * (((((a',b') * ((e,f) * (e,f))) - ((a,b) * ((e',f') * (e',f')))) * (((a',b') * ((e,f) * (e,f))) - ((a,b) * ((e',f') * (e',f'))))) * (((a',b') * ((e,f) * (e,f))) - ((a,b) * ((e',f') * (e',f')))))))))),(.ob (.p (Prod.fst (((((a',b') * ((e,f) * (e,f))) - ((a,b) * ((e',f') * (e',f')))) * (e,f)) * (e',f'))))),(.ob (.p (Prod.snd (((((a',b') * ((e,f) * (e,f))) - ((a,b) * ((e',f') * (e',f')))) * (e,f)) * (e',f')))))])),[]))) := by kernel_rfl
end Go.Proofs.Ytkfcphigoncgjaa

/- Points of the second curve: sums, contract. No conditions. -/
namespace Go.Proofs.Ytkfcphigoncgjaa

theorem plusPt2_fnd (a b c d e f a' b' c' d' e' f' : Fp) : FnD Try.prog 68 [.v (.a [.ob (.p a), .ob (.p b), .ob (.p c), .ob (.p d), .ob (.p e), .ob (.p f)]), .v (.a [.ob (.p a'), .ob (.p b'), .ob (.p c'), .ob (.p d'), .ob (.p e'), .ob (.p f')])] (.v (.a (pt2Its (jpl (F := F2) ((a, b), (c, d), (e, f)) ((a', b'), (c', d'), (e', f')))))) [] := by
  by_cases h : ((e, f) : F2) = 0
  · have e0 : jpl (F := F2) ((a, b), (c, d), (e, f)) ((a', b'), (c', d'), (e', f')) = ((a', b'), (c', d'), (e', f')) := if_pos h
    rw [e0]
    exact fn_sound qyB_ok Try.func68 (pq2A a b c d e f a' b' c' d' e' f') ⟨decide_eq_true h, trivial⟩
  · by_cases h2 : ((e', f') : F2) = 0
    · have e0 : jpl (F := F2) ((a, b), (c, d), (e, f)) ((a', b'), (c', d'), (e', f')) = ((a, b), (c, d), (e, f)) := (if_neg h).trans (if_pos h2)
      rw [e0]
      exact fn_sound qyB_ok Try.func68 (pq2B a b c d e f a' b' c' d' e' f') ⟨decide_eq_false h, decide_eq_true h2, trivial⟩
    · unfold jpl
      rw [if_neg h, if_neg h2]
      dsimp only
      by_cases h3 : ((a', b') : F2) * (((e, f) : F2) * ((e, f) : F2)) - ((a, b) : F2) * (((e', f') : F2) * ((e', f') : F2)) = 0
      · rw [if_pos h3]
        by_cases h4 : ((c', d') : F2) * (((e, f) : F2) * ((e, f) : F2)) * ((e, f) : F2) - ((c, d) : F2) * (((e', f') : F2) * ((e', f') : F2)) * ((e', f') : F2) = 0
        · rw [if_pos h4]
          exact fn_sound qyB_ok Try.func68 (pq2C a b c d e f a' b' c' d' e' f') ⟨decide_eq_false h, decide_eq_false h2, decide_eq_true h3, decide_eq_true h4, trivial⟩
        · rw [if_neg h4]
          exact fn_sound qyB_ok Try.func68 (pq2D a b c d e f a' b' c' d' e' f') ⟨decide_eq_false h, decide_eq_false h2, decide_eq_true h3, decide_eq_false h4, trivial⟩
      · rw [if_neg h3]
        exact fn_sound qyB_ok Try.func68 (pq2E a b c d e f a' b' c' d' e' f') ⟨decide_eq_false h, decide_eq_false h2, decide_eq_false h3, trivial⟩

end Go.Proofs.Ytkfcphigoncgjaa
