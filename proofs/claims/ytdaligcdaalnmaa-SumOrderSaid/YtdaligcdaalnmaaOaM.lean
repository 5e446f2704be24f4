/- Parts of a proof, one behind the other: WPu, PPu, WPi, WUa, PUa, Pf, WCp, PCp, WCo1, WCo2, PCo2, WCo3, PCo3, Ga, WOa, PMz, WTi, WOb, WUb, PUb, WUc, PUc, WCk, PCk, WUd, PUd, WUe, PUe, WDa, WDc, PDc, WDd, WSa, PSa. No conditions. -/
import Derived.Shelf.Strconv.Itoa0
import Derived.Test.YtdaligcdaalnmaaOaL
/- Bits of a number, powers of an element of the greater field: the functions, walked. No conditions. -/
namespace Go.Proofs.Ytdaligcdaalnmaa
section
variable {w0:World} {F0:Nat→Prop} {K:Kp} {ac:List Act} {Q:Exit→Act→World→Prop} {cX:Ctx} {aX:Act}
open Go.Shelf

theorem inP_ofNat {n:Nat} (h:n<B6):inP (Fin.ofNat B6 n)=Fin.ofNat pN n:=by
  apply Fin.ext
  show (n % B6) % pN=n % pN
  rw[Nat.mod_eq_of_lt h]
theorem smallP_fnd (n:Int) (h1:0≤n) (h2:n<18446744073709551616):FnD Try.prog 26 [.v (.c (.int .u64 n))] (.v (.a [.ob (.p (Fin.ofNat pN n.toNat))])) []:=by
  refine (fn_sound qeF_ok Try.func26 (smallP0 n) ⟨h1,h2,by decide,by decide,by decide,by decide,by decide,by decide,by decide,by decide,by decide,by decide,trivial⟩).conv (fun _ _ h=>h) fun y v hd=>?_
  rw[Nat.add_zero,inP_ofNat (by unfold B6;omega)] at hd
  exact hd
theorem zeroP_fnd (x:Fp):FnD Try.prog 62 [.v (.a [.ob (.p x)])] (.v (.c (.bool (decide (x=0))))) []:=by
  refine (fn_sound qeF_ok Try.func62 (zeroP0 _) trivial).conv (fun _ _ h=>h) fun y v hd=>?_
  rw[if_pos rfl] at hd
  exact hd
def smallPSpec:FnSpec
  | [.v (.c (.int .u64 n))]=>some ([0≤n,n<18446744073709551616],.v (.a [.ob (.p (Fin.ofNat pN n.toNat))]),[])
  | _=>none
noncomputable def qeG1:Env:=qeF.set (addT qeF.fn 26 smallPSpec)
theorem qeG1_ok:EnvOk Try.prog qeG1:=env_add qeF_ok 26 smallPSpec (enters_of Try.func26 rfl rfl) fun args o r es h ho=>by
  unfold smallPSpec at h
  split at h
  · cases h;exact smallP_fnd _ ho.1 ho.2.1
  · cases h
def negPSpec:FnSpec
  | [.v (.a [.ob (.p x)])]=>some ([],.v (.a [.ob (.p (0-x))]),[])
  | _=>none
noncomputable def qeG2:Env:=qeG1.set (addT qeG1.fn 63 negPSpec)
theorem qeG2_ok:EnvOk Try.prog qeG2:=env_add qeG1_ok 63 negPSpec (enters_of Try.func63 rfl rfl) fun args o r es h _=>by
  unfold negPSpec at h
  split at h
  · cases h;exact fn_sound qeF_ok Try.func63 (negP0 _) trivial
  · cases h
def zeroPSpec:FnSpec
  | [.v (.a [.ob (.p x)])]=>some ([],.v (.c (.bool (decide (x=0)))),[])
  | _=>none
noncomputable def qeG:Env:=qeG2.set (addT qeG2.fn 62 zeroPSpec)
theorem qeG_ok:EnvOk Try.prog qeG:=env_add qeG2_ok 62 zeroPSpec (enters_of Try.func62 rfl rfl) fun args o r es h _=>by
  unfold zeroPSpec at h
  split at h
  · cases h;exact zeroP_fnd _
  · cases h

def renL:Ren:=⟨fun n=>if n=129 then 69 else 0,fun t=>if t=46 then 83 else if t=53 then 24 else t,fun g=>g⟩
theorem laysL:Lays.n129 Try.prog renL:=
  { mixed:=by kernel_rfl
    f129:=by kernel_rfl
    t3:=by kernel_rfl
    a3:=fun _=>by kernel_rfl
    z3:=fun _=>by kernel_rfl
    v3:=fun _=>by kernel_rfl
    t4:=by kernel_rfl
    a4:=fun _=>by kernel_rfl
    z4:=fun _=>by kernel_rfl
    v4:=fun _=>by kernel_rfl
    t5:=by kernel_rfl
    a5:=fun _=>by kernel_rfl
    z5:=fun _=>by kernel_rfl
    v5:=fun _=>by kernel_rfl
    t9:=by kernel_rfl
    a9:=fun _=>by kernel_rfl
    z9:=fun _=>by kernel_rfl
    v9:=fun _=>by kernel_rfl
    t46:=by kernel_rfl
    a46:=fun _=>by kernel_rfl
    z46:=fun _=>by kernel_rfl
    v46:=fun _=>by kernel_rfl
    t53:=by kernel_rfl
    a53:=fun _=>by kernel_rfl
    z53:=fun _=>by kernel_rfl
    v53:=fun _=>by kernel_rfl }
theorem len64_fnd (n:Int) (h0:0≤n) (h1:n<18446744073709551616):FnD Try.prog 69 [.v (.c (.int .u64 n))] (.v (.c (.int .i64 (Lib.bitLen n.toNat:Nat)))) []:=
  fnd_same fun x vs hd=>by
    cases hd with | cons d1 hd=>
    cases hd
    rw[D_int d1]
    exact ⟨_,Any.bits_Len64 laysL n x.w h0 (by omega),⟨rfl,0,rfl⟩⟩
def lenSpec:FnSpec
  | [.v (.c (.int .u64 n))]=>some ([0≤n,n<18446744073709551616],.v (.c (.int .i64 (Lib.bitLen n.toNat:Nat))),[])
  | _=>none
noncomputable def qeH1:Env:=qeG.set (addT qeG.fn 69 lenSpec)
theorem qeH1_ok:EnvOk Try.prog qeH1:=env_add qeG_ok 69 lenSpec (enters_of Try.func69 rfl rfl) fun args o r es h ho=>by
  unfold lenSpec at h
  split at h
  · cases h;exact len64_fnd _ ho.1 ho.2.1
  · cases h
--@env qeH1 qeH1_ok
theorem ct (l:List Int):fnRes qeH1 Try.f68 3000 [.v (.c (.sl (.u64 l)))] [] [] []=(some ([((0:Int)≤(ite ((16:Int)<(((List.length l):Nat):Int)) (16:Int) (((List.length l):Nat):Int))),((ite ((16:Int)<(((List.length l):Nat):Int)) (16:Int) (((List.length l):Nat):Int))≤(ite ((16:Int)<(((List.length l):Nat):Int)) (16:Int) (((List.length l):Nat):Int))),((ite ((16:Int)<(((List.length l):Nat):Int)) (16:Int) (((List.length l):Nat):Int))≤(((List.length l):Nat):Int))],((.v (.c (.sl (.u64 (List.take ((ite ((16:Int)<(((List.length l):Nat):Int)) (16:Int) (((List.length l):Nat):Int))).toNat (List.drop 0 l)))))),[]))):=by kernel_rfl

theorem cut_fnd (l:List Int) (hl:l.length≤16):FnD Try.prog 68 [.v (.c (.sl (.u64 l)))] (.v (.c (.sl (.u64 l)))) []:=by
  have r:=ct l
  have e:(if (16:Int)<((l.length:Nat):Int) then (16:Int) else ((l.length:Nat):Int))=((l.length:Nat):Int):=if_neg (by omega)
  rw[e,Int.toNat_natCast,List.drop_zero,List.take_length] at r
  exact fn_sound qeH1_ok Try.func68 r ⟨by omega,Int.le_refl _,Int.le_refl _,trivial⟩
def cutSpec:FnSpec
  | [.v (.c (.sl (.u64 l)))]=>some ([l.length≤16],.v (.c (.sl (.u64 l))),[])
  | _=>none
noncomputable def qeH2:Env:=qeH1.set (addT qeH1.fn 68 cutSpec)
theorem qeH2_ok:EnvOk Try.prog qeH2:=env_add qeH1_ok 68 cutSpec (enters_of Try.func68 rfl rfl) fun args o r es h ho=>by
  unfold cutSpec at h
  split at h
  · cases h;exact cut_fnd _ ho.1
  · cases h
--@env qeH2 qeH2_ok
noncomputable def nbIn_k:List KI:=(run qeH2 false 3000 ((fun (l:List Int)=>(⟨[.code (bodyOf Try.f67)],.normal,initSt Try.f67.ntmps [.v (.c (.sl (.u64 l)))]⟩:Cfg)) default) []).cfg.k
theorem nbIn_hk (l:List Int):(run qeH2 false 3000 ((⟨[.code (bodyOf Try.f67)],.normal,initSt Try.f67.ntmps [.v (.c (.sl (.u64 l)))]⟩:Cfg)) []).cfg.k=nbIn_k:=by kernel_rfl
theorem nbIn (l:List Int) (ho:AllP [((List.length l)≤16)]) (hs:Sim w0 F0 K ac (initSt Try.f67.ntmps [.v (.c (.sl (.u64 l)))]) cX aX) (hK:∀ac cY aY,Sim w0 F0 K ac (mkSt 26 [0,3] [(.v (.c (.sl (.u64 l)))),(.ii (IntKind.wrap .i64 ((((List.length l):Nat):Int)-(1:Int))))] [] [] 144 [] []) cY aY→Wq Try.prog Q (nbIn_k) ac Exit.normal aY cY.w):Wq Try.prog Q ([.code (bodyOf Try.f67)]) ac .normal aX cX.w:=
  run_at2 (o:=⟨_,_,_,_,_,_,_⟩) qeH2_ok (by kernel_rfl) (nbIn_hk l) ho hs hK
noncomputable def nbS (l:List Int) (i:Int):St:=mkSt 26 [0,3] [(.v (.c (.sl (.u64 l)))),.v (.c (.int .i64 i))] [] [] 144 [] []
theorem nbN_hk (l:List Int) (i:Int):(run qeH2 false 3000 ((⟨lpIn nbIn_k,.normal,nbS l i⟩:Cfg)) [true,false]).cfg.k=lpBk nbIn_k:=by kernel_rfl
theorem nbN (l:List Int) (i:Int) (ho:AllP [((decide (i ≥ (0:Int)))=true),((0:Int)≤i),(i<(((List.length l):Nat):Int)),(((List.getD l (i).toNat (0:Int)) != (0:Int))=false)]) (hs:Sim w0 F0 K ac (nbS l i) cX aX) (hK:∀ac cY aY,Sim w0 F0 K ac (mkSt 26 [0,3] [(.v (.c (.sl (.u64 l)))),(.ii (IntKind.wrap .i64 (i-(1:Int))))] [] [] 304 [] []) cY aY→Wq Try.prog Q (lpBk nbIn_k) ac Exit.normal aY cY.w):Wq Try.prog Q (lpIn nbIn_k) ac .normal aX cX.w:=
  run_at2 (o:=⟨_,_,_,_,_,_,_⟩) qeH2_ok (by kernel_rfl) (nbN_hk l i) ho hs hK
theorem nbY_end (l:List Int) (i:Int):runEnd qeH2 Try.f67 false 3000 (⟨lpIn nbIn_k,.normal,nbS l i⟩) [true,true] [] []=(some ([((decide (i ≥ (0:Int)))=true),((0:Int)≤i),(i<(((List.length l):Nat):Int)),(((List.getD l (i).toNat (0:Int)) != (0:Int))=true),((0:Int)≤i),(i<(((List.length l):Nat):Int)),((0:Int)≤(List.getD l (i).toNat (0:Int))),((List.getD l (i).toNat (0:Int))<(18446744073709551616:Int))],((.ii (IntKind.wrap .i64 ((IntKind.wrap .i64 ((64:Int)*i))+(((Lib.bitLen ((List.getD l (i).toNat (0:Int))).toNat):Nat):Int)))),[]))):=by kernel_rfl
theorem nbX_end (l:List Int) (i:Int):runEnd qeH2 Try.f67 false 3000 (⟨lpIn nbIn_k,.normal,nbS l i⟩) [false] [] []=(some ([((decide (i ≥ (0:Int)))=false)],((.ii (0:Int)),[]))):=by kernel_rfl
theorem bits_fnd (l:List Int) (hl:l.length≤16) (hlim:lims l):FnD Try.prog 67 [.v (.c (.sl (.u64 l)))] (.v (.c (.int .i64 (bitsC l l.length:Nat)))) []:=by
  refine fn_start (fn:=Try.f67) (c:=bodyOf Try.f67) Try.func67 rfl rfl fun x a hk hF hs=>?_
  refine nbIn l ⟨hl,trivial⟩ hs fun ac cY aY hs1=>?_
  rw[wrap_id (by omega) (by omega)] at hs1
  refine loop_rule (ι:={ n:Nat // n≤l.length∧bitsC l n=bitsC l l.length }) (fun n=>nbS l ((n.1:Int)-1)) (fun n=>n.1) (c:=lpC nbIn_k) (k:=lpR nbIn_k) (by kernel_rfl) (fun n ih ac cY aY hs=>?_) ⟨l.length,Nat.le_refl _,rfl⟩ (hs1.nx _)
  obtain ⟨n,hn,he⟩:=n
  simp only at ih hs
  cases n with
  | zero=>
    rw[←he]
    exact run_end2 qeH2_ok hk hF (nbX_end l _) ⟨by simp,trivial⟩ (fun y v hd=>hd) hs
  | succ n=>
    have e1:((n+1:Nat):Int)-1=(n:Int):=by omega
    rw[e1] at hs
    have hg:=lims_get hlim n
    by_cases h0:l.getD n 0=0
    · refine nbN l _ ⟨by simp,by omega,by omega,by rw[Int.toNat_natCast,h0];rfl,trivial⟩ hs fun ac cZ aZ hs2=>?_
      rw[wrap_id (by omega) (by omega)] at hs2
      refine ih ⟨n,by omega,?_⟩ (Nat.lt_succ_self n) ac cZ aZ (hs2.nx _)
      rw[←he]
      show _=if l.getD n 0≠0 then _ else bitsC l n
      rw[if_neg (by simpa using h0)]
    · have r:=nbY_end l (n:Int)
      have hb:bitsC l l.length=64*n+Lib.bitLen (l.getD n 0).toNat:=by
        rw[←he]
        show (if l.getD n 0≠0 then _ else bitsC l n)=_
        rw[if_pos h0]
      have hle:=bitLen_le (l.getD n 0).toNat
      rw[Int.toNat_natCast] at r
      have e2:IntKind.wrap IntKind.i64 (IntKind.wrap IntKind.i64 ((64:Int)*(n:Int))+((Lib.bitLen (l.getD n 0).toNat:Nat):Int))=((bitsC l l.length:Nat):Int):=by
        rw[hb]
        generalize Lib.bitLen (l.getD n 0).toNat=B at *
        rw[wrap_id (n:=(64:Int)*(n:Int)) (by omega) (by omega),wrap_id (by omega) (by omega)]
        omega
      rw[e2] at r
      have hne:(l.getD n 0 != (0:Int))=true:=by simpa using h0
      exact run_end2 qeH2_ok hk hF r ⟨by simp,by omega,by omega,hne,by omega,by omega,hg.1,hg.2,trivial⟩ (fun y v hd=>hd) hs
def bitsSpec:FnSpec
  | [.v (.c (.sl (.u64 l)))]=>some ([l.length≤16,lims l],.v (.c (.int .i64 (bitsC l l.length:Nat))),[])
  | _=>none
noncomputable def qeH:Env:=qeH2.set (addT qeH2.fn 67 bitsSpec)
theorem qeH_ok:EnvOk Try.prog qeH:=env_add qeH2_ok 67 bitsSpec (enters_of Try.func67 rfl rfl) fun args o r es h ho=>by
  unfold bitsSpec at h
  split at h
  · cases h;exact bits_fnd _ ho.1 ho.2.1
  · cases h
--@env qeH qeH_ok
noncomputable def bt_k:List KI:=(run qeH false 3000 ((fun (l:Nat) (v:Value)=>(⟨[.code (bodyOf Try.f66)],.normal,⟨argT [.v (.c (.val (.func (.yield l) #[] #[]))),.v (.c (.ptr 0 0))],one (.fl [.val v]),Try.f66.ntmps,16,[]⟩⟩:Cfg)) default default) []).cfg.k
theorem bt_hk (l:Nat) (v:Value):(run qeH false 3000 ((⟨[.code (bodyOf Try.f66)],.normal,⟨argT [.v (.c (.val (.func (.yield l) #[] #[]))),.v (.c (.ptr 0 0))],one (.fl [.val v]),Try.f66.ntmps,16,[]⟩⟩:Cfg)) []).cfg.k=bt_k:=by kernel_rfl
theorem bt (l:Nat) (v:Value) (ho:AllP []) (hs:Sim w0 F0 K ac (⟨argT [.v (.c (.val (.func (.yield l) #[] #[]))),.v (.c (.ptr 0 0))],one (.fl [.val v]),Try.f66.ntmps,16,[]⟩) cX aX) (hK:∀ac cY aY,Sim w0 F0 K ac (mkSt 24 [0,1,4] [(.v (.c (.val (Value.func (Fn.yield l) (Array.mk ([]:List Value)) (Array.mk ([]:List Value)))))),.pt 0 0,(.v (.c (.val v)))] [0] [(some (.fl [(.val v)]))] 32 [] []) cY aY→Wq Try.prog Q (bt_k) ac Exit.normal aY cY.w):Wq Try.prog Q ([.code (bodyOf Try.f66)]) ac .normal aX cX.w:=
  run_at2 (o:=⟨_,_,_,_,_,_,_⟩) qeH_ok (by kernel_rfl) (bt_hk l v) ho hs hK
noncomputable def btA (l:Nat) (v:Value) (e:List Int):St:=mkSt 24 [0,1,4] [(.v (.c (.val (Value.func (Fn.yield l) (Array.mk ([]:List Value)) (Array.mk ([]:List Value)))))),.pt 0 0,.v (.c (.sl (.u64 e)))] [0] [(some (.fl [(.val v)]))] 32 [] []
noncomputable def bu_k:List KI:=(run qeH false 3000 ((fun (l:Nat) (v:Value) (e:List Int)=>(⟨bt_k,.normal,btA l v e⟩:Cfg)) default default default) []).cfg.k
theorem bu_hk (l:Nat) (v:Value) (e:List Int):(run qeH false 3000 ((⟨bt_k,.normal,btA l v e⟩:Cfg)) []).cfg.k=bu_k:=by kernel_rfl
theorem bu (l:Nat) (v:Value) (e:List Int) (ho:AllP [((List.length e)≤16),(lims e)]) (hs:Sim w0 F0 K ac (btA l v e) cX aX) (hK:∀ac cY aY,Sim w0 F0 K ac (mkSt 24 [0,1,3] [(.v (.c (.val (Value.func (Fn.yield l) (Array.mk ([]:List Value)) (Array.mk ([]:List Value)))))),.pt 0 0,(.ii (IntKind.wrap .i64 ((((bitsC e (List.length e)):Nat):Int)-(1:Int))))] [0] [(some (.fl [(.val v)]))] 80 [] []) cY aY→Wq Try.prog Q (bu_k) ac Exit.normal aY cY.w):Wq Try.prog Q (bt_k) ac .normal aX cX.w:=
  run_at2 (o:=⟨_,_,_,_,_,_,_⟩) qeH_ok (by kernel_rfl) (bu_hk l v e) ho hs hK
noncomputable def buS (l:Nat) (v:Value) (i:Int):St:=mkSt 24 [0,1,3] [(.v (.c (.val (Value.func (Fn.yield l) (Array.mk ([]:List Value)) (Array.mk ([]:List Value)))))),.pt 0 0,.v (.c (.int .i64 i))] [0] [(some (.fl [(.val v)]))] 80 [] []
noncomputable def bv_k:List KI:=(run qeH false 3000 ((fun (l:Nat) (v:Value) (i:Int)=>(⟨lpIn bu_k,.normal,buS l v i⟩:Cfg)) default default default) [true]).cfg.k
theorem bv_hk (l:Nat) (v:Value) (i:Int):(run qeH false 3000 ((⟨lpIn bu_k,.normal,buS l v i⟩:Cfg)) [true]).cfg.k=bv_k:=by kernel_rfl
theorem bv (l:Nat) (v:Value) (i:Int) (ho:AllP [((decide (i ≥ (0:Int)))=true),((64:Int)≠(0:Int))]) (hs:Sim w0 F0 K ac (buS l v i) cX aX) (hK:∀ac cY aY,Sim w0 F0 K ac (mkSt 24 [0,1,3,11,12,14] [(.v (.c (.val (Value.func (Fn.yield l) (Array.mk ([]:List Value)) (Array.mk ([]:List Value)))))),.pt 0 0,.ii i,(.v (.c (.val (Value.func (Fn.yield l) (Array.mk ([]:List Value)) (Array.mk ([]:List Value)))))),(.v (.c (.val v))),(.ii (IntKind.wrap .i64 (Int.tdiv i (64:Int))))] [0] [(some (.fl [(.val v)]))] 176 [] []) cY aY→Wq Try.prog Q (bv_k) ac Exit.normal aY cY.w):Wq Try.prog Q (lpIn bu_k) ac .normal aX cX.w:=
  run_at2 (o:=⟨_,_,_,_,_,_,_⟩) qeH_ok (by kernel_rfl) (bv_hk l v i) ho hs hK
noncomputable def bvA (l:Nat) (v:Value) (e:List Int) (i:Int):St:=mkSt 24 [0,1,3,11,12,14] [(.v (.c (.val (Value.func (Fn.yield l) (Array.mk ([]:List Value)) (Array.mk ([]:List Value)))))),.pt 0 0,.ii i,(.v (.c (.val (Value.func (Fn.yield l) (Array.mk ([]:List Value)) (Array.mk ([]:List Value)))))),.v (.c (.sl (.u64 e))),(.ii (IntKind.wrap .i64 (Int.tdiv i (64:Int))))] [0] [(some (.fl [(.val v)]))] 176 [] []
noncomputable def bw_k:List KI:=(run qeH false 3000 ((fun (l:Nat) (v:Value) (e:List Int) (i:Int)=>(⟨bv_k,.normal,bvA l v e i⟩:Cfg)) default default default default) []).cfg.k
theorem bw_hk (l:Nat) (v:Value) (e:List Int) (i:Int):(run qeH false 3000 ((⟨bv_k,.normal,bvA l v e i⟩:Cfg)) []).cfg.k=bw_k:=by kernel_rfl
theorem bw (l:Nat) (v:Value) (e:List Int) (i:Int) (ho:AllP [((0:Int)≤(IntKind.wrap .i64 (Int.tdiv i (64:Int)))),((IntKind.wrap .i64 (Int.tdiv i (64:Int)))<(((List.length e):Nat):Int)),((64:Int)≠(0:Int)),((0:Int)≤(Int.tmod i (64:Int)))]) (hs:Sim w0 F0 K ac (bvA l v e i) cX aX) (hK:∀ac cY aY,Sim w0 F0 K ac (mkSt 24 [0,1,3,11,21] [(.v (.c (.val (Value.func (Fn.yield l) (Array.mk ([]:List Value)) (Array.mk ([]:List Value)))))),.pt 0 0,.ii i,(.v (.c (.val (Value.func (Fn.yield l) (Array.mk ([]:List Value)) (Array.mk ([]:List Value)))))),(.v (.c (.bool ((bitsOp BinOp.and IntKind.u64 (Int.fdiv (List.getD e ((IntKind.wrap .i64 (Int.tdiv i (64:Int)))).toNat (0:Int)) ((2:Int) ^ (Min.min ((Int.tmod i (64:Int))).toNat 64))) (1:Int)) == (1:Int)))))] [0] [(some (.fl [(.val v)]))] 288 [] []) cY aY→Wq Try.prog Q (bw_k) ac Exit.normal aY cY.w):Wq Try.prog Q (bv_k) ac .normal aX cX.w:=
  run_at2 (o:=⟨_,_,_,_,_,_,_⟩) qeH_ok (by kernel_rfl) (bw_hk l v e i) ho hs hK
theorem bX_hk (l:Nat) (v:Value) (i:Int):(run qeH false 3000 ((⟨lpIn bu_k,.normal,buS l v i⟩:Cfg)) [false]).cfg.k=[]:=by kernel_rfl
theorem bX (l:Nat) (v:Value) (i:Int) (ho:AllP [((decide (i ≥ (0:Int)))=false)]) (hs:Sim w0 F0 K ac (buS l v i) cX aX) (hK:∀ac cY aY,Sim w0 F0 K ac (mkSt 24 [] [] [0] [(some (.fl [(.val v)]))] 112 [] []) cY aY→Wq Try.prog Q ([]) ac Exit.normal aY cY.w):Wq Try.prog Q (lpIn bu_k) ac .normal aX cX.w:=
  run_at2 (o:=⟨_,_,_,_,_,_,_⟩) qeH_ok (by kernel_rfl) (bX_hk l v i) ho hs hK
theorem bB_hk (l:Nat) (v:Value) (i:Int) (b:Bool):(run qeH false 3000 ((⟨opsNext bw_k,.normal,⟨setT (look .top [0,1,3,11,21] [(.v (.c (.val (.func (.yield l) #[] #[])))),.v (.c (.ptr 0 0)),.v (.c (.int .i64 i)),(.v (.c (.val (.func (.yield l) #[] #[])))),.v (.c (.bool b))]) 22 (.v (.c (.lit true))),one (.fl [.val v]),24,400,[]⟩⟩:Cfg)) []).cfg.k=lpBk bu_k:=by kernel_rfl
theorem bB (l:Nat) (v:Value) (i:Int) (b:Bool) (ho:AllP []) (hs:Sim w0 F0 K ac (⟨setT (look .top [0,1,3,11,21] [(.v (.c (.val (.func (.yield l) #[] #[])))),.v (.c (.ptr 0 0)),.v (.c (.int .i64 i)),(.v (.c (.val (.func (.yield l) #[] #[])))),.v (.c (.bool b))]) 22 (.v (.c (.lit true))),one (.fl [.val v]),24,400,[]⟩) cX aX) (hK:∀ac cY aY,Sim w0 F0 K ac (mkSt 24 [0,1,3] [(.v (.c (.val (Value.func (Fn.yield l) (Array.mk ([]:List Value)) (Array.mk ([]:List Value)))))),.pt 0 0,(.ii (IntKind.wrap .i64 (i-(1:Int))))] [0] [(some (.fl [(.val v)]))] 464 [] []) cY aY→Wq Try.prog Q (lpBk bu_k) ac Exit.normal aY cY.w):Wq Try.prog Q (opsNext bw_k) ac .normal aX cX.w:=
  run_at2 (o:=⟨_,_,_,_,_,_,_⟩) qeH_ok (by kernel_rfl) (bB_hk l v i b) ho hs hK

theorem meth41_Times (v : Value) (w : World) : (method (Try.prog.types.size + Made.depth) 41 v "Times").run Try.prog w = .ok (28, v) w := by kernel_rfl
theorem meth41_Plus (v : Value) (w : World) : (method (Try.prog.types.size + Made.depth) 41 v "Plus").run Try.prog w = .ok (29, v) w := by kernel_rfl
theorem meth41_Minus (v : Value) (w : World) : (method (Try.prog.types.size + Made.depth) 41 v "Minus").run Try.prog w = .ok (44, v) w := by kernel_rfl
theorem meth41_IsZero (v : Value) (w : World) : (method (Try.prog.types.size + Made.depth) 41 v "IsZero").run Try.prog w = .ok (62, v) w := by kernel_rfl
theorem meth41_Negative (v : Value) (w : World) : (method (Try.prog.types.size + Made.depth) 41 v "Negative").run Try.prog w = .ok (63, v) w := by kernel_rfl
theorem meth41_Inverse (v : Value) (w : World) : (method (Try.prog.types.size + Made.depth) 41 v "Inverse").run Try.prog w = .ok (61, v) w := by kernel_rfl
noncomputable def invP (t : Nat) : Option (List (String × Nat)) := if t = 41 then some [("Times", 28), ("Plus", 29), ("Minus", 44), ("IsZero", 62), ("Negative", 63), ("Inverse", 61)] else none
noncomputable def qeI:Env:={ qeH with inv:=invP }
theorem qeI_ok:EnvOk Try.prog qeI:=by
  refine ⟨qeH_ok.ty,qeH_ok.mixed,qeH_ok.fn,qeH_ok.mu,qeH_ok.inl,qeH_ok.ex,fun t l h=>?_⟩
  have h:invP t=some l:=h
  unfold invP at h
  split at h
  · rename_i ht
    cases h
    subst ht
    refine ⟨by kernel_rfl,fun name g hg v args w=>?_⟩
    unfold lookM at hg
    split at hg
    · rename_i hn
      cases hg
      subst hn
      simp only[callMethod,Sem.run_bind,run_program,Result.andThen_ok,meth41_Times]
    unfold lookM at hg
    split at hg
    · rename_i hn
      cases hg
      subst hn
      simp only[callMethod,Sem.run_bind,run_program,Result.andThen_ok,meth41_Plus]
    unfold lookM at hg
    split at hg
    · rename_i hn
      cases hg
      subst hn
      simp only[callMethod,Sem.run_bind,run_program,Result.andThen_ok,meth41_Minus]
    unfold lookM at hg
    split at hg
    · rename_i hn
      cases hg
      subst hn
      simp only[callMethod,Sem.run_bind,run_program,Result.andThen_ok,meth41_IsZero]
    unfold lookM at hg
    split at hg
    · rename_i hn
      cases hg
      subst hn
      simp only[callMethod,Sem.run_bind,run_program,Result.andThen_ok,meth41_Negative]
    unfold lookM at hg
    split at hg
    · rename_i hn
      cases hg
      subst hn
      simp only[callMethod,Sem.run_bind,run_program,Result.andThen_ok,meth41_Inverse]
    cases hg
  · cases h
--@env qeI qeI_ok
noncomputable def qp_k:List KI:=(run qeI false 3000 ((fun (a:Fp) (e:List Int)=>(⟨[.code (bodyOf Try.f64)],.normal,initSt Try.f64.ntmps [.v (.a [.ob (.p a)]),.v (.a [.ob (.p 1)]),.v (.c (.sl (.u64 e)))]⟩:Cfg)) default default) []).cfg.k
theorem qp_hk (a:Fp) (e:List Int):(run qeI false 3000 ((⟨[.code (bodyOf Try.f64)],.normal,initSt Try.f64.ntmps [.v (.a [.ob (.p a)]),.v (.a [.ob (.p 1)]),.v (.c (.sl (.u64 e)))]⟩:Cfg)) []).cfg.k=qp_k:=by kernel_rfl
theorem qp (a:Fp) (e:List Int) (ho:AllP []) (hs:Sim w0 F0 K ac (initSt Try.f64.ntmps [.v (.a [.ob (.p a)]),.v (.a [.ob (.p 1)]),.v (.c (.sl (.u64 e)))]) cX aX) (hK:∀ac cY aY,Sim w0 F0 K ac (mkSt 23 [3,6,7,11] [.pt 16 0,.pt 48 0,.pt 80 0,(.v (.c (.clo 66 [(128,0)])))] [16,48,80,128] [(some (.fl [.ob (.p a)])),(some (.fl [(.ob (.p (0:Fp)))])),(some (.fl [(.ob (.p (1:Fp)))])),(some (.fl [.sl (.u64 e)]))] 192 [] []) cY aY→Wq Try.prog Q (qp_k) ac Exit.normal aY cY.w):Wq Try.prog Q ([.code (bodyOf Try.f64)]) ac .normal aX cX.w:=
  run_at2 (o:=⟨_,_,_,_,_,_,_⟩) qeI_ok (by kernel_rfl) (qp_hk a e) ho hs hK
noncomputable def qpS (a:Fp) (e:List Int) (o:Fp):St:=mkSt 23 [3,6,7,11] [.pt 16 0,.pt 48 0,.pt 80 0,(.v (.c (.clo 66 [(128,0)])))] [16,48,80,128] [(some (.fl [.ob (.p a)])),(some (.fl [(.ob (.p (0:Fp)))])),some (.fl [.ob (.p o)]),(some (.fl [.sl (.u64 e)]))] 192 [] []
theorem qpA_hk (a:Fp) (e:List Int) (o:Fp) (z:Bool):(run qeI false 3000 ((⟨[.code (rfA qp_k)],.normal,roundSt (qpS a e o) [(12,.v (.c (.bool z)))]⟩:Cfg)) []).cfg.k=[]:=by kernel_rfl
theorem qpA (a:Fp) (e:List Int) (o:Fp) (z:Bool) {ρ:Option Nat} (ho:AllP []) (hs:Sim w0 F0 K ac (roundSt (qpS a e o) [(12,.v (.c (.bool z)))]) cX aX) (hK:∀cY aY,Sim w0 F0 K ac (mkSt 23 [3,6,7,8] [.pt 16 0,.pt 48 0,.pt 80 0,(.v (.c (.bool z)))] [16,48,80,128] [(some (.fl [.ob (.p a)])),(some (.fl [(.ob (.p (0:Fp)))])),(some (.fl [.ob (.p o)])),(some (.fl [.sl (.u64 e)]))] 208 [[3,6,7,11]] [([.pt 16 0,.pt 48 0,.pt 80 0,(.v (.c (.clo 66 [(128,0)])))],23)]) cY aY→Wq Try.prog Q ([]) ac Exit.normal aY cY.w ρ):Wq Try.prog Q ([.code (rfA qp_k)]) ac .normal aX cX.w ρ :=
  run_atT (o:=⟨_,_,_,_,_,_,_⟩) qeI_ok (by kernel_rfl) (qpA_hk a e o z) ho (by kernel_rfl) (by kernel_rfl) hs hK
noncomputable def qpB (a:Fp) (e:List Int) (o:Fp) (z:Bool):St:=mkSt 23 [3,6,7,8] [.pt 16 0,.pt 48 0,.pt 80 0,(.v (.c (.bool z)))] [16,48,80,128] [(some (.fl [.ob (.p a)])),(some (.fl [(.ob (.p (0:Fp)))])),some (.fl [.ob (.p o)]),(some (.fl [.sl (.u64 e)]))] 208 [[3,6,7,11]] [([.pt 16 0,.pt 48 0,.pt 80 0,(.v (.c (.clo 66 [(128,0)])))],23)]
theorem qpC_hk (a:Fp) (e:List Int) (o:Fp) (z:Bool):(run qeI false 3000 ((⟨[.code (rfB qp_k)],.normal,qpB a e o z⟩:Cfg)) [true]).cfg.k=[]:=by kernel_rfl
theorem qpC (a:Fp) (e:List Int) (o:Fp) (z:Bool) {ρ:Option Nat} (ho:AllP [(z=true)]) (hs:Sim w0 F0 K ac (qpB a e o z) cX aX) (hK:∀cY aY,Sim w0 F0 K ac (mkSt 23 [6] [.pt 48 0] [16,48,80,128] [(some (.fl [.ob (.p a)])),(some (.fl [(.ob (.p (0:Fp)))])),(some (.fl [(.ob (.p ((o*o)*a)))])),(some (.fl [.sl (.u64 e)]))] 384 [[3,6,7,11]] [([.pt 16 0,.pt 48 0,.pt 80 0,(.v (.c (.clo 66 [(128,0)])))],23)]) cY aY→Wq Try.prog Q ([]) ac Exit.normal aY cY.w ρ):Wq Try.prog Q ([.code (rfB qp_k)]) ac .normal aX cX.w ρ :=
  run_atT (o:=⟨_,_,_,_,_,_,_⟩) qeI_ok (by kernel_rfl) (qpC_hk a e o z) ho (by kernel_rfl) (by kernel_rfl) hs hK
theorem qpD_hk (a:Fp) (e:List Int) (o:Fp) (z:Bool):(run qeI false 3000 ((⟨[.code (rfB qp_k)],.normal,qpB a e o z⟩:Cfg)) [false]).cfg.k=[]:=by kernel_rfl
theorem qpD (a:Fp) (e:List Int) (o:Fp) (z:Bool) {ρ:Option Nat} (ho:AllP [(z=false)]) (hs:Sim w0 F0 K ac (qpB a e o z) cX aX) (hK:∀cY aY,Sim w0 F0 K ac (mkSt 23 [6] [.pt 48 0] [16,48,80,128] [(some (.fl [.ob (.p a)])),(some (.fl [(.ob (.p (0:Fp)))])),(some (.fl [(.ob (.p (o*o)))])),(some (.fl [.sl (.u64 e)]))] 304 [[3,6,7,11]] [([.pt 16 0,.pt 48 0,.pt 80 0,(.v (.c (.clo 66 [(128,0)])))],23)]) cY aY→Wq Try.prog Q ([]) ac Exit.normal aY cY.w ρ):Wq Try.prog Q ([.code (rfB qp_k)]) ac .normal aX cX.w ρ :=
  run_atT (o:=⟨_,_,_,_,_,_,_⟩) qeI_ok (by kernel_rfl) (qpD_hk a e o z) ho (by kernel_rfl) (by kernel_rfl) hs hK
theorem qpX_hk (a:Fp) (e:List Int) (o:Fp):(run qeI false 3000 ((⟨rfR qp_k,.normal,qpS a e o⟩:Cfg)) []).cfg.k=[]:=by kernel_rfl
theorem qpX (a:Fp) (e:List Int) (o:Fp) (ho:AllP []) (hs:Sim w0 F0 K ac (qpS a e o) cX aX) (hK:∀ac cY aY,Sim w0 F0 K ac (mkSt 23 [6] [.pt 48 0] [48] [(some (.fl [.ob (.p o)]))] 224 [] []) cY aY→Wq Try.prog Q ([]) ac Exit.ret aY cY.w):Wq Try.prog Q (rfR qp_k) ac .normal aX cX.w:=
  run_at2 (o:=⟨_,_,_,_,_,_,_⟩) qeI_ok (by kernel_rfl) (qpX_hk a e o) ho hs hK
noncomputable def qpE (a:Fp) (e:List Int) (o:Fp):St:=mkSt 23 [6] [.pt 48 0] [16,48,80,128] [(some (.fl [.ob (.p a)])),(some (.fl [(.ob (.p (0:Fp)))])),some (.fl [.ob (.p o)]),(some (.fl [.sl (.u64 e)]))] 384 [[3,6,7,11]] [([.pt 16 0,.pt 48 0,.pt 80 0,(.v (.c (.clo 66 [(128,0)])))],23)]
noncomputable def qpZ (o:Fp):St:=mkSt 23 [6] [.pt 48 0] [48] [some (.fl [.ob (.p o)])] 224 [] []
theorem qpR_end (o:Fp):runEnd qeI Try.f64 false 3000 (⟨[],.ret,qpZ o⟩) [] [] []=(some ([],((.v (.a [.ob (.p o)])),[]))):=by kernel_rfl
end
end Go.Proofs.Ytdaligcdaalnmaa

/- Bits handed on; powers of an element. No conditions. -/
namespace Go.Proofs.Ytdaligcdaalnmaa

theorem and1 {m:Nat}:bitsOp BinOp.and IntKind.u64 (m:Int) (1:Int)=((m % 2:Nat):Int):=by
  show IntKind.wrap IntKind.u64 ((BitVec.ofInt 64 (m:Int) &&& BitVec.ofInt 64 ((1:Nat):Int)).toNat:Int)=_
  rw[BitVec.ofInt_natCast,BitVec.ofInt_natCast,BitVec.toNat_and,BitVec.toNat_ofNat,BitVec.toNat_ofNat]
  have e:1 % 2 ^ 64=2 ^ 1-1:=by decide
  rw[e,Nat.and_two_pow_sub_one_eq_mod,wrap_u64]
  omega

theorem bit_expr {e:List Int} (h:lims e) {i:Nat} (hi:i<1024):(bitsOp BinOp.and IntKind.u64 (Int.fdiv (List.getD e (IntKind.wrap IntKind.i64 (Int.tdiv (i:Int) (64:Int))).toNat (0:Int)) ((2:Int) ^ (Min.min (Int.tmod (i:Int) (64:Int)).toNat 64))) (1:Int) == (1:Int))=decide (numL e / 2 ^ i % 2=1):=by
  have e1:Int.tdiv (i:Int) (64:Int)=((i / 64:Nat):Int):=Int.tdiv_eq_ediv_of_nonneg (by omega)
  have e2:Int.tmod (i:Int) (64:Int)=((i % 64:Nat):Int):=Int.tmod_eq_emod_of_nonneg (by omega)
  have e3:Min.min (((i % 64:Nat):Int)).toNat 64=i % 64:=by omega
  have hg:=lims_get h (i / 64)
  rw[e1,wrap_id (by omega) (by omega),Int.toNat_natCast,e2,e3,numL_bit h i]
  obtain ⟨g,hg2⟩:=Int.eq_ofNat_of_zero_le hg.1
  have hp:((2:Int) ^ (i % 64))=((2 ^ (i % 64):Nat):Int):=by simp
  rw[hg2,hp,Int.fdiv_eq_ediv_of_nonneg _ (Int.natCast_nonneg _),←Int.natCast_ediv,and1,Int.toNat_natCast]
  generalize g / 2 ^ (i % 64)=m
  by_cases hm:m % 2=1
  · rw[hm];rfl
  · have:m % 2=0:=by omega
    rw[this];rfl

def btEnc (z:Bool):List Value:=[.bool z]

theorem bits_iter {x:Ctx} {p:Nat} {e:List Int} {M:List Bool→Nat→Option En} (hl:e.length≤16) (hlim:lims e) (hM:∀s,M s p=some (.fl [.sl (.u64 e)])) :
    IterC Try.prog x 66 [(p,0)] btEnc (btL (numL e) (bitsC e e.length) (bitsC e e.length)) M:=by
  intro l J W hgrow hread hyield hJ
  have hcl:=bitsC_le e e.length
  generalize hc:bitsC e e.length=c at *
  generalize hN:numL e=N at *
  have key:Wq Try.prog (bodyPost Try.prog Try.f66 fun e' W' => (∃v,e' = Ending.returned v)∧J (btL N c c) W') [.code (bodyOf Try.f66)] [] .normal { tmps:=[Value.func (.yield l) #[] #[],.pointer (some ⟨x.β p,0,none⟩)].toArray++Array.replicate 22 undef,defers:=[] } W:=?_
  · exact calls_of_wp (c:=bodyOf Try.f66) Try.func66 rfl ((wpIn_wide (n:=0)).1 key.wp)
  obtain ⟨y,rfl,hm,hcp⟩:=hread [] W hJ
  obtain ⟨hr,hβ⟩:=hcp (p,0) List.mem_cons_self
  have hr:y.k p = .real:=hr
  have hβ:y.β p=x.β p:=hβ
  have hargs:denSs (itCtx y p) [.v (.c (.val (.func (.yield l) #[] #[]))),.v (.c (.ptr 0 0))] [.func (.yield l) #[] #[],.pointer (some ⟨x.β p,0,none⟩)]:=
    .cons ⟨rfl,0,rfl,rfl⟩ (.cons ⟨rfl,0,rfl,by show _=[Value.pointer (some ⟨y.β p,0,none⟩)];rw[hβ]⟩ .nil)
  obtain ⟨v,hv,hbox⟩:=box_sl hm (hM []) hr
  have hs:=it_sim (nx:=16) (nt:=24) (a:={ tmps:=[Value.func (.yield l) #[] #[],.pointer (some ⟨x.β p,0,none⟩)].toArray++Array.replicate 22 undef,defers:=[] }) hm (hM []) hr hbox rfl (by simp) (argT_den hargs 22)
  change Wq Try.prog _ _ _ _ _ (itCtx y p).w
  refine bt l v trivial hs fun ac cY aY hs1=>?_
  have hmb:Mem (itCtx y p) (one (.fl [.val v])):=it_mem hm (hM _) hr hbox
  obtain ⟨hg1,_,_⟩:=it_back hmb rfl hs1 rfl
  have hsl:cY.D (.sl (.u64 e)) [v]:=data_grow hg1 (fun b hb=>hs1.base.f0 b hb) hm.fw rfl hv
  have hs2:=hs1.slots (svs' := [.v (.c (.val (.func (.yield l) #[] #[]))),.v (.c (.ptr 0 0)),.v (.c (.sl (.u64 e)))]) ⟨fun _ h=>h,fun _ h=>h,conv_val rfl hsl,trivial⟩
  refine bu l v e ⟨hl,hlim,trivial⟩ hs2 fun ac cZ aZ hs3=>?_
  rw[hc,wrap_id (by omega) (by omega)] at hs3
  let I:{ t:Nat // t≤c } → List Act→Act→World→Prop:=fun t ac a w=>∃y z v,z.w=w∧y.k p = .real∧y.β p=x.β p∧Mem y (M (btL N c t.1))∧J (btL N c t.1) y.w∧y.D (.sl (.u64 e)) [v]∧Mem (itCtx y p) (one (.fl [.val v]))∧Sim y.w y.F (kPin (itCtx y p)) ac (buS l v ((c:Int)-1-(t.1:Int))) z a
  refine loop_inv I (fun t=>c-t.1) (c:=lpC bu_k) (k:=lpR bu_k) (by kernel_rfl) (fun t ih ac b w hI=>?_) ⟨0,Nat.zero_le _⟩ ⟨y,cZ,v,rfl,hr,hβ,hm,hJ,hv,hmb,by
      show Sim _ _ _ _ (buS l v ((c:Int)-1-((0:Nat):Int))) _ _
      rw[show (c:Int)-1-((0:Nat):Int)=(c:Int)-1 from by omega]
      exact hs3.nx _⟩
  obtain ⟨t,ht⟩:=t
  obtain ⟨y,z,v,rfl,hr,hβ,hm,hJ,hv,hmb,hs⟩:=hI
  simp only at hm hJ hs ih
  by_cases h:t<c
  · obtain ⟨i,hi⟩:∃i:Nat,i=c-1-t:=⟨_,rfl⟩
    have ei:(c:Int)-1-(t:Int)=(i:Int):=by omega
    rw[ei] at hs
    refine bv l v _ ⟨by simp,by decide,trivial⟩ hs fun ac cV aV hs4=>?_
    obtain ⟨hg4,_,_⟩:=it_back hmb rfl hs4 rfl
    have hsl4:cV.D (.sl (.u64 e)) [v]:=data_grow hg4 (fun b hb=>hs4.base.f0 b hb) hm.fw rfl hv
    have hs5:=hs4.slots (svs' := [.v (.c (.val (.func (.yield l) #[] #[]))),.v (.c (.ptr 0 0)),.v (.c (.int .i64 (i:Int))),.v (.c (.val (.func (.yield l) #[] #[]))),.v (.c (.sl (.u64 e))),.v (.c (.int .i64 (IntKind.wrap IntKind.i64 (Int.tdiv (i:Int) (64:Int)))))])
      ⟨fun _ h=>h,fun _ h=>h,fun _ h=>h,fun _ h=>h,conv_val rfl hsl4,fun _ h=>h,trivial⟩
    have e1:Int.tdiv (i:Int) (64:Int)=((i / 64:Nat):Int):=Int.tdiv_eq_ediv_of_nonneg (by omega)
    have e2:Int.tmod (i:Int) (64:Int)=((i % 64:Nat):Int):=Int.tmod_eq_emod_of_nonneg (by omega)
    refine bw l v e _ ⟨by rw[e1,wrap_id (by omega) (by omega)];omega,by rw[e1,wrap_id (by omega) (by omega)];omega,by decide,by rw[e2];omega,trivial⟩ hs5 fun ac cU aU hs6=>?_
    rw[bit_expr hlim (by omega:i<1024),hN] at hs6
    obtain ⟨hg,hk2,hβ2⟩:=it_back hmb rfl hs6 rfl
    have hJ2:=hgrow _ _ _ hJ hg
    have e3:btL N c (t+1)=btL N c t++[decide (N / 2 ^ i % 2=1)]:=by rw[btL_succ,hi]
    obtain ⟨r,hr1⟩:=btL_pre N c (n:=c) (t:=t+1) h
    refine yield_at (R:=fun W' => J (btL N c (t+1)) W') (dst:=some 22) (f:=.tmp 11) (args:=[.tmp 21]) (by kernel_rfl) hs6 (l:=l) rfl (vs:=btEnc (decide (N / 2 ^ i % 2=1))) ?_ ?_ fun W' hJ3=>?_
    · have h21:=D_bool (hs6.t 21)
      show [aU.tmps.getD 21 undef]=_
      rw[h21]
      rfl
    · have:=hyield (btL N c t) (decide (N / 2 ^ i % 2=1)) _ hJ2 ⟨r,by rw[hr1,e3,List.append_assoc];rfl⟩
      rw[←e3] at this
      exact this
    · obtain ⟨y3,rfl,hm3,hc3⟩:=hread _ _ hJ3
      obtain ⟨hr3,hβ3⟩:=hc3 (p,0) List.mem_cons_self
      have hr3:y3.k p = .real:=hr3
      have hβ3:y3.β p=x.β p:=hβ3
      obtain ⟨v3,hv3,hbox3⟩:=box_sl hm3 (hM _) hr3
      have hmb3:Mem (itCtx y3 p) (one (.fl [.val v3])):=it_mem hm3 (hM _) hr3 hbox3
      have hs7:=it_again (nx' := 400) (dst:=22) (b:=true) hs6 (by kernel_rfl) rfl hm3 (hM _) hr3 hbox3 (by rw[hβ2,hβ];exact hβ3.symm) (by decide)
      change Wq Try.prog _ _ _ _ _ (itCtx y3 p).w
      refine bB l v3 _ _ trivial hs7 fun ac cT aT hs8=>?_
      have e4:IntKind.wrap IntKind.i64 ((i:Int)-1)=(c:Int)-1-((t+1:Nat):Int):=by rw[wrap_id (by omega) (by omega)];omega
      rw[e4] at hs8
      exact ih ⟨t+1,by omega⟩ (by show c-(t+1)<c-t;omega) ac aT _ ⟨y3,cT,v3,rfl,hr3,hβ3,hm3,hJ3,hv3,hmb3,hs8.nx _⟩
  · have e5:t=c:=by omega
    subst e5
    refine bX l v _ ⟨by simp;omega,trivial⟩ hs fun ac cV aV hs4=>?_
    obtain ⟨hg,_,_⟩:=it_back hmb rfl hs4 rfl
    exact ⟨it_end qeH_ok hs4 rfl rfl rfl (fun v=>⟨⟨v,rfl⟩,hgrow _ _ _ hJ hg⟩) (.inr rfl)⟩

def btVals (z:Bool):List SV:=[.v (.c (.bool z))]

theorem pw_bit (a:Fp) (l:List Bool) (z:Bool):pw a (pv (l++[z]))=if z=true then pw a (pv l)*pw a (pv l)*a else pw a (pv l)*pw a (pv l):=by
  rw[pv_snoc,Nat.two_mul]
  cases z with
  | true=>
    rw[if_pos rfl,←pw_add_g]
    rfl
  | false=>
    rw[if_neg (by decide),←pw_add_g]
    rfl

theorem powerP_fnd (a:Fp) (e:List Int) (hl:e.length≤16) (hlim:lims e) :
    FnD Try.prog 64 [.v (.a [.ob (.p a)]),.v (.a [.ob (.p 1)]),.v (.c (.sl (.u64 e)))] (.v (.a [.ob (.p (pw a (numL e)))])) []:=by
  refine fn_start_m (fn:=Try.f64) (c:=bodyOf Try.f64) Try.func64 rfl rfl fun x b hk hF hs=>?_
  refine qp a e trivial hs fun ac cY aY hs1=>?_
  obtain ⟨e1,e2⟩:=isRf_eq (k:=qp_k) (by kernel_rfl)
  rw[e1]
  have eP:(rfP qp_k).toList=[12]:=by kernel_rfl
  have eG:rfG qp_k = .tmp 11:=by kernel_rfl
  refine range_rule (ps:=rfP qp_k) e2 hs1 (gf:=66) (caps:=[(128,0)]) (enters_of Try.func66 rfl rfl) (fun pre=>qpS a e (pw a (pv pre))) (fun s=>by rw[eG];rfl) ⟨_,rfl⟩ (btL (numL e) (bitsC e e.length) (bitsC e e.length)) btVals btEnc
    (fun y z=>.cons ⟨rfl,0,rfl⟩ .nil) (fun z=>by rw[←Array.length_toList,eP];rfl) (fun pre p hp=>?_) (bits_iter hl hlim fun s=>rfl) (fun pre z=>qpB a e (pw a (pv pre)) z)
    (fun pre z=>qpE a e (pw a (pv (pre++[z])))) (fun pre z=>⟨_,rfl⟩) (fun pre z hz w1 F1 K1 as1 Q1 l y b hs2 hQ=>?_) (fun pre z hz w1 F1 K1 as1 Q1 l y b hs2 hQ=>?_) fun D y hs2 hD hFD hd=>?_
  · rw[eP] at hp
    have h23:(qpS a e (pw a (pv pre))).nt=23:=rfl
    rw[h23]
    simp only[List.mem_cons,List.not_mem_nil,or_false] at hp
    subst hp
    decide
  · rw[eP] at hs2
    exact qpA a e _ z trivial hs2 fun cZ aZ hs3=>⟨hQ _ _ (hs3.nx _)⟩
  · rw[pw_bit] at hQ
    cases z with
    | true=>exact qpC a e _ true ⟨rfl,trivial⟩ hs2 fun cZ aZ hs3=>⟨hQ _ _ (hs3.nx _)⟩
    | false=>exact qpD a e _ false ⟨rfl,trivial⟩ hs2 fun cZ aZ hs3=>⟨hQ _ _ (hs3.nx _)⟩
  · have hs3:=hs2.marked rfl rfl D
    have hN:numL e<2 ^ bitsC e e.length:=by
      have:=numL_lt hlim e.length (Nat.le_refl _)
      rwa [List.take_length] at this
    rw[pv_bits hN _ (Nat.le_refl _),Nat.sub_self,Nat.pow_zero,Nat.div_one] at hs2 hs3
    generalize pw a (numL e)=o at hs2 hs3 ⊢
    refine qpX a e o trivial hs3 fun ac cV aV hs6=>⟨?_⟩
    have hs7:Sim y.w y.F (kOwn y kAll (markOf D)) ac (qpZ o) cV aV:=hs6
    exact fn_finish qeI_ok hk hF (qpR_end o) trivial (fun y v hd=>hd) hs2 hD hFD hd rfl hs7

end Go.Proofs.Ytdaligcdaalnmaa

/- The inverse in the greater field; sums and doubles of points, walked. No conditions. -/
namespace Go.Proofs.Ytdaligcdaalnmaa

theorem powerP_fnd2 (a u:Fp) (e:List Int) (hu:u=1) (hl:e.length≤16) (hlim:lims e) :
    FnD Try.prog 64 [.v (.a [.ob (.p a)]),.v (.a [.ob (.p u)]),.v (.c (.sl (.u64 e)))] (.v (.a [.ob (.p (pw a (numL e)))])) []:=by
  subst hu
  exact powerP_fnd a e hl hlim
def powerPSpec:FnSpec
  | [.v (.a [.ob (.p a)]),.v (.a [.ob (.p u)]),.v (.c (.sl (.u64 e)))]=>some ([u=1,e.length≤16,lims e],.v (.a [.ob (.p (pw a (numL e)))]),[])
  | _=>none
noncomputable def qeI1:Env:=qeI.set (addT qeI.fn 64 powerPSpec)
theorem qeI1_ok:EnvOk Try.prog qeI1:=env_add qeI_ok 64 powerPSpec (enters_of Try.func64 rfl rfl) fun args o r es h ho=>by
  unfold powerPSpec at h
  split at h
  · cases h;exact powerP_fnd2 _ _ _ ho.1 ho.2.1 ho.2.2.1
  · cases h
--@env qeI1 qeI1_ok
theorem invP0 (a:Fp):fnRes qeI1 Try.f61 3000 [.v (.a [.ob (.p a)])] [] [] []=(some ([((0:Int)≤(0:Int)),((0:Int)<(6:Int)),(0<6),((0:Int)≤(0:Int)),((0:Int)<(6:Int)),((0:Int)≤(1:Int)),((1:Int)<(18446744073709551616:Int)),((Fin.ofNat pN 1)=(1:Fp)),(6≤16),(lims [(13402431016077863593:Int),(2210141511517208575:Int),(7435674573564081700:Int),(7239337960414712511:Int),(5412103778470702295:Int),(1873798617647539866:Int)])],((.v (.a [(.ob (.p (pw a 4002409555221667393417789825735904156556882819939007885332058136124031650490837864442687629129015664037894272559785)))])),[]))):=by kernel_rfl
/-- 1 divided by it; 0 of 0. -/
def ivP (a:Fp):Fp:=pw a (pN-2)
theorem ivP_mul (x:Fp) (hx:x≠0):x*ivP x=1:=by
  have h:=fermat_p x hx
  have e:pN-1=(pN-2)+1:=by decide
  rw[e] at h
  have h2:ivP x*x=1:=h
  rw[mul_comm_g]
  exact h2
theorem invP_fnd (a:Fp):FnD Try.prog 61 [.v (.a [.ob (.p a)])] (.v (.a [.ob (.p (ivP a))])) []:=by
  have e:4002409555221667393417789825735904156556882819939007885332058136124031650490837864442687629129015664037894272559785=pN-2:=by decide +kernel
  have r:=invP0 a
  rw[e] at r
  refine fn_sound qeI1_ok Try.func61 r ⟨by decide,by decide,by decide,by decide,by decide,by decide,by decide,rfl,by decide,?_,trivial⟩
  intro x hx
  simp only[List.mem_cons,List.not_mem_nil,or_false] at hx
  rcases hx with rfl | rfl | rfl | rfl | rfl | rfl<;>decide
def invPSpec:FnSpec
  | [.v (.a [.ob (.p a)])]=>some ([],.v (.a [.ob (.p (ivP a))]),[])
  | _=>none
noncomputable def qeJ:Env:=qeI1.set (addT qeI1.fn 61 invPSpec)
theorem qeJ_ok:EnvOk Try.prog qeJ:=env_add qeI1_ok 61 invPSpec (enters_of Try.func61 rfl rfl) fun args o r es h _=>by
  unfold invPSpec at h
  split at h
  · cases h;exact invP_fnd _
  · cases h
--@env qeJ qeJ_ok
theorem twA (x y z:Fp):fnRes qeJ Try.f23 3000 [.v (.a [.ob (.p x),.ob (.p y),.ob (.p z)])] [true] [] []=(some ([((decide (z=(0:Fp)))=true)],((.v (.a [.ob (.p x),.ob (.p y),.ob (.p z)])),[]))):=by kernel_rfl
theorem twB (x y z:Fp):fnRes qeJ Try.f23 3000 [.v (.a [.ob (.p x),.ob (.p y),.ob (.p z)])] [false] [] []=(some ([((decide (z=(0:Fp)))=false)],((.v (.a [(.ob (.p ((((((x*x)+(x*x))+(x*x))*(((x*x)+(x*x))+(x*x)))-(((((x+(y*y))*(x+(y*y)))-(x*x))-((y*y)*(y*y)))+((((x+(y*y))*(x+(y*y)))-(x*x))-((y*y)*(y*y)))))-(((((x+(y*y))*(x+(y*y)))-(x*x))-((y*y)*(y*y)))+((((x+(y*y))*(x+(y*y)))-(x*x))-((y*y)*(y*y))))))),(.ob (.p (((((x*x)+(x*x))+(x*x))*((((((x+(y*y))*(x+(y*y)))-(x*x))-((y*y)*(y*y)))+((((x+(y*y))*(x+(y*y)))-(x*x))-((y*y)*(y*y))))-((((((x*x)+(x*x))+(x*x))*(((x*x)+(x*x))+(x*x)))-(((((x+(y*y))*(x+(y*y)))-(x*x))-((y*y)*(y*y)))+((((x+(y*y))*(x+(y*y)))-(x*x))-((y*y)*(y*y)))))-(((((x+(y*y))*(x+(y*y)))-(x*x))-((y*y)*(y*y)))+((((x+(y*y))*(x+(y*y)))-(x*x))-((y*y)*(y*y)))))))-(((((y*y)*(y*y))+((y*y)*(y*y)))+(((y*y)*(y*y))+((y*y)*(y*y))))+((((y*y)*(y*y))+((y*y)*(y*y)))+(((y*y)*(y*y))+((y*y)*(y*y)))))))),(.ob (.p ((y*z)+(y*z))))])),[]))):=by kernel_rfl
theorem ngP (x y z:Fp):fnRes qeJ Try.f33 3000 [.v (.a [.ob (.p x),.ob (.p y),.ob (.p z)])] [] [] []=(some ([],((.v (.a [.ob (.p x),(.ob (.p ((0:Fp)-y))),.ob (.p z)])),[]))):=by kernel_rfl
end Go.Proofs.Ytdaligcdaalnmaa

/- Signed digits of a number, walked. No conditions. -/
namespace Go.Proofs.Ytdaligcdaalnmaa
section
variable {w0:World} {F0:Nat→Prop} {K:Kp} {ac:List Act} {Q:Exit→Act→World→Prop} {cX:Ctx} {aX:Act}

--@env env0 env0_ok
noncomputable def di_k:List KI:=(run env0 false 3000 ((fun (k:U4)=>(⟨[.code (bodyOf Try.f22)],.normal,initSt Try.f22.ntmps [.v (.a [.ob (.fr k)])]⟩:Cfg)) default) []).cfg.k
theorem di_hk (k:U4):(run env0 false 3000 ((⟨[.code (bodyOf Try.f22)],.normal,initSt Try.f22.ntmps [.v (.a [.ob (.fr k)])]⟩:Cfg)) []).cfg.k=di_k:=by kernel_rfl
theorem di (k:U4) (ho:AllP []) (hs:Sim w0 F0 K ac (initSt Try.f22.ntmps [.v (.a [.ob (.fr k)])]) cX aX) (hK:∀ac cY aY,Sim w0 F0 K ac (mkSt 49 [1,3,4,5] [.pt 16 0,(.v (.c (.val (Value.slice Option.none 0 0)))),.ii (0:Int),.ii (0:Int)] [16] [(some (.fl [.ob (.fr k)]))] 96 [] []) cY aY→Wq Try.prog Q (di_k) ac Exit.normal aY cY.w):Wq Try.prog Q ([.code (bodyOf Try.f22)]) ac .normal aX cX.w:=
  run_at2 (o:=⟨_,_,_,_,_,_,_⟩) env0_ok (by kernel_rfl) (di_hk k) ho hs hK
noncomputable def diS (k:U4) (L:List Int) (n:Nat) (c i:Int):St:=mkSt 49 [1,3,4,5] [.pt 16 0,.v (.c (.slc 17 0 n 1)),.v (.c (.int .i64 c)),.v (.c (.int .i64 i))] [16,17] [(some (.fl [.ob (.fr k)])),some (.sq (.int L))] 96 [] []
noncomputable def diA_k:List KI:=(run env0 false 3000 ((fun (k:U4) (L:List Int) (n:Nat) (c i:Int)=>(⟨lpIn di_k,.normal,diS k L n c i⟩:Cfg)) default default default default default) [true]).cfg.k
theorem diA_hk (k:U4) (L:List Int) (n:Nat) (c i:Int):(run env0 false 3000 ((⟨lpIn di_k,.normal,diS k L n c i⟩:Cfg)) [true]).cfg.k=diA_k:=by kernel_rfl
theorem diA (k:U4) (L:List Int) (n:Nat) (c i:Int) (ho:AllP [((decide (i<(256:Int)))=true)]) (hs:Sim w0 F0 K ac (diS k L n c i) cX aX) (hK:∀ac cY aY,Sim w0 F0 K ac (mkSt 49 [1,3,5,6,18] [.pt 16 0,(.v (.c (.slc 17 0 n 1))),.ii i,.ii c,.ii (0:Int)] [16,17] [(some (.fl [.ob (.fr k)])),(some (.sq (.int L)))] 240 [] []) cY aY→Wq Try.prog Q (diA_k) ac Exit.normal aY cY.w):Wq Try.prog Q (lpIn di_k) ac .normal aX cX.w:=
  run_at2 (o:=⟨_,_,_,_,_,_,_⟩) env0_ok (by kernel_rfl) (diA_hk k L n c i) ho hs hK
noncomputable def diI (k:U4) (L:List Int) (n:Nat) (i d j:Int):St:=mkSt 49 [1,3,5,6,18] [.pt 16 0,(.v (.c (.slc 17 0 n 1))),.ii i,.v (.c (.int .i64 d)),.v (.c (.int .i64 j))] [16,17] [(some (.fl [.ob (.fr k)])),(some (.sq (.int L)))] 240 [] []
theorem diB_hk (k:U4) (L:List Int) (n:Nat) (i d j:Int):(run env0 false 3000 ((⟨lpIn diA_k,.normal,diI k L n i d j⟩:Cfg)) [true,true]).cfg.k=lpBk diA_k:=by kernel_rfl
theorem diB (k:U4) (L:List Int) (n:Nat) (i d j:Int) (ho:AllP [((decide (j<(5:Int)))=true),((decide ((IntKind.wrap .i64 (i+j))<(256:Int)))=true),((64:Int)≠(0:Int)),((0:Int)≤(IntKind.wrap .i64 (Int.tdiv (IntKind.wrap .i64 (i+j)) (64:Int)))),((IntKind.wrap .i64 (Int.tdiv (IntKind.wrap .i64 (i+j)) (64:Int)))<(4:Int)),((0+(((IntKind.wrap .i64 (Int.tdiv (IntKind.wrap .i64 (i+j)) (64:Int)))).toNat*1))<(Ob.k (.fr k))),((64:Int)≠(0:Int)),((0:Int)≤(Int.tmod (IntKind.wrap .i64 (i+j)) (64:Int))),((0:Int)≤j)]) (hs:Sim w0 F0 K ac (diI k L n i d j) cX aX) (hK:∀ac cY aY,Sim w0 F0 K ac (mkSt 49 [1,3,5,6,18] [.pt 16 0,(.v (.c (.slc 17 0 n 1))),.ii i,(.ii (IntKind.wrap .i64 (d+(IntKind.wrap .i64 ((IntKind.wrap .i64 (bitsOp BinOp.and IntKind.u64 (Int.fdiv (limb (Ob.n (.fr k)) (0+(((IntKind.wrap .i64 (Int.tdiv (IntKind.wrap .i64 (i+j)) (64:Int)))).toNat*1))) ((2:Int) ^ (Min.min ((Int.tmod (IntKind.wrap .i64 (i+j)) (64:Int))).toNat 64))) (1:Int)))*((2:Int) ^ (Min.min (j).toNat 64))))))),(.ii (IntKind.wrap .i64 (j+(1:Int))))] [16,17] [(some (.fl [.ob (.fr k)])),(some (.sq (.int L)))] 640 [] []) cY aY→Wq Try.prog Q (lpBk diA_k) ac Exit.normal aY cY.w):Wq Try.prog Q (lpIn diA_k) ac .normal aX cX.w:=
  run_at2 (o:=⟨_,_,_,_,_,_,_⟩) env0_ok (by kernel_rfl) (diB_hk k L n i d j) ho hs hK
theorem diC_hk (k:U4) (L:List Int) (n:Nat) (i d j:Int):(run env0 false 3000 ((⟨lpIn diA_k,.normal,diI k L n i d j⟩:Cfg)) [true,false]).cfg.k=lpBk diA_k:=by kernel_rfl
theorem diC (k:U4) (L:List Int) (n:Nat) (i d j:Int) (ho:AllP [((decide (j<(5:Int)))=true),((decide ((IntKind.wrap .i64 (i+j))<(256:Int)))=false)]) (hs:Sim w0 F0 K ac (diI k L n i d j) cX aX) (hK:∀ac cY aY,Sim w0 F0 K ac (mkSt 49 [1,3,5,6,18] [.pt 16 0,(.v (.c (.slc 17 0 n 1))),.ii i,.ii d,(.ii (IntKind.wrap .i64 (j+(1:Int))))] [16,17] [(some (.fl [.ob (.fr k)])),(some (.sq (.int L)))] 416 [] []) cY aY→Wq Try.prog Q (lpBk diA_k) ac Exit.normal aY cY.w):Wq Try.prog Q (lpIn diA_k) ac .normal aX cX.w:=
  run_at2 (o:=⟨_,_,_,_,_,_,_⟩) env0_ok (by kernel_rfl) (diC_hk k L n i d j) ho hs hK
theorem diD_hk (k:U4) (L:List Int) (n:Nat) (i d j:Int):(run env0 false 3000 ((⟨lpIn diA_k,.normal,diI k L n i d j⟩:Cfg)) [false,true]).cfg.k=lpBk di_k:=by kernel_rfl
theorem diD (k:U4) (L:List Int) (n:Nat) (i d j:Int) (ho:AllP [((decide (j<(5:Int)))=false),((decide (d > (16:Int)))=true),((((List.length L)+1)*8)≤140737488355328),(((List.length L)+1)≤maxLen),(n=(List.length L)),(1=1)]) (hs:Sim w0 F0 K ac (diI k L n i d j) cX aX) (hK:∀ac cY aY,Sim w0 F0 K ac (mkSt 49 [1,3,4,5] [.pt 16 0,(.v (.c (.slc 17 0 ((List.length L)+1) 1))),.ii (1:Int),(.ii (IntKind.wrap .i64 (i+(5:Int))))] [16,17] [(some (.fl [.ob (.fr k)])),(some (.sq (.int (L++[(IntKind.wrap .i64 (d-(32:Int)))]))))] 496 [] []) cY aY→Wq Try.prog Q (lpBk di_k) ac Exit.normal aY cY.w):Wq Try.prog Q (lpIn diA_k) ac .normal aX cX.w:=
  run_at2 (o:=⟨_,_,_,_,_,_,_⟩) env0_ok (by kernel_rfl) (diD_hk k L n i d j) ho hs hK
theorem diE_hk (k:U4) (L:List Int) (n:Nat) (i d j:Int):(run env0 false 3000 ((⟨lpIn diA_k,.normal,diI k L n i d j⟩:Cfg)) [false,false]).cfg.k=lpBk di_k:=by kernel_rfl
theorem diE (k:U4) (L:List Int) (n:Nat) (i d j:Int) (ho:AllP [((decide (j<(5:Int)))=false),((decide (d > (16:Int)))=false),((((List.length L)+1)*8)≤140737488355328),(((List.length L)+1)≤maxLen),(n=(List.length L)),(1=1)]) (hs:Sim w0 F0 K ac (diI k L n i d j) cX aX) (hK:∀ac cY aY,Sim w0 F0 K ac (mkSt 49 [1,3,4,5] [.pt 16 0,(.v (.c (.slc 17 0 ((List.length L)+1) 1))),.ii (0:Int),(.ii (IntKind.wrap .i64 (i+(5:Int))))] [16,17] [(some (.fl [.ob (.fr k)])),(some (.sq (.int (L++[d]))))] 432 [] []) cY aY→Wq Try.prog Q (lpBk di_k) ac Exit.normal aY cY.w):Wq Try.prog Q (lpIn diA_k) ac .normal aX cX.w:=
  run_at2 (o:=⟨_,_,_,_,_,_,_⟩) env0_ok (by kernel_rfl) (diE_hk k L n i d j) ho hs hK
theorem diX_end (k:U4) (L:List Int) (n:Nat) (c i:Int):runEnd env0 Try.f22 false 3000 (⟨lpIn di_k,.normal,diS k L n c i⟩) [false,false] [] [17]=(some ([((decide (i<(256:Int)))=false),((decide (c > (0:Int)))=false),(n=(List.length L))],((.v (.c (.sl (.int L)))),[]))):=by kernel_rfl
end
end Go.Proofs.Ytdaligcdaalnmaa

/- Signed digits of a number: contract. No conditions. -/
namespace Go.Proofs.Ytdaligcdaalnmaa

/-- One bit, as it is reckoned. -/
theorem bit1_expr (k:U4) {m j:Nat} (h:m+j<256) (hj:j<5):IntKind.wrap IntKind.i64 ((IntKind.wrap IntKind.i64 (bitsOp BinOp.and IntKind.u64 (Int.fdiv (limb (Ob.n (Ob.fr k)) (0+(((IntKind.wrap IntKind.i64 (Int.tdiv (IntKind.wrap IntKind.i64 ((m:Int)+(j:Int))) (64:Int)))).toNat*1))) ((2:Int) ^ (Min.min ((Int.tmod (IntKind.wrap IntKind.i64 ((m:Int)+(j:Int))) (64:Int))).toNat 64))) (1:Int)))*((2:Int) ^ (Min.min ((j:Int)).toNat 64)))=((k.val / 2 ^ (m+j) % 2*2 ^ j:Nat):Int):=by
  rw[wrap_id (n:=(m:Int)+(j:Int)) (by omega) (by omega),←Int.natCast_add]
  generalize hi:m+j=i at *
  have e1:Int.tdiv (i:Int) (64:Int)=((i / 64:Nat):Int):=Int.tdiv_eq_ediv_of_nonneg (by omega)
  have e2:Int.tmod (i:Int) (64:Int)=((i % 64:Nat):Int):=Int.tmod_eq_emod_of_nonneg (by omega)
  rw[e1,e2,wrap_id (n:=((i / 64:Nat):Int)) (by omega) (by omega),Int.toNat_natCast,Int.toNat_natCast,Int.toNat_natCast]
  have e3:Min.min (i % 64) 64=i % 64:=by omega
  have e4:0+i / 64*1=i / 64:=by omega
  have e5:Min.min j 64=j:=by omega
  rw[e3,e4,e5]
  have hl:limb (Ob.n (Ob.fr k)) (i / 64)=((k.val / 2 ^ (64*(i / 64)) % 18446744073709551616:Nat):Int):=rfl
  rw[hl]
  have hb:k.val / 2 ^ (64*(i / 64)) % 18446744073709551616 / 2 ^ (i % 64) % 2=k.val / 2 ^ i % 2:=by
    have h64:18446744073709551616=2 ^ (i % 64)*(2*2 ^ (63-i % 64)):=by
      rw[←Nat.pow_succ',←Nat.pow_add,show i % 64+(63-i % 64+1)=64 from by omega]
    rw[h64,Nat.mod_mul_right_div_self,Nat.mod_mul_right_mod,Nat.div_div_eq_div_mul,←Nat.pow_add,show 64*(i / 64)+i % 64=i from Nat.div_add_mod i 64]
  rw[←hb]
  have hlt:k.val / 2 ^ (64*(i / 64)) % 18446744073709551616<18446744073709551616:=Nat.mod_lt _ (by decide)
  generalize k.val / 2 ^ (64*(i / 64)) % 18446744073709551616=w at *
  have hp:((2:Int) ^ (i % 64))=((2 ^ (i % 64):Nat):Int):=by simp
  have hp2:((2:Int) ^ j)=((2 ^ j:Nat):Int):=by simp
  rw[hp,hp2,Int.fdiv_eq_ediv_of_nonneg _ (Int.natCast_nonneg _),←Int.natCast_ediv]
  generalize w / 2 ^ (i % 64)=v
  have ha:bitsOp BinOp.and IntKind.u64 (v:Int) (1:Int)=((v % 2:Nat):Int):=by
    show IntKind.wrap IntKind.u64 ((BitVec.ofInt 64 (v:Int) &&& BitVec.ofInt 64 ((1:Nat):Int)).toNat:Int)=_
    rw[BitVec.ofInt_natCast,BitVec.ofInt_natCast,BitVec.toNat_and,BitVec.toNat_ofNat,BitVec.toNat_ofNat]
    have e:1 % 2 ^ 64=2 ^ 1-1:=by decide
    rw[e,Nat.and_two_pow_sub_one_eq_mod]
    show (((v % 2 ^ 64 % 2 ^ 1:Nat):Int)) % 18446744073709551616=_
    omega
  have h32:2 ^ j≤2 ^ 4:=Nat.pow_le_pow_right (by decide) (by omega)
  have h2:v % 2<2:=Nat.mod_lt _ (by decide)
  have hm:v % 2*2 ^ j≤1*2 ^ 4:=Nat.mul_le_mul (by omega) h32
  rw[ha,wrap_id (n:=((v % 2:Nat):Int)) (by omega) (by omega),←Int.natCast_mul,wrap_id (by omega) (by omega)]

theorem win_step (k m j:Nat):k / 2 ^ m % 2 ^ (j+1)=k / 2 ^ m % 2 ^ j+k / 2 ^ (m+j) % 2*2 ^ j:=by
  rw[Nat.pow_succ,Nat.mod_mul,Nat.div_div_eq_div_mul,←Nat.pow_add,Nat.mul_comm (2 ^ j)]
theorem win_32 (k m:Nat):k / 2 ^ (5*m) % 2 ^ 5=k / 32 ^ m % 32:=by
  rw[Nat.pow_mul]
theorem u4_lt (k:U4):k.val<2 ^ 256:=by
  have h:B4=2 ^ 256:=by decide +kernel
  rw[←h]
  exact k.isLt

theorem digits_fnd (k:U4) {N:Nat} (hN:N=52):FnD Try.prog 22 [.v (.a [.ob (.fr k)])] (.v (.c (.sl (.int (dgW k.val N).1)))) []:=by
  refine fn_start (fn:=Try.f22) (c:=bodyOf Try.f22) Try.func22 rfl rfl fun x0 a0 hk hF hs=>?_
  refine di k trivial hs fun ac cY aY hs1=>?_
  have hs2:=hs1.nilRow (p:=17) (q:=.int []) rfl (by decide) rfl (ml' := [16,17]) (ens' := [some (.fl [.ob (.fr k)]),some (.sq (.int []))]) (fun r=>fl_look (by decide)) (svs' := [.v (.c (.ptr 16 0)),.v (.c (.slc 17 0 0 1)),.v (.c (.int .i64 0)),.v (.c (.int .i64 0))]) ⟨.inl rfl,.inr ⟨1,rfl,rfl⟩,.inl rfl,.inl rfl,trivial⟩
  change Wq Try.prog _ _ _ _ _ (nilCtx cY 17).w
  refine loop_rule (ι:={ m:Nat // m≤N }) (fun m=>diS k (dgW k.val m.1).1 m.1 ((dgW k.val m.1).2:Int) ((5*m.1:Nat):Int)) (fun m=>N-m.1) (c:=lpC di_k) (k:=lpR di_k) (by kernel_rfl) (fun m ih ac cY aY hs=>?_) ⟨0,Nat.zero_le _⟩ (hs2.nx _)
  obtain ⟨m,hm⟩:=m
  simp only at ih hs
  have hc:=dgW_carry k.val m
  have hl:=dgW_len k.val m
  by_cases h:m<N
  · refine diA k _ m _ _ ⟨decide_eq_true (by omega),trivial⟩ hs fun ac cZ aZ hs3=>?_
    have e0:(((dgW k.val m).2:Nat):Int)=(((dgW k.val m).2+k.val / 2 ^ (5*m) % 2 ^ 0:Nat):Int):=by rw[Nat.pow_zero,Nat.mod_one,Nat.add_zero]
    rw[e0] at hs3
    refine loop_rule (ι:={ j:Nat // j≤5 }) (fun j=>diI k (dgW k.val m).1 m ((5*m:Nat):Int) (((dgW k.val m).2+k.val / 2 ^ (5*m) % 2 ^ j.1:Nat):Int) (j.1:Int)) (fun j=>5-j.1) (c:=lpC diA_k) (k:=lpR diA_k) (by kernel_rfl) (fun j ih2 ac cY aY hs=>?_) ⟨0,Nat.zero_le _⟩ (hs3.nx _)
    obtain ⟨j,hj⟩:=j
    simp only at ih2 hs
    have hpj:k.val / 2 ^ (5*m) % 2 ^ j<2 ^ j:=Nat.mod_lt _ (Nat.two_pow_pos _)
    have hj5:2 ^ j≤2 ^ 5:=Nat.pow_le_pow_right (by decide) hj
    by_cases hj2:j<5
    · have ej:IntKind.wrap IntKind.i64 ((j:Int)+1)=((j+1:Nat):Int):=by rw[wrap_id (by omega) (by omega)];rfl
      have hsum:=win_step k.val (5*m) j
      by_cases hb:5*m+j<256
      · have eb:=bit1_expr k hb hj2
        have hw:IntKind.wrap IntKind.i64 (((5*m:Nat):Int)+(j:Int))=((5*m+j:Nat):Int):=by rw[wrap_id (by omega) (by omega)];rfl
        have ht:Int.tdiv ((5*m+j:Nat):Int) 64=(((5*m+j) / 64:Nat):Int):=Int.tdiv_eq_ediv_of_nonneg (by omega)
        have ht2:Int.tmod ((5*m+j:Nat):Int) 64=(((5*m+j) % 64:Nat):Int):=Int.tmod_eq_emod_of_nonneg (by omega)
        have hw2:IntKind.wrap IntKind.i64 (((5*m+j) / 64:Nat):Int)=(((5*m+j) / 64:Nat):Int):=wrap_id (by omega) (by omega)
        refine diB k _ m _ _ _ ⟨decide_eq_true (by omega),by rw[hw];exact decide_eq_true (by omega),by decide,by rw[hw,ht,hw2];omega,by rw[hw,ht,hw2];omega,by rw[hw,ht,hw2,Int.toNat_natCast];show _<4;omega,by decide,by rw[hw,ht2];omega,by omega,trivial⟩ hs fun ac cU aU hs4=>?_
        rw[eb,ej] at hs4
        have hbit:k.val / 2 ^ (5*m+j) % 2*2 ^ j≤1*2 ^ 5:=Nat.mul_le_mul (by omega) hj5
        rw[wrap_id (by omega) (by omega),←Int.natCast_add,Nat.add_assoc,←hsum] at hs4
        exact ih2 ⟨j+1,hj2⟩ (by show 5-(j+1)<5-j;omega) ac cU aU (hs4.nx _)
      · have hw:IntKind.wrap IntKind.i64 (((5*m:Nat):Int)+(j:Int))=((5*m+j:Nat):Int):=by rw[wrap_id (by omega) (by omega)];rfl
        refine diC k _ m _ _ _ ⟨decide_eq_true (by omega),by rw[hw];exact decide_eq_false (by omega),trivial⟩ hs fun ac cU aU hs4=>?_
        have h0:k.val / 2 ^ (5*m+j)=0:=Nat.div_eq_of_lt (Nat.lt_of_lt_of_le (u4_lt k) (Nat.pow_le_pow_right (by decide) (by omega)))
        rw[h0,Nat.zero_mod,Nat.zero_mul,Nat.add_zero (k.val / 2 ^ (5*m) % 2 ^ j)] at hsum
        rw[ej,←hsum] at hs4
        exact ih2 ⟨j+1,hj2⟩ (by show 5-(j+1)<5-j;omega) ac cU aU (hs4.nx _)
    · have:j=5:=by omega
      subst this
      rw[win_32,Nat.add_comm] at hs
      have hw5:k.val / 32 ^ m % 32<32:=Nat.mod_lt _ (by decide)
      have e5:IntKind.wrap IntKind.i64 (((5*m:Nat):Int)+5)=((5*(m+1):Nat):Int):=by rw[wrap_id (by omega) (by omega)];omega
      have hml:(dgW k.val m).1.length≤52:=by omega
      have hmax:(dgW k.val m).1.length+1≤maxLen:=Nat.le_trans (by omega) (show 53≤maxLen by decide)
      by_cases hg:k.val / 32 ^ m % 32+(dgW k.val m).2 > 16
      · refine diD k _ m _ _ _ ⟨by decide,decide_eq_true (by omega),by omega,hmax,hl.symm,rfl,trivial⟩ hs fun ac cU aU hs4=>?_
        rw[e5,hl,wrap_id (by omega) (by omega)] at hs4
        refine ih ⟨m+1,h⟩ (by show N-(m+1)<N-m;omega) ac cU aU ?_
        show Sim _ _ _ _ (diS k (dgW k.val (m+1)).1 (m+1) ((dgW k.val (m+1)).2:Int) ((5*(m+1):Nat):Int)) _ _
        rw[dgW_big hg]
        exact hs4.nx _
      · refine diE k _ m _ _ _ ⟨by decide,decide_eq_false (by omega),by omega,hmax,hl.symm,rfl,trivial⟩ hs fun ac cU aU hs4=>?_
        rw[e5,hl] at hs4
        refine ih ⟨m+1,h⟩ (by show N-(m+1)<N-m;omega) ac cU aU ?_
        show Sim _ _ _ _ (diS k (dgW k.val (m+1)).1 (m+1) ((dgW k.val (m+1)).2:Int) ((5*(m+1):Nat):Int)) _ _
        rw[dgW_small hg]
        exact hs4.nx _
  · obtain rfl:m=N:=by omega
    have h0:=(dgW_all hN (u4_lt k)).2
    exact run_end2 env0_ok hk hF (diX_end k (dgW k.val m).1 m ((dgW k.val m).2:Int) ((5*m:Nat):Int)) ⟨decide_eq_false (by omega),by rw[h0];decide,hl.symm,trivial⟩ (fun y v hd=>hd) hs

end Go.Proofs.Ytdaligcdaalnmaa

/- Elements of the greater field, inside and outside; the field; lines. No conditions. -/
namespace Go.Proofs.Ytdaligcdaalnmaa

def fp1:Fp:=Fin.ofNat pN 1
def fp4:Fp:=Fin.ofNat pN 4
section
variable {r:Nat} [NeZero r]
end

section
variable {r:Nat} [NeZero r]
theorem pw_cube (x:Fin r):∀n,pw (x*x*x) n=pw x n*pw x n*pw x n
  | 0=>by show (1:Fin r)=1*1*1;grind
  | n+1=>by
    show pw (x*x*x) n*(x*x*x)=pw x n*x*(pw x n*x)*(pw x n*x)
    rw[pw_cube x n]
    grind
theorem pw_three (x:Fin r) (n:Nat):pw (x*x*x) n=pw x (n+n+n):=by
  rw[pw_add_g,pw_add_g,pw_cube]
theorem neg_of_sum {a b:Fin r} (h:a+b=0):a=0-b:=by grind
end

theorem one_ne_p:(1:Fp)≠0:=by decide +kernel
theorem two_ne_p:(1:Fp)+1≠0:=by decide +kernel
theorem fp1_one:fp1=1:=by decide +kernel
theorem neg4:(0:Fp)-fp4=Fin.ofNat pN (pN-4):=by decide +kernel
theorem thirds:pN-1=(pN-1) / 3+(pN-1) / 3+(pN-1) / 3:=by decide +kernel
theorem neg4_val:(Fin.ofNat pN (pN-4)).val=pN-4:=by decide +kernel
theorem neg4_pow:mpow pN (pN-4) 384 ((pN-1) / 3)≠1:=by decide +kernel
theorem third_lt:(pN-1) / 3<2 ^ 384:=by decide +kernel
theorem one_val_p:((1:Fp):Nat)=1:=by decide +kernel

theorem cube_ne (c:Fp) (hc:pw c ((pN-1) / 3)≠1) (h0:c≠0) (x:Fp):x*x*x≠c:=by
  intro h
  by_cases hx:x=0
  · apply h0
    rw[←h,hx]
    exact mul_zero6
  · apply hc
    rw[←h,pw_three,←thirds]
    exact fermat_p x hx
where mul_zero6:(0:Fp)*0*0=0:=by decide +kernel

instance fldP:Fld Fp:=
  { (inferInstance:CRing (Fin pN)) with
    inv:=ivP
    mul_inv:=ivP_mul
    one_ne:=one_ne_p }

section
variable {F:Type} [Fld F]
end

end Go.Proofs.Ytdaligcdaalnmaa

/- Points of the first curve: twice, negative, sums, walked. No conditions. -/
namespace Go.Proofs.Ytdaligcdaalnmaa

theorem twice_fnd (x y z:Fp):FnD Try.prog 23 [.v (.a [.ob (.p x),.ob (.p y),.ob (.p z)])] (.v (.a (ptIts (jtw (x,y,z))))) []:=by
  by_cases h:z=0
  · have e:jtw (x,y,z)=(x,y,z):=if_pos h
    rw[e]
    exact fn_sound qeJ_ok Try.func23 (twA x y z) ⟨decide_eq_true h,trivial⟩
  · unfold jtw
    rw[if_neg h]
    exact fn_sound qeJ_ok Try.func23 (twB x y z) ⟨decide_eq_false h,trivial⟩
def twPSpec:FnSpec
  | [.v (.a [.ob (.p x),.ob (.p y),.ob (.p z)])]=>some ([],.v (.a (ptIts (jtw (x,y,z)))),[])
  | _=>none
noncomputable def qsA:Env:=qeJ.set (addT qeJ.fn 23 twPSpec)
theorem qsA_ok:EnvOk Try.prog qsA:=env_add qeJ_ok 23 twPSpec (enters_of Try.func23 rfl rfl) fun args o r es h _=>by
  unfold twPSpec at h
  split at h
  · cases h;exact twice_fnd _ _ _
  · cases h
def ngPSpec:FnSpec
  | [.v (.a [.ob (.p x),.ob (.p y),.ob (.p z)])]=>some ([],.v (.a (ptIts (jng (x,y,z)))),[])
  | _=>none
noncomputable def qsB:Env:=qsA.set (addT qsA.fn 33 ngPSpec)
theorem qsB_ok:EnvOk Try.prog qsB:=env_add qsA_ok 33 ngPSpec (enters_of Try.func33 rfl rfl) fun args o r es h _=>by
  unfold ngPSpec at h
  split at h
  · cases h;exact fn_sound qeJ_ok Try.func33 (ngP _ _ _) trivial
  · cases h
--@env qsB qsB_ok
theorem plA (x y z u v w:Fp):fnRes qsB Try.f24 3000 [.v (.a [.ob (.p x),.ob (.p y),.ob (.p z)]),.v (.a [.ob (.p u),.ob (.p v),.ob (.p w)])] [true] [] []=(some ([((decide (z=(0:Fp)))=true)],((.v (.a [.ob (.p u),.ob (.p v),.ob (.p w)])),[]))):=by kernel_rfl
theorem plB (x y z u v w:Fp):fnRes qsB Try.f24 3000 [.v (.a [.ob (.p x),.ob (.p y),.ob (.p z)]),.v (.a [.ob (.p u),.ob (.p v),.ob (.p w)])] [false,true] [] []=(some ([((decide (z=(0:Fp)))=false),((decide (w=(0:Fp)))=true)],((.v (.a [.ob (.p x),.ob (.p y),.ob (.p z)])),[]))):=by kernel_rfl
theorem plC (x y z u v w:Fp):fnRes qsB Try.f24 3000 [.v (.a [.ob (.p x),.ob (.p y),.ob (.p z)]),.v (.a [.ob (.p u),.ob (.p v),.ob (.p w)])] [false,false,true,true] [] []=(some ([((decide (z=(0:Fp)))=false),((decide (w=(0:Fp)))=false),((decide (((u*(z*z))-(x*(w*w)))=(0:Fp)))=true),((decide ((((v*(z*z))*z)-((y*(w*w))*w))=(0:Fp)))=true)],((.v (.a [(.ob (.p (Prod.fst (jtw (x,(y,z)))))),(.ob (.p (Prod.fst (Prod.snd (jtw (x,(y,z))))))),(.ob (.p (Prod.snd (Prod.snd (jtw (x,(y,z)))))))])),[]))):=by kernel_rfl
theorem plD (x y z u v w:Fp):fnRes qsB Try.f24 3000 [.v (.a [.ob (.p x),.ob (.p y),.ob (.p z)]),.v (.a [.ob (.p u),.ob (.p v),.ob (.p w)])] [false,false,true,false] [] []=(some ([((decide (z=(0:Fp)))=false),((decide (w=(0:Fp)))=false),((decide (((u*(z*z))-(x*(w*w)))=(0:Fp)))=true),((decide ((((v*(z*z))*z)-((y*(w*w))*w))=(0:Fp)))=false)],((.v (.a [.ob (.p x),.ob (.p y),(.ob (.p (0:Fp)))])),[]))):=by kernel_rfl
theorem plE (x y z u v w:Fp):fnRes qsB Try.f24 3000 [.v (.a [.ob (.p x),.ob (.p y),.ob (.p z)]),.v (.a [.ob (.p u),.ob (.p v),.ob (.p w)])] [false,false,false] [] []=(some ([((decide (z=(0:Fp)))=false),((decide (w=(0:Fp)))=false),((decide (((u*(z*z))-(x*(w*w)))=(0:Fp)))=false)],((.v (.a [(.ob (.p (((((((v*(z*z))*z)-((y*(w*w))*w))*(((v*(z*z))*z)-((y*(w*w))*w)))-((((u*(z*z))-(x*(w*w)))*((u*(z*z))-(x*(w*w))))*((u*(z*z))-(x*(w*w)))))-((x*(w*w))*(((u*(z*z))-(x*(w*w)))*((u*(z*z))-(x*(w*w))))))-((x*(w*w))*(((u*(z*z))-(x*(w*w)))*((u*(z*z))-(x*(w*w)))))))),(.ob (.p (((((v*(z*z))*z)-((y*(w*w))*w))*(((x*(w*w))*(((u*(z*z))-(x*(w*w)))*((u*(z*z))-(x*(w*w)))))-(((((((v*(z*z))*z)-((y*(w*w))*w))*(((v*(z*z))*z)-((y*(w*w))*w)))-((((u*(z*z))-(x*(w*w)))*((u*(z*z))-(x*(w*w))))*((u*(z*z))-(x*(w*w)))))-((x*(w*w))*(((u*(z*z))-(x*(w*w)))*((u*(z*z))-(x*(w*w))))))-((x*(w*w))*(((u*(z*z))-(x*(w*w)))*((u*(z*z))-(x*(w*w))))))))-(((y*(w*w))*w)*((((u*(z*z))-(x*(w*w)))*((u*(z*z))-(x*(w*w))))*((u*(z*z))-(x*(w*w)))))))),(.ob (.p ((((u*(z*z))-(x*(w*w)))*z)*w)))])),[]))):=by kernel_rfl
end Go.Proofs.Ytdaligcdaalnmaa

/- Points of the first curve: sums, contract. No conditions. -/
namespace Go.Proofs.Ytdaligcdaalnmaa

theorem plusPt_fnd (x y z u v w:Fp):FnD Try.prog 24 [.v (.a [.ob (.p x),.ob (.p y),.ob (.p z)]),.v (.a [.ob (.p u),.ob (.p v),.ob (.p w)])] (.v (.a (ptIts (jpl (x,y,z) (u,v,w))))) []:=by
  by_cases h:z=0
  · have e:jpl (x,y,z) (u,v,w)=(u,v,w):=if_pos h
    rw[e]
    exact fn_sound qsB_ok Try.func24 (plA x y z u v w) ⟨decide_eq_true h,trivial⟩
  · by_cases h2:w=0
    · have e:jpl (x,y,z) (u,v,w)=(x,y,z):=(if_neg h).trans (if_pos h2)
      rw[e]
      exact fn_sound qsB_ok Try.func24 (plB x y z u v w) ⟨decide_eq_false h,decide_eq_true h2,trivial⟩
    · unfold jpl
      rw[if_neg h,if_neg h2]
      dsimp only
      by_cases h3:u*(z*z)-x*(w*w)=0
      · rw[if_pos h3]
        by_cases h4:v*(z*z)*z-y*(w*w)*w=0
        · rw[if_pos h4]
          exact fn_sound qsB_ok Try.func24 (plC x y z u v w) ⟨decide_eq_false h,decide_eq_false h2,decide_eq_true h3,decide_eq_true h4,trivial⟩
        · rw[if_neg h4]
          exact fn_sound qsB_ok Try.func24 (plD x y z u v w) ⟨decide_eq_false h,decide_eq_false h2,decide_eq_true h3,decide_eq_false h4,trivial⟩
      · rw[if_neg h3]
        exact fn_sound qsB_ok Try.func24 (plE x y z u v w) ⟨decide_eq_false h,decide_eq_false h2,decide_eq_false h3,trivial⟩

end Go.Proofs.Ytdaligcdaalnmaa

/- Points of the first curve, in and out, walked. No conditions. -/
namespace Go.Proofs.Ytdaligcdaalnmaa

def plPSpec:FnSpec
  | [.v (.a [.ob (.p x),.ob (.p y),.ob (.p z)]),.v (.a [.ob (.p u),.ob (.p v),.ob (.p w)])]=>some ([],.v (.a (ptIts (jpl (x,y,z) (u,v,w)))),[])
  | _=>none
noncomputable def qsC:Env:=qsB.set (addT qsB.fn 24 plPSpec)
theorem qsC_ok:EnvOk Try.prog qsC:=env_add qsB_ok 24 plPSpec (enters_of Try.func24 rfl rfl) fun args o r es h _=>by
  unfold plPSpec at h
  split at h
  · cases h;exact plusPt_fnd _ _ _ _ _ _
  · cases h
noncomputable def inlAf (T:Nat→Option Func) (f:Nat):Option Func:=if f=20 then some Try.f20 else T f
noncomputable def qsD:Env:={ qsC with inl:=inlAf qsC.inl }
theorem qsD_ok:EnvOk Try.prog qsD:=by
  refine ⟨qsC_ok.ty,qsC_ok.mixed,qsC_ok.fn,qsC_ok.mu,fun f fn h=>?_,qsC_ok.ex,qsC_ok.inv⟩
  have h:inlAf qsC.inl f=some fn:=h
  unfold inlAf at h
  split at h
  · rename_i hf;cases h;subst hf;exact ⟨Try.func20,enters_of Try.func20 rfl rfl⟩
  exact qsC_ok.inl f fn h
--@env qsD qsD_ok
theorem igA (x y:U6) (i:Bool):fnRes qsD Try.f14 3000 [.v (.a [.ob (.fp x),.ob (.fp y),.bool i])] [true] [] []=(some ([(i=true),((0:Int)≤(1:Int)),((1:Int)<(18446744073709551616:Int)),((0:Int)≤(1:Int)),((1:Int)<(18446744073709551616:Int))],((.v (.a [(.ob (.p (Fin.ofNat pN 1))),(.ob (.p (Fin.ofNat pN 1))),(.ob (.p (0:Fp)))])),[]))):=by kernel_rfl
theorem igB (x y:U6) (i:Bool):fnRes qsD Try.f14 3000 [.v (.a [.ob (.fp x),.ob (.fp y),.bool i])] [false] [] []=(some ([(i=false),((0:Int)≤(1:Int)),((1:Int)<(18446744073709551616:Int))],((.v (.a [(.ob (.p (inP x))),(.ob (.p (inP y))),(.ob (.p (Fin.ofNat pN 1)))])),[]))):=by kernel_rfl
theorem ogA (x y z:Fp):fnRes qsD Try.f11 3000 [.v (.a [.ob (.p x),.ob (.p y),.ob (.p z)])] [true,true] [] []=(some ([((decide (z=(0:Fp)))=true)],((.v (.a [(.ob (.fp (0:U6))),(.ob (.fp (0:U6))),(.lit true)])),[]))):=by kernel_rfl
theorem ogB (x y z:Fp):fnRes qsD Try.f11 3000 [.v (.a [.ob (.p x),.ob (.p y),.ob (.p z)])] [false,false] [] []=(some ([((decide (z=(0:Fp)))=false)],((.v (.a [(.ob (.fp (outP (x*((ivP z)*(ivP z)))))),(.ob (.fp (outP ((y*((ivP z)*(ivP z)))*(ivP z))))),(.lit false)])),[]))):=by kernel_rfl
theorem onA (x y:U6) (i:Bool):fnRes qsD Try.f15 3000 [.v (.a [.ob (.fp x),.ob (.fp y),.bool i])] [true] [] []=(some ([(i=true)],((.v (.c (.bool (ite (true=true) (Bool.and (decide (x=(0:U6))) (Bool.and (decide (y=(0:U6))) (i == true))) (Bool.not (Bool.and (decide (x=(0:U6))) (Bool.and (decide (y=(0:U6))) (i == true)))))))),[]))):=by kernel_rfl
theorem onB (x y:U6) (i:Bool):fnRes qsD Try.f15 3000 [.v (.a [.ob (.fp x),.ob (.fp y),.bool i])] [false,true,true] [] []=(some ([(i=false),((ite (true=true) (decide ((outP (inP x))=x)) (Bool.not (decide ((outP (inP x))=x))))=true),((ite (true=true) (decide ((outP (inP y))=y)) (Bool.not (decide ((outP (inP y))=y))))=true),((0:Int)≤(4:Int)),((4:Int)<(18446744073709551616:Int))],((.v (.c (.bool (ite (true=true) (decide (((inP y)*(inP y))=((((inP x)*(inP x))*(inP x))+(Fin.ofNat pN 4)))) (Bool.not (decide (((inP y)*(inP y))=((((inP x)*(inP x))*(inP x))+(Fin.ofNat pN 4))))))))),[]))):=by kernel_rfl
theorem onC (x y:U6) (i:Bool):fnRes qsD Try.f15 3000 [.v (.a [.ob (.fp x),.ob (.fp y),.bool i])] [false,true,false] [] []=(some ([(i=false),((ite (true=true) (decide ((outP (inP x))=x)) (Bool.not (decide ((outP (inP x))=x))))=true),((ite (true=true) (decide ((outP (inP y))=y)) (Bool.not (decide ((outP (inP y))=y))))=false)],((.v (.c (.lit false))),[]))):=by kernel_rfl
theorem onD (x y:U6) (i:Bool):fnRes qsD Try.f15 3000 [.v (.a [.ob (.fp x),.ob (.fp y),.bool i])] [false,false,false] [] []=(some ([(i=false),((ite (true=true) (decide ((outP (inP x))=x)) (Bool.not (decide ((outP (inP x))=x))))=false)],((.v (.c (.lit false))),[]))):=by kernel_rfl
end Go.Proofs.Ytdaligcdaalnmaa

/- Points of the first curve, in and out: contracts; the functions outside, walked. No conditions. -/
namespace Go.Proofs.Ytdaligcdaalnmaa

/-- Which points may be. -/
def onG (a:G1D):Bool:=
  if a.inf then decide (a.x=0) && decide (a.y=0)
  else decide (outP (inP a.x)=a.x) && (decide (outP (inP a.y)=a.y) && decide (inP a.y*inP a.y=inP a.x*inP a.x*inP a.x+fp4))
def inG (a:G1D):Fp×Fp×Fp:=if a.inf then (fp1,fp1,0) else (inP a.x,inP a.y,fp1)
def outG (t:Fp×Fp×Fp):G1D:=
  if t.2.2=0 then ⟨0,0,true⟩ else ⟨outP (t.1*(ivP t.2.2*ivP t.2.2)),outP (t.2.1*(ivP t.2.2*ivP t.2.2)*ivP t.2.2),false⟩

theorem lit_third {x:Ctx} {i j:It} {b:Bool} {v:Value} (h:denS x (.v (.a [i,j,.lit b])) v):denS x (.v (.a [i,j,.bool b])) v:=by
  obtain ⟨cs,e,c1,r1,e1,h1,c2,r2,e2,h2,c3,r3,e3,⟨d,h3⟩,h4⟩:=h
  refine ⟨cs,e,c1,r1,e1,h1,c2,r2,e2,h2,c3,r3,e3,⟨d,?_⟩,h4⟩
  cases d<;>exact h3
theorem inG_fnd (x y:U6) (i:Bool):FnD Try.prog 14 [.v (.a [.ob (.fp x),.ob (.fp y),.bool i])] (.v (.a (ptIts (inG ⟨x,y,i⟩)))) []:=by
  cases i with
  | true=>exact fn_sound qsD_ok Try.func14 (igA x y true) ⟨rfl,by decide,by decide,by decide,by decide,trivial⟩
  | false=>exact fn_sound qsD_ok Try.func14 (igB x y false) ⟨rfl,by decide,by decide,trivial⟩

theorem outG_fnd (x y z:Fp):FnD Try.prog 11 [.v (.a [.ob (.p x),.ob (.p y),.ob (.p z)])] (.v (.a (outG (x,y,z)).its)) []:=by
  by_cases h:z=0
  · have e:outG (x,y,z)=⟨0,0,true⟩:=if_pos h
    rw[e]
    exact (fn_sound qsD_ok Try.func11 (ogA x y z) ⟨decide_eq_true h,trivial⟩).conv (fun _ _ h=>h) fun y v hd=>lit_third hd
  · unfold outG
    rw[if_neg h]
    exact (fn_sound qsD_ok Try.func11 (ogB x y z) ⟨decide_eq_false h,trivial⟩).conv (fun _ _ h=>h) fun y v hd=>lit_third hd

theorem onG_fnd (x y:U6) (i:Bool):FnD Try.prog 15 [.v (.a [.ob (.fp x),.ob (.fp y),.bool i])] (.v (.c (.bool (onG ⟨x,y,i⟩)))) []:=by
  cases i with
  | true=>
    have r:=onA x y true
    rw[if_pos rfl] at r
    have e:onG ⟨x,y,true⟩=((decide (x=0)) && ((decide (y=0)) && (true == true))):=by
      show (decide (x=0) && decide (y=0))=_
      simp
    rw[e]
    exact fn_sound qsD_ok Try.func15 r ⟨rfl,trivial⟩
  | false=>
    by_cases h1:outP (inP x)=x
    · by_cases h2:outP (inP y)=y
      · have r:=onB x y false
        rw[if_pos rfl,if_pos rfl,if_pos rfl] at r
        have e:onG ⟨x,y,false⟩=decide (inP y*inP y=inP x*inP x*inP x+Fin.ofNat pN 4):=by
          show (decide (outP (inP x)=x) && (decide (outP (inP y)=y) && decide (inP y*inP y=inP x*inP x*inP x+fp4)))=_
          rw[decide_eq_true h1,decide_eq_true h2];rfl
        rw[e]
        exact fn_sound qsD_ok Try.func15 r ⟨rfl,decide_eq_true h1,decide_eq_true h2,by decide,by decide,trivial⟩
      · have r:=onC x y false
        rw[if_pos rfl,if_pos rfl] at r
        have e:onG ⟨x,y,false⟩=false:=by
          show (decide (outP (inP x)=x) && (decide (outP (inP y)=y) && decide (inP y*inP y=inP x*inP x*inP x+fp4)))=_
          rw[decide_eq_false h2,Bool.false_and,Bool.and_false]
        rw[e]
        exact (fn_sound qsD_ok Try.func15 r ⟨rfl,decide_eq_true h1,decide_eq_false h2,trivial⟩).conv (fun _ _ h=>h) fun y v hd=>lit_bool rfl hd
    · have r:=onD x y false
      rw[if_pos rfl] at r
      have e:onG ⟨x,y,false⟩=false:=by
        show (decide (outP (inP x)=x) && (decide (outP (inP y)=y) && decide (inP y*inP y=inP x*inP x*inP x+fp4)))=_
        rw[decide_eq_false h1,Bool.false_and]
      rw[e]
      exact (fn_sound qsD_ok Try.func15 r ⟨rfl,decide_eq_false h1,trivial⟩).conv (fun _ _ h=>h) fun y v hd=>lit_bool rfl hd
def inGSpec:FnSpec
  | [.v (.a [.ob (.fp x),.ob (.fp y),.bool i])]=>some ([],.v (.a (ptIts (inG ⟨x,y,i⟩))),[])
  | _=>none
noncomputable def qsE:Env:=qsD.set (addT qsD.fn 14 inGSpec)
theorem qsE_ok:EnvOk Try.prog qsE:=env_add qsD_ok 14 inGSpec (enters_of Try.func14 rfl rfl) fun args o r es h _=>by
  unfold inGSpec at h
  split at h
  · cases h;exact inG_fnd _ _ _
  · cases h
def outGSpec:FnSpec
  | [.v (.a [.ob (.p x),.ob (.p y),.ob (.p z)])]=>some ([],.v (.a (outG (x,y,z)).its),[])
  | _=>none
noncomputable def qsF:Env:=qsE.set (addT qsE.fn 11 outGSpec)
theorem qsF_ok:EnvOk Try.prog qsF:=env_add qsE_ok 11 outGSpec (enters_of Try.func11 rfl rfl) fun args o r es h _=>by
  unfold outGSpec at h
  split at h
  · cases h;exact outG_fnd _ _ _
  · cases h
def onGSpec:FnSpec
  | [.v (.a [.ob (.fp x),.ob (.fp y),.bool i])]=>some ([],.v (.c (.bool (onG ⟨x,y,i⟩))),[])
  | _=>none
noncomputable def qsG:Env:=qsF.set (addT qsF.fn 15 onGSpec)
theorem qsG_ok:EnvOk Try.prog qsG:=env_add qsF_ok 15 onGSpec (enters_of Try.func15 rfl rfl) fun args o r es h _=>by
  unfold onGSpec at h
  split at h
  · cases h;exact onG_fnd _ _ _
  · cases h
--@env qsG qsG_ok
theorem riR (x y:U6) (i:Bool):fnRes qsG Try.f5 3000 [.v (.a [.ob (.fp x),.ob (.fp y),.bool i])] [] [] []=(some ([],((.v (.c (.bool (onG (G1D.mk x y i))))),[]))):=by kernel_rfl
theorem geR  : fnRes qsG Try.f16 3000 [] [] [] []=(some ([((0:Int)≤(18103045581585958587:Int)),((18103045581585958587:Int)<(18446744073709551616:Int)),((0:Int)≤(7806400890582735599:Int)),((7806400890582735599:Int)<(18446744073709551616:Int)),((0:Int)≤(11623291730934869080:Int)),((11623291730934869080:Int)<(18446744073709551616:Int)),((0:Int)≤(14080658508445169925:Int)),((14080658508445169925:Int)<(18446744073709551616:Int)),((0:Int)≤(2780237799254240271:Int)),((2780237799254240271:Int)<(18446744073709551616:Int)),((0:Int)≤(1725392847304644500:Int)),((1725392847304644500:Int)<(18446744073709551616:Int)),((0:Int)≤(912580534683953121:Int)),((912580534683953121:Int)<(18446744073709551616:Int)),((0:Int)≤(15005087156090211044:Int)),((15005087156090211044:Int)<(18446744073709551616:Int)),((0:Int)≤(61670280795567085:Int)),((61670280795567085:Int)<(18446744073709551616:Int)),((0:Int)≤(18227722000993880822:Int)),((18227722000993880822:Int)<(18446744073709551616:Int)),((0:Int)≤(11573741888802228964:Int)),((11573741888802228964:Int)<(18446744073709551616:Int)),((0:Int)≤(627113611842199793:Int)),((627113611842199793:Int)<(18446744073709551616:Int))],((.v (.a [(.ob (.fp (Fin.ofNat B6 3685416753713387016781088315183077757961620795782546409894578378688607592378376318836054947676345821548104185464507))),(.ob (.fp (Fin.ofNat B6 1339506544944476473020471379941921221584933875938349620426543736416511423956333506472724655353366534992391756441569))),(.lit false)])),[]))):=by kernel_rfl
end Go.Proofs.Ytdaligcdaalnmaa

/- The reference's functions on points of the first curve: contracts. No conditions. -/
namespace Go.Proofs.Ytdaligcdaalnmaa

def genX:U6:=Fin.ofNat B6 3685416753713387016781088315183077757961620795782546409894578378688607592378376318836054947676345821548104185464507
def genY:U6:=Fin.ofNat B6 1339506544944476473020471379941921221584933875938349620426543736416511423956333506472724655353366534992391756441569
def genG:G1D:=⟨genX,genY,false⟩

theorem gen_fnd:FnD Try.prog 16 [] (.v (.a genG.its)) []:=
  (fn_sound qsG_ok Try.func16 geR (by simp [AllP])).conv (fun _ _ h=>h) fun y v hd=>lit_third hd
end Go.Proofs.Ytdaligcdaalnmaa

/- Points of the first curve outside, and the reference's: sums, walked. No conditions. -/
namespace Go.Proofs.Ytdaligcdaalnmaa

def rightSpec1:FnSpec
  | [.v (.a [.ob (.fp x),.ob (.fp y),.bool i])]=>some ([],.v (.c (.bool (onG ⟨x,y,i⟩))),[])
  | _=>none
noncomputable def qtA:Env:=qsG.set (addT qsG.fn 5 rightSpec1)
theorem qtA_ok:EnvOk Try.prog qtA:=env_add qsG_ok 5 rightSpec1 (enters_of Try.func5 rfl rfl) fun args o r es h _=>by
  unfold rightSpec1 at h
  split at h
  · cases h;exact fn_sound qsG_ok Try.func5 (riR _ _ _) trivial
  · cases h
def genSpec1:FnSpec
  | []=>some ([],.v (.a genG.its),[])
  | _=>none
noncomputable def qtC:Env:=qtA.set (addT qtA.fn 16 genSpec1)
theorem qtC_ok:EnvOk Try.prog qtC:=env_add qtA_ok 16 genSpec1 (enters_of Try.func16 rfl rfl) fun args o r es h _=>by
  unfold genSpec1 at h
  split at h
  · cases h;exact gen_fnd
  · cases h
noncomputable def qtG:Env:=qtC
theorem qtG_ok:EnvOk Try.prog qtG:=qtC_ok
end Go.Proofs.Ytdaligcdaalnmaa

/- Sums and negatives of points of the first curve outside: contracts. No conditions. -/
namespace Go.Proofs.Ytdaligcdaalnmaa

theorem lit_third_t {x:Ctx} {i j k:It} {b:Bool} {v:Value} (h:denS x (.t [.a [i,j,.lit b],.c k]) v):denS x (.t [.a [i,j,.bool b],.c k]) v:=by
  obtain ⟨vs,e,h1⟩:=h
  cases h1 with | cons d1 ds=>
  exact ⟨_,e,.cons (lit_third d1) ds⟩

end Go.Proofs.Ytdaligcdaalnmaa

/- The first curve is a group: points inside and outside; the plain law. No conditions. -/
namespace Go.Proofs.Ytdaligcdaalnmaa

theorem no2_p (x:Fp):x*x*x+fp4≠0:=by
  intro h
  have h:=neg_of_sum h
  rw[neg4] at h
  refine cube_ne _ (fun e=>?_) (fun e=>?_) x h
  · have:=congrArg Fin.val e
    rw[pw_mpow _ 384 _ third_lt,neg4_val,one_val_p] at this
    exact neg4_pow this
  · have:=congrArg Fin.val e
    rw[neg4_val] at this
    revert this
    decide +kernel

theorem cv1:Cv fp4:=⟨two_ne_p,no2_p⟩

/-- A point outside, as a point; and back. -/
def pG (a:G1D):Pt Fp:=if a.inf then none else some (inP a.x,inP a.y)
def gP:Pt Fp→G1D
  | none=>⟨0,0,true⟩
  | some p=>⟨outP p.1,outP p.2,false⟩

theorem onG_is {a:G1D} (h:onG a=true):gP (pG a)=a∧OnC fp4 (pG a):=by
  obtain ⟨x,y,i⟩:=a
  cases i with
  | true=>
    have h:(decide (x=0) && decide (y=0))=true:=h
    rw[Bool.and_eq_true,decide_eq_true_eq,decide_eq_true_eq] at h
    obtain ⟨rfl,rfl⟩:=h
    exact ⟨rfl,True.intro⟩
  | false=>
    have h:(decide (outP (inP x)=x) && (decide (outP (inP y)=y) && decide (inP y*inP y=inP x*inP x*inP x+fp4)))=true:=h
    rw[Bool.and_eq_true,Bool.and_eq_true,decide_eq_true_eq,decide_eq_true_eq,decide_eq_true_eq] at h
    obtain ⟨h1,h2,h3⟩:=h
    refine ⟨?_,h3⟩
    show (⟨outP (inP x),outP (inP y),false⟩:G1D)=⟨x,y,false⟩
    rw[h1,h2]

theorem one_sq:(1:Fp)*1=1:=by decide +kernel
theorem inG_jc (a:G1D):Jc (pG a) (inG a):=by
  obtain ⟨x,y,i⟩:=a
  cases i with
  | true=>exact (rfl:(0:Fp)=0)
  | false=>
    show Jc (some (inP x,inP y)) (inP x,inP y,fp1)
    rw[fp1_one]
    refine ⟨one_ne_p,?_,?_⟩
    · show inP x=inP x*(1*1)
      rw[one_sq]
      exact (mul_one_g _).symm
    · show inP y=inP y*(1*1*1)
      rw[one_sq,one_sq]
      exact (mul_one_g _).symm

theorem outG_jc {P:Pt Fp} {t:Fp×Fp×Fp} (h:Jc P t):outG t=gP P:=by
  rw[←jpt_of P t h]
  unfold outG jpt
  by_cases hz:t.2.2=0
  · rw[if_pos hz,if_pos hz];rfl
  · rw[if_neg hz,if_neg hz];rfl

end Go.Proofs.Ytdaligcdaalnmaa

/- Sums and negatives of points: contracts. No conditions. -/
namespace Go.Proofs.Ytdaligcdaalnmaa

noncomputable def qvA:Env:=qtG
theorem qvA_ok:EnvOk Try.prog qvA:=qtG_ok
noncomputable def qvF:Env:=qvA
theorem qvF_ok:EnvOk Try.prog qvF:=qvA_ok
end Go.Proofs.Ytdaligcdaalnmaa

/- A point as often as a number says: contract. No conditions. -/
namespace Go.Proofs.Ytdaligcdaalnmaa

theorem cat_flat {x:Ctx} (L:List (Fp×Fp×Fp)):∀(n i:Nat) (cs:List Value),catL x.D (flatPt L i n) cs→cs.length=n*18∧∀j,j<n→∃c,catL x.D (ptIts (L.getD (i+j) pt0)) c∧∀(q:Nat) (v:Value),c[q]? = some v→cs[j*18+q]? = some v
  | 0,i,cs,h=>by
    have h:cs=[]:=h
    subst h
    exact ⟨rfl,fun j hj=>absurd hj (Nat.not_lt_zero _)⟩
  | n+1,i,cs,h=>by
    obtain ⟨c1,r1,e1,h1,c2,r2,e2,h2,c3,r3,e3,h3,h4⟩:=h
    obtain ⟨hl,hj⟩:=cat_flat L n (i+1) r3 h4
    have l1:c1.length=6:=D_len h1
    have l2:c2.length=6:=D_len h2
    have l3:c3.length=6:=D_len h3
    subst e1 e2 e3
    refine ⟨by simp only[List.length_append];omega,fun j hjn=>?_⟩
    cases j with
    | zero=>
      refine ⟨c1++(c2++(c3++[])),⟨c1,_,rfl,h1,c2,_,rfl,h2,c3,_,rfl,h3,rfl⟩,fun q v hq=>?_⟩
      rw[List.append_nil] at hq
      have hlt:q<(c1++(c2++c3)).length:=by
        rcases Nat.lt_or_ge q (c1++(c2++c3)).length with h | h
        · exact h
        · rw[List.getElem?_eq_none h] at hq;cases hq
      rw[Nat.zero_mul,Nat.zero_add,←hq]
      have e:c1++(c2++(c3++r3))=(c1++(c2++c3))++r3:=by simp
      rw[e,List.getElem?_append_left hlt]
    | succ j=>
      obtain ⟨c,hc,hv⟩:=hj j (by omega)
      rw[show i+1+j=i+(j+1) from by omega] at hc
      refine ⟨c,hc,fun q v hq=>?_⟩
      have e:c1++(c2++(c3++r3))=(c1++(c2++c3))++r3:=by simp
      have hl18:(c1++(c2++c3)).length=18:=by simp only[List.length_append];omega
      rw[e,List.getElem?_append_right (by rw[hl18];omega),hl18,show (j+1)*18+q-18=j*18+q from by omega]
      exact hv q v hq

end Go.Proofs.Ytdaligcdaalnmaa

/- one.Mul, and OneTimes' law, walked. No conditions. -/
namespace Go.Proofs.Ytdaligcdaalnmaa

instance:Inhabited G1D:=⟨g10⟩
noncomputable def qwA:Env:=qvF
theorem qwA_ok:EnvOk Try.prog qwA:=qvF_ok
noncomputable def qwC:Env:=qwA
theorem qwC_ok:EnvOk Try.prog qwC:=qwA_ok
end Go.Proofs.Ytdaligcdaalnmaa

/- What the sums stand on. No conditions. -/
namespace Go.Proofs.Ytdaligcdaalnmaa

noncomputable def uaB:Env:=qwC
theorem uaB_ok:EnvOk Try.prog uaB:=qwC_ok
end Go.Proofs.Ytdaligcdaalnmaa

/- Sums of the points of each digit, and their total, walked. No conditions. -/
namespace Go.Proofs.Ytdaligcdaalnmaa
section
variable {w0:World} {F0:Nat→Prop} {K:Kp} {ac:List Act} {Q:Exit→Act→World→Prop} {cX:Ctx} {aX:Act}

def digitsSpec:FnSpec
  | [.v (.a [.ob (.fr k)])]=>some ([],.v (.c (.sl (.int (dgW k.val 52).1))),[])
  | _=>none
noncomputable def ucA:Env:=uaB.set (addT uaB.fn 22 digitsSpec)
theorem ucA_ok:EnvOk Try.prog ucA:=env_add uaB_ok 22 digitsSpec (enters_of Try.func22 rfl rfl) fun args o r es h _=>by
  unfold digitsSpec at h
  split at h
  · cases h;exact digits_fnd _ (Eq.refl 52)
  · cases h
noncomputable def inlTo (T:Nat→Option Func) (f:Nat):Option Func:=if f=34 then some Try.f34 else T f
noncomputable def ucB:Env:={ ucA with inl:=inlTo ucA.inl }
theorem ucB_ok:EnvOk Try.prog ucB:=by
  refine ⟨ucA_ok.ty,ucA_ok.mixed,ucA_ok.fn,ucA_ok.mu,fun f fn h=>?_,ucA_ok.ex,ucA_ok.inv⟩
  have h:inlTo ucA.inl f=some fn:=h
  unfold inlTo at h
  split at h
  · rename_i hf;cases h;subst hf;exact ⟨Try.func34,enters_of Try.func34 rfl rfl⟩
  exact ucA_ok.inl f fn h
--@env ucB ucB_ok
noncomputable def kb_k:List KI:=(run ucB false 3000 ((fun (P:List (Fp×Fp×Fp)) (D:List Int)=>(⟨[.code (bodyOf Try.f25)],.normal,initSt Try.f25.ntmps [.v (.c (.sl (.pt P))),.v (.c (.sl (.int D)))]⟩:Cfg)) default default) []).cfg.k
theorem kb_hk (P:List (Fp×Fp×Fp)) (D:List Int):(run ucB false 3000 ((⟨[.code (bodyOf Try.f25)],.normal,initSt Try.f25.ntmps [.v (.c (.sl (.pt P))),.v (.c (.sl (.int D)))]⟩:Cfg)) []).cfg.k=kb_k:=by kernel_rfl
theorem kb (P:List (Fp×Fp×Fp)) (D:List Int) (ho:AllP []) (hs:Sim w0 F0 K ac (initSt Try.f25.ntmps [.v (.c (.sl (.pt P))),.v (.c (.sl (.int D)))]) cX aX) (hK:∀ac cY aY,Sim w0 F0 K ac (mkSt 45 [1,4,5,9,10,11] [(.v (.c (.sl (.int D)))),.pt 16 0,.pt 32 0,(.v (.c (.sl (Sq.pt P)))),(.ii (((List.length P):Nat):Int)),.ii (0:Int)] [16,32] [(some (.fl [(.ob (.p (0:Fp))),(.ob (.p (0:Fp))),(.ob (.p (0:Fp)))])),(some (.fl [(.ob (.p (0:Fp))),(.ob (.p (0:Fp))),(.ob (.p (0:Fp))),(.ob (.p (0:Fp))),(.ob (.p (0:Fp))),(.ob (.p (0:Fp))),(.ob (.p (0:Fp))),(.ob (.p (0:Fp))),(.ob (.p (0:Fp))),(.ob (.p (0:Fp))),(.ob (.p (0:Fp))),(.ob (.p (0:Fp))),(.ob (.p (0:Fp))),(.ob (.p (0:Fp))),(.ob (.p (0:Fp))),(.ob (.p (0:Fp))),(.ob (.p (0:Fp))),(.ob (.p (0:Fp))),(.ob (.p (0:Fp))),(.ob (.p (0:Fp))),(.ob (.p (0:Fp))),(.ob (.p (0:Fp))),(.ob (.p (0:Fp))),(.ob (.p (0:Fp))),(.ob (.p (0:Fp))),(.ob (.p (0:Fp))),(.ob (.p (0:Fp))),(.ob (.p (0:Fp))),(.ob (.p (0:Fp))),(.ob (.p (0:Fp))),(.ob (.p (0:Fp))),(.ob (.p (0:Fp))),(.ob (.p (0:Fp))),(.ob (.p (0:Fp))),(.ob (.p (0:Fp))),(.ob (.p (0:Fp))),(.ob (.p (0:Fp))),(.ob (.p (0:Fp))),(.ob (.p (0:Fp))),(.ob (.p (0:Fp))),(.ob (.p (0:Fp))),(.ob (.p (0:Fp))),(.ob (.p (0:Fp))),(.ob (.p (0:Fp))),(.ob (.p (0:Fp))),(.ob (.p (0:Fp))),(.ob (.p (0:Fp))),(.ob (.p (0:Fp))),(.ob (.p (0:Fp))),(.ob (.p (0:Fp))),(.ob (.p (0:Fp)))]))] 96 [] []) cY aY→Wq Try.prog Q (kb_k) ac Exit.normal aY cY.w):Wq Try.prog Q ([.code (bodyOf Try.f25)]) ac .normal aX cX.w:=
  run_at2 (o:=⟨_,_,_,_,_,_,_⟩) ucB_ok (by kernel_rfl) (kb_hk P D) ho hs hK
noncomputable def kbS (P:List (Fp×Fp×Fp)) (D:List Int) (S:List (Fp×Fp×Fp)) (i:Int):St:=mkSt 45 [1,4,5,9,10,11] [(.v (.c (.sl (.int D)))),.pt 16 0,.pt 32 0,(.v (.c (.sl (Sq.pt P)))),(.ii (((List.length P):Nat):Int)),.v (.c (.int .i64 i))] [16,32] [(some (.fl [(.ob (.p (0:Fp))),(.ob (.p (0:Fp))),(.ob (.p (0:Fp)))])),some (.sq (.pt S))] 96 [] []
theorem kbA_hk (P:List (Fp×Fp×Fp)) (D:List Int) (S:List (Fp×Fp×Fp)) (i:Int):(run ucB false 3000 ((⟨lpIn kb_k,.normal,kbS P D S i⟩:Cfg)) [true,true]).cfg.k=lpBk kb_k:=by kernel_rfl
theorem kbA (P:List (Fp×Fp×Fp)) (D:List Int) (S:List (Fp×Fp×Fp)) (i:Int) (ho:AllP [((decide (i<(((List.length P):Nat):Int)))=true),((0:Int)≤i),(i<(((List.length P):Nat):Int)),((0:Int)≤i),(i<(((List.length D):Nat):Int)),((decide ((List.getD D (i).toNat (0:Int)) > (0:Int)))=true),((0:Int)≤(List.getD D (i).toNat (0:Int))),((List.getD D (i).toNat (0:Int))<(17:Int)),(0=0),(((List.getD D (i).toNat (0:Int))).toNat<(List.length S)),((0:Int)≤(List.getD D (i).toNat (0:Int))),((List.getD D (i).toNat (0:Int))<(17:Int)),(0=0),(((List.getD D (i).toNat (0:Int))).toNat<(List.length S))]) (hs:Sim w0 F0 K ac (kbS P D S i) cX aX) (hK:∀ac cY aY,Sim w0 F0 K ac (mkSt 45 [1,4,5,9,10,11] [(.v (.c (.sl (.int D)))),.pt 16 0,.pt 32 0,(.v (.c (.sl (Sq.pt P)))),(.ii (((List.length P):Nat):Int)),(.ii (IntKind.wrap .i64 (i+(1:Int))))] [16,32] [(some (.fl [(.ob (.p (0:Fp))),(.ob (.p (0:Fp))),(.ob (.p (0:Fp)))])),(some (.sq (Sq.pt (List.set S ((List.getD D (i).toNat (0:Int))).toNat (jpl (List.getD S ((List.getD D (i).toNat (0:Int))).toNat pt0) (List.getD P (i).toNat pt0))))))] 496 [] []) cY aY→Wq Try.prog Q (lpBk kb_k) ac Exit.normal aY cY.w):Wq Try.prog Q (lpIn kb_k) ac .normal aX cX.w:=
  run_at2 (o:=⟨_,_,_,_,_,_,_⟩) ucB_ok (by kernel_rfl) (kbA_hk P D S i) ho hs hK
theorem kbB_hk (P:List (Fp×Fp×Fp)) (D:List Int) (S:List (Fp×Fp×Fp)) (i:Int):(run ucB false 3000 ((⟨lpIn kb_k,.normal,kbS P D S i⟩:Cfg)) [true,false,true]).cfg.k=lpBk kb_k:=by kernel_rfl
theorem kbB (P:List (Fp×Fp×Fp)) (D:List Int) (S:List (Fp×Fp×Fp)) (i:Int) (ho:AllP [((decide (i<(((List.length P):Nat):Int)))=true),((0:Int)≤i),(i<(((List.length P):Nat):Int)),((0:Int)≤i),(i<(((List.length D):Nat):Int)),((decide ((List.getD D (i).toNat (0:Int)) > (0:Int)))=false),((decide ((List.getD D (i).toNat (0:Int))<(0:Int)))=true),((0:Int)≤(IntKind.wrap .i64 ((0:Int)-(List.getD D (i).toNat (0:Int))))),((IntKind.wrap .i64 ((0:Int)-(List.getD D (i).toNat (0:Int))))<(17:Int)),(0=0),(((IntKind.wrap .i64 ((0:Int)-(List.getD D (i).toNat (0:Int))))).toNat<(List.length S)),((0:Int)≤(IntKind.wrap .i64 ((0:Int)-(List.getD D (i).toNat (0:Int))))),((IntKind.wrap .i64 ((0:Int)-(List.getD D (i).toNat (0:Int))))<(17:Int)),(0=0),(((IntKind.wrap .i64 ((0:Int)-(List.getD D (i).toNat (0:Int))))).toNat<(List.length S))]) (hs:Sim w0 F0 K ac (kbS P D S i) cX aX) (hK:∀ac cY aY,Sim w0 F0 K ac (mkSt 45 [1,4,5,9,10,11] [(.v (.c (.sl (.int D)))),.pt 16 0,.pt 32 0,(.v (.c (.sl (Sq.pt P)))),(.ii (((List.length P):Nat):Int)),(.ii (IntKind.wrap .i64 (i+(1:Int))))] [16,32] [(some (.fl [(.ob (.p (0:Fp))),(.ob (.p (0:Fp))),(.ob (.p (0:Fp)))])),(some (.sq (Sq.pt (List.set S ((IntKind.wrap .i64 ((0:Int)-(List.getD D (i).toNat (0:Int))))).toNat (jpl (List.getD S ((IntKind.wrap .i64 ((0:Int)-(List.getD D (i).toNat (0:Int))))).toNat pt0) (jng (List.getD P (i).toNat pt0)))))))] 592 [] []) cY aY→Wq Try.prog Q (lpBk kb_k) ac Exit.normal aY cY.w):Wq Try.prog Q (lpIn kb_k) ac .normal aX cX.w:=
  run_at2 (o:=⟨_,_,_,_,_,_,_⟩) ucB_ok (by kernel_rfl) (kbB_hk P D S i) ho hs hK
theorem kbC_hk (P:List (Fp×Fp×Fp)) (D:List Int) (S:List (Fp×Fp×Fp)) (i:Int):(run ucB false 3000 ((⟨lpIn kb_k,.normal,kbS P D S i⟩:Cfg)) [true,false,false]).cfg.k=lpBk kb_k:=by kernel_rfl
theorem kbC (P:List (Fp×Fp×Fp)) (D:List Int) (S:List (Fp×Fp×Fp)) (i:Int) (ho:AllP [((decide (i<(((List.length P):Nat):Int)))=true),((0:Int)≤i),(i<(((List.length P):Nat):Int)),((0:Int)≤i),(i<(((List.length D):Nat):Int)),((decide ((List.getD D (i).toNat (0:Int)) > (0:Int)))=false),((decide ((List.getD D (i).toNat (0:Int))<(0:Int)))=false)]) (hs:Sim w0 F0 K ac (kbS P D S i) cX aX) (hK:∀ac cY aY,Sim w0 F0 K ac (mkSt 45 [1,4,5,9,10,11] [(.v (.c (.sl (.int D)))),.pt 16 0,.pt 32 0,(.v (.c (.sl (Sq.pt P)))),(.ii (((List.length P):Nat):Int)),(.ii (IntKind.wrap .i64 (i+(1:Int))))] [16,32] [(some (.fl [(.ob (.p (0:Fp))),(.ob (.p (0:Fp))),(.ob (.p (0:Fp)))])),(some (.sq (Sq.pt S)))] 416 [] []) cY aY→Wq Try.prog Q (lpBk kb_k) ac Exit.normal aY cY.w):Wq Try.prog Q (lpIn kb_k) ac .normal aX cX.w:=
  run_at2 (o:=⟨_,_,_,_,_,_,_⟩) ucB_ok (by kernel_rfl) (kbC_hk P D S i) ho hs hK
noncomputable def kbX_k:List KI:=(run ucB false 3000 ((fun (P:List (Fp×Fp×Fp)) (D:List Int) (S:List (Fp×Fp×Fp)) (i:Int)=>(⟨lpIn kb_k,.normal,kbS P D S i⟩:Cfg)) default default default default) [false]).cfg.k
theorem kbX_hk (P:List (Fp×Fp×Fp)) (D:List Int) (S:List (Fp×Fp×Fp)) (i:Int):(run ucB false 3000 ((⟨lpIn kb_k,.normal,kbS P D S i⟩:Cfg)) [false]).cfg.k=kbX_k:=by kernel_rfl
theorem kbX (P:List (Fp×Fp×Fp)) (D:List Int) (S:List (Fp×Fp×Fp)) (i:Int) (ho:AllP [((decide (i<(((List.length P):Nat):Int)))=false)]) (hs:Sim w0 F0 K ac (kbS P D S i) cX aX) (hK:∀ac cY aY,Sim w0 F0 K ac (mkSt 21 [0,2,3,4,5] [.pt 32 0,.pt 112 0,.pt 128 0,.pt 144 0,.ii (16:Int)] [16,32,112,128,144] [(some (.fl [(.ob (.p (0:Fp))),(.ob (.p (0:Fp))),(.ob (.p (0:Fp)))])),(some (.sq (Sq.pt S))),(some (.fl [(.ob (.p (0:Fp))),(.ob (.p (0:Fp))),(.ob (.p (0:Fp)))])),(some (.fl [(.ob (.p (0:Fp))),(.ob (.p (0:Fp))),(.ob (.p (0:Fp)))])),(some (.fl [(.ob (.p (0:Fp))),(.ob (.p (0:Fp))),(.ob (.p (0:Fp)))]))] 176 [[4]] [([.pt 16 0],45)]) cY aY→Wq Try.prog Q (kbX_k) ac Exit.normal aY cY.w):Wq Try.prog Q (lpIn kb_k) ac .normal aX cX.w:=
  run_at2 (o:=⟨_,_,_,_,_,_,_⟩) ucB_ok (by kernel_rfl) (kbX_hk P D S i) ho hs hK
noncomputable def kbT (S:List (Fp×Fp×Fp)) (r o:Fp×Fp×Fp) (d:Int):St:=mkSt 21 [0,2,3,4,5] [.pt 32 0,.pt 112 0,.pt 128 0,.pt 144 0,.v (.c (.int .i64 d))] [16,32,112,128,144] [(some (.fl [(.ob (.p (0:Fp))),(.ob (.p (0:Fp))),(.ob (.p (0:Fp)))])),(some (.sq (Sq.pt S))),(some (.fl [(.ob (.p (0:Fp))),(.ob (.p (0:Fp))),(.ob (.p (0:Fp)))])),some (.fl [.ob (.p o.1),.ob (.p o.2.1),.ob (.p o.2.2)]),some (.fl [.ob (.p r.1),.ob (.p r.2.1),.ob (.p r.2.2)])] 176 [[4]] [([.pt 16 0],45)]
theorem kbU_hk (S:List (Fp×Fp×Fp)) (r o:Fp×Fp×Fp) (d:Int):(run ucB false 3000 ((⟨lpIn kbX_k,.normal,kbT S r o d⟩:Cfg)) [true]).cfg.k=lpBk kbX_k:=by kernel_rfl
theorem kbU (S:List (Fp×Fp×Fp)) (r o:Fp×Fp×Fp) (d:Int) (ho:AllP [((decide (d > (0:Int)))=true),((0:Int)≤d),(d<(17:Int)),(0=0),((d).toNat<(List.length S))]) (hs:Sim w0 F0 K ac (kbT S r o d) cX aX) (hK:∀ac cY aY,Sim w0 F0 K ac (mkSt 21 [0,2,3,4,5] [.pt 32 0,.pt 112 0,.pt 128 0,.pt 144 0,(.ii (IntKind.wrap .i64 (d-(1:Int))))] [16,32,112,128,144] [(some (.fl [(.ob (.p (0:Fp))),(.ob (.p (0:Fp))),(.ob (.p (0:Fp)))])),(some (.sq (Sq.pt S))),(some (.fl [(.ob (.p (0:Fp))),(.ob (.p (0:Fp))),(.ob (.p (0:Fp)))])),(some (.fl [(.ob (.p (Prod.fst (jpl o (jpl r (List.getD S (d).toNat pt0)))))),(.ob (.p (Prod.fst (Prod.snd (jpl o (jpl r (List.getD S (d).toNat pt0))))))),(.ob (.p (Prod.snd (Prod.snd (jpl o (jpl r (List.getD S (d).toNat pt0)))))))])),(some (.fl [(.ob (.p (Prod.fst (jpl r (List.getD S (d).toNat pt0))))),(.ob (.p (Prod.fst (Prod.snd (jpl r (List.getD S (d).toNat pt0)))))),(.ob (.p (Prod.snd (Prod.snd (jpl r (List.getD S (d).toNat pt0))))))]))] 448 [[4]] [([.pt 16 0],45)]) cY aY→Wq Try.prog Q (lpBk kbX_k) ac Exit.normal aY cY.w):Wq Try.prog Q (lpIn kbX_k) ac .normal aX cX.w:=
  run_at2 (o:=⟨_,_,_,_,_,_,_⟩) ucB_ok (by kernel_rfl) (kbU_hk S r o d) ho hs hK
theorem kbV_end (S:List (Fp×Fp×Fp)) (r o:Fp×Fp×Fp) (d:Int):runEnd ucB Try.f25 false 3000 (⟨lpIn kbX_k,.normal,kbT S r o d⟩) [false] [] []=(some ([((decide (d > (0:Int)))=false)],((.v (.a [(.ob (.p (Prod.fst o))),(.ob (.p (Prod.fst (Prod.snd o)))),(.ob (.p (Prod.snd (Prod.snd o))))])),[]))):=by kernel_rfl
end
end Go.Proofs.Ytdaligcdaalnmaa

/- Sums of the points of each digit, and their total: contract. No conditions. -/
namespace Go.Proofs.Ytdaligcdaalnmaa

theorem tab_convn {x:Ctx} {n:Nat} (L:List (Fp×Fp×Fp)) (h:L.length=n) (cs:List Value) (hc:denEn x (.fl (flatPt L 0 n)) cs):denEn x (.sq (.pt L)) cs:=by
  obtain ⟨hl,hj⟩:=cat_flat L n 0 cs hc
  refine ⟨?_,fun i hi=>?_⟩
  · show L.length*18≤cs.length
    rw[h,hl]
    exact Nat.le_refl _
  · have hi:i<L.length:=hi
    rw[h] at hi
    obtain ⟨c,h1,h2⟩:=hj i hi
    rw[Nat.zero_add] at h1
    exact ⟨c,h1,h2⟩

theorem buckets_fnd (P:List (Fp×Fp×Fp)) (D:List Int) (hl:D.length=P.length) (hp:P.length≤4611686018427387904) (hd:∀i,-16≤D.getD i 0∧D.getD i 0≤16) :
    FnD Try.prog 25 [.v (.c (.sl (.pt P))),.v (.c (.sl (.int D)))] (.v (.a (ptIts (bkT pt0 P D)))) []:=by
  refine fn_start (fn:=Try.f25) (c:=bodyOf Try.f25) Try.func25 rfl rfl fun x0 a0 hk hF hs=>?_
  refine kb P D trivial hs fun ac cY aY hs1=>?_
  have hs2:=hs1.blocks (ens' := [some (.fl [.ob (.p 0),.ob (.p 0),.ob (.p 0)]),some (.sq (.pt (List.replicate 17 pt0)))])
    ⟨.inl rfl,.inr ⟨_,_,_,rfl,rfl,rfl,fun cs h=>tab_convn (n:=17) _ rfl cs h⟩,trivial⟩
  have hlen:∀i,(bkN pt0 (List.replicate 17 pt0) P D i).length=17:=fun i=>(bkN_len ..).trans List.length_replicate
  refine loop_rule (ι:={ i:Nat // i≤P.length }) (fun i=>kbS P D (bkN pt0 (List.replicate 17 pt0) P D i.1) (i.1:Int)) (fun i=>P.length-i.1) (c:=lpC kb_k) (k:=lpR kb_k) (by kernel_rfl) (fun i ih ac cY aY hs=>?_) ⟨0,Nat.zero_le _⟩ (hs2.nx _)
  obtain ⟨i,hi⟩:=i
  simp only at ih hs
  have hS:=hlen i
  by_cases h:i<P.length
  · have hnext:bkN pt0 (List.replicate 17 pt0) P D (i+1)=bkS pt0 (bkN pt0 (List.replicate 17 pt0) P D i) (P.getD i pt0) (D.getD i 0):=rfl
    have ei:IntKind.wrap IntKind.i64 ((i:Int)+1)=((i+1:Nat):Int):=by rw[wrap_id (by omega) (by omega)];rfl
    have hdi:=hd i
    have go:∀(S' : List (Fp×Fp×Fp)) (n:Nat) (ac:List Act) (cU:Ctx) (aU:Act),S' = bkN pt0 (List.replicate 17 pt0) P D (i+1)→Sim x0.w x0.F kAll ac (kbS P D S' ((i+1:Nat):Int)) cU aU→Wq Try.prog (Post Try.prog Try.f25 x0 (.v (.a (ptIts (bkT pt0 P D)))) []) (lpBk kb_k) ac .normal aU cU.w:=by
      intro S' n ac cU aU e hs
      rw[e] at hs
      exact ih ⟨i+1,h⟩ (by show P.length-(i+1)<P.length-i;omega) ac cU aU hs
    generalize bkN pt0 (List.replicate 17 pt0) P D i=S at hs hS hnext
    generalize hd0:D.getD i 0=d at hdi hnext
    by_cases hpos:d > 0
    · refine kbA P D S i ⟨decide_eq_true (by omega),by omega,by omega,by omega,by omega,?_,?_,?_,rfl,?_,?_,?_,rfl,?_,trivial⟩ hs fun ac cU aU hs3=>?_
      all_goals try rw[Int.toNat_natCast,hd0]
      · exact decide_eq_true hpos
      · omega
      · omega
      · omega
      · omega
      · omega
      · omega
      · rw[Int.toNat_natCast,hd0,ei] at hs3
        refine go _ 0 ac cU aU ?_ (hs3.nx _)
        rw[hnext]
        exact (if_pos hpos).symm
    · by_cases hneg:d<0
      · have ew:IntKind.wrap IntKind.i64 ((0:Int)-d) = -d:=by rw[wrap_id (by omega) (by omega)];omega
        refine kbB P D S i ⟨decide_eq_true (by omega),by omega,by omega,by omega,by omega,?_,?_,?_,?_,rfl,?_,?_,?_,rfl,?_,trivial⟩ hs fun ac cU aU hs3=>?_
        all_goals try rw[Int.toNat_natCast,hd0]
        · exact decide_eq_false hpos
        · exact decide_eq_true hneg
        all_goals try rw[ew]
        · omega
        · omega
        · omega
        · omega
        · omega
        · omega
        · rw[Int.toNat_natCast,hd0,ew,ei] at hs3
          refine go _ 0 ac cU aU ?_ (hs3.nx _)
          rw[hnext]
          unfold bkS
          rw[if_neg hpos,if_pos hneg]
      · refine kbC P D S i ⟨decide_eq_true (by omega),by omega,by omega,by omega,by omega,?_,?_,trivial⟩ hs fun ac cU aU hs3=>?_
        all_goals try rw[Int.toNat_natCast,hd0]
        · exact decide_eq_false hpos
        · exact decide_eq_false hneg
        · rw[ei] at hs3
          refine go _ 0 ac cU aU ?_ (hs3.nx _)
          rw[hnext]
          unfold bkS
          rw[if_neg hpos,if_neg hneg]
  · obtain rfl:i=P.length:=by omega
    have hT:bkT pt0 P D=toO pt0 (bkN pt0 (List.replicate 17 pt0) P D P.length) 16:=rfl
    rw[hT]
    generalize bkN pt0 (List.replicate 17 pt0) P D P.length=S at hs hS ⊢
    refine kbX P D S _ ⟨decide_eq_false (by omega),trivial⟩ hs fun ac cU aU hs3=>?_
    refine loop_rule (ι:={ n:Nat // n≤16 }) (fun n=>kbT S (toR pt0 S n.1) (toO pt0 S n.1) ((16-n.1:Nat):Int)) (fun n=>16-n.1) (c:=lpC kbX_k) (k:=lpR kbX_k) (by kernel_rfl) (fun n ih2 ac cY aY hs=>?_) ⟨0,Nat.zero_le _⟩ (hs3.nx _)
    obtain ⟨n,hn⟩:=n
    simp only at ih2 hs
    by_cases hn16:n<16
    · refine kbU S _ _ _ ⟨decide_eq_true (by omega),by omega,by omega,rfl,by rw[Int.toNat_natCast,hS];omega,trivial⟩ hs fun ac cV aV hs4=>?_
      have en:IntKind.wrap IntKind.i64 (((16-n:Nat):Int)-1)=((16-(n+1):Nat):Int):=by rw[wrap_id (by omega) (by omega)];omega
      have e1:jpl (toR pt0 S n) (S.getD (16-n) pt0)=toR pt0 S (n+1):=rfl
      have e2:jpl (toO pt0 S n) (toR pt0 S (n+1))=toO pt0 S (n+1):=rfl
      rw[Int.toNat_natCast,en,e1,e2] at hs4
      exact ih2 ⟨n+1,hn16⟩ (by show 16-(n+1)<16-n;omega) ac cV aV (hs4.nx _)
    · obtain rfl:n=16:=by omega
      exact run_end2 ucB_ok hk hF (kbV_end S _ _ _) ⟨by decide,trivial⟩ (fun y v hd=>hd) hs

end Go.Proofs.Ytdaligcdaalnmaa

/- Many points, each as often as its number says, walked. No conditions. -/
namespace Go.Proofs.Ytdaligcdaalnmaa
section
variable {w0:World} {F0:Nat→Prop} {K:Kp} {ac:List Act} {Q:Exit→Act→World→Prop} {cX:Ctx} {aX:Act}

theorem buckets_fnd2 (P:List (Fp×Fp×Fp)) (D:List Int) (h:D.length=P.length∧P.length≤4611686018427387904∧dsOk D):FnD Try.prog 25 [.v (.c (.sl (.pt P))),.v (.c (.sl (.int D)))] (.v (.a (ptIts (bkT pt0 P D)))) []:=buckets_fnd P D h.1 h.2.1 h.2.2
def bucketsSpec:FnSpec
  | [.v (.c (.sl (.pt P))),.v (.c (.sl (.int D)))]=>some ([D.length=P.length,P.length≤4611686018427387904,dsOk D],.v (.a (ptIts (bkT pt0 P D))),[])
  | _=>none
noncomputable def ucC:Env:=ucB.set (addT ucB.fn 25 bucketsSpec)
theorem ucC_ok:EnvOk Try.prog ucC:=env_add ucB_ok 25 bucketsSpec (enters_of Try.func25 rfl rfl) fun args o r es h ho=>by
  unfold bucketsSpec at h
  split at h
  · cases h;exact buckets_fnd2 _ _ ⟨ho.1,ho.2.1,ho.2.2.1⟩
  · cases h
--@env ucC ucC_ok
noncomputable def am_k:List KI:=(run ucC false 3000 ((fun (P:List (Fp×Fp×Fp)) (k:List U4)=>(⟨[.code (bodyOf Try.f12)],.normal,initSt Try.f12.ntmps [.v (.c (.sl (.pt P))),.v (.c (.sl (.fr k)))]⟩:Cfg)) default default) []).cfg.k
theorem am_hk (P:List (Fp×Fp×Fp)) (k:List U4):(run ucC false 3000 ((⟨[.code (bodyOf Try.f12)],.normal,initSt Try.f12.ntmps [.v (.c (.sl (.pt P))),.v (.c (.sl (.fr k)))]⟩:Cfg)) []).cfg.k=am_k:=by kernel_rfl
theorem am (P:List (Fp×Fp×Fp)) (k:List U4) (ho:AllP []) (hs:Sim w0 F0 K ac (initSt Try.f12.ntmps [.v (.c (.sl (.pt P))),.v (.c (.sl (.fr k)))]) cX aX) (hK:∀ac cY aY,Sim w0 F0 K ac (mkSt 72 [0,1,4,5,6,15,16,17] [(.v (.c (.sl (Sq.pt P)))),(.v (.c (.sl (.fr k)))),.pt 16 0,(.v (.c (.val (Value.slice Option.none 0 0)))),.ii (0:Int),(.v (.c (.sl (.fr k)))),(.ii (((List.length k):Nat):Int)),.ii (0:Int)] [16] [(some (.fl [(.ob (.p (0:Fp))),(.ob (.p (0:Fp))),(.ob (.p (0:Fp)))]))] 112 [] []) cY aY→Wq Try.prog Q (am_k) ac Exit.normal aY cY.w):Wq Try.prog Q ([.code (bodyOf Try.f12)]) ac .normal aX cX.w:=
  run_at2 (o:=⟨_,_,_,_,_,_,_⟩) ucC_ok (by kernel_rfl) (am_hk P k) ho hs hK
noncomputable def amS (P:List (Fp×Fp×Fp)) (k:List U4) (R:List (List Int)) (n:Nat) (m i:Int):St:=mkSt 72 [0,1,4,5,6,15,16,17] [(.v (.c (.sl (Sq.pt P)))),(.v (.c (.sl (.fr k)))),.pt 16 0,.v (.c (.slc 17 0 n 1)),.v (.c (.int .i64 m)),(.v (.c (.sl (.fr k)))),(.ii (((List.length k):Nat):Int)),.v (.c (.int .i64 i))] [16,17] [(some (.fl [(.ob (.p (0:Fp))),(.ob (.p (0:Fp))),(.ob (.p (0:Fp)))])),some (.sq (.ints R))] 112 [] []
theorem amA_hk (P:List (Fp×Fp×Fp)) (k:List U4) (R:List (List Int)) (n:Nat) (m i:Int):(run ucC false 3000 ((⟨lpIn am_k,.normal,amS P k R n m i⟩:Cfg)) [true]).cfg.k=lpBk am_k:=by kernel_rfl
theorem amA (P:List (Fp×Fp×Fp)) (k:List U4) (R:List (List Int)) (n:Nat) (m i:Int) (ho:AllP [((decide (i<(((List.length k):Nat):Int)))=true),((0:Int)≤i),(i<(((List.length k):Nat):Int)),((((List.length R)+1)*24)≤140737488355328),(((List.length R)+1)≤maxLen),(n=(List.length R)),(1=1)]) (hs:Sim w0 F0 K ac (amS P k R n m i) cX aX) (hK:∀ac cY aY,Sim w0 F0 K ac (mkSt 72 [0,1,4,5,6,15,16,17] [(.v (.c (.sl (Sq.pt P)))),(.v (.c (.sl (.fr k)))),.pt 16 0,(.v (.c (.slc 17 0 ((List.length R)+1) 1))),(.ii (ite ((((List.length (Prod.fst (dgW (Fin.val (List.getD k (i).toNat (0:U4))) 52))):Nat):Int) > m) (((List.length (Prod.fst (dgW (Fin.val (List.getD k (i).toNat (0:U4))) 52))):Nat):Int) m)),(.v (.c (.sl (.fr k)))),(.ii (((List.length k):Nat):Int)),(.ii (IntKind.wrap .i64 (i+(1:Int))))] [16,17] [(some (.fl [(.ob (.p (0:Fp))),(.ob (.p (0:Fp))),(.ob (.p (0:Fp)))])),(some (.sq (.ints (R++[(Prod.fst (dgW (Fin.val (List.getD k (i).toNat (0:U4))) 52))]))))] 432 [] []) cY aY→Wq Try.prog Q (lpBk am_k) ac Exit.normal aY cY.w):Wq Try.prog Q (lpIn am_k) ac .normal aX cX.w:=
  run_at2 (o:=⟨_,_,_,_,_,_,_⟩) ucC_ok (by kernel_rfl) (amA_hk P k R n m i) ho hs hK
noncomputable def amB_k:List KI:=(run ucC false 3000 ((fun (P:List (Fp×Fp×Fp)) (k:List U4) (R:List (List Int)) (n:Nat) (m i:Int)=>(⟨lpIn am_k,.normal,amS P k R n m i⟩:Cfg)) default default default default default default) [false]).cfg.k
theorem amB_hk (P:List (Fp×Fp×Fp)) (k:List U4) (R:List (List Int)) (n:Nat) (m i:Int):(run ucC false 3000 ((⟨lpIn am_k,.normal,amS P k R n m i⟩:Cfg)) [false]).cfg.k=amB_k:=by kernel_rfl
theorem amB (P:List (Fp×Fp×Fp)) (k:List U4) (R:List (List Int)) (n:Nat) (m i:Int) (ho:AllP [((decide (i<(((List.length k):Nat):Int)))=false),((0:Int)≤(((List.length k):Nat):Int)),((((List.length k):Nat):Int)=(((List.length k):Nat):Int)),(((8:Int)*(((List.length k):Nat):Int))≤(281474976710656:Int)),((((List.length k):Nat):Int)≤(9223372036854775807:Int))]) (hs:Sim w0 F0 K ac (amS P k R n m i) cX aX) (hK:∀ac cY aY,Sim w0 F0 K ac (mkSt 72 [0,4,5,10,11,12] [(.v (.c (.sl (Sq.pt P)))),.pt 16 0,(.v (.c (.slc 17 0 n 1))),.pt 128 0,(.v (.c (.slc 176 0 ((((List.length k):Nat):Int)).toNat 1))),(.ii (IntKind.wrap .i64 (m-(1:Int))))] [16,17,128,176] [(some (.fl [(.ob (.p (0:Fp))),(.ob (.p (0:Fp))),(.ob (.p (0:Fp)))])),(some (.sq (.ints R))),(some (.fl [(.ob (.p (0:Fp))),(.ob (.p (0:Fp))),(.ob (.p (0:Fp)))])),(some (.sq (.int (List.replicate ((((List.length k):Nat):Int)).toNat (0:Int)))))] 256 [] []) cY aY→Wq Try.prog Q (amB_k) ac Exit.normal aY cY.w):Wq Try.prog Q (lpIn am_k) ac .normal aX cX.w:=
  run_at2 (o:=⟨_,_,_,_,_,_,_⟩) ucC_ok (by kernel_rfl) (amB_hk P k R n m i) ho hs hK
noncomputable def amT (P:List (Fp×Fp×Fp)) (R:List (List Int)) (n q:Nat) (D:List Int) (o:Fp×Fp×Fp) (h:Int):St:=mkSt 72 [0,4,5,10,11,12] [(.v (.c (.sl (Sq.pt P)))),.pt 16 0,(.v (.c (.slc 17 0 n 1))),.pt 128 0,.v (.c (.slc 176 0 q 1)),.v (.c (.int .i64 h))] [16,17,128,176] [(some (.fl [(.ob (.p (0:Fp))),(.ob (.p (0:Fp))),(.ob (.p (0:Fp)))])),(some (.sq (.ints R))),some (.fl [.ob (.p o.1),.ob (.p o.2.1),.ob (.p o.2.2)]),some (.sq (.int D))] 256 [] []
noncomputable def amC_k:List KI:=(run ucC false 3000 ((fun (P:List (Fp×Fp×Fp)) (R:List (List Int)) (n q:Nat) (D:List Int) (o:Fp×Fp×Fp) (h:Int)=>(⟨lpIn amB_k,.normal,amT P R n q D o h⟩:Cfg)) default default default default default default default) [true]).cfg.k
theorem amC_hk (P:List (Fp×Fp×Fp)) (R:List (List Int)) (n q:Nat) (D:List Int) (o:Fp×Fp×Fp) (h:Int):(run ucC false 3000 ((⟨lpIn amB_k,.normal,amT P R n q D o h⟩:Cfg)) [true]).cfg.k=amC_k:=by kernel_rfl
theorem amC (P:List (Fp×Fp×Fp)) (R:List (List Int)) (n q:Nat) (D:List Int) (o:Fp×Fp×Fp) (h:Int) (ho:AllP [((decide (h ≥ (0:Int)))=true)]) (hs:Sim w0 F0 K ac (amT P R n q D o h) cX aX) (hK:∀ac cY aY,Sim w0 F0 K ac (mkSt 72 [0,4,5,10,11,12,41] [(.v (.c (.sl (Sq.pt P)))),.pt 16 0,(.v (.c (.slc 17 0 n 1))),.pt 128 0,(.v (.c (.slc 176 0 q 1))),.ii h,.ii (0:Int)] [16,17,128,176] [(some (.fl [(.ob (.p (0:Fp))),(.ob (.p (0:Fp))),(.ob (.p (0:Fp)))])),(some (.sq (.ints R))),(some (.fl [(.ob (.p (Prod.fst o))),(.ob (.p (Prod.fst (Prod.snd o)))),(.ob (.p (Prod.snd (Prod.snd o))))])),(some (.sq (.int D)))] 304 [] []) cY aY→Wq Try.prog Q (amC_k) ac Exit.normal aY cY.w):Wq Try.prog Q (lpIn amB_k) ac .normal aX cX.w:=
  run_at2 (o:=⟨_,_,_,_,_,_,_⟩) ucC_ok (by kernel_rfl) (amC_hk P R n q D o h) ho hs hK
noncomputable def amU (P:List (Fp×Fp×Fp)) (R:List (List Int)) (n q:Nat) (D:List Int) (o:Fp×Fp×Fp) (h j:Int):St:=mkSt 72 [0,4,5,10,11,12,41] [(.v (.c (.sl (Sq.pt P)))),.pt 16 0,(.v (.c (.slc 17 0 n 1))),.pt 128 0,(.v (.c (.slc 176 0 q 1))),.ii h,.v (.c (.int .i64 j))] [16,17,128,176] [(some (.fl [(.ob (.p (0:Fp))),(.ob (.p (0:Fp))),(.ob (.p (0:Fp)))])),(some (.sq (.ints R))),(some (.fl [(.ob (.p (Prod.fst o))),(.ob (.p (Prod.fst (Prod.snd o)))),(.ob (.p (Prod.snd (Prod.snd o))))])),(some (.sq (.int D)))] 304 [] []
theorem amD_hk (P:List (Fp×Fp×Fp)) (R:List (List Int)) (n q:Nat) (D:List Int) (o:Fp×Fp×Fp) (h j:Int):(run ucC false 3000 ((⟨lpIn amC_k,.normal,amU P R n q D o h j⟩:Cfg)) [true]).cfg.k=lpBk amC_k:=by kernel_rfl
theorem amD (P:List (Fp×Fp×Fp)) (R:List (List Int)) (n q:Nat) (D:List Int) (o:Fp×Fp×Fp) (h j:Int) (ho:AllP [((decide (j<(5:Int)))=true)]) (hs:Sim w0 F0 K ac (amU P R n q D o h j) cX aX) (hK:∀ac cY aY,Sim w0 F0 K ac (mkSt 72 [0,4,5,10,11,12,41] [(.v (.c (.sl (Sq.pt P)))),.pt 16 0,(.v (.c (.slc 17 0 n 1))),.pt 128 0,(.v (.c (.slc 176 0 q 1))),.ii h,(.ii (IntKind.wrap .i64 (j+(1:Int))))] [16,17,128,176] [(some (.fl [(.ob (.p (0:Fp))),(.ob (.p (0:Fp))),(.ob (.p (0:Fp)))])),(some (.sq (.ints R))),(some (.fl [(.ob (.p (Prod.fst (jtw o)))),(.ob (.p (Prod.fst (Prod.snd (jtw o))))),(.ob (.p (Prod.snd (Prod.snd (jtw o)))))])),(some (.sq (.int D)))] 400 [] []) cY aY→Wq Try.prog Q (lpBk amC_k) ac Exit.normal aY cY.w):Wq Try.prog Q (lpIn amC_k) ac .normal aX cX.w:=
  run_at2 (o:=⟨_,_,_,_,_,_,_⟩) ucC_ok (by kernel_rfl) (amD_hk P R n q D o h j) ho hs hK
noncomputable def amE_k:List KI:=(run ucC false 3000 ((fun (P:List (Fp×Fp×Fp)) (R:List (List Int)) (n q:Nat) (D:List Int) (o:Fp×Fp×Fp) (h j:Int)=>(⟨lpIn amC_k,.normal,amU P R n q D o h j⟩:Cfg)) default default default default default default default default) [false]).cfg.k
theorem amE_hk (P:List (Fp×Fp×Fp)) (R:List (List Int)) (n q:Nat) (D:List Int) (o:Fp×Fp×Fp) (h j:Int):(run ucC false 3000 ((⟨lpIn amC_k,.normal,amU P R n q D o h j⟩:Cfg)) [false]).cfg.k=amE_k:=by kernel_rfl
theorem amE (P:List (Fp×Fp×Fp)) (R:List (List Int)) (n q:Nat) (D:List Int) (o:Fp×Fp×Fp) (h j:Int) (ho:AllP [((decide (j<(5:Int)))=false),(q=(List.length D))]) (hs:Sim w0 F0 K ac (amU P R n q D o h j) cX aX) (hK:∀ac cY aY,Sim w0 F0 K ac (mkSt 72 [0,4,5,10,11,12,47,48,49] [(.v (.c (.sl (Sq.pt P)))),.pt 16 0,(.v (.c (.slc 17 0 n 1))),.pt 128 0,(.v (.c (.slc 176 0 q 1))),.ii h,(.v (.c (.slc 17 0 n 1))),(.ii ((n:Nat):Int)),.ii (0:Int)] [16,17,128,176] [(some (.fl [(.ob (.p (0:Fp))),(.ob (.p (0:Fp))),(.ob (.p (0:Fp)))])),(some (.sq (.ints R))),(some (.fl [(.ob (.p (Prod.fst o))),(.ob (.p (Prod.fst (Prod.snd o)))),(.ob (.p (Prod.snd (Prod.snd o))))])),(some (.sq (.int (List.replicate (List.length D) (0:Int)))))] 400 [] []) cY aY→Wq Try.prog Q (amE_k) ac Exit.normal aY cY.w):Wq Try.prog Q (lpIn amC_k) ac .normal aX cX.w:=
  run_at2 (o:=⟨_,_,_,_,_,_,_⟩) ucC_ok (by kernel_rfl) (amE_hk P R n q D o h j) ho hs hK
noncomputable def amV (P:List (Fp×Fp×Fp)) (R:List (List Int)) (n q:Nat) (D:List Int) (o:Fp×Fp×Fp) (h i:Int):St:=mkSt 72 [0,4,5,10,11,12,47,48,49] [(.v (.c (.sl (Sq.pt P)))),.pt 16 0,(.v (.c (.slc 17 0 n 1))),.pt 128 0,(.v (.c (.slc 176 0 q 1))),.ii h,(.v (.c (.slc 17 0 n 1))),(.ii ((n:Nat):Int)),.v (.c (.int .i64 i))] [16,17,128,176] [(some (.fl [(.ob (.p (0:Fp))),(.ob (.p (0:Fp))),(.ob (.p (0:Fp)))])),(some (.sq (.ints R))),(some (.fl [(.ob (.p (Prod.fst o))),(.ob (.p (Prod.fst (Prod.snd o)))),(.ob (.p (Prod.snd (Prod.snd o))))])),some (.sq (.int D))] 400 [] []
theorem amF_hk (P:List (Fp×Fp×Fp)) (R:List (List Int)) (n q:Nat) (D:List Int) (o:Fp×Fp×Fp) (h i:Int):(run ucC false 3000 ((⟨lpIn amE_k,.normal,amV P R n q D o h i⟩:Cfg)) [true,true]).cfg.k=lpBk amE_k:=by kernel_rfl
theorem amF (P:List (Fp×Fp×Fp)) (R:List (List Int)) (n q:Nat) (D:List Int) (o:Fp×Fp×Fp) (h i:Int) (ho:AllP [((decide (i<((n:Nat):Int)))=true),((0:Int)≤i),(i<((n:Nat):Int)),(0=0),((i).toNat<(List.length R)),((decide (h<(((List.length (List.getD R (i).toNat ([]:List Int))):Nat):Int)))=true),((0:Int)≤h),(h<(((List.length (List.getD R (i).toNat ([]:List Int))):Nat):Int)),((0:Int)≤i),(i<((q:Nat):Int)),(0=0),((i).toNat<(List.length D))]) (hs:Sim w0 F0 K ac (amV P R n q D o h i) cX aX) (hK:∀ac cY aY,Sim w0 F0 K ac (mkSt 72 [0,4,5,10,11,12,47,48,49] [(.v (.c (.sl (Sq.pt P)))),.pt 16 0,(.v (.c (.slc 17 0 n 1))),.pt 128 0,(.v (.c (.slc 176 0 q 1))),.ii h,(.v (.c (.slc 17 0 n 1))),(.ii ((n:Nat):Int)),(.ii (IntKind.wrap .i64 (i+(1:Int))))] [16,17,128,176] [(some (.fl [(.ob (.p (0:Fp))),(.ob (.p (0:Fp))),(.ob (.p (0:Fp)))])),(some (.sq (.ints R))),(some (.fl [(.ob (.p (Prod.fst o))),(.ob (.p (Prod.fst (Prod.snd o)))),(.ob (.p (Prod.snd (Prod.snd o))))])),(some (.sq (.int (List.set D (i).toNat (List.getD (List.getD R (i).toNat ([]:List Int)) (h).toNat (0:Int))))))] 720 [] []) cY aY→Wq Try.prog Q (lpBk amE_k) ac Exit.normal aY cY.w):Wq Try.prog Q (lpIn amE_k) ac .normal aX cX.w:=
  run_at2 (o:=⟨_,_,_,_,_,_,_⟩) ucC_ok (by kernel_rfl) (amF_hk P R n q D o h i) ho hs hK
theorem amH_hk (P:List (Fp×Fp×Fp)) (R:List (List Int)) (n q:Nat) (D:List Int) (o:Fp×Fp×Fp) (h i:Int):(run ucC false 3000 ((⟨lpIn amE_k,.normal,amV P R n q D o h i⟩:Cfg)) [false]).cfg.k=lpBk amB_k:=by kernel_rfl
theorem amH (P:List (Fp×Fp×Fp)) (R:List (List Int)) (n q:Nat) (D:List Int) (o:Fp×Fp×Fp) (h i:Int) (ho:AllP [((decide (i<((n:Nat):Int)))=false),(0=0),(q=(List.length D)),(1=1),((List.length D)=(List.length P)),((List.length P)≤4611686018427387904),(dsOk D)]) (hs:Sim w0 F0 K ac (amV P R n q D o h i) cX aX) (hK:∀ac cY aY,Sim w0 F0 K ac (mkSt 72 [0,4,5,10,11,12] [(.v (.c (.sl (Sq.pt P)))),.pt 16 0,(.v (.c (.slc 17 0 n 1))),.pt 128 0,(.v (.c (.slc 176 0 q 1))),(.ii (IntKind.wrap .i64 (h-(1:Int))))] [16,17,128,176] [(some (.fl [(.ob (.p (0:Fp))),(.ob (.p (0:Fp))),(.ob (.p (0:Fp)))])),(some (.sq (.ints R))),(some (.fl [(.ob (.p (Prod.fst (jpl o (bkT pt0 P D))))),(.ob (.p (Prod.fst (Prod.snd (jpl o (bkT pt0 P D)))))),(.ob (.p (Prod.snd (Prod.snd (jpl o (bkT pt0 P D))))))])),(some (.sq (.int D)))] 560 [] []) cY aY→Wq Try.prog Q (lpBk amB_k) ac Exit.normal aY cY.w):Wq Try.prog Q (lpIn amE_k) ac .normal aX cX.w:=
  run_at2 (o:=⟨_,_,_,_,_,_,_⟩) ucC_ok (by kernel_rfl) (amH_hk P R n q D o h i) ho hs hK
theorem amX_end (P:List (Fp×Fp×Fp)) (R:List (List Int)) (n q:Nat) (D:List Int) (o:Fp×Fp×Fp) (h:Int):runEnd ucC Try.f12 false 3000 (⟨lpIn amB_k,.normal,amT P R n q D o h⟩) [false] [] []=(some ([((decide (h ≥ (0:Int)))=false)],((.v (.a [(.ob (.p (Prod.fst o))),(.ob (.p (Prod.fst (Prod.snd o)))),(.ob (.p (Prod.snd (Prod.snd o))))])),[]))):=by kernel_rfl
end
end Go.Proofs.Ytdaligcdaalnmaa

/- Many points, each as often as its number says: contract. No conditions. -/
namespace Go.Proofs.Ytdaligcdaalnmaa

theorem all_fnd (P:List (Fp×Fp×Fp)) (k:List U4) (hk0:k.length=P.length) (hp:P.length≤4096) {N:Nat} (hN:N=52) :
    FnD Try.prog 12 [.v (.c (.sl (.pt P))),.v (.c (.sl (.fr k)))] (.v (.a (ptIts (smJ N pt0 P k)))) []:=by
  refine fn_start (fn:=Try.f12) (c:=bodyOf Try.f12) Try.func12 rfl rfl fun x0 a0 hk hF hs=>?_
  refine am P k trivial hs fun ac cY aY hs1=>?_
  have hs2:=hs1.nilRow (p:=17) (q:=.ints []) rfl (by decide) rfl (ml' := [16,17]) (ens' := [some (.fl [.ob (.p 0),.ob (.p 0),.ob (.p 0)]),some (.sq (.ints []))]) (fun r=>fl_look (by decide))
    (svs' := [.v (.c (.sl (.pt P))),.v (.c (.sl (.fr k))),.v (.c (.ptr 16 0)),.v (.c (.slc 17 0 0 1)),.v (.c (.int .i64 0)),.v (.c (.sl (.fr k))),.v (.c (.int .i64 ((k.length:Nat):Int))),.v (.c (.int .i64 0))]) ⟨.inl rfl,.inl rfl,.inl rfl,.inr ⟨1,rfl,rfl⟩,.inl rfl,.inl rfl,.inl rfl,.inl rfl,trivial⟩
  have hL:=dgK_len N k
  have hrow:=@dgK_row N k
  have hget:=dgK_get N k
  have hdig:=dgK_dig N k
  have hmax:4097≤maxLen:=by decide
  change Wq Try.prog _ _ _ _ _ (nilCtx cY 17).w
  refine loop_rule (ι:={ i:Nat // i≤k.length }) (fun i=>amS P k ((dgK N k).take i.1) i.1 (if i.1=0 then 0 else (N:Int)) (i.1:Int)) (fun i=>k.length-i.1) (c:=lpC am_k) (k:=lpR am_k) (by kernel_rfl) (fun i ih ac cY aY hs=>?_) ⟨0,Nat.zero_le _⟩ (hs2.nx _)
  obtain ⟨i,hi⟩:=i
  simp only at ih hs
  have htl:((dgK N k).take i).length=i:=by rw[List.length_take,hL];omega
  by_cases h:i<k.length
  · refine amA P k _ i _ i ⟨decide_eq_true (by omega),by omega,by omega,by rw[htl];omega,by rw[htl];omega,htl.symm,rfl,trivial⟩ hs fun ac cU aU hs3=>?_
    have ei:IntKind.wrap IntKind.i64 ((i:Int)+1)=((i+1:Nat):Int):=by rw[wrap_id (by omega) (by omega)];rfl
    have e52:(dgW (k.getD i 0).val 52).1=(dgK N k).getD i []:=by rw[hget i h,hN]
    rw[Int.toNat_natCast,ei,htl,e52,take_snoc _ _ (by omega),hrow i h] at hs3
    have em:(if ((N:Nat):Int) > (if i=0 then 0 else (N:Int)) then ((N:Nat):Int) else (if i=0 then 0 else (N:Int)))=(if i+1=0 then 0 else (N:Int)):=by
      rw[if_neg (show ¬i+1=0 from by omega)]
      split<;>split<;>omega
    rw[em] at hs3
    exact ih ⟨i+1,h⟩ (by show k.length-(i+1)<k.length-i;omega) ac cU aU (hs3.nx _)
  · obtain rfl:i=k.length:=by omega
    have ht:(dgK N k).take k.length=dgK N k:=by rw[←hL,List.take_length]
    rw[ht] at hs
    have em:(if k.length=0 then 0 else (N:Int))=((mst N k:Nat):Int):=by
      cases k with
      | nil=>rfl
      | cons x l=>rfl
    rw[em] at hs
    have hm52:mst N k≤52:=by
      cases k with
      | nil=>exact Nat.zero_le _
      | cons x l=>exact Nat.le_of_eq hN
    have hmN:0<k.length→mst N k=N:=by
      intro h
      cases k with
      | nil=>cases h
      | cons x l=>rfl
    refine amB P k _ k.length _ _ ⟨decide_eq_false (by omega),by omega,rfl,by omega,by omega,trivial⟩ hs fun ac cU aU hs3=>?_
    rw[Int.toNat_natCast] at hs3
    have hres:smJ N pt0 P k=alN pt0 P (dgK N k) (mst N k) (mst N k):=rfl
    rw[hres]
    generalize dgK N k=L at hs3 hL hrow hdig ⊢
    generalize mst N k=m at hs3 hm52 hmN ⊢
    have eh:IntKind.wrap IntKind.i64 ((m:Int)-1)=(m:Int)-1-((0:Nat):Int):=by rw[wrap_id (by omega) (by omega)];omega
    rw[eh] at hs3
    refine loop_rule (ι:={ p:Nat×List Int // p.1≤m∧p.2.length=k.length }) (fun p=>amT P L k.length k.length p.1.2 (alN pt0 P L m p.1.1) ((m:Int)-1-(p.1.1:Int))) (fun p=>m-p.1.1) (c:=lpC amB_k) (k:=lpR amB_k) (by kernel_rfl) (fun p ih2 ac cY aY hs=>?_) ⟨(0,List.replicate k.length 0),Nat.zero_le _,List.length_replicate⟩ (hs3.nx _)
    obtain ⟨⟨t,D⟩,ht1,hD⟩:=p
    simp only at ih2 hs ht1 hD
    by_cases htm:t<m
    · have hlt:m-(t+1)<m-t:=by omega
      obtain ⟨a,ha⟩:∃a:Nat,a=m-1-t:=⟨_,rfl⟩
      have ea:(m:Int)-1-(t:Int)=(a:Int):=by omega
      rw[ea] at hs
      have hnext:alN pt0 P L m (t+1)=jpl (jtws 5 (alN pt0 P L m t)) (bkT pt0 P (rowAt L a)):=by rw[ha];rfl
      generalize alN pt0 P L m t=o at hs hnext
      refine amC P L _ _ D o _ ⟨decide_eq_true (by omega),trivial⟩ hs fun ac cZ aZ hs4=>?_
      refine loop_rule (ι:={ j:Nat // j≤5 }) (fun j=>amU P L k.length k.length D (jtws j.1 o) (a:Int) (j.1:Int)) (fun j=>5-j.1) (c:=lpC amC_k) (k:=lpR amC_k) (by kernel_rfl) (fun j ih3 ac cY aY hs=>?_) ⟨0,Nat.zero_le _⟩ (hs4.nx _)
      obtain ⟨j,hj⟩:=j
      simp only at ih3 hs
      by_cases hj5:j<5
      · have ej:jtw (jtws j o)=jtws (j+1) o:=(jtws_succ j o).symm
        generalize jtws j o=o1 at hs ej
        refine amD P L _ _ D _ _ _ ⟨decide_eq_true (by omega),trivial⟩ hs fun ac cV aV hs5=>?_
        rw[wrap_id (n:=(j:Int)+1) (by omega) (by omega),ej] at hs5
        exact ih3 ⟨j+1,hj5⟩ (by show 5-(j+1)<5-j;omega) ac cV aV (hs5.nx _)
      · obtain rfl:j=5:=by omega
        generalize jtws 5 o=o5 at hs hnext
        refine amE P L _ _ D _ _ _ ⟨by decide,hD.symm,trivial⟩ hs fun ac cV aV hs5=>?_
        refine loop_rule (ι:={ p:Nat×List Int // p.1≤k.length∧p.2.length=k.length∧∀j,j<p.1→p.2.getD j 0=(L.getD j []).getD a 0 }) (fun p=>amV P L k.length k.length p.1.2 o5 (a:Int) (p.1.1:Int)) (fun p=>k.length-p.1.1) (c:=lpC amE_k) (k:=lpR amE_k) (by kernel_rfl) (fun p ih4 ac cY aY hs=>?_)
          ⟨(0,List.replicate D.length 0),Nat.zero_le _,List.length_replicate.trans hD,fun j hj=>absurd hj (Nat.not_lt_zero j)⟩ (hs5.nx _)
        obtain ⟨⟨i,E⟩,hi1,hE,hEg⟩:=p
        simp only at ih4 hs hi1 hE hEg
        by_cases hik:i<k.length
        · have hri:=hrow i hik
          have hmn:=hmN (by omega)
          refine amF P L _ _ E _ _ _ ⟨decide_eq_true (by omega),by omega,by omega,rfl,by rw[Int.toNat_natCast];omega,by rw[Int.toNat_natCast,hri];exact decide_eq_true (by omega),by omega,by rw[Int.toNat_natCast,hri];omega,by omega,by omega,rfl,by rw[Int.toNat_natCast];omega,trivial⟩ hs fun ac cW aW hs6=>?_
          rw[Int.toNat_natCast,Int.toNat_natCast,wrap_id (n:=(i:Int)+1) (by omega) (by omega)] at hs6
          refine ih4 ⟨(i+1,E.set i ((L.getD i []).getD a 0)),hik,(List.length_set ..).trans hE,fun j hj=>?_⟩ (by show k.length-(i+1)<k.length-i;omega) ac cW aW (hs6.nx _)
          have hj:j<i+1:=hj
          show (E.set i _).getD j 0=_
          rw[set_getD _ _ _ _ _ (by omega)]
          by_cases e:j=i
          · subst e;rw[if_pos rfl]
          · rw[if_neg e];exact hEg j (by omega)
        · obtain rfl:i=k.length:=by omega
          have hrowE:E=rowAt L a:=row_ext (by omega) fun j hj=>hEg j (by omega)
          subst hrowE
          have hds:dsOk (rowAt L a):=fun j=>by rw[rowAt_get];exact hdig j a
          refine amH P L _ _ _ _ _ _ ⟨decide_eq_false (by omega),rfl,by omega,rfl,by omega,by omega,hds,trivial⟩ hs fun ac cW aW hs6=>?_
          have e7:IntKind.wrap IntKind.i64 ((a:Int)-1)=(m:Int)-1-((t+1:Nat):Int):=by rw[wrap_id (by omega) (by omega)];omega
          rw[e7,←hnext] at hs6
          have ih5:=ih2 ⟨(t+1,rowAt L a),htm,hE⟩ hlt
          dsimp only at ih5
          generalize alN pt0 P L m (t+1)=oN at hs6 ih5
          exact ih5 ac cW aW (hs6.nx _)
    · obtain rfl:t=m:=by omega
      exact run_end2 ucC_ok hk hF (amX_end P L _ _ D _ _) ⟨decide_eq_false (by omega),trivial⟩ (fun y v hd=>hd) hs

end Go.Proofs.Ytdaligcdaalnmaa

/- What refuses, walked. No conditions. -/
namespace Go.Proofs.Ytdaligcdaalnmaa

--@env env0 env0_ok
theorem ckA (a b:Int) (w:Bool):fnRes env0 Try.f10 3000 [.v (.c (.int .i64 a)),.v (.c (.int .i64 b)),.v (.c (.bool w))] [true] [] []=(some ([((a != b)=true)],((.ii (3:Int)),[]))):=by kernel_rfl
theorem ckB (a b:Int) (w:Bool):fnRes env0 Try.f10 3000 [.v (.c (.int .i64 a)),.v (.c (.int .i64 b)),.v (.c (.bool w))] [false,true] [] []=(some ([((a != b)=false),((decide (a > (4096:Int)))=true)],((.ii (2:Int)),[]))):=by kernel_rfl
theorem ckC (a b:Int) (w:Bool):fnRes env0 Try.f10 3000 [.v (.c (.int .i64 a)),.v (.c (.int .i64 b)),.v (.c (.bool w))] [false,false,true] [] []=(some ([((a != b)=false),((decide (a > (4096:Int)))=false),(w=true)],((.ii (30:Int)),[]))):=by kernel_rfl
theorem ckD (a b:Int) (w:Bool):fnRes env0 Try.f10 3000 [.v (.c (.int .i64 a)),.v (.c (.int .i64 b)),.v (.c (.bool w))] [false,false,false] [] []=(some ([((a != b)=false),((decide (a > (4096:Int)))=false),(w=false)],((.ii (0:Int)),[]))):=by kernel_rfl
end Go.Proofs.Ytdaligcdaalnmaa

/- What refuses: contracts. No conditions. -/
namespace Go.Proofs.Ytdaligcdaalnmaa

theorem check_fnd (a b:Int) (w:Bool):FnD Try.prog 10 [.v (.c (.int .i64 a)),.v (.c (.int .i64 b)),.v (.c (.bool w))] (.v (.c (.int .i64 (chkE a b w)))) []:=by
  by_cases h:a=b
  · by_cases h2:a > 4096
    · rw[chk_gt h h2]
      exact fn_sound env0_ok Try.func10 (ckB a b w) ⟨by simp [h],decide_eq_true h2,trivial⟩
    · cases w with
      | true=>rw[chk_w h h2 rfl];exact fn_sound env0_ok Try.func10 (ckC a b true) ⟨by simp [h],decide_eq_false h2,rfl,trivial⟩
      | false=>rw[chk_ok h h2 rfl];exact fn_sound env0_ok Try.func10 (ckD a b false) ⟨by simp [h],decide_eq_false h2,rfl,trivial⟩
  · rw[chk_ne h]
    exact fn_sound env0_ok Try.func10 (ckA a b w) ⟨by simp [h],trivial⟩

end Go.Proofs.Ytdaligcdaalnmaa

/- Sum1, and what it calls, walked. No conditions. -/
namespace Go.Proofs.Ytdaligcdaalnmaa
section
variable {w0:World} {F0:Nat→Prop} {K:Kp} {ac:List Act} {Q:Exit→Act→World→Prop} {cX:Ctx} {aX:Act}

theorem all_fnd2 (P:List (Fp×Fp×Fp)) (k:List U4) (h:k.length=P.length∧P.length≤4096):FnD Try.prog 12 [.v (.c (.sl (.pt P))),.v (.c (.sl (.fr k)))] (.v (.a (ptIts (smJ 52 pt0 P k)))) []:=all_fnd P k h.1 h.2 (Eq.refl 52)
def allSpec:FnSpec
  | [.v (.c (.sl (.pt P))),.v (.c (.sl (.fr k)))]=>some ([k.length=P.length,P.length≤4096],.v (.a (ptIts (smJ 52 pt0 P k))),[])
  | _=>none
noncomputable def udA:Env:=ucC.set (addT ucC.fn 12 allSpec)
theorem udA_ok:EnvOk Try.prog udA:=env_add ucC_ok 12 allSpec (enters_of Try.func12 rfl rfl) fun args o r es h ho=>by
  unfold allSpec at h
  split at h
  · cases h;exact all_fnd2 _ _ ⟨ho.1,ho.2.1⟩
  · cases h
--@env udA udA_ok
noncomputable def ea_k:List KI:=(run udA false 3000 ((fun (l:List G1D)=>(⟨[.code (bodyOf Try.f13)],.normal,initSt Try.f13.ntmps [.v (.c (.sl (.g1 l))),.v (.c (.clo 14 []))]⟩:Cfg)) default) []).cfg.k
theorem ea_hk (l:List G1D):(run udA false 3000 ((⟨[.code (bodyOf Try.f13)],.normal,initSt Try.f13.ntmps [.v (.c (.sl (.g1 l))),.v (.c (.clo 14 []))]⟩:Cfg)) []).cfg.k=ea_k:=by kernel_rfl
theorem ea (l:List G1D) (ho:AllP [((0:Int)≤(((List.length l):Nat):Int)),((((List.length l):Nat):Int)=(((List.length l):Nat):Int)),(((144:Int)*(((List.length l):Nat):Int))≤(281474976710656:Int)),((((List.length l):Nat):Int)≤(9223372036854775807:Int))]) (hs:Sim w0 F0 K ac (initSt Try.f13.ntmps [.v (.c (.sl (.g1 l))),.v (.c (.clo 14 []))]) cX aX) (hK:∀ac cY aY,Sim w0 F0 K ac (mkSt 26 [1,5,11,12,13] [(.v (.c (.clo 14 ([]:List (Prod Nat Nat))))),(.v (.c (.slc 64 0 ((((List.length l):Nat):Int)).toNat 18))),(.v (.c (.sl (Sq.g1 l)))),(.ii (((List.length l):Nat):Int)),.ii (0:Int)] [64] [(some (.sq (Sq.pt (List.replicate ((((List.length l):Nat):Int)).toNat pt0))))] 144 [] []) cY aY→Wq Try.prog Q (ea_k) ac Exit.normal aY cY.w):Wq Try.prog Q ([.code (bodyOf Try.f13)]) ac .normal aX cX.w:=
  run_at2 (o:=⟨_,_,_,_,_,_,_⟩) udA_ok (by kernel_rfl) (ea_hk l) ho hs hK
noncomputable def eaS (l:List G1D) (L:List (Fp×Fp×Fp)) (n:Nat) (i:Int):St:=mkSt 26 [1,5,11,12,13] [(.v (.c (.clo 14 ([]:List (Prod Nat Nat))))),.v (.c (.slc 64 0 n 18)),(.v (.c (.sl (Sq.g1 l)))),(.ii (((List.length l):Nat):Int)),.v (.c (.int .i64 i))] [64] [some (.sq (.pt L))] 144 [] []
theorem eaA_hk (l:List G1D) (L:List (Fp×Fp×Fp)) (n:Nat) (i:Int):(run udA false 3000 ((⟨lpIn ea_k,.normal,eaS l L n i⟩:Cfg)) [true]).cfg.k=lpBk ea_k:=by kernel_rfl
theorem eaA (l:List G1D) (L:List (Fp×Fp×Fp)) (n:Nat) (i:Int) (ho:AllP [((decide (i<(((List.length l):Nat):Int)))=true),((0:Int)≤i),(i<(((List.length l):Nat):Int)),((0:Int)≤i),(i<((n:Nat):Int)),(0=0),((i).toNat<(List.length L))]) (hs:Sim w0 F0 K ac (eaS l L n i) cX aX) (hK:∀ac cY aY,Sim w0 F0 K ac (mkSt 26 [1,5,11,12,13] [(.v (.c (.clo 14 ([]:List (Prod Nat Nat))))),(.v (.c (.slc 64 0 n 18))),(.v (.c (.sl (Sq.g1 l)))),(.ii (((List.length l):Nat):Int)),(.ii (IntKind.wrap .i64 (i+(1:Int))))] [64] [(some (.sq (Sq.pt (List.set L (i).toNat (inG (List.getD l (i).toNat g10))))))] 400 [] []) cY aY→Wq Try.prog Q (lpBk ea_k) ac Exit.normal aY cY.w):Wq Try.prog Q (lpIn ea_k) ac .normal aX cX.w:=
  run_at2 (o:=⟨_,_,_,_,_,_,_⟩) udA_ok (by kernel_rfl) (eaA_hk l L n i) ho hs hK
theorem eaX_end (l:List G1D) (L:List (Fp×Fp×Fp)) (n:Nat) (i:Int):runEnd udA Try.f13 false 3000 (⟨lpIn ea_k,.normal,eaS l L n i⟩) [false] [] [64]=(some ([((decide (i<(((List.length l):Nat):Int)))=false),(n=(List.length L))],((.v (.c (.sl (Sq.pt L)))),[]))):=by kernel_rfl
theorem nrR1 (a b:U6) (i:Bool):fnRes udA Try.f9 3000 [.v (.a [.ob (.fp a),.ob (.fp b),.bool i])] [] [] []=(some ([],((.v (.c (.bool (Bool.not (onG (G1D.mk a b i)))))),[]))):=by kernel_rfl
def notRight:FnSpec
  | [.v (.a [.ob (.fp a),.ob (.fp b),.bool i])]=>some ([],.v (.c (.bool (!(onG ⟨a,b,i⟩)))),[])
  | _=>none
noncomputable def udB:Env:=udA.set (addT udA.fn 9 notRight)
theorem udB_ok:EnvOk Try.prog udB:=env_add udA_ok 9 notRight (enters_of Try.func9 rfl rfl) fun args o r es h _=>by
  unfold notRight at h
  split at h
  · cases h;exact fn_sound udA_ok Try.func9 (nrR1 _ _ _) trivial
  · cases h
--@env udB udB_ok
noncomputable def iw_k:List KI:=(run udB false 3000 ((fun (l:List G1D)=>(⟨[.code (bodyOf Try.f19)],.normal,initSt Try.f19.ntmps [.v (.c (.sl (.g1 l))),.v (.c (.clo 9 []))]⟩:Cfg)) default) []).cfg.k
theorem iw_hk (l:List G1D):(run udB false 3000 ((⟨[.code (bodyOf Try.f19)],.normal,initSt Try.f19.ntmps [.v (.c (.sl (.g1 l))),.v (.c (.clo 9 []))]⟩:Cfg)) []).cfg.k=iw_k:=by kernel_rfl
theorem iw (l:List G1D) (ho:AllP []) (hs:Sim w0 F0 K ac (initSt Try.f19.ntmps [.v (.c (.sl (.g1 l))),.v (.c (.clo 9 []))]) cX aX) (hK:∀ac cY aY,Sim w0 F0 K ac (mkSt 19 [0,1,7,8] [(.v (.c (.sl (Sq.g1 l)))),(.v (.c (.clo 9 ([]:List (Prod Nat Nat))))),(.ii (((List.length l):Nat):Int)),.ii (0:Int)] [] [] 80 [] []) cY aY→Wq Try.prog Q (iw_k) ac Exit.normal aY cY.w):Wq Try.prog Q ([.code (bodyOf Try.f19)]) ac .normal aX cX.w:=
  run_at2 (o:=⟨_,_,_,_,_,_,_⟩) udB_ok (by kernel_rfl) (iw_hk l) ho hs hK
noncomputable def iwS (l:List G1D) (i:Int):St:=mkSt 19 [0,1,7,8] [(.v (.c (.sl (Sq.g1 l)))),(.v (.c (.clo 9 ([]:List (Prod Nat Nat))))),(.ii (((List.length l):Nat):Int)),.v (.c (.int .i64 i))] [] [] 80 [] []
theorem iwA_hk (l:List G1D) (i:Int):(run udB false 3000 ((⟨lpIn iw_k,.normal,iwS l i⟩:Cfg)) [true,false]).cfg.k=lpBk iw_k:=by kernel_rfl
theorem iwA (l:List G1D) (i:Int) (ho:AllP [((decide (i<(((List.length l):Nat):Int)))=true),((0:Int)≤i),(i<(((List.length l):Nat):Int)),((Bool.not (onG (List.getD l (i).toNat g10)))=false)]) (hs:Sim w0 F0 K ac (iwS l i) cX aX) (hK:∀ac cY aY,Sim w0 F0 K ac (mkSt 19 [0,1,7,8] [(.v (.c (.sl (Sq.g1 l)))),(.v (.c (.clo 9 ([]:List (Prod Nat Nat))))),(.ii (((List.length l):Nat):Int)),(.ii (IntKind.wrap .i64 (i+(1:Int))))] [] [] 256 [] []) cY aY→Wq Try.prog Q (lpBk iw_k) ac Exit.normal aY cY.w):Wq Try.prog Q (lpIn iw_k) ac .normal aX cX.w:=
  run_at2 (o:=⟨_,_,_,_,_,_,_⟩) udB_ok (by kernel_rfl) (iwA_hk l i) ho hs hK
theorem iwY_end (l:List G1D) (i:Int):runEnd udB Try.f19 false 3000 (⟨lpIn iw_k,.normal,iwS l i⟩) [true,true] [] []=(some ([((decide (i<(((List.length l):Nat):Int)))=true),((0:Int)≤i),(i<(((List.length l):Nat):Int)),((Bool.not (onG (List.getD l (i).toNat g10)))=true)],((.ii i),[]))):=by kernel_rfl
theorem iwX_end (l:List G1D) (i:Int):runEnd udB Try.f19 false 3000 (⟨lpIn iw_k,.normal,iwS l i⟩) [false] [] []=(some ([((decide (i<(((List.length l):Nat):Int)))=false)],((.ii (-(1:Int))),[]))):=by kernel_rfl
end
end Go.Proofs.Ytdaligcdaalnmaa

/- What Sum1 calls: contracts. No conditions. -/
namespace Go.Proofs.Ytdaligcdaalnmaa

theorem each_fnd (l:List G1D) (hl:l.length≤1048576):FnD Try.prog 13 [.v (.c (.sl (.g1 l))),.v (.c (.clo 14 []))] (.v (.c (.sl (.pt (l.map inG))))) []:=by
  refine fn_start (fn:=Try.f13) (c:=bodyOf Try.f13) Try.func13 rfl rfl fun x0 a0 hk hF hs=>?_
  refine ea l ⟨by omega,rfl,by omega,by omega,trivial⟩ hs fun ac cY aY hs1=>?_
  rw[Int.toNat_natCast] at hs1
  refine loop_rule (ι:={ p:Nat×List (Fp×Fp×Fp) // p.1≤l.length∧p.2.length=l.length∧∀j,j<p.1→p.2.getD j pt0=inG (l.getD j g10) }) (fun p=>eaS l p.1.2 l.length (p.1.1:Int)) (fun p=>l.length-p.1.1) (c:=lpC ea_k) (k:=lpR ea_k) (by kernel_rfl) (fun p ih ac cY aY hs=>?_)
    ⟨(0,List.replicate l.length pt0),Nat.zero_le _,List.length_replicate,fun j hj=>absurd hj (Nat.not_lt_zero j)⟩ (hs1.nx _)
  obtain ⟨⟨i,L⟩,hi,hL,hg⟩:=p
  simp only at ih hs hi hL hg
  by_cases h:i<l.length
  · refine eaA l L l.length i ⟨decide_eq_true (by omega),by omega,by omega,by omega,by omega,rfl,by rw[Int.toNat_natCast];omega,trivial⟩ hs fun ac cU aU hs2=>?_
    rw[Int.toNat_natCast,wrap_id (n:=(i:Int)+1) (by omega) (by omega)] at hs2
    refine ih ⟨(i+1,L.set i (inG (l.getD i g10))),h,(List.length_set ..).trans hL,fun j hj=>?_⟩ (by show l.length-(i+1)<l.length-i;omega) ac cU aU (hs2.nx _)
    have hj:j<i+1:=hj
    show (L.set i _).getD j pt0=_
    rw[set_getD _ _ _ _ _ (by omega)]
    by_cases e:j=i
    · subst e;rw[if_pos rfl]
    · rw[if_neg e];exact hg j (by omega)
  · obtain rfl:i=l.length:=by omega
    have e:L=l.map inG:=by
      apply List.ext_getElem (by rw[hL,List.length_map])
      intro j h1 h2
      have e:=hg j (by omega)
      rw[←map_getD inG l g10 pt0 (by omega),List.getD_eq_getElem?_getD,List.getD_eq_getElem?_getD,List.getElem?_eq_getElem h1,List.getElem?_eq_getElem h2] at e
      exact e
    subst e
    exact run_end2 udA_ok hk hF (eaX_end l _ _ _) ⟨decide_eq_false (by omega),hL.symm,trivial⟩ (fun y v hd=>hd) hs

/-- Where the first one lies that is so. -/
def fstIx (p:G1D→Bool):List G1D→Nat→Int
  | [],_=>-1
  | a::l,i=>if p a then (i:Int) else fstIx p l (i+1)
theorem fstIx_any (p:G1D→Bool):∀(l:List G1D) (i:Nat),decide (fstIx p l i ≥ 0)=l.any p
  | [],_=>rfl
  | a::l,i=>by
    show decide ((if p a then (i:Int) else fstIx p l (i+1)) ≥ 0)=(p a || l.any p)
    cases h:p a with
    | true=>rw[if_pos rfl,Bool.true_or];exact decide_eq_true (Int.natCast_nonneg i)
    | false=>rw[if_neg Bool.false_ne_true,Bool.false_or];exact fstIx_any p l (i+1)
def offG (a:G1D):Bool:=!(onG a)
theorem fstIx_drop (p:G1D→Bool) (l:List G1D) (i:Nat) (h:i<l.length):fstIx p (l.drop i) i=if p (l.getD i g10) then (i:Int) else fstIx p (l.drop (i+1)) (i+1):=by
  rw[List.drop_eq_getElem_cons h,List.getD_eq_getElem?_getD,List.getElem?_eq_getElem h]
  rfl
theorem index_fnd (l:List G1D):FnD Try.prog 19 [.v (.c (.sl (.g1 l))),.v (.c (.clo 9 []))] (.v (.c (.int .i64 (fstIx offG l 0)))) []:=by
  refine fn_start (fn:=Try.f19) (c:=bodyOf Try.f19) Try.func19 rfl rfl fun x0 a0 hk hF hs=>?_
  have hlen:l.length≤maxLen:=by
    have h0:=hs.t 0
    exact sl_len h0
  have hmax:maxLen≤9223372036854775807:=by decide
  refine iw l trivial hs fun ac cY aY hs1=>?_
  refine loop_rule (ι:={ i:Nat // i≤l.length∧fstIx offG (l.drop i) i=fstIx offG l 0 }) (fun i=>iwS l (i.1:Int)) (fun i=>l.length-i.1) (c:=lpC iw_k) (k:=lpR iw_k) (by kernel_rfl) (fun i ih ac cY aY hs=>?_) ⟨0,Nat.zero_le _,by rw[List.drop_zero]⟩ (hs1.nx _)
  obtain ⟨i,hi,he⟩:=i
  simp only at ih hs
  by_cases h:i<l.length
  · rw[fstIx_drop _ _ _ h] at he
    cases ho:offG (l.getD i g10) with
    | true=>
      rw[ho,if_pos rfl] at he
      rw[←he]
      exact run_end2 udB_ok hk hF (iwY_end l i) ⟨decide_eq_true (by omega),by omega,by omega,by rw[Int.toNat_natCast];exact ho,trivial⟩ (fun y v hd=>hd) hs
    | false=>
      rw[ho,if_neg Bool.false_ne_true] at he
      refine iwA l i ⟨decide_eq_true (by omega),by omega,by omega,by rw[Int.toNat_natCast];exact ho,trivial⟩ hs fun ac cU aU hs2=>?_
      rw[wrap_id (n:=(i:Int)+1) (by omega) (by omega)] at hs2
      exact ih ⟨i+1,h,he⟩ (by show l.length-(i+1)<l.length-i;omega) ac cU aU (hs2.nx _)
  · obtain rfl:i=l.length:=by omega
    rw[List.drop_length] at he
    rw[←he]
    exact run_end2 udB_ok hk hF (iwX_end l _) ⟨decide_eq_false (by omega),trivial⟩ (fun y v hd=>hd) hs

end Go.Proofs.Ytdaligcdaalnmaa

/- Sum1, and the laws on sums of points of the first curve, walked. No conditions. -/
namespace Go.Proofs.Ytdaligcdaalnmaa

def eachSpec:FnSpec
  | [.v (.c (.sl (.g1 l))),.v (.c (.clo 14 []))]=>some ([l.length≤1048576],.v (.c (.sl (.pt (l.map inG)))),[])
  | _=>none
noncomputable def ueA:Env:=udB.set (addT udB.fn 13 eachSpec)
theorem ueA_ok:EnvOk Try.prog ueA:=env_add udB_ok 13 eachSpec (enters_of Try.func13 rfl rfl) fun args o r es h ho=>by
  unfold eachSpec at h
  split at h
  · cases h;exact each_fnd _ ho.1
  · cases h
def indexSpec:FnSpec
  | [.v (.c (.sl (.g1 l))),.v (.c (.clo 9 []))]=>some ([],.v (.c (.int .i64 (fstIx offG l 0))),[])
  | _=>none
noncomputable def ueB:Env:=ueA.set (addT ueA.fn 19 indexSpec)
theorem ueB_ok:EnvOk Try.prog ueB:=env_add ueA_ok 19 indexSpec (enters_of Try.func19 rfl rfl) fun args o r es h _=>by
  unfold indexSpec at h
  split at h
  · cases h;exact index_fnd _
  · cases h
def checkSpec:FnSpec
  | [.v (.c (.int .i64 a)),.v (.c (.int .i64 b)),.v (.c (.bool w))]=>some ([],.v (.c (.int .i64 (chkE a b w))),[])
  | _=>none
noncomputable def ueC:Env:=ueB.set (addT ueB.fn 10 checkSpec)
theorem ueC_ok:EnvOk Try.prog ueC:=env_add ueB_ok 10 checkSpec (enters_of Try.func10 rfl rfl) fun args o r es h _=>by
  unfold checkSpec at h
  split at h
  · cases h;exact check_fnd _ _ _
  · cases h
noncomputable def ueD:Env:=ueC
theorem ueD_ok:EnvOk Try.prog ueD:=ueC_ok
theorem cfR (l:List G1D):fnRes ueD Try.f8 3000 [.v (.c (.sl (.g1 l))),.v (.c (.clo 9 []))] [] [] []=(some ([],((.v (.c (.bool (decide ((fstIx offG l 0) ≥ (0:Int)))))),[]))):=by kernel_rfl
theorem contains_fnd (l:List G1D):FnD Try.prog 8 [.v (.c (.sl (.g1 l))),.v (.c (.clo 9 []))] (.v (.c (.bool (l.any offG)))) []:=by
  have r:=cfR l
  rw[fstIx_any] at r
  exact fn_sound ueD_ok Try.func8 r trivial
def containsSpec:FnSpec
  | [.v (.c (.sl (.g1 l))),.v (.c (.clo 9 []))]=>some ([],.v (.c (.bool (l.any offG))),[])
  | _=>none
noncomputable def ueE:Env:=ueD.set (addT ueD.fn 8 containsSpec)
theorem ueE_ok:EnvOk Try.prog ueE:=env_add ueD_ok 8 containsSpec (enters_of Try.func8 rfl rfl) fun args o r es h _=>by
  unfold containsSpec at h
  split at h
  · cases h;exact contains_fnd _
  · cases h
--@env ueE ueE_ok
theorem s1A (l:List G1D) (k:List U4):fnRes ueE Try.f4 3000 [.v (.c (.sl (.g1 l))),.v (.c (.sl (.fr k)))] [true] [] []=(some ([(((chkE (((List.length l):Nat):Int) (((List.length k):Nat):Int) (List.any l offG)) != (0:Int))=true)],((.t [(.a [(.ob (.fp (0:U6))),(.ob (.fp (0:U6))),(.lit false)]),(.c (.int .i64 (chkE (((List.length l):Nat):Int) (((List.length k):Nat):Int) (List.any l offG))))]),[]))):=by kernel_rfl
theorem s1B (l:List G1D) (k:List U4):fnRes ueE Try.f4 3000 [.v (.c (.sl (.g1 l))),.v (.c (.sl (.fr k)))] [false] [] []=(some ([(((chkE (((List.length l):Nat):Int) (((List.length k):Nat):Int) (List.any l offG)) != (0:Int))=false),((List.length l)≤1048576),((List.length k)=(List.length (List.map inG l))),((List.length (List.map inG l))≤4096)],((.t [(.a [(.ob (.fp (G1D.x (outG (smJ 52 pt0 (List.map inG l) k))))),(.ob (.fp (G1D.y (outG (smJ 52 pt0 (List.map inG l) k))))),(.bool (G1D.inf (outG (smJ 52 pt0 (List.map inG l) k))))]),(.c (.int .i64 (0:Int)))]),[]))):=by kernel_rfl
end Go.Proofs.Ytdaligcdaalnmaa

/- Sum1: contract. No conditions. -/
namespace Go.Proofs.Ytdaligcdaalnmaa

/-- What Sum1 tells. -/
def sum1 (l:List G1D) (k:List U4):G1D×Int:=
  if chkE (l.length:Int) (k.length:Int) (l.any offG)=0 then (outG (smJ 52 pt0 (l.map inG) k),0) else (g10,chkE (l.length:Int) (k.length:Int) (l.any offG))
theorem sum1_ok {l:List G1D} {k:List U4} (h:chkE (l.length:Int) (k.length:Int) (l.any offG)=0):sum1 l k=(outG (smJ 52 pt0 (l.map inG) k),0):=if_pos h
theorem sum1_no {l:List G1D} {k:List U4} (h:¬chkE (l.length:Int) (k.length:Int) (l.any offG)=0):sum1 l k=(g10,chkE (l.length:Int) (k.length:Int) (l.any offG)):=if_neg h
theorem sum1_fnd (l:List G1D) (k:List U4):FnD Try.prog 4 [.v (.c (.sl (.g1 l))),.v (.c (.sl (.fr k)))] (.t [.a (sum1 l k).1.its,.c (.int .i64 (sum1 l k).2)]) []:=by
  by_cases h:chkE (l.length:Int) (k.length:Int) (l.any offG)=0
  · rw[sum1_ok h]
    obtain ⟨h1,h2,h3⟩:=chk_zero h
    exact fn_sound ueE_ok Try.func4 (s1B l k) ⟨by rw[h];rfl,by omega,by rw[List.length_map];omega,by rw[List.length_map];omega,trivial⟩
  · rw[sum1_no h]
    exact (fn_sound ueE_ok Try.func4 (s1A l k) ⟨by simpa using h,trivial⟩).conv (fun _ _ h=>h) fun y v hd=>lit_third_t hd

theorem smJ_gP {N:Nat} (hN:N=52) {l:List G1D} {k:List U4} (hl:k.length=l.length) (ho:l.any offG=false):outG (smJ N pt0 (l.map inG) k)=gP (gsum (k.map (·.val)) (l.map pG)):=by
  have hon:∀a,a∈l→onG a=true:=fun a ha=>by
    rw[List.any_eq_false] at ho
    have:=ho a ha
    unfold offG at this
    simpa using this
  cases k with
  | nil=>
    have e:l=[]:=List.length_eq_zero_iff.1 hl.symm
    subst e
    exact outG_jc (P:=none) (rfl:(0:Fp)=0)
  | cons x k=>
    have hm:smJ N pt0 (l.map inG) (x::k)=alN pt0 (l.map inG) (digs N ((x::k).map (·.val))) N N:=rfl
    rw[hm]
    refine outG_jc (many_sum hN cv1 pt0 rfl (by rw[List.length_map,List.length_map]) (fun P hP=>?_) (fun i hi=>?_) (by rw[List.length_map,List.length_map];exact hl) (fun v hv=>?_))
    · obtain ⟨a,ha,rfl⟩:=List.mem_map.1 hP
      exact (onG_is (hon a ha)).2
    · rw[List.length_map] at hi
      rw[map_getD pG l g10 none hi,map_getD inG l g10 pt0 hi]
      exact inG_jc _
    · obtain ⟨u,_,rfl⟩:=List.mem_map.1 hv
      exact u4_lt u

theorem sum1_nil:FnD Try.prog 4 [.v (.c (.val (.slice none 0 0))),.v (.c (.val (.slice none 0 0)))] (.t [.a (G1D.mk 0 0 true).its,.c (.int .i64 0)]) []:=by
  have h:=sum1_fnd [] []
  have e:sum1 [] []=(⟨0,0,true⟩,0):=by
    rw[sum1_ok (by decide)]
    exact congrArg (fun g=>(g,(0:Int))) ((smJ_gP (Eq.refl 52) rfl rfl).trans rfl)
  rw[e] at h
  exact h.conv (fun x vs hd=>by
    cases hd with | cons h1 hd=>cases hd with | cons h2 hd=>
    cases hd
    exact .cons (nil_is rfl h1) (.cons (nil_is rfl h2) .nil)) fun y v hd=>hd
end Go.Proofs.Ytdaligcdaalnmaa

/- Pairs of elements of the greater field: the functions, walked. No conditions. -/
namespace Go.Proofs.Ytdaligcdaalnmaa

abbrev F2:=Q2 pN
def f2I (x:F2):List It:=[.ob (.p x.1),.ob (.p x.2)]
section
variable {r:Nat} [NeZero r]
theorem kar_g (a b c d:Fin r):(a+b)*(c+d)-a*c-b*d=a*d+b*c:=by grind
end
--@env qeJ qeJ_ok
theorem t2A (a b c d:Fp):fnRes qeJ Try.f40 3000 [.v (.a [.ob (.p a),.ob (.p b)]),.v (.a [.ob (.p c),.ob (.p d)])] [] [] []=(some ([],((.v (.a [(.ob (.p ((a*c)-(b*d)))),(.ob (.p ((((a+b)*(c+d))-(a*c))-(b*d))))])),[]))):=by kernel_rfl
theorem p2A (a b c d:Fp):fnRes qeJ Try.f41 3000 [.v (.a [.ob (.p a),.ob (.p b)]),.v (.a [.ob (.p c),.ob (.p d)])] [] [] []=(some ([],((.v (.a [(.ob (.p (a+c))),(.ob (.p (b+d)))])),[]))):=by kernel_rfl
theorem m2A (a b c d:Fp):fnRes qeJ Try.f73 3000 [.v (.a [.ob (.p a),.ob (.p b)]),.v (.a [.ob (.p c),.ob (.p d)])] [] [] []=(some ([],((.v (.a [(.ob (.p (a-c))),(.ob (.p (b-d)))])),[]))):=by kernel_rfl
theorem n2A (a b:Fp):fnRes qeJ Try.f74 3000 [.v (.a [.ob (.p a),.ob (.p b)])] [] [] []=(some ([],((.v (.a [(.ob (.p ((0:Fp)-a))),(.ob (.p ((0:Fp)-b)))])),[]))):=by kernel_rfl
theorem z2A (a b:Fp):fnRes qeJ Try.f72 3000 [.v (.a [.ob (.p a),.ob (.p b)])] [] [] []=(some ([],((.v (.c (.bool (ite (true=true) (Bool.and (decide (a=(0:Fp))) (decide (b=(0:Fp)))) (Bool.not (Bool.and (decide (a=(0:Fp))) (decide (b=(0:Fp))))))))),[]))):=by kernel_rfl
theorem no2A (a b:Fp):fnRes qeJ Try.f75 3000 [.v (.a [.ob (.p a),.ob (.p b)])] [] [] []=(some ([],((.v (.a [(.ob (.p ((a*a)+(b*b))))])),[]))):=by kernel_rfl
theorem i2A (a b:U6):fnRes qeJ Try.f38 3000 [.v (.a [.ob (.fp a),.ob (.fp b)])] [] [] []=(some ([],((.v (.a [(.ob (.p (inP a))),(.ob (.p (inP b)))])),[]))):=by kernel_rfl
theorem o2A (a b:Fp):fnRes qeJ Try.f39 3000 [.v (.a [.ob (.p a),.ob (.p b)])] [] [] []=(some ([],((.v (.a [(.ob (.fp (outP a))),(.ob (.fp (outP b)))])),[]))):=by kernel_rfl
theorem times2_fnd (a b c d:Fp):FnD Try.prog 40 [.v (.a [.ob (.p a),.ob (.p b)]),.v (.a [.ob (.p c),.ob (.p d)])] (.v (.a (f2I ((a,b)*(c,d))))) []:=by
  have r:=t2A a b c d
  rw[kar_g] at r
  exact fn_sound qeJ_ok Try.func40 r trivial
theorem zero2_fnd (a b:Fp):FnD Try.prog 72 [.v (.a [.ob (.p a),.ob (.p b)])] (.v (.c (.bool (decide (((a,b):F2)=0))))) []:=by
  have r:=z2A a b
  rw[if_pos rfl] at r
  have e:decide (((a,b):F2)=0)=(decide (a=0) && decide (b=0)):=pair_dec a 0 b 0
  rw[e]
  exact fn_sound qeJ_ok Try.func72 r trivial
def inP2 (a b:U6):F2:=(inP a,inP b)
def times2Spec:FnSpec
  | [.v (.a [.ob (.p a),.ob (.p b)]),.v (.a [.ob (.p c),.ob (.p d)])]=>some ([],.v (.a (f2I ((a,b)*(c,d)))),[])
  | _=>none
noncomputable def qxA:Env:=qeJ.set (addT qeJ.fn 40 times2Spec)
theorem qxA_ok:EnvOk Try.prog qxA:=env_add qeJ_ok 40 times2Spec (enters_of Try.func40 rfl rfl) fun args o r es h _=>by
  unfold times2Spec at h
  split at h
  · cases h;exact times2_fnd _ _ _ _
  · cases h
def plus2Spec:FnSpec
  | [.v (.a [.ob (.p a),.ob (.p b)]),.v (.a [.ob (.p c),.ob (.p d)])]=>some ([],.v (.a (f2I ((a,b)+(c,d)))),[])
  | _=>none
noncomputable def qxB:Env:=qxA.set (addT qxA.fn 41 plus2Spec)
theorem qxB_ok:EnvOk Try.prog qxB:=env_add qxA_ok 41 plus2Spec (enters_of Try.func41 rfl rfl) fun args o r es h _=>by
  unfold plus2Spec at h
  split at h
  · cases h;exact fn_sound qeJ_ok Try.func41 (p2A _ _ _ _) trivial
  · cases h
def minus2Spec:FnSpec
  | [.v (.a [.ob (.p a),.ob (.p b)]),.v (.a [.ob (.p c),.ob (.p d)])]=>some ([],.v (.a (f2I ((a,b)-(c,d)))),[])
  | _=>none
noncomputable def qxC:Env:=qxB.set (addT qxB.fn 73 minus2Spec)
theorem qxC_ok:EnvOk Try.prog qxC:=env_add qxB_ok 73 minus2Spec (enters_of Try.func73 rfl rfl) fun args o r es h _=>by
  unfold minus2Spec at h
  split at h
  · cases h;exact fn_sound qeJ_ok Try.func73 (m2A _ _ _ _) trivial
  · cases h
def neg2Spec:FnSpec
  | [.v (.a [.ob (.p a),.ob (.p b)])]=>some ([],.v (.a (f2I (0-(a,b)))),[])
  | _=>none
noncomputable def qxD:Env:=qxC.set (addT qxC.fn 74 neg2Spec)
theorem qxD_ok:EnvOk Try.prog qxD:=env_add qxC_ok 74 neg2Spec (enters_of Try.func74 rfl rfl) fun args o r es h _=>by
  unfold neg2Spec at h
  split at h
  · cases h;exact fn_sound qeJ_ok Try.func74 (n2A _ _) trivial
  · cases h
def zero2Spec:FnSpec
  | [.v (.a [.ob (.p a),.ob (.p b)])]=>some ([],.v (.c (.bool (decide (((a,b):F2)=0)))),[])
  | _=>none
noncomputable def qxE:Env:=qxD.set (addT qxD.fn 72 zero2Spec)
theorem qxE_ok:EnvOk Try.prog qxE:=env_add qxD_ok 72 zero2Spec (enters_of Try.func72 rfl rfl) fun args o r es h _=>by
  unfold zero2Spec at h
  split at h
  · cases h;exact zero2_fnd _ _
  · cases h
def norm2Spec:FnSpec
  | [.v (.a [.ob (.p a),.ob (.p b)])]=>some ([],.v (.a [.ob (.p (nQ2 (a,b)))]),[])
  | _=>none
noncomputable def qxF:Env:=qxE.set (addT qxE.fn 75 norm2Spec)
theorem qxF_ok:EnvOk Try.prog qxF:=env_add qxE_ok 75 norm2Spec (enters_of Try.func75 rfl rfl) fun args o r es h _=>by
  unfold norm2Spec at h
  split at h
  · cases h;exact fn_sound qeJ_ok Try.func75 (no2A _ _) trivial
  · cases h
def in2Spec:FnSpec
  | [.v (.a [.ob (.fp a),.ob (.fp b)])]=>some ([],.v (.a (f2I (inP2 a b))),[])
  | _=>none
noncomputable def qxG:Env:=qxF.set (addT qxF.fn 38 in2Spec)
theorem qxG_ok:EnvOk Try.prog qxG:=env_add qxF_ok 38 in2Spec (enters_of Try.func38 rfl rfl) fun args o r es h _=>by
  unfold in2Spec at h
  split at h
  · cases h;exact fn_sound qeJ_ok Try.func38 (i2A _ _) trivial
  · cases h
def out2Spec:FnSpec
  | [.v (.a [.ob (.p a),.ob (.p b)])]=>some ([],.v (.a [.ob (.fp (outP a)),.ob (.fp (outP b))]),[])
  | _=>none
noncomputable def qxH:Env:=qxG.set (addT qxG.fn 39 out2Spec)
theorem qxH_ok:EnvOk Try.prog qxH:=env_add qxG_ok 39 out2Spec (enters_of Try.func39 rfl rfl) fun args o r es h _=>by
  unfold out2Spec at h
  split at h
  · cases h;exact fn_sound qeJ_ok Try.func39 (o2A _ _) trivial
  · cases h
--@env qxH qxH_ok
theorem v2A (a b:Fp):fnRes qxH Try.f71 3000 [.v (.a [.ob (.p a),.ob (.p b)])] [] [] []=(some ([],((.v (.a [(.ob (.p (a*(ivP (nQ2 (a,b)))))),(.ob (.p ((0:Fp)-(b*(ivP (nQ2 (a,b)))))))])),[]))):=by kernel_rfl
def inv2Spec:FnSpec
  | [.v (.a [.ob (.p a),.ob (.p b)])]=>some ([],.v (.a (f2I (ivQ2 ivP (a,b)))),[])
  | _=>none
noncomputable def qxI:Env:=qxH.set (addT qxH.fn 71 inv2Spec)
theorem qxI_ok:EnvOk Try.prog qxI:=env_add qxH_ok 71 inv2Spec (enters_of Try.func71 rfl rfl) fun args o r es h _=>by
  unfold inv2Spec at h
  split at h
  · cases h;exact fn_sound qxH_ok Try.func71 (v2A _ _) trivial
  · cases h
theorem meth76_Times (v : Value) (w : World) : (method (Try.prog.types.size + Made.depth) 76 v "Times").run Try.prog w = .ok (40, v) w := by kernel_rfl
theorem meth76_Plus (v : Value) (w : World) : (method (Try.prog.types.size + Made.depth) 76 v "Plus").run Try.prog w = .ok (41, v) w := by kernel_rfl
theorem meth76_Minus (v : Value) (w : World) : (method (Try.prog.types.size + Made.depth) 76 v "Minus").run Try.prog w = .ok (73, v) w := by kernel_rfl
theorem meth76_IsZero (v : Value) (w : World) : (method (Try.prog.types.size + Made.depth) 76 v "IsZero").run Try.prog w = .ok (72, v) w := by kernel_rfl
theorem meth76_Negative (v : Value) (w : World) : (method (Try.prog.types.size + Made.depth) 76 v "Negative").run Try.prog w = .ok (74, v) w := by kernel_rfl
theorem meth76_Inverse (v : Value) (w : World) : (method (Try.prog.types.size + Made.depth) 76 v "Inverse").run Try.prog w = .ok (71, v) w := by kernel_rfl
noncomputable def inv2T (T : Nat → Option (List (String × Nat))) (t : Nat) : Option (List (String × Nat)) := if t = 76 then some [("Times", 40), ("Plus", 41), ("Minus", 73), ("IsZero", 72), ("Negative", 74), ("Inverse", 71)] else T t
noncomputable def qxJ:Env:={ qxI with inv:=inv2T qxI.inv }
theorem qxJ_ok:EnvOk Try.prog qxJ:=by
  refine ⟨qxI_ok.ty,qxI_ok.mixed,qxI_ok.fn,qxI_ok.mu,qxI_ok.inl,qxI_ok.ex,fun t l h=>?_⟩
  have h:inv2T qxI.inv t=some l:=h
  unfold inv2T at h
  split at h
  · rename_i ht
    cases h
    subst ht
    refine ⟨by kernel_rfl,fun name g hg v args w=>?_⟩
    unfold lookM at hg
    split at hg
    · rename_i hn
      cases hg
      subst hn
      simp only[callMethod,Sem.run_bind,run_program,Result.andThen_ok,meth76_Times]
    unfold lookM at hg
    split at hg
    · rename_i hn
      cases hg
      subst hn
      simp only[callMethod,Sem.run_bind,run_program,Result.andThen_ok,meth76_Plus]
    unfold lookM at hg
    split at hg
    · rename_i hn
      cases hg
      subst hn
      simp only[callMethod,Sem.run_bind,run_program,Result.andThen_ok,meth76_Minus]
    unfold lookM at hg
    split at hg
    · rename_i hn
      cases hg
      subst hn
      simp only[callMethod,Sem.run_bind,run_program,Result.andThen_ok,meth76_IsZero]
    unfold lookM at hg
    split at hg
    · rename_i hn
      cases hg
      subst hn
      simp only[callMethod,Sem.run_bind,run_program,Result.andThen_ok,meth76_Negative]
    unfold lookM at hg
    split at hg
    · rename_i hn
      cases hg
      subst hn
      simp only[callMethod,Sem.run_bind,run_program,Result.andThen_ok,meth76_Inverse]
    cases hg
  · exact qxI_ok.inv t l h
--@env qxJ qxJ_ok
end Go.Proofs.Ytdaligcdaalnmaa

/- Whether a point may be of the second curve, walked. No conditions. -/
namespace Go.Proofs.Ytdaligcdaalnmaa

--@env qxJ qxJ_ok
theorem on2A (a b c d:U6) (i:Bool):fnRes qxJ Try.f30 3000 [.v (.a [.ob (.fp a),.ob (.fp b),.ob (.fp c),.ob (.fp d),.bool i])] [true] [] []=(some ([(i=true)],((.v (.c (.bool (ite (true=true) (Bool.and (decide (a=(0:U6))) (Bool.and (decide (b=(0:U6))) (Bool.and (decide (c=(0:U6))) (Bool.and (decide (d=(0:U6))) (i == true))))) (Bool.not (Bool.and (decide (a=(0:U6))) (Bool.and (decide (b=(0:U6))) (Bool.and (decide (c=(0:U6))) (Bool.and (decide (d=(0:U6))) (i == true)))))))))),[]))):=by kernel_rfl
theorem on2B (a b c d:U6) (i:Bool):fnRes qxJ Try.f30 3000 [.v (.a [.ob (.fp a),.ob (.fp b),.ob (.fp c),.ob (.fp d),.bool i])] [false,true,true] [] []=(some ([(i=false),((0:Int)≤(4:Int)),((4:Int)<(18446744073709551616:Int)),((0:Int)≤(4:Int)),((4:Int)<(18446744073709551616:Int)),((ite (true=true) (Bool.and (decide ((outP (Prod.fst (inP2 a b)))=a)) (decide ((outP (Prod.snd (inP2 a b)))=b))) (Bool.not (Bool.and (decide ((outP (Prod.fst (inP2 a b)))=a)) (decide ((outP (Prod.snd (inP2 a b)))=b)))))=true),((ite (true=true) (Bool.and (decide ((outP (Prod.fst (inP2 c d)))=c)) (decide ((outP (Prod.snd (inP2 c d)))=d))) (Bool.not (Bool.and (decide ((outP (Prod.fst (inP2 c d)))=c)) (decide ((outP (Prod.snd (inP2 c d)))=d)))))=true)],((.v (.c (.bool (ite (true=true) (Bool.and (decide ((Prod.fst ((inP2 c d)*(inP2 c d)))=(Prod.fst ((((inP2 a b)*(inP2 a b))*(inP2 a b))+((Fin.ofNat pN 4),(Fin.ofNat pN 4)))))) (decide ((Prod.snd ((inP2 c d)*(inP2 c d)))=(Prod.snd ((((inP2 a b)*(inP2 a b))*(inP2 a b))+((Fin.ofNat pN 4),(Fin.ofNat pN 4))))))) (Bool.not (Bool.and (decide ((Prod.fst ((inP2 c d)*(inP2 c d)))=(Prod.fst ((((inP2 a b)*(inP2 a b))*(inP2 a b))+((Fin.ofNat pN 4),(Fin.ofNat pN 4)))))) (decide ((Prod.snd ((inP2 c d)*(inP2 c d)))=(Prod.snd ((((inP2 a b)*(inP2 a b))*(inP2 a b))+((Fin.ofNat pN 4),(Fin.ofNat pN 4)))))))))))),[]))):=by kernel_rfl
theorem on2C (a b c d:U6) (i:Bool):fnRes qxJ Try.f30 3000 [.v (.a [.ob (.fp a),.ob (.fp b),.ob (.fp c),.ob (.fp d),.bool i])] [false,true,false] [] []=(some ([(i=false),((0:Int)≤(4:Int)),((4:Int)<(18446744073709551616:Int)),((0:Int)≤(4:Int)),((4:Int)<(18446744073709551616:Int)),((ite (true=true) (Bool.and (decide ((outP (Prod.fst (inP2 a b)))=a)) (decide ((outP (Prod.snd (inP2 a b)))=b))) (Bool.not (Bool.and (decide ((outP (Prod.fst (inP2 a b)))=a)) (decide ((outP (Prod.snd (inP2 a b)))=b)))))=true),((ite (true=true) (Bool.and (decide ((outP (Prod.fst (inP2 c d)))=c)) (decide ((outP (Prod.snd (inP2 c d)))=d))) (Bool.not (Bool.and (decide ((outP (Prod.fst (inP2 c d)))=c)) (decide ((outP (Prod.snd (inP2 c d)))=d)))))=false)],((.v (.c (.lit false))),[]))):=by kernel_rfl
theorem on2D (a b c d:U6) (i:Bool):fnRes qxJ Try.f30 3000 [.v (.a [.ob (.fp a),.ob (.fp b),.ob (.fp c),.ob (.fp d),.bool i])] [false,false,false] [] []=(some ([(i=false),((0:Int)≤(4:Int)),((4:Int)<(18446744073709551616:Int)),((0:Int)≤(4:Int)),((4:Int)<(18446744073709551616:Int)),((ite (true=true) (Bool.and (decide ((outP (Prod.fst (inP2 a b)))=a)) (decide ((outP (Prod.snd (inP2 a b)))=b))) (Bool.not (Bool.and (decide ((outP (Prod.fst (inP2 a b)))=a)) (decide ((outP (Prod.snd (inP2 a b)))=b)))))=false)],((.v (.c (.lit false))),[]))):=by kernel_rfl
end Go.Proofs.Ytdaligcdaalnmaa

/- Points of the second curve, in and out; pairs outside: contracts. No conditions. -/
namespace Go.Proofs.Ytdaligcdaalnmaa

def fq4:F2:=(fp4,fp4)
/-- Which points may be. -/
def onG2 (a:G2D):Bool:=
  if a.inf then decide (a.xa=0) && (decide (a.xb=0) && (decide (a.ya=0) && decide (a.yb=0)))
  else (decide (outP (inP a.xa)=a.xa) && decide (outP (inP a.xb)=a.xb)) && ((decide (outP (inP a.ya)=a.ya) && decide (outP (inP a.yb)=a.yb)) && decide (inP2 a.ya a.yb*inP2 a.ya a.yb=inP2 a.xa a.xb*inP2 a.xa a.xb*inP2 a.xa a.xb+fq4))
theorem lit_fifth {x:Ctx} {i j k l:It} {b:Bool} {v:Value} (h:denS x (.v (.a [i,j,k,l,.lit b])) v):denS x (.v (.a [i,j,k,l,.bool b])) v:=by
  obtain ⟨cs,e,c1,r1,e1,h1,c2,r2,e2,h2,c3,r3,e3,h3,c4,r4,e4,h4,c5,r5,e5,⟨d,h5⟩,h6⟩:=h
  refine ⟨cs,e,c1,r1,e1,h1,c2,r2,e2,h2,c3,r3,e3,h3,c4,r4,e4,h4,c5,r5,e5,⟨d,?_⟩,h6⟩
  cases d<;>exact h5
theorem onG2_fin (a b c d:U6):onG2 ⟨a,b,c,d,false⟩=((decide (outP (inP a)=a) && decide (outP (inP b)=b)) && ((decide (outP (inP c)=c) && decide (outP (inP d)=d)) && decide (inP2 c d*inP2 c d=inP2 a b*inP2 a b*inP2 a b+fq4))):=if_neg (fun h=>Bool.noConfusion h)
theorem onG2_inf (a b c d:U6):onG2 ⟨a,b,c,d,true⟩=(decide (a=0) && (decide (b=0) && (decide (c=0) && (decide (d=0) && (true == true))))):=by
  show (decide (a=0) && (decide (b=0) && (decide (c=0) && decide (d=0))))=_
  simp

theorem onG2_fnd (a b c d:U6) (i:Bool):FnD Try.prog 30 [.v (.a [.ob (.fp a),.ob (.fp b),.ob (.fp c),.ob (.fp d),.bool i])] (.v (.c (.bool (onG2 ⟨a,b,c,d,i⟩)))) []:=by
  cases i with
  | true=>
    have r:=on2A a b c d true
    rw[if_pos rfl] at r
    rw[onG2_inf]
    exact fn_sound qxJ_ok Try.func30 r ⟨rfl,trivial⟩
  | false=>
    rw[onG2_fin]
    cases h1:(decide (outP (inP a)=a) && decide (outP (inP b)=b)) with
    | true=>
      rw[Bool.true_and]
      cases h2:(decide (outP (inP c)=c) && decide (outP (inP d)=d)) with
      | true=>
        rw[Bool.true_and]
        have r:=on2B a b c d false
        rw[if_pos rfl,if_pos rfl,if_pos rfl] at r
        have e:decide (inP2 c d*inP2 c d=inP2 a b*inP2 a b*inP2 a b+fq4)=_:=pair_dec (inP2 c d*inP2 c d).1 (inP2 a b*inP2 a b*inP2 a b+fq4).1 (inP2 c d*inP2 c d).2 (inP2 a b*inP2 a b*inP2 a b+fq4).2
        rw[e]
        exact fn_sound qxJ_ok Try.func30 r ⟨rfl,by decide,by decide,by decide,by decide,h1,h2,trivial⟩
      | false=>
        rw[Bool.false_and]
        have r:=on2C a b c d false
        rw[if_pos rfl,if_pos rfl] at r
        exact (fn_sound qxJ_ok Try.func30 r ⟨rfl,by decide,by decide,by decide,by decide,h1,h2,trivial⟩).conv (fun _ _ h=>h) fun y v hd=>lit_bool rfl hd
    | false=>
      rw[Bool.false_and]
      have r:=on2D a b c d false
      rw[if_pos rfl] at r
      exact (fn_sound qxJ_ok Try.func30 r ⟨rfl,by decide,by decide,by decide,by decide,h1,trivial⟩).conv (fun _ _ h=>h) fun y v hd=>lit_bool rfl hd

section
variable {r:Nat} [NeZero r]
end
end Go.Proofs.Ytdaligcdaalnmaa

/- Points of the second curve outside, and the reference's, walked. No conditions. -/
namespace Go.Proofs.Ytdaligcdaalnmaa

def onG2Spec:FnSpec
  | [.v (.a [.ob (.fp a),.ob (.fp b),.ob (.fp c),.ob (.fp d),.bool i])]=>some ([],.v (.c (.bool (onG2 ⟨a,b,c,d,i⟩))),[])
  | _=>none
noncomputable def qzH:Env:=qxJ.set (addT qxJ.fn 30 onG2Spec)
theorem qzH_ok:EnvOk Try.prog qzH:=env_add qxJ_ok 30 onG2Spec (enters_of Try.func30 rfl rfl) fun args o r es h _=>by
  unfold onG2Spec at h
  split at h
  · cases h;exact onG2_fnd _ _ _ _ _
  · cases h
theorem ri2R (a b c d:U6) (i:Bool):fnRes qzH Try.f17 3000 [.v (.a [.ob (.fp a),.ob (.fp b),.ob (.fp c),.ob (.fp d),.bool i])] [] [] []=(some ([],((.v (.c (.bool (onG2 (G2D.mk a b c d i))))),[]))):=by kernel_rfl
theorem ge2R  : fnRes qzH Try.f18 3000 [] [] [] []=(some ([((0:Int)≤(15312334153293348280:Int)),((15312334153293348280:Int)<(18446744073709551616:Int)),((0:Int)≤(841050694974028783:Int)),((841050694974028783:Int)<(18446744073709551616:Int)),((0:Int)≤(12993178926126977399:Int)),((12993178926126977399:Int)<(18446744073709551616:Int)),((0:Int)≤(14331714969349929730:Int)),((14331714969349929730:Int)<(18446744073709551616:Int)),((0:Int)≤(2740446039084699729:Int)),((2740446039084699729:Int)<(18446744073709551616:Int)),((0:Int)≤(165123225776229009:Int)),((165123225776229009:Int)<(18446744073709551616:Int)),((0:Int)≤(16549740192668593022:Int)),((16549740192668593022:Int)<(18446744073709551616:Int)),((0:Int)≤(3696594454104530263:Int)),((3696594454104530263:Int)<(18446744073709551616:Int)),((0:Int)≤(13103893525273989193:Int)),((13103893525273989193:Int)<(18446744073709551616:Int)),((0:Int)≤(6443473286224459290:Int)),((6443473286224459290:Int)<(18446744073709551616:Int)),((0:Int)≤(9055845637167730533:Int)),((9055845637167730533:Int)<(18446744073709551616:Int)),((0:Int)≤(1432192374203850592:Int)),((1432192374203850592:Int)<(18446744073709551616:Int)),((0:Int)≤(16254428414758889473:Int)),((16254428414758889473:Int)<(18446744073709551616:Int)),((0:Int)≤(10536956157198377609:Int)),((10536956157198377609:Int)<(18446744073709551616:Int)),((0:Int)≤(7873024875724591404:Int)),((7873024875724591404:Int)<(18446744073709551616:Int)),((0:Int)≤(12537348094477325223:Int)),((12537348094477325223:Int)<(18446744073709551616:Int)),((0:Int)≤(10144865889576432922:Int)),((10144865889576432922:Int)<(18446744073709551616:Int)),((0:Int)≤(929383263523139089:Int)),((929383263523139089:Int)<(18446744073709551616:Int)),((0:Int)≤(12297368366147926462:Int)),((12297368366147926462:Int)<(18446744073709551616:Int)),((0:Int)≤(4555124010822409633:Int)),((4555124010822409633:Int)<(18446744073709551616:Int)),((0:Int)≤(2771000935339432363:Int)),((2771000935339432363:Int)<(18446744073709551616:Int)),((0:Int)≤(14645187562128761775:Int)),((14645187562128761775:Int)<(18446744073709551616:Int)),((0:Int)≤(3651525051980876697:Int)),((3651525051980876697:Int)<(18446744073709551616:Int)),((0:Int)≤(434250606344352972:Int)),((434250606344352972:Int)<(18446744073709551616:Int))],((.v (.a [(.ob (.fp (Fin.ofNat B6 352701069587466618187139116011060144890029952792775240219908644239793785735715026873347600343865175952761926303160))),(.ob (.fp (Fin.ofNat B6 3059144344244213709971259814753781636986470325476647558659373206291635324768958432433509563104347017837885763365758))),(.ob (.fp (Fin.ofNat B6 1985150602287291935568054521177171638300868978215655730859378665066344726373823718423869104263333984641494340347905))),(.ob (.fp (Fin.ofNat B6 927553665492332455747201965776037880757740193453592970025027978793976877002675564980949289727957565575433344219582))),(.lit false)])),[]))):=by kernel_rfl
end Go.Proofs.Ytdaligcdaalnmaa

/- SumOrder's law, walked. No conditions. -/
namespace Go.Proofs.Ytdaligcdaalnmaa
section
variable {w0:World} {F0:Nat→Prop} {K:Kp} {ac:List Act} {Q:Exit→Act→World→Prop} {cX:Ctx} {aX:Act}

def genG2:G2D:=⟨Fin.ofNat B6 352701069587466618187139116011060144890029952792775240219908644239793785735715026873347600343865175952761926303160,Fin.ofNat B6 3059144344244213709971259814753781636986470325476647558659373206291635324768958432433509563104347017837885763365758,Fin.ofNat B6 1985150602287291935568054521177171638300868978215655730859378665066344726373823718423869104263333984641494340347905,Fin.ofNat B6 927553665492332455747201965776037880757740193453592970025027978793976877002675564980949289727957565575433344219582,false⟩
theorem gen2_fnd:FnD Try.prog 18 [] (.v (.a genG2.its)) []:=
  (fn_sound qzH_ok Try.func18 ge2R (by simp [AllP])).conv (fun _ _ h=>h) fun y v hd=>lit_fifth hd
noncomputable def right2Spec:FnSpec
  | [.v (.a [.ob (.fp a),.ob (.fp b),.ob (.fp c),.ob (.fp d),.bool i])]=>some ([],.v (.c (.bool (onG2 ⟨a,b,c,d,i⟩))),[])
  | _=>none
noncomputable def sfR:Env:=qzH.set (addT qzH.fn 17 right2Spec)
theorem sfR_ok:EnvOk Try.prog sfR:=env_add qzH_ok 17 right2Spec (enters_of Try.func17 rfl rfl) fun args o r es h _=>by
  unfold right2Spec at h
  split at h
  · cases h;exact fn_sound qzH_ok Try.func17 (ri2R _ _ _ _ _) trivial
  · cases h
noncomputable def gen2Spec:FnSpec
  | []=>some ([],.v (.a genG2.its),[])
  | _=>none
noncomputable def sfG:Env:=sfR.set (addT sfR.fn 18 gen2Spec)
theorem sfG_ok:EnvOk Try.prog sfG:=env_add sfR_ok 18 gen2Spec (enters_of Try.func18 rfl rfl) fun args o r es h _=>by
  unfold gen2Spec at h
  split at h
  · cases h;exact gen2_fnd
  · cases h
noncomputable def sfA:Env:=ueE.or sfG
theorem sfA_ok:EnvOk Try.prog sfA:=env_or ueE_ok sfG_ok
/-- What Sum1 tells, by name alone. -/
theorem sZ_ex (l:List G1D) (k:List U4):∃r,r=sum1 l k:=⟨_,rfl⟩
noncomputable def sZ (l:List G1D) (k:List U4):G1D×Int:=Classical.choose (sZ_ex l k)
theorem sZ_is (l:List G1D) (k:List U4):sZ l k=sum1 l k:=Classical.choose_spec (sZ_ex l k)
theorem sumZ_fnd (l:List G1D) (k:List U4):FnD Try.prog 4 [.v (.c (.sl (.g1 l))),.v (.c (.sl (.fr k)))] (.t [.a (sZ l k).1.its,.c (.int .i64 (sZ l k).2)]) []:=by
  rw[sZ_is]
  exact sum1_fnd l k
noncomputable def sum1Spec:FnSpec
  | [.v (.c (.val (.slice none 0 0))),.v (.c (.val (.slice none 0 0)))]=>some ([],.t [.a (G1D.mk 0 0 true).its,.c (.int .i64 0)],[])
  | [.v (.c (.sl (.g1 l))),.v (.c (.sl (.fr k)))]=>some ([],.t [.a (sZ l k).1.its,.c (.int .i64 (sZ l k).2)],[])
  | _=>none
noncomputable def sfB:Env:=sfA.set (addT sfA.fn 4 sum1Spec)
theorem sfB_ok:EnvOk Try.prog sfB:=env_add sfA_ok 4 sum1Spec (enters_of Try.func4 rfl rfl) fun args o r es h _=>by
  unfold sum1Spec at h
  split at h
  · cases h;exact sum1_nil
  · cases h;exact sumZ_fnd _ _
  · cases h
--@env sfB sfB_ok
theorem zo  : fnRes sfB Try.f7 3000 [] [] [] []=(some ([],((.v (.a [(.ob (.fp (0:U6))),(.ob (.fp (0:U6))),(.lit true)])),[]))):=by kernel_rfl
theorem zero1_fnd:FnD Try.prog 7 [] (.v (.a (G1D.mk 0 0 true).its)) []:=(fn_sound sfB_ok Try.func7 zo trivial).conv (fun _ _ h=>h) fun _ _ hd=>lit_third hd
noncomputable def zeroSpec1:FnSpec
  | []=>some ([],.v (.a (G1D.mk 0 0 true).its),[])
  | _=>none
noncomputable def sfC:Env:=sfB.set (addT sfB.fn 7 zeroSpec1)
theorem sfC_ok:EnvOk Try.prog sfC:=env_add sfB_ok 7 zeroSpec1 (enters_of Try.func7 rfl rfl) fun args o r es h _=>by
  unfold zeroSpec1 at h
  split at h
  · cases h;exact zero1_fnd
  · cases h
--@env sfC sfC_ok
theorem a11  : fnRes sfC Try.f6 3000 [] [true,true,true] [] []=(some ([(((0:Int) == (0:Int))=true),((ite (true=true) (Bool.and (decide ((G1D.x (G1D.mk (0:U6) (0:U6) true))=(G1D.x (G1D.mk (0:U6) (0:U6) true)))) (Bool.and (decide ((G1D.y (G1D.mk (0:U6) (0:U6) true))=(G1D.y (G1D.mk (0:U6) (0:U6) true)))) ((G1D.inf (G1D.mk (0:U6) (0:U6) true)) == (G1D.inf (G1D.mk (0:U6) (0:U6) true))))) (Bool.not (Bool.and (decide ((G1D.x (G1D.mk (0:U6) (0:U6) true))=(G1D.x (G1D.mk (0:U6) (0:U6) true)))) (Bool.and (decide ((G1D.y (G1D.mk (0:U6) (0:U6) true))=(G1D.y (G1D.mk (0:U6) (0:U6) true)))) ((G1D.inf (G1D.mk (0:U6) (0:U6) true)) == (G1D.inf (G1D.mk (0:U6) (0:U6) true)))))))=true),((onG genG)=true)],((.v (.c (.bool (onG2 genG2)))),[]))):=by kernel_rfl
theorem onGen:onG genG=true:=by decide +kernel
theorem onGen2:onG2 genG2=true:=by decide +kernel
theorem eq_bitsS {a b:G1D} (h:a=b):(decide (a.x=b.x) && (decide (a.y=b.y) && (a.inf == b.inf)))=true:=by
  subst h
  simp
theorem alive11_fnd:FnD Try.prog 6 [] (.v (.c (.bool true))) []:=by
  have r:=a11
  rw[if_pos rfl,onGen2] at r
  exact fn_sound sfC_ok Try.func6 r ⟨rfl,eq_bitsS rfl,onGen,trivial⟩
noncomputable def alive11Spec:FnSpec
  | []=>some ([],.v (.c (.bool true)),[])
  | _=>none
noncomputable def sfD:Env:=sfC.set (addT sfC.fn 6 alive11Spec)
theorem sfD_ok:EnvOk Try.prog sfD:=env_add sfC_ok 6 alive11Spec (enters_of Try.func6 rfl rfl) fun args o r es h _=>by
  unfold alive11Spec at h
  split at h
  · cases h;exact alive11_fnd
  · cases h
--@env sfD sfD_ok
noncomputable def so_k:List KI:=(run sfD false 17 ((fun (l:List G1D) (k:List U4) (n:Int) (q:U4) (a:G1D)=>(⟨[.code (bodyOf Try.f3)],.normal,initSt Try.f3.ntmps [.v (.c (.sl (.g1 l))),.v (.c (.sl (.fr k))),.v (.c (.int .i64 n)),.v (.a [.ob (.fr q)]),.v (.a a.its)]⟩:Cfg)) default default default default default) []).cfg.k
theorem so_hk (l:List G1D) (k:List U4) (n:Int) (q:U4) (a:G1D):(run sfD false 17 ((⟨[.code (bodyOf Try.f3)],.normal,initSt Try.f3.ntmps [.v (.c (.sl (.g1 l))),.v (.c (.sl (.fr k))),.v (.c (.int .i64 n)),.v (.a [.ob (.fr q)]),.v (.a a.its)]⟩:Cfg)) []).cfg.k=so_k:=by kernel_rfl
theorem so (l:List G1D) (k:List U4) (n:Int) (q:U4) (a:G1D) (ho:AllP [((0:Int)≤(ite ((20:Int)<(ite ((((List.length k):Nat):Int)<(((List.length l):Nat):Int)) (((List.length k):Nat):Int) (((List.length l):Nat):Int))) (20:Int) (ite ((((List.length k):Nat):Int)<(((List.length l):Nat):Int)) (((List.length k):Nat):Int) (((List.length l):Nat):Int)))),((ite ((20:Int)<(ite ((((List.length k):Nat):Int)<(((List.length l):Nat):Int)) (((List.length k):Nat):Int) (((List.length l):Nat):Int))) (20:Int) (ite ((((List.length k):Nat):Int)<(((List.length l):Nat):Int)) (((List.length k):Nat):Int) (((List.length l):Nat):Int)))≤(((List.length l):Nat):Int)),((0:Int)≤(ite ((20:Int)<(ite ((((List.length k):Nat):Int)<(((List.length l):Nat):Int)) (((List.length k):Nat):Int) (((List.length l):Nat):Int))) (20:Int) (ite ((((List.length k):Nat):Int)<(((List.length l):Nat):Int)) (((List.length k):Nat):Int) (((List.length l):Nat):Int)))),((ite ((20:Int)<(ite ((((List.length k):Nat):Int)<(((List.length l):Nat):Int)) (((List.length k):Nat):Int) (((List.length l):Nat):Int))) (20:Int) (ite ((((List.length k):Nat):Int)<(((List.length l):Nat):Int)) (((List.length k):Nat):Int) (((List.length l):Nat):Int)))≤(((List.length k):Nat):Int))]) (hs:Sim w0 F0 K ac (initSt Try.f3.ntmps [.v (.c (.sl (.g1 l))),.v (.c (.sl (.fr k))),.v (.c (.int .i64 n)),.v (.a [.ob (.fr q)]),.v (.a a.its)]) cX aX) (hK:∀ac cY aY,Sim w0 F0 K ac (mkSt 105 [0,1,2,8,9,11] [(.v (.c (.sl (Sq.g1 (List.take ((ite ((20:Int)<(ite ((((List.length k):Nat):Int)<(((List.length l):Nat):Int)) (((List.length k):Nat):Int) (((List.length l):Nat):Int))) (20:Int) (ite ((((List.length k):Nat):Int)<(((List.length l):Nat):Int)) (((List.length k):Nat):Int) (((List.length l):Nat):Int)))).toNat (List.drop 0 l)))))),(.v (.c (.sl (.fr (List.take ((ite ((20:Int)<(ite ((((List.length k):Nat):Int)<(((List.length l):Nat):Int)) (((List.length k):Nat):Int) (((List.length l):Nat):Int))) (20:Int) (ite ((((List.length k):Nat):Int)<(((List.length l):Nat):Int)) (((List.length k):Nat):Int) (((List.length l):Nat):Int)))).toNat (List.drop 0 k)))))),.ii n,.pt 16 0,.pt 32 0,(.ii (ite ((20:Int)<(ite ((((List.length k):Nat):Int)<(((List.length l):Nat):Int)) (((List.length k):Nat):Int) (((List.length l):Nat):Int))) (20:Int) (ite ((((List.length k):Nat):Int)<(((List.length l):Nat):Int)) (((List.length k):Nat):Int) (((List.length l):Nat):Int))))] [16,32] [(some (.fl [.ob (.fr q)])),(some (.fl [(.ob (.fp (G1D.x a))),(.ob (.fp (G1D.y a))),(.bool (G1D.inf a))]))] 288 [] []) cY aY→Wq Try.prog Q (so_k) ac Exit.normal aY cY.w):Wq Try.prog Q ([.code (bodyOf Try.f3)]) ac .normal aX cX.w:=
  run_at2 (o:=⟨_,_,_,_,_,_,_⟩) sfD_ok (by kernel_rfl) (so_hk l k n q a) ho hs hK
noncomputable def soS (P:List G1D) (k:List U4) (n m:Int) (q:U4) (a:G1D):St:=mkSt 105 [0,1,2,8,9,11] [.v (.c (.sl (.g1 P))),.v (.c (.sl (.fr k))),.ii n,.pt 16 0,.pt 32 0,.v (.c (.int .i64 m))] [16,32] [(some (.fl [.ob (.fr q)])),(some (.fl [(.ob (.fp (G1D.x a))),(.ob (.fp (G1D.y a))),(.bool (G1D.inf a))]))] 288 [] []
theorem syA_end (P:List G1D) (k:List U4) (n m:Int) (q:U4) (a:G1D):runEnd sfD Try.f3 false 3000 (⟨so_k,.normal,soS P k n m q a⟩) [true,false,true] [] []=(some ([(((Prod.snd (sZ P k)) != (0:Int))=true),(true=true),(((Prod.snd (sZ P k)) == (0:Int))=false)],((.v (.c (.bool (ite (true=true) (Bool.and (decide ((G1D.x (Prod.fst (sZ P k)))=(0:U6))) (Bool.and (decide ((G1D.y (Prod.fst (sZ P k)))=(0:U6))) ((G1D.inf (Prod.fst (sZ P k))) == false))) (Bool.not (Bool.and (decide ((G1D.x (Prod.fst (sZ P k)))=(0:U6))) (Bool.and (decide ((G1D.y (Prod.fst (sZ P k)))=(0:U6))) ((G1D.inf (Prod.fst (sZ P k))) == false)))))))),[]))):=by kernel_rfl
theorem syB_end (P:List G1D) (k:List U4) (n m:Int) (q:U4) (a:G1D):runEnd sfD Try.f3 false 3000 (⟨so_k,.normal,soS P k n m q a⟩) [false,true,true,true] [] []=(some ([(((Prod.snd (sZ P k)) != (0:Int))=false),((Bool.not (onG a))=true),(true=true),(((Prod.snd (sZ P k)) == (0:Int))=true)],((.v (.c (.lit true))),[]))):=by kernel_rfl
noncomputable def sx_k:List KI:=(run sfD false 39 ((fun (P:List G1D) (k:List U4) (n m:Int) (q:U4) (a:G1D)=>(⟨so_k,.normal,soS P k n m q a⟩:Cfg)) default default default default default default) [false,false]).cfg.k
theorem sx_hk (P:List G1D) (k:List U4) (n m:Int) (q:U4) (a:G1D):(run sfD false 39 ((⟨so_k,.normal,soS P k n m q a⟩:Cfg)) [false,false]).cfg.k=sx_k:=by kernel_rfl
theorem sx (P:List G1D) (k:List U4) (n m:Int) (q:U4) (a:G1D) (ho:AllP [(((Prod.snd (sZ P k)) != (0:Int))=false),((Bool.not (onG a))=false),((IntKind.wrap .i64 (m+(1:Int)))≠(0:Int)),((IntKind.wrap .i64 (m+(1:Int)))≠(0:Int))]) (hs:Sim w0 F0 K ac (soS P k n m q a) cX aX) (hK:∀ac cY aY,Sim w0 F0 K ac (mkSt 105 [0,1,8,9,12,14] [(.v (.c (.sl (Sq.g1 P)))),(.v (.c (.sl (.fr k)))),.pt 16 0,.pt 32 0,.pt 384 0,(.ii (Int.tmod (IntKind.wrap .i64 ((IntKind.wrap .i64 ((Int.tmod n (IntKind.wrap .i64 (m+(1:Int))))+m))+(1:Int))) (IntKind.wrap .i64 (m+(1:Int)))))] [16,32,384] [(some (.fl [.ob (.fr q)])),(some (.fl [(.ob (.fp (G1D.x a))),(.ob (.fp (G1D.y a))),(.bool (G1D.inf a))])),(some (.fl [(.ob (.fp (G1D.x (Prod.fst (sZ P k))))),(.ob (.fp (G1D.y (Prod.fst (sZ P k))))),(.bool (G1D.inf (Prod.fst (sZ P k))))]))] 720 [] []) cY aY→Wq Try.prog Q (sx_k) ac Exit.normal aY cY.w):Wq Try.prog Q (so_k) ac .normal aX cX.w:=
  run_at2 (o:=⟨_,_,_,_,_,_,_⟩) sfD_ok (by kernel_rfl) (sx_hk P k n m q a) ho hs hK
noncomputable def srS (P:List G1D) (k:List U4) (j:Int) (q:U4) (a g:G1D):St:=mkSt 105 [0,1,8,9,12,14] [(.v (.c (.sl (Sq.g1 P)))),(.v (.c (.sl (.fr k)))),.pt 16 0,.pt 32 0,.pt 384 0,.v (.c (.int .i64 j))] [16,32,384] [(some (.fl [.ob (.fr q)])),(some (.fl [(.ob (.fp (G1D.x a))),(.ob (.fp (G1D.y a))),(.bool (G1D.inf a))])),some (.fl [.ob (.fp g.x),.ob (.fp g.y),.bool g.inf])] 720 [] []
theorem sz_end (P:List G1D) (k:List U4) (j:Int) (q:U4) (a g:G1D):runEnd sfD Try.f3 false 3000 (⟨sx_k,.normal,srS P k j q a g⟩) [true,true] [] []=(some ([((0:Int)≤j),(j≤(((List.length P):Nat):Int)),(((1+(List.length (List.take ((List.length P)-(j).toNat) (List.drop (j).toNat P))))*104)≤140737488355328),((1+(List.length (List.take ((List.length P)-(j).toNat) (List.drop (j).toNat P))))≤maxLen),(1=1),((((List.length ([a]++(List.take ((List.length P)-(j).toNat) (List.drop (j).toNat P))))+1)*104)≤140737488355328),(((List.length ([a]++(List.take ((List.length P)-(j).toNat) (List.drop (j).toNat P))))+1)≤maxLen),((1+(List.length (List.take ((List.length P)-(j).toNat) (List.drop (j).toNat P))))=(List.length ([a]++(List.take ((List.length P)-(j).toNat) (List.drop (j).toNat P))))),(1=1),((0:Int)≤j),(j≤(((List.length P):Nat):Int)),((((List.length (([a]++(List.take ((List.length P)-(j).toNat) (List.drop (j).toNat P)))++[(G1D.mk (0:U6) (0:U6) true)]))+(List.length (List.take (j).toNat (List.drop 0 P))))*104)≤140737488355328),(((List.length (([a]++(List.take ((List.length P)-(j).toNat) (List.drop (j).toNat P)))++[(G1D.mk (0:U6) (0:U6) true)]))+(List.length (List.take (j).toNat (List.drop 0 P))))≤maxLen),(((List.length ([a]++(List.take ((List.length P)-(j).toNat) (List.drop (j).toNat P))))+1)=(List.length (([a]++(List.take ((List.length P)-(j).toNat) (List.drop (j).toNat P)))++[(G1D.mk (0:U6) (0:U6) true)]))),((0:Int)≤j),(j≤(((List.length k):Nat):Int)),(((1+(List.length (List.take ((List.length k)-(j).toNat) (List.drop (j).toNat k))))*32)≤140737488355328),((1+(List.length (List.take ((List.length k)-(j).toNat) (List.drop (j).toNat k))))≤maxLen),(1=1),((((List.length ([(0:U4)]++(List.take ((List.length k)-(j).toNat) (List.drop (j).toNat k))))+1)*32)≤140737488355328),(((List.length ([(0:U4)]++(List.take ((List.length k)-(j).toNat) (List.drop (j).toNat k))))+1)≤maxLen),((1+(List.length (List.take ((List.length k)-(j).toNat) (List.drop (j).toNat k))))=(List.length ([(0:U4)]++(List.take ((List.length k)-(j).toNat) (List.drop (j).toNat k))))),(1=1),((0:Int)≤j),(j≤(((List.length k):Nat):Int)),((((List.length (([(0:U4)]++(List.take ((List.length k)-(j).toNat) (List.drop (j).toNat k)))++[q]))+(List.length (List.take (j).toNat (List.drop 0 k))))*32)≤140737488355328),(((List.length (([(0:U4)]++(List.take ((List.length k)-(j).toNat) (List.drop (j).toNat k)))++[q]))+(List.length (List.take (j).toNat (List.drop 0 k))))≤maxLen),(((List.length ([(0:U4)]++(List.take ((List.length k)-(j).toNat) (List.drop (j).toNat k))))+1)=(List.length (([(0:U4)]++(List.take ((List.length k)-(j).toNat) (List.drop (j).toNat k)))++[q]))),(0=0),(((List.length (([a]++(List.take ((List.length P)-(j).toNat) (List.drop (j).toNat P)))++[(G1D.mk (0:U6) (0:U6) true)]))+(List.length (List.take (j).toNat (List.drop 0 P))))=(List.length ((([a]++(List.take ((List.length P)-(j).toNat) (List.drop (j).toNat P)))++[(G1D.mk (0:U6) (0:U6) true)])++(List.take (j).toNat (List.drop 0 P))))),(13=13),(0=0),(((List.length (([(0:U4)]++(List.take ((List.length k)-(j).toNat) (List.drop (j).toNat k)))++[q]))+(List.length (List.take (j).toNat (List.drop 0 k))))=(List.length ((([(0:U4)]++(List.take ((List.length k)-(j).toNat) (List.drop (j).toNat k)))++[q])++(List.take (j).toNat (List.drop 0 k))))),(4=4),(true=true),(((Prod.snd (sZ ((([a]++(List.take ((List.length P)-(j).toNat) (List.drop (j).toNat P)))++[(G1D.mk (0:U6) (0:U6) true)])++(List.take (j).toNat (List.drop 0 P))) ((([(0:U4)]++(List.take ((List.length k)-(j).toNat) (List.drop (j).toNat k)))++[q])++(List.take (j).toNat (List.drop 0 k))))) == (0:Int))=true)],((.v (.c (.bool (ite (true=true) (Bool.and (decide ((G1D.x (Prod.fst (sZ ((([a]++(List.take ((List.length P)-(j).toNat) (List.drop (j).toNat P)))++[(G1D.mk (0:U6) (0:U6) true)])++(List.take (j).toNat (List.drop 0 P))) ((([(0:U4)]++(List.take ((List.length k)-(j).toNat) (List.drop (j).toNat k)))++[q])++(List.take (j).toNat (List.drop 0 k))))))=(G1D.x g))) (Bool.and (decide ((G1D.y (Prod.fst (sZ ((([a]++(List.take ((List.length P)-(j).toNat) (List.drop (j).toNat P)))++[(G1D.mk (0:U6) (0:U6) true)])++(List.take (j).toNat (List.drop 0 P))) ((([(0:U4)]++(List.take ((List.length k)-(j).toNat) (List.drop (j).toNat k)))++[q])++(List.take (j).toNat (List.drop 0 k))))))=(G1D.y g))) ((G1D.inf (Prod.fst (sZ ((([a]++(List.take ((List.length P)-(j).toNat) (List.drop (j).toNat P)))++[(G1D.mk (0:U6) (0:U6) true)])++(List.take (j).toNat (List.drop 0 P))) ((([(0:U4)]++(List.take ((List.length k)-(j).toNat) (List.drop (j).toNat k)))++[q])++(List.take (j).toNat (List.drop 0 k)))))) == (G1D.inf g)))) (Bool.not (Bool.and (decide ((G1D.x (Prod.fst (sZ ((([a]++(List.take ((List.length P)-(j).toNat) (List.drop (j).toNat P)))++[(G1D.mk (0:U6) (0:U6) true)])++(List.take (j).toNat (List.drop 0 P))) ((([(0:U4)]++(List.take ((List.length k)-(j).toNat) (List.drop (j).toNat k)))++[q])++(List.take (j).toNat (List.drop 0 k))))))=(G1D.x g))) (Bool.and (decide ((G1D.y (Prod.fst (sZ ((([a]++(List.take ((List.length P)-(j).toNat) (List.drop (j).toNat P)))++[(G1D.mk (0:U6) (0:U6) true)])++(List.take (j).toNat (List.drop 0 P))) ((([(0:U4)]++(List.take ((List.length k)-(j).toNat) (List.drop (j).toNat k)))++[q])++(List.take (j).toNat (List.drop 0 k))))))=(G1D.y g))) ((G1D.inf (Prod.fst (sZ ((([a]++(List.take ((List.length P)-(j).toNat) (List.drop (j).toNat P)))++[(G1D.mk (0:U6) (0:U6) true)])++(List.take (j).toNat (List.drop 0 P))) ((([(0:U4)]++(List.take ((List.length k)-(j).toNat) (List.drop (j).toNat k)))++[q])++(List.take (j).toNat (List.drop 0 k)))))) == (G1D.inf g))))))))),[]))):=by kernel_rfl


end
end Go.Proofs.Ytdaligcdaalnmaa

/- SumOrder's law returns true. No conditions. -/
namespace Go.Proofs.Ytdaligcdaalnmaa

theorem gsum_app:∀(ks:List Nat) (Ps:List (Pt Fp)) (ks' : List Nat) (Ps' : List (Pt Fp)),ks.length=Ps.length→(∀Q,Q∈Ps→OnC fp4 Q)→(∀Q,Q∈Ps' → OnC fp4 Q)→gsum (ks++ks') (Ps++Ps')=gadd (gsum ks Ps) (gsum ks' Ps')
  | [],[],_,_,_,_,_=>rfl
  | [],_::_,_,_,h,_,_=>by cases h
  | _::_,[],_,_,h,_,_=>by cases h
  | k::ks,P::Ps,ks',Ps',h,ho,ho' => by
    show gadd (nmul P k) (gsum (ks++ks') (Ps++Ps'))=gadd (gadd (nmul P k) (gsum ks Ps)) (gsum ks' Ps')
    rw[gsum_app ks Ps ks' Ps' (Nat.succ.inj h) (fun Q hQ=>ho Q (List.mem_cons_of_mem _ hQ)) ho']
    exact (gadd_assoc cv1 _ _ _ (nmul_on cv1 (ho P (List.mem_cons_self ..)) k) (gsum_on cv1 ks Ps fun Q hQ=>ho Q (List.mem_cons_of_mem _ hQ)) (gsum_on cv1 ks' Ps' ho')).symm

/-- The points and the numbers, turned, with what adds nothing. -/
def tnP (P:List G1D) (a:G1D) (j:Nat):List G1D:=(([a]++P.drop j)++[G1D.mk 0 0 true])++P.take j
def tnK (K:List U4) (q:U4) (j:Nat):List U4:=(([(0:U4)]++K.drop j)++[q])++K.take j

theorem onZ:onG (G1D.mk 0 0 true)=true:=by decide +kernel
theorem pG_zero:pG (G1D.mk 0 0 true)=none:=rfl
theorem off_on {l:List G1D} (h:l.any offG=false) {a:G1D} (ha:a∈l):onG a=true:=by
  rw[List.any_eq_false] at h
  have:=h a ha
  unfold offG at this
  simpa using this
theorem tn_off {P:List G1D} {a:G1D} {j:Nat} (ha:onG a=true) (hP:P.any offG=false):(tnP P a j).any offG=false:=by
  rw[List.any_eq_false]
  intro x hx
  have hon:onG x=true:=by
    unfold tnP at hx
    rcases List.mem_append.1 hx with hx | hx
    · rcases List.mem_append.1 hx with hx | hx
      · rcases List.mem_append.1 hx with hx | hx
        · rw[List.mem_singleton.1 hx];exact ha
        · exact off_on hP (List.mem_of_mem_drop hx)
      · rw[List.mem_singleton.1 hx];exact onZ
    · exact off_on hP (List.mem_of_mem_take hx)
  unfold offG
  rw[hon]
  decide
theorem tn_sum {P:List G1D} {K:List U4} {a:G1D} (q:U4) {j:Nat} (hl:K.length=P.length) (hP:P.any offG=false) :
    gsum ((tnK K q j).map (·.val)) ((tnP P a j).map pG)=gsum (K.map (·.val)) (P.map pG):=by
  have on1:∀Q,Q∈(P.drop j).map pG→OnC fp4 Q:=fun Q hQ=>by
    obtain ⟨x,hx,rfl⟩:=List.mem_map.1 hQ
    exact (onG_is (off_on hP (List.mem_of_mem_drop hx))).2
  have on2:∀Q,Q∈(P.take j).map pG→OnC fp4 Q:=fun Q hQ=>by
    obtain ⟨x,hx,rfl⟩:=List.mem_map.1 hQ
    exact (onG_is (off_on hP (List.mem_of_mem_take hx))).2
  have l1:((K.drop j).map (·.val)).length=((P.drop j).map pG).length:=by rw[List.length_map,List.length_map,List.length_drop,List.length_drop,hl]
  have l2:((K.take j).map (·.val)).length=((P.take j).map pG).length:=by rw[List.length_map,List.length_map,List.length_take,List.length_take,hl]
  have eK:(tnK K q j).map (·.val)=0::((K.drop j).map (·.val)++(q.val::(K.take j).map (·.val))):=by
    unfold tnK
    simp
  have eP:(tnP P a j).map pG=pG a::((P.drop j).map pG++(none::(P.take j).map pG)):=by
    unfold tnP
    simp [pG_zero]
  have on3:∀Q,Q∈(none:Pt Fp)::(P.take j).map pG→OnC fp4 Q:=fun Q hQ=>by
    rcases List.mem_cons.1 hQ with rfl | hQ
    · exact True.intro
    · exact on2 Q hQ
  rw[eK,eP]
  show gadd (nmul (pG a) 0) (gsum ((K.drop j).map (·.val)++(q.val::(K.take j).map (·.val))) ((P.drop j).map pG++(none::(P.take j).map pG)))=_
  rw[gsum_app _ _ _ _ l1 on1 on3]
  show gadd none (gadd (gsum ((K.drop j).map (·.val)) ((P.drop j).map pG)) (gadd (nmul none q.val) (gsum ((K.take j).map (·.val)) ((P.take j).map pG))))=_
  rw[nmul_none]
  show gadd (gsum ((K.drop j).map (·.val)) ((P.drop j).map pG)) (gsum ((K.take j).map (·.val)) ((P.take j).map pG))=_
  rw[gadd_comm cv1 _ _ (gsum_on cv1 _ _ on1) (gsum_on cv1 _ _ on2),←gsum_app _ _ _ _ l2 on2 on1,←List.map_append,←List.map_append,List.take_append_drop,List.take_append_drop]

theorem sum1_val {l:List G1D} {k:List U4} (h:chkE (l.length:Int) (k.length:Int) (l.any offG)=0):sZ l k=(gP (gsum (k.map (·.val)) (l.map pG)),0):=by
  obtain ⟨h1,_,h3⟩:=chk_zero h
  rw[sZ_is,sum1_ok h,smJ_gP (Eq.refl 52) (by omega) h3]
theorem tnP_len (P:List G1D) (a:G1D) {j:Nat} (hj:j≤P.length):(tnP P a j).length=P.length+2:=by unfold tnP;simp only[List.length_append,List.length_cons,List.length_nil,List.length_drop,List.length_take];omega
theorem tnK_len (K:List U4) (q:U4) {j:Nat} (hj:j≤K.length):(tnK K q j).length=K.length+2:=by unfold tnK;simp only[List.length_append,List.length_cons,List.length_nil,List.length_drop,List.length_take];omega
theorem tn_same {P:List G1D} {K:List U4} {a:G1D} (q:U4) {j:Nat} (ha:onG a=true) (h:chkE (P.length:Int) (K.length:Int) (P.any offG)=0) (hn:P.length≤20) (hj:j≤P.length) :
    sZ (tnP P a j) (tnK K q j)=sZ P K:=by
  obtain ⟨h1,_,h3⟩:=chk_zero h
  have hl:K.length=P.length:=by omega
  have t1:=tnP_len P a hj
  have t2:=tnK_len K q (j:=j) (by omega)
  rw[sum1_val (chk_ok (by omega) (by omega) (tn_off ha h3)),sum1_val h,tn_sum q hl h3]

/-- The place where they are turned. -/
theorem turn_at (n:Int) (m:Nat) (hm:m≤20):∃j:Nat,j≤m∧Int.tmod (IntKind.wrap IntKind.i64 ((IntKind.wrap IntKind.i64 ((Int.tmod n (IntKind.wrap IntKind.i64 ((m:Int)+(1:Int))))+(m:Int)))+(1:Int))) (IntKind.wrap IntKind.i64 ((m:Int)+(1:Int)))=(j:Int):=by
  have e1:IntKind.wrap IntKind.i64 ((m:Int)+(1:Int))=(m:Int)+1:=wrap_id (by omega) (by omega)
  rw[e1]
  have h1:Int.tmod n ((m:Int)+1)<(m:Int)+1:=Int.tmod_lt_of_pos n (by omega)
  have h2:-((m:Int)+1)<Int.tmod n ((m:Int)+1):=Int.lt_tmod_of_pos n (by omega)
  generalize Int.tmod n ((m:Int)+1)=t at *
  rw[wrap_id (n:=t+(m:Int)) (by omega) (by omega),wrap_id (n:=t+(m:Int)+1) (by omega) (by omega)]
  rw[Int.tmod_eq_emod_of_nonneg (by omega)]
  have h3:=Int.emod_nonneg (t+(m:Int)+1) (show (m:Int)+1≠0 by omega)
  have h4:=Int.emod_lt_of_pos (t+(m:Int)+1) (show (0:Int)<(m:Int)+1 by omega)
  exact ⟨((t+(m:Int)+1) % ((m:Int)+1)).toNat,by omega,by omega⟩

theorem min20 (a b:Nat):(ite ((20:Int)<(ite ((b:Int)<(a:Int)) (b:Int) (a:Int))) (20:Int) (ite ((b:Int)<(a:Int)) (b:Int) (a:Int)))=((min 20 (min a b):Nat):Int):=by split<;>split<;>omega

theorem sumOrder_fnd (l:List G1D) (k:List U4) (n:Int) (q:U4) (a:G1D):FnD Try.prog 3 [.v (.c (.sl (.g1 l))),.v (.c (.sl (.fr k))),.v (.c (.int .i64 n)),.v (.a [.ob (.fr q)]),.v (.a a.its)] (.v (.c (.bool true))) []:=by
  refine fn_start (fn:=Try.f3) (c:=bodyOf Try.f3) Try.func3 rfl rfl fun x0 a0 hk hF hs=>?_
  refine so l k n q a (by rw[min20];exact ⟨by omega,by omega,by omega,by omega,trivial⟩) hs fun ac cY aY hs1=>?_
  rw[min20,Int.toNat_natCast,List.drop_zero,List.drop_zero] at hs1
  have hPl:(l.take (min 20 (min l.length k.length))).length=min 20 (min l.length k.length):=by rw[List.length_take];omega
  have hKl:(k.take (min 20 (min l.length k.length))).length=min 20 (min l.length k.length):=by rw[List.length_take];omega
  generalize l.take (min 20 (min l.length k.length))=P at hs1 hPl
  generalize k.take (min 20 (min l.length k.length))=K at hs1 hKl
  have hm20:min 20 (min l.length k.length)≤20:=Nat.min_le_left _ _
  generalize min 20 (min l.length k.length)=m at hs1 hPl hKl hm20
  have hs1:Sim x0.w x0.F kAll ac (soS P K n m q a) cY aY:=hs1.nx _
  by_cases he:chkE (P.length:Int) (K.length:Int) (P.any offG)=0
  · have hv:=sum1_val he
    have hv2:(sZ P K).2=0:=congrArg Prod.snd hv
    cases ha:onG a with
    | false=>
      refine run_end2 sfD_ok hk hF (syB_end P K n m q a) ⟨by rw[hv2];rfl,by rw[ha];rfl,rfl,by rw[hv2];rfl,trivial⟩ (fun y v hd=>lit_bool rfl hd) hs1
    | true=>
      obtain ⟨j,hj,ej⟩:=turn_at n m hm20
      refine sx P K n m q a ⟨by rw[hv2];rfl,by rw[ha];rfl,by rw[wrap_id (by omega) (by omega)];omega,by rw[wrap_id (by omega) (by omega)];omega,trivial⟩ hs1 fun ac cZ aZ hs2=>?_
      rw[ej] at hs2
      have hsame:=tn_same (P:=P) (K:=K) (a:=a) q (j:=j) ha he (by omega) (by omega)
      generalize (sZ P K)=g at hs2 hsame hv hv2
      have r:=sz_end P K j q a g.1
      have eP:(P.drop j).take (P.length-j)=P.drop j:=List.take_of_length_le (by rw[List.length_drop];omega)
      have eK:(K.drop j).take (K.length-j)=K.drop j:=List.take_of_length_le (by rw[List.length_drop];omega)
      rw[Int.toNat_natCast,eP,eK,List.drop_zero,List.drop_zero] at r
      change runEnd sfD Try.f3 false 3000 _ _ _ _=_ at r
      have hT:(([a]++P.drop j)++[G1D.mk 0 0 true])++P.take j=tnP P a j:=rfl
      have hU:(([(0:U4)]++K.drop j)++[q])++K.take j=tnK K q j:=rfl
      rw[hT,hU,hsame,if_pos rfl,eq_bitsS (a:=g.1) rfl,hv2] at r
      have hmax:4097≤maxLen:=by decide
      have t1:=tnP_len P a (j:=j) (by omega)
      have t2:=tnK_len K q (j:=j) (by omega)
      refine run_end2 sfD_ok hk hF r ?_ (fun y v hd=>hd) (hs2.nx _)
      simp only[AllP,List.length_append,List.length_take,List.length_drop,List.length_cons,List.length_nil,and_true,true_and]
      and_intros<;>first | rfl | omega
  · have hno:=(sZ_is P K).trans (sum1_no he)
    have hne:(sZ P K).2≠0:=by rw[congrArg Prod.snd hno];exact he
    have r:=syA_end P K n m q a
    have hz:(decide ((sZ P K).1.x=0) && (decide ((sZ P K).1.y=0) && ((sZ P K).1.inf == false)))=true:=eq_bitsS (b:=g10) (congrArg Prod.fst hno)
    rw[if_pos rfl,hz] at r
    exact run_end2 sfD_ok hk hF r ⟨by simpa using hne,rfl,by simpa using hne,trivial⟩ (fun y v hd=>hd) hs1

end Go.Proofs.Ytdaligcdaalnmaa
