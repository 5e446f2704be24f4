/- Parts of a proof, one behind the other: WPu, PPu, WPi, WMd, PMd, WUa, PUa, Pf, WCp, PCp, WCo1, WCo2, PCo2, WCo3, PCo3, Ga, WOa, POa, WMy, PMz, Nm, WTi, WOb, WUb, PUb, WUc, PUc, WCk, PCk, WUd, PUd, WUe, PUe, WPa, Tc, PPa, WPb, PPb, WSpw, PSpw, WPc, PPc. No conditions. -/
import Derived.Shelf.Strconv.Itoa0
import Derived.Test.YtdeohachoeopdaaKbM
/- Bits of a number, powers of an element of the greater field: the functions, walked. No conditions. -/
namespace Go.Proofs.Ytdeohachoeopdaa
section
variable {w0:World} {F0:Nat→Prop} {K:Kp} {ac:List Act} {Q:Exit→Act→World→Prop} {cX:Ctx} {aX:Act}
open Go.Shelf

theorem inP_ofNat {n:Nat} (h:n<B6):inP (Fin.ofNat B6 n)=Fin.ofNat pN n:=by
  apply Fin.ext
  show (n % B6) % pN=n % pN
  rw[Nat.mod_eq_of_lt h]
theorem smallP_fnd (n:Int) (h1:0≤n) (h2:n<18446744073709551616):FnD Try.prog 40 [.v (.c (.int .u64 n))] (.v (.a [.ob (.p (Fin.ofNat pN n.toNat))])) []:=by
  refine (fn_sound qeF_ok Try.func40 (smallP0 n) ⟨h1,h2,by decide,by decide,by decide,by decide,by decide,by decide,by decide,by decide,by decide,by decide,trivial⟩).conv (fun _ _ h=>h) fun y v hd=>?_
  rw[Nat.add_zero,inP_ofNat (by unfold B6;omega)] at hd
  exact hd
theorem zeroP_fnd (x:Fp):FnD Try.prog 101 [.v (.a [.ob (.p x)])] (.v (.c (.bool (decide (x=0))))) []:=by
  refine (fn_sound qeF_ok Try.func101 (zeroP0 _) trivial).conv (fun _ _ h=>h) fun y v hd=>?_
  rw[if_pos rfl] at hd
  exact hd
def smallPSpec:FnSpec
  | [.v (.c (.int .u64 n))]=>some ([0≤n,n<18446744073709551616],.v (.a [.ob (.p (Fin.ofNat pN n.toNat))]),[])
  | _=>none
noncomputable def qeG1:Env:=qeF.set (addT qeF.fn 40 smallPSpec)
theorem qeG1_ok:EnvOk Try.prog qeG1:=env_add qeF_ok 40 smallPSpec (enters_of Try.func40 rfl rfl) fun args o r es h ho=>by
  unfold smallPSpec at h
  split at h
  · cases h;exact smallP_fnd _ ho.1 ho.2.1
  · cases h
def negPSpec:FnSpec
  | [.v (.a [.ob (.p x)])]=>some ([],.v (.a [.ob (.p (0-x))]),[])
  | _=>none
noncomputable def qeG2:Env:=qeG1.set (addT qeG1.fn 102 negPSpec)
theorem qeG2_ok:EnvOk Try.prog qeG2:=env_add qeG1_ok 102 negPSpec (enters_of Try.func102 rfl rfl) fun args o r es h _=>by
  unfold negPSpec at h
  split at h
  · cases h;exact fn_sound qeF_ok Try.func102 (negP0 _) trivial
  · cases h
def zeroPSpec:FnSpec
  | [.v (.a [.ob (.p x)])]=>some ([],.v (.c (.bool (decide (x=0)))),[])
  | _=>none
noncomputable def qeG:Env:=qeG2.set (addT qeG2.fn 101 zeroPSpec)
theorem qeG_ok:EnvOk Try.prog qeG:=env_add qeG2_ok 101 zeroPSpec (enters_of Try.func101 rfl rfl) fun args o r es h _=>by
  unfold zeroPSpec at h
  split at h
  · cases h;exact zeroP_fnd _
  · cases h

def renL:Ren:=⟨fun n=>if n=129 then 108 else 0,fun t=>if t=46 then 130 else if t=53 then 22 else t,fun g=>g⟩
theorem laysL:Lays.n129 Try.prog renL:=
  { mixed:=by kernel_rfl
    f129:=by kernel_rfl
    t3:=by kernel_rfl
    a3:=fun _=>by kernel_rfl
    z3:=fun _=>by kernel_rfl
    v3:=fun _=>by kernel_rfl
    t4:=by kernel_rfl
    a4:=fun _=>by kernel_rfl
    z4:=fun _=>by kernel_rfl
    v4:=fun _=>by kernel_rfl
    t5:=by kernel_rfl
    a5:=fun _=>by kernel_rfl
    z5:=fun _=>by kernel_rfl
    v5:=fun _=>by kernel_rfl
    t9:=by kernel_rfl
    a9:=fun _=>by kernel_rfl
    z9:=fun _=>by kernel_rfl
    v9:=fun _=>by kernel_rfl
    t46:=by kernel_rfl
    a46:=fun _=>by kernel_rfl
    z46:=fun _=>by kernel_rfl
    v46:=fun _=>by kernel_rfl
    t53:=by kernel_rfl
    a53:=fun _=>by kernel_rfl
    z53:=fun _=>by kernel_rfl
    v53:=fun _=>by kernel_rfl }
theorem len64_fnd (n:Int) (h0:0≤n) (h1:n<18446744073709551616):FnD Try.prog 108 [.v (.c (.int .u64 n))] (.v (.c (.int .i64 (Lib.bitLen n.toNat:Nat)))) []:=
  fnd_same fun x vs hd=>by
    cases hd with | cons d1 hd=>
    cases hd
    rw[D_int d1]
    exact ⟨_,Any.bits_Len64 laysL n x.w h0 (by omega),⟨rfl,0,rfl⟩⟩
def lenSpec:FnSpec
  | [.v (.c (.int .u64 n))]=>some ([0≤n,n<18446744073709551616],.v (.c (.int .i64 (Lib.bitLen n.toNat:Nat))),[])
  | _=>none
noncomputable def qeH1:Env:=qeG.set (addT qeG.fn 108 lenSpec)
theorem qeH1_ok:EnvOk Try.prog qeH1:=env_add qeG_ok 108 lenSpec (enters_of Try.func108 rfl rfl) fun args o r es h ho=>by
  unfold lenSpec at h
  split at h
  · cases h;exact len64_fnd _ ho.1 ho.2.1
  · cases h
--@env qeH1 qeH1_ok
theorem ct (l:List Int):fnRes qeH1 Try.f107 3000 [.v (.c (.sl (.u64 l)))] [] [] []=(some ([((0:Int)≤(ite ((16:Int)<(((List.length l):Nat):Int)) (16:Int) (((List.length l):Nat):Int))),((ite ((16:Int)<(((List.length l):Nat):Int)) (16:Int) (((List.length l):Nat):Int))≤(ite ((16:Int)<(((List.length l):Nat):Int)) (16:Int) (((List.length l):Nat):Int))),((ite ((16:Int)<(((List.length l):Nat):Int)) (16:Int) (((List.length l):Nat):Int))≤(((List.length l):Nat):Int))],((.v (.c (.sl (.u64 (List.take ((ite ((16:Int)<(((List.length l):Nat):Int)) (16:Int) (((List.length l):Nat):Int))).toNat (List.drop 0 l)))))),[]))):=by kernel_rfl

theorem cut_fnd (l:List Int) (hl:l.length≤16):FnD Try.prog 107 [.v (.c (.sl (.u64 l)))] (.v (.c (.sl (.u64 l)))) []:=by
  have r:=ct l
  have e:(if (16:Int)<((l.length:Nat):Int) then (16:Int) else ((l.length:Nat):Int))=((l.length:Nat):Int):=if_neg (by omega)
  rw[e,Int.toNat_natCast,List.drop_zero,List.take_length] at r
  exact fn_sound qeH1_ok Try.func107 r ⟨by omega,Int.le_refl _,Int.le_refl _,trivial⟩
def cutSpec:FnSpec
  | [.v (.c (.sl (.u64 l)))]=>some ([l.length≤16],.v (.c (.sl (.u64 l))),[])
  | _=>none
noncomputable def qeH2:Env:=qeH1.set (addT qeH1.fn 107 cutSpec)
theorem qeH2_ok:EnvOk Try.prog qeH2:=env_add qeH1_ok 107 cutSpec (enters_of Try.func107 rfl rfl) fun args o r es h ho=>by
  unfold cutSpec at h
  split at h
  · cases h;exact cut_fnd _ ho.1
  · cases h
--@env qeH2 qeH2_ok
noncomputable def nbIn_k:List KI:=(run qeH2 false 3000 ((fun (l:List Int)=>(⟨[.code (bodyOf Try.f106)],.normal,initSt Try.f106.ntmps [.v (.c (.sl (.u64 l)))]⟩:Cfg)) default) []).cfg.k
theorem nbIn_hk (l:List Int):(run qeH2 false 3000 ((⟨[.code (bodyOf Try.f106)],.normal,initSt Try.f106.ntmps [.v (.c (.sl (.u64 l)))]⟩:Cfg)) []).cfg.k=nbIn_k:=by kernel_rfl
theorem nbIn (l:List Int) (ho:AllP [((List.length l)≤16)]) (hs:Sim w0 F0 K ac (initSt Try.f106.ntmps [.v (.c (.sl (.u64 l)))]) cX aX) (hK:∀ac cY aY,Sim w0 F0 K ac (mkSt 26 [0,3] [(.v (.c (.sl (.u64 l)))),(.ii (IntKind.wrap .i64 ((((List.length l):Nat):Int)-(1:Int))))] [] [] 144 [] []) cY aY→Wq Try.prog Q (nbIn_k) ac Exit.normal aY cY.w):Wq Try.prog Q ([.code (bodyOf Try.f106)]) ac .normal aX cX.w:=
  run_at2 (o:=⟨_,_,_,_,_,_,_⟩) qeH2_ok (by kernel_rfl) (nbIn_hk l) ho hs hK
noncomputable def nbS (l:List Int) (i:Int):St:=mkSt 26 [0,3] [(.v (.c (.sl (.u64 l)))),.v (.c (.int .i64 i))] [] [] 144 [] []
theorem nbN_hk (l:List Int) (i:Int):(run qeH2 false 3000 ((⟨lpIn nbIn_k,.normal,nbS l i⟩:Cfg)) [true,false]).cfg.k=lpBk nbIn_k:=by kernel_rfl
theorem nbN (l:List Int) (i:Int) (ho:AllP [((decide (i ≥ (0:Int)))=true),((0:Int)≤i),(i<(((List.length l):Nat):Int)),(((List.getD l (i).toNat (0:Int)) != (0:Int))=false)]) (hs:Sim w0 F0 K ac (nbS l i) cX aX) (hK:∀ac cY aY,Sim w0 F0 K ac (mkSt 26 [0,3] [(.v (.c (.sl (.u64 l)))),(.ii (IntKind.wrap .i64 (i-(1:Int))))] [] [] 304 [] []) cY aY→Wq Try.prog Q (lpBk nbIn_k) ac Exit.normal aY cY.w):Wq Try.prog Q (lpIn nbIn_k) ac .normal aX cX.w:=
  run_at2 (o:=⟨_,_,_,_,_,_,_⟩) qeH2_ok (by kernel_rfl) (nbN_hk l i) ho hs hK
theorem nbY_end (l:List Int) (i:Int):runEnd qeH2 Try.f106 false 3000 (⟨lpIn nbIn_k,.normal,nbS l i⟩) [true,true] [] []=(some ([((decide (i ≥ (0:Int)))=true),((0:Int)≤i),(i<(((List.length l):Nat):Int)),(((List.getD l (i).toNat (0:Int)) != (0:Int))=true),((0:Int)≤i),(i<(((List.length l):Nat):Int)),((0:Int)≤(List.getD l (i).toNat (0:Int))),((List.getD l (i).toNat (0:Int))<(18446744073709551616:Int))],((.ii (IntKind.wrap .i64 ((IntKind.wrap .i64 ((64:Int)*i))+(((Lib.bitLen ((List.getD l (i).toNat (0:Int))).toNat):Nat):Int)))),[]))):=by kernel_rfl
theorem nbX_end (l:List Int) (i:Int):runEnd qeH2 Try.f106 false 3000 (⟨lpIn nbIn_k,.normal,nbS l i⟩) [false] [] []=(some ([((decide (i ≥ (0:Int)))=false)],((.ii (0:Int)),[]))):=by kernel_rfl
theorem bits_fnd (l:List Int) (hl:l.length≤16) (hlim:lims l):FnD Try.prog 106 [.v (.c (.sl (.u64 l)))] (.v (.c (.int .i64 (bitsC l l.length:Nat)))) []:=by
  refine fn_start (fn:=Try.f106) (c:=bodyOf Try.f106) Try.func106 rfl rfl fun x a hk hF hs=>?_
  refine nbIn l ⟨hl,trivial⟩ hs fun ac cY aY hs1=>?_
  rw[wrap_id (by omega) (by omega)] at hs1
  refine loop_rule (ι:={ n:Nat // n≤l.length∧bitsC l n=bitsC l l.length }) (fun n=>nbS l ((n.1:Int)-1)) (fun n=>n.1) (c:=lpC nbIn_k) (k:=lpR nbIn_k) (by kernel_rfl) (fun n ih ac cY aY hs=>?_) ⟨l.length,Nat.le_refl _,rfl⟩ (hs1.nx _)
  obtain ⟨n,hn,he⟩:=n
  simp only at ih hs
  cases n with
  | zero=>
    rw[←he]
    exact run_end2 qeH2_ok hk hF (nbX_end l _) ⟨by simp,trivial⟩ (fun y v hd=>hd) hs
  | succ n=>
    have e1:((n+1:Nat):Int)-1=(n:Int):=by omega
    rw[e1] at hs
    have hg:=lims_get hlim n
    by_cases h0:l.getD n 0=0
    · refine nbN l _ ⟨by simp,by omega,by omega,by rw[Int.toNat_natCast,h0];rfl,trivial⟩ hs fun ac cZ aZ hs2=>?_
      rw[wrap_id (by omega) (by omega)] at hs2
      refine ih ⟨n,by omega,?_⟩ (Nat.lt_succ_self n) ac cZ aZ (hs2.nx _)
      rw[←he]
      show _=if l.getD n 0≠0 then _ else bitsC l n
      rw[if_neg (by simpa using h0)]
    · have r:=nbY_end l (n:Int)
      have hb:bitsC l l.length=64*n+Lib.bitLen (l.getD n 0).toNat:=by
        rw[←he]
        show (if l.getD n 0≠0 then _ else bitsC l n)=_
        rw[if_pos h0]
      have hle:=bitLen_le (l.getD n 0).toNat
      rw[Int.toNat_natCast] at r
      have e2:IntKind.wrap IntKind.i64 (IntKind.wrap IntKind.i64 ((64:Int)*(n:Int))+((Lib.bitLen (l.getD n 0).toNat:Nat):Int))=((bitsC l l.length:Nat):Int):=by
        rw[hb]
        generalize Lib.bitLen (l.getD n 0).toNat=B at *
        rw[wrap_id (n:=(64:Int)*(n:Int)) (by omega) (by omega),wrap_id (by omega) (by omega)]
        omega
      rw[e2] at r
      have hne:(l.getD n 0 != (0:Int))=true:=by simpa using h0
      exact run_end2 qeH2_ok hk hF r ⟨by simp,by omega,by omega,hne,by omega,by omega,hg.1,hg.2,trivial⟩ (fun y v hd=>hd) hs
def bitsSpec:FnSpec
  | [.v (.c (.sl (.u64 l)))]=>some ([l.length≤16,lims l],.v (.c (.int .i64 (bitsC l l.length:Nat))),[])
  | _=>none
noncomputable def qeH:Env:=qeH2.set (addT qeH2.fn 106 bitsSpec)
theorem qeH_ok:EnvOk Try.prog qeH:=env_add qeH2_ok 106 bitsSpec (enters_of Try.func106 rfl rfl) fun args o r es h ho=>by
  unfold bitsSpec at h
  split at h
  · cases h;exact bits_fnd _ ho.1 ho.2.1
  · cases h
--@env qeH qeH_ok
noncomputable def bt_k:List KI:=(run qeH false 3000 ((fun (l:Nat) (v:Value)=>(⟨[.code (bodyOf Try.f105)],.normal,⟨argT [.v (.c (.val (.func (.yield l) #[] #[]))),.v (.c (.ptr 0 0))],one (.fl [.val v]),Try.f105.ntmps,16,[]⟩⟩:Cfg)) default default) []).cfg.k
theorem bt_hk (l:Nat) (v:Value):(run qeH false 3000 ((⟨[.code (bodyOf Try.f105)],.normal,⟨argT [.v (.c (.val (.func (.yield l) #[] #[]))),.v (.c (.ptr 0 0))],one (.fl [.val v]),Try.f105.ntmps,16,[]⟩⟩:Cfg)) []).cfg.k=bt_k:=by kernel_rfl
theorem bt (l:Nat) (v:Value) (ho:AllP []) (hs:Sim w0 F0 K ac (⟨argT [.v (.c (.val (.func (.yield l) #[] #[]))),.v (.c (.ptr 0 0))],one (.fl [.val v]),Try.f105.ntmps,16,[]⟩) cX aX) (hK:∀ac cY aY,Sim w0 F0 K ac (mkSt 24 [0,1,4] [(.v (.c (.val (Value.func (Fn.yield l) (Array.mk ([]:List Value)) (Array.mk ([]:List Value)))))),.pt 0 0,(.v (.c (.val v)))] [0] [(some (.fl [(.val v)]))] 32 [] []) cY aY→Wq Try.prog Q (bt_k) ac Exit.normal aY cY.w):Wq Try.prog Q ([.code (bodyOf Try.f105)]) ac .normal aX cX.w:=
  run_at2 (o:=⟨_,_,_,_,_,_,_⟩) qeH_ok (by kernel_rfl) (bt_hk l v) ho hs hK
noncomputable def btA (l:Nat) (v:Value) (e:List Int):St:=mkSt 24 [0,1,4] [(.v (.c (.val (Value.func (Fn.yield l) (Array.mk ([]:List Value)) (Array.mk ([]:List Value)))))),.pt 0 0,.v (.c (.sl (.u64 e)))] [0] [(some (.fl [(.val v)]))] 32 [] []
noncomputable def bu_k:List KI:=(run qeH false 3000 ((fun (l:Nat) (v:Value) (e:List Int)=>(⟨bt_k,.normal,btA l v e⟩:Cfg)) default default default) []).cfg.k
theorem bu_hk (l:Nat) (v:Value) (e:List Int):(run qeH false 3000 ((⟨bt_k,.normal,btA l v e⟩:Cfg)) []).cfg.k=bu_k:=by kernel_rfl
theorem bu (l:Nat) (v:Value) (e:List Int) (ho:AllP [((List.length e)≤16),(lims e)]) (hs:Sim w0 F0 K ac (btA l v e) cX aX) (hK:∀ac cY aY,Sim w0 F0 K ac (mkSt 24 [0,1,3] [(.v (.c (.val (Value.func (Fn.yield l) (Array.mk ([]:List Value)) (Array.mk ([]:List Value)))))),.pt 0 0,(.ii (IntKind.wrap .i64 ((((bitsC e (List.length e)):Nat):Int)-(1:Int))))] [0] [(some (.fl [(.val v)]))] 80 [] []) cY aY→Wq Try.prog Q (bu_k) ac Exit.normal aY cY.w):Wq Try.prog Q (bt_k) ac .normal aX cX.w:=
  run_at2 (o:=⟨_,_,_,_,_,_,_⟩) qeH_ok (by kernel_rfl) (bu_hk l v e) ho hs hK
noncomputable def buS (l:Nat) (v:Value) (i:Int):St:=mkSt 24 [0,1,3] [(.v (.c (.val (Value.func (Fn.yield l) (Array.mk ([]:List Value)) (Array.mk ([]:List Value)))))),.pt 0 0,.v (.c (.int .i64 i))] [0] [(some (.fl [(.val v)]))] 80 [] []
noncomputable def bv_k:List KI:=(run qeH false 3000 ((fun (l:Nat) (v:Value) (i:Int)=>(⟨lpIn bu_k,.normal,buS l v i⟩:Cfg)) default default default) [true]).cfg.k
theorem bv_hk (l:Nat) (v:Value) (i:Int):(run qeH false 3000 ((⟨lpIn bu_k,.normal,buS l v i⟩:Cfg)) [true]).cfg.k=bv_k:=by kernel_rfl
theorem bv (l:Nat) (v:Value) (i:Int) (ho:AllP [((decide (i ≥ (0:Int)))=true),((64:Int)≠(0:Int))]) (hs:Sim w0 F0 K ac (buS l v i) cX aX) (hK:∀ac cY aY,Sim w0 F0 K ac (mkSt 24 [0,1,3,11,12,14] [(.v (.c (.val (Value.func (Fn.yield l) (Array.mk ([]:List Value)) (Array.mk ([]:List Value)))))),.pt 0 0,.ii i,(.v (.c (.val (Value.func (Fn.yield l) (Array.mk ([]:List Value)) (Array.mk ([]:List Value)))))),(.v (.c (.val v))),(.ii (IntKind.wrap .i64 (Int.tdiv i (64:Int))))] [0] [(some (.fl [(.val v)]))] 176 [] []) cY aY→Wq Try.prog Q (bv_k) ac Exit.normal aY cY.w):Wq Try.prog Q (lpIn bu_k) ac .normal aX cX.w:=
  run_at2 (o:=⟨_,_,_,_,_,_,_⟩) qeH_ok (by kernel_rfl) (bv_hk l v i) ho hs hK
noncomputable def bvA (l:Nat) (v:Value) (e:List Int) (i:Int):St:=mkSt 24 [0,1,3,11,12,14] [(.v (.c (.val (Value.func (Fn.yield l) (Array.mk ([]:List Value)) (Array.mk ([]:List Value)))))),.pt 0 0,.ii i,(.v (.c (.val (Value.func (Fn.yield l) (Array.mk ([]:List Value)) (Array.mk ([]:List Value)))))),.v (.c (.sl (.u64 e))),(.ii (IntKind.wrap .i64 (Int.tdiv i (64:Int))))] [0] [(some (.fl [(.val v)]))] 176 [] []
noncomputable def bw_k:List KI:=(run qeH false 3000 ((fun (l:Nat) (v:Value) (e:List Int) (i:Int)=>(⟨bv_k,.normal,bvA l v e i⟩:Cfg)) default default default default) []).cfg.k
theorem bw_hk (l:Nat) (v:Value) (e:List Int) (i:Int):(run qeH false 3000 ((⟨bv_k,.normal,bvA l v e i⟩:Cfg)) []).cfg.k=bw_k:=by kernel_rfl
theorem bw (l:Nat) (v:Value) (e:List Int) (i:Int) (ho:AllP [((0:Int)≤(IntKind.wrap .i64 (Int.tdiv i (64:Int)))),((IntKind.wrap .i64 (Int.tdiv i (64:Int)))<(((List.length e):Nat):Int)),((64:Int)≠(0:Int)),((0:Int)≤(Int.tmod i (64:Int)))]) (hs:Sim w0 F0 K ac (bvA l v e i) cX aX) (hK:∀ac cY aY,Sim w0 F0 K ac (mkSt 24 [0,1,3,11,21] [(.v (.c (.val (Value.func (Fn.yield l) (Array.mk ([]:List Value)) (Array.mk ([]:List Value)))))),.pt 0 0,.ii i,(.v (.c (.val (Value.func (Fn.yield l) (Array.mk ([]:List Value)) (Array.mk ([]:List Value)))))),(.v (.c (.bool ((bitsOp BinOp.and IntKind.u64 (Int.fdiv (List.getD e ((IntKind.wrap .i64 (Int.tdiv i (64:Int)))).toNat (0:Int)) ((2:Int) ^ (Min.min ((Int.tmod i (64:Int))).toNat 64))) (1:Int)) == (1:Int)))))] [0] [(some (.fl [(.val v)]))] 288 [] []) cY aY→Wq Try.prog Q (bw_k) ac Exit.normal aY cY.w):Wq Try.prog Q (bv_k) ac .normal aX cX.w:=
  run_at2 (o:=⟨_,_,_,_,_,_,_⟩) qeH_ok (by kernel_rfl) (bw_hk l v e i) ho hs hK
theorem bX_hk (l:Nat) (v:Value) (i:Int):(run qeH false 3000 ((⟨lpIn bu_k,.normal,buS l v i⟩:Cfg)) [false]).cfg.k=[]:=by kernel_rfl
theorem bX (l:Nat) (v:Value) (i:Int) (ho:AllP [((decide (i ≥ (0:Int)))=false)]) (hs:Sim w0 F0 K ac (buS l v i) cX aX) (hK:∀ac cY aY,Sim w0 F0 K ac (mkSt 24 [] [] [0] [(some (.fl [(.val v)]))] 112 [] []) cY aY→Wq Try.prog Q ([]) ac Exit.normal aY cY.w):Wq Try.prog Q (lpIn bu_k) ac .normal aX cX.w:=
  run_at2 (o:=⟨_,_,_,_,_,_,_⟩) qeH_ok (by kernel_rfl) (bX_hk l v i) ho hs hK
theorem bB_hk (l:Nat) (v:Value) (i:Int) (b:Bool):(run qeH false 3000 ((⟨opsNext bw_k,.normal,⟨setT (look .top [0,1,3,11,21] [(.v (.c (.val (.func (.yield l) #[] #[])))),.v (.c (.ptr 0 0)),.v (.c (.int .i64 i)),(.v (.c (.val (.func (.yield l) #[] #[])))),.v (.c (.bool b))]) 22 (.v (.c (.lit true))),one (.fl [.val v]),24,400,[]⟩⟩:Cfg)) []).cfg.k=lpBk bu_k:=by kernel_rfl
theorem bB (l:Nat) (v:Value) (i:Int) (b:Bool) (ho:AllP []) (hs:Sim w0 F0 K ac (⟨setT (look .top [0,1,3,11,21] [(.v (.c (.val (.func (.yield l) #[] #[])))),.v (.c (.ptr 0 0)),.v (.c (.int .i64 i)),(.v (.c (.val (.func (.yield l) #[] #[])))),.v (.c (.bool b))]) 22 (.v (.c (.lit true))),one (.fl [.val v]),24,400,[]⟩) cX aX) (hK:∀ac cY aY,Sim w0 F0 K ac (mkSt 24 [0,1,3] [(.v (.c (.val (Value.func (Fn.yield l) (Array.mk ([]:List Value)) (Array.mk ([]:List Value)))))),.pt 0 0,(.ii (IntKind.wrap .i64 (i-(1:Int))))] [0] [(some (.fl [(.val v)]))] 464 [] []) cY aY→Wq Try.prog Q (lpBk bu_k) ac Exit.normal aY cY.w):Wq Try.prog Q (opsNext bw_k) ac .normal aX cX.w:=
  run_at2 (o:=⟨_,_,_,_,_,_,_⟩) qeH_ok (by kernel_rfl) (bB_hk l v i b) ho hs hK

theorem meth61_Times (v : Value) (w : World) : (method (Try.prog.types.size + Made.depth) 61 v "Times").run Try.prog w = .ok (67, v) w := by kernel_rfl
theorem meth61_Plus (v : Value) (w : World) : (method (Try.prog.types.size + Made.depth) 61 v "Plus").run Try.prog w = .ok (68, v) w := by kernel_rfl
theorem meth61_Minus (v : Value) (w : World) : (method (Try.prog.types.size + Made.depth) 61 v "Minus").run Try.prog w = .ok (81, v) w := by kernel_rfl
theorem meth61_IsZero (v : Value) (w : World) : (method (Try.prog.types.size + Made.depth) 61 v "IsZero").run Try.prog w = .ok (101, v) w := by kernel_rfl
theorem meth61_Negative (v : Value) (w : World) : (method (Try.prog.types.size + Made.depth) 61 v "Negative").run Try.prog w = .ok (102, v) w := by kernel_rfl
theorem meth61_Inverse (v : Value) (w : World) : (method (Try.prog.types.size + Made.depth) 61 v "Inverse").run Try.prog w = .ok (100, v) w := by kernel_rfl
noncomputable def invP (t : Nat) : Option (List (String × Nat)) := if t = 61 then some [("Times", 67), ("Plus", 68), ("Minus", 81), ("IsZero", 101), ("Negative", 102), ("Inverse", 100)] else none
noncomputable def qeI:Env:={ qeH with inv:=invP }
theorem qeI_ok:EnvOk Try.prog qeI:=by
  refine ⟨qeH_ok.ty,qeH_ok.mixed,qeH_ok.fn,qeH_ok.mu,qeH_ok.inl,qeH_ok.ex,fun t l h=>?_⟩
  have h:invP t=some l:=h
  unfold invP at h
  split at h
  · rename_i ht
    cases h
    subst ht
    refine ⟨by kernel_rfl,fun name g hg v args w=>?_⟩
    unfold lookM at hg
    split at hg
    · rename_i hn
      cases hg
      subst hn
      simp only[callMethod,Sem.run_bind,run_program,Result.andThen_ok,meth61_Times]
    unfold lookM at hg
    split at hg
    · rename_i hn
      cases hg
      subst hn
      simp only[callMethod,Sem.run_bind,run_program,Result.andThen_ok,meth61_Plus]
    unfold lookM at hg
    split at hg
    · rename_i hn
      cases hg
      subst hn
      simp only[callMethod,Sem.run_bind,run_program,Result.andThen_ok,meth61_Minus]
    unfold lookM at hg
    split at hg
    · rename_i hn
      cases hg
      subst hn
      simp only[callMethod,Sem.run_bind,run_program,Result.andThen_ok,meth61_IsZero]
    unfold lookM at hg
    split at hg
    · rename_i hn
      cases hg
      subst hn
      simp only[callMethod,Sem.run_bind,run_program,Result.andThen_ok,meth61_Negative]
    unfold lookM at hg
    split at hg
    · rename_i hn
      cases hg
      subst hn
      simp only[callMethod,Sem.run_bind,run_program,Result.andThen_ok,meth61_Inverse]
    cases hg
  · cases h
--@env qeI qeI_ok
noncomputable def qp_k:List KI:=(run qeI false 3000 ((fun (a:Fp) (e:List Int)=>(⟨[.code (bodyOf Try.f103)],.normal,initSt Try.f103.ntmps [.v (.a [.ob (.p a)]),.v (.a [.ob (.p 1)]),.v (.c (.sl (.u64 e)))]⟩:Cfg)) default default) []).cfg.k
theorem qp_hk (a:Fp) (e:List Int):(run qeI false 3000 ((⟨[.code (bodyOf Try.f103)],.normal,initSt Try.f103.ntmps [.v (.a [.ob (.p a)]),.v (.a [.ob (.p 1)]),.v (.c (.sl (.u64 e)))]⟩:Cfg)) []).cfg.k=qp_k:=by kernel_rfl
theorem qp (a:Fp) (e:List Int) (ho:AllP []) (hs:Sim w0 F0 K ac (initSt Try.f103.ntmps [.v (.a [.ob (.p a)]),.v (.a [.ob (.p 1)]),.v (.c (.sl (.u64 e)))]) cX aX) (hK:∀ac cY aY,Sim w0 F0 K ac (mkSt 23 [3,6,7,11] [.pt 16 0,.pt 48 0,.pt 80 0,(.v (.c (.clo 105 [(128,0)])))] [16,48,80,128] [(some (.fl [.ob (.p a)])),(some (.fl [(.ob (.p (0:Fp)))])),(some (.fl [(.ob (.p (1:Fp)))])),(some (.fl [.sl (.u64 e)]))] 192 [] []) cY aY→Wq Try.prog Q (qp_k) ac Exit.normal aY cY.w):Wq Try.prog Q ([.code (bodyOf Try.f103)]) ac .normal aX cX.w:=
  run_at2 (o:=⟨_,_,_,_,_,_,_⟩) qeI_ok (by kernel_rfl) (qp_hk a e) ho hs hK
noncomputable def qpS (a:Fp) (e:List Int) (o:Fp):St:=mkSt 23 [3,6,7,11] [.pt 16 0,.pt 48 0,.pt 80 0,(.v (.c (.clo 105 [(128,0)])))] [16,48,80,128] [(some (.fl [.ob (.p a)])),(some (.fl [(.ob (.p (0:Fp)))])),some (.fl [.ob (.p o)]),(some (.fl [.sl (.u64 e)]))] 192 [] []
theorem qpA_hk (a:Fp) (e:List Int) (o:Fp) (z:Bool):(run qeI false 3000 ((⟨[.code (rfA qp_k)],.normal,roundSt (qpS a e o) [(12,.v (.c (.bool z)))]⟩:Cfg)) []).cfg.k=[]:=by kernel_rfl
theorem qpA (a:Fp) (e:List Int) (o:Fp) (z:Bool) {ρ:Option Nat} (ho:AllP []) (hs:Sim w0 F0 K ac (roundSt (qpS a e o) [(12,.v (.c (.bool z)))]) cX aX) (hK:∀cY aY,Sim w0 F0 K ac (mkSt 23 [3,6,7,8] [.pt 16 0,.pt 48 0,.pt 80 0,(.v (.c (.bool z)))] [16,48,80,128] [(some (.fl [.ob (.p a)])),(some (.fl [(.ob (.p (0:Fp)))])),(some (.fl [.ob (.p o)])),(some (.fl [.sl (.u64 e)]))] 208 [[3,6,7,11]] [([.pt 16 0,.pt 48 0,.pt 80 0,(.v (.c (.clo 105 [(128,0)])))],23)]) cY aY→Wq Try.prog Q ([]) ac Exit.normal aY cY.w ρ):Wq Try.prog Q ([.code (rfA qp_k)]) ac .normal aX cX.w ρ :=
  run_atT (o:=⟨_,_,_,_,_,_,_⟩) qeI_ok (by kernel_rfl) (qpA_hk a e o z) ho (by kernel_rfl) (by kernel_rfl) hs hK
noncomputable def qpB (a:Fp) (e:List Int) (o:Fp) (z:Bool):St:=mkSt 23 [3,6,7,8] [.pt 16 0,.pt 48 0,.pt 80 0,(.v (.c (.bool z)))] [16,48,80,128] [(some (.fl [.ob (.p a)])),(some (.fl [(.ob (.p (0:Fp)))])),some (.fl [.ob (.p o)]),(some (.fl [.sl (.u64 e)]))] 208 [[3,6,7,11]] [([.pt 16 0,.pt 48 0,.pt 80 0,(.v (.c (.clo 105 [(128,0)])))],23)]
theorem qpC_hk (a:Fp) (e:List Int) (o:Fp) (z:Bool):(run qeI false 3000 ((⟨[.code (rfB qp_k)],.normal,qpB a e o z⟩:Cfg)) [true]).cfg.k=[]:=by kernel_rfl
theorem qpC (a:Fp) (e:List Int) (o:Fp) (z:Bool) {ρ:Option Nat} (ho:AllP [(z=true)]) (hs:Sim w0 F0 K ac (qpB a e o z) cX aX) (hK:∀cY aY,Sim w0 F0 K ac (mkSt 23 [6] [.pt 48 0] [16,48,80,128] [(some (.fl [.ob (.p a)])),(some (.fl [(.ob (.p (0:Fp)))])),(some (.fl [(.ob (.p ((o*o)*a)))])),(some (.fl [.sl (.u64 e)]))] 384 [[3,6,7,11]] [([.pt 16 0,.pt 48 0,.pt 80 0,(.v (.c (.clo 105 [(128,0)])))],23)]) cY aY→Wq Try.prog Q ([]) ac Exit.normal aY cY.w ρ):Wq Try.prog Q ([.code (rfB qp_k)]) ac .normal aX cX.w ρ :=
  run_atT (o:=⟨_,_,_,_,_,_,_⟩) qeI_ok (by kernel_rfl) (qpC_hk a e o z) ho (by kernel_rfl) (by kernel_rfl) hs hK
theorem qpD_hk (a:Fp) (e:List Int) (o:Fp) (z:Bool):(run qeI false 3000 ((⟨[.code (rfB qp_k)],.normal,qpB a e o z⟩:Cfg)) [false]).cfg.k=[]:=by kernel_rfl
theorem qpD (a:Fp) (e:List Int) (o:Fp) (z:Bool) {ρ:Option Nat} (ho:AllP [(z=false)]) (hs:Sim w0 F0 K ac (qpB a e o z) cX aX) (hK:∀cY aY,Sim w0 F0 K ac (mkSt 23 [6] [.pt 48 0] [16,48,80,128] [(some (.fl [.ob (.p a)])),(some (.fl [(.ob (.p (0:Fp)))])),(some (.fl [(.ob (.p (o*o)))])),(some (.fl [.sl (.u64 e)]))] 304 [[3,6,7,11]] [([.pt 16 0,.pt 48 0,.pt 80 0,(.v (.c (.clo 105 [(128,0)])))],23)]) cY aY→Wq Try.prog Q ([]) ac Exit.normal aY cY.w ρ):Wq Try.prog Q ([.code (rfB qp_k)]) ac .normal aX cX.w ρ :=
  run_atT (o:=⟨_,_,_,_,_,_,_⟩) qeI_ok (by kernel_rfl) (qpD_hk a e o z) ho (by kernel_rfl) (by kernel_rfl) hs hK
theorem qpX_hk (a:Fp) (e:List Int) (o:Fp):(run qeI false 3000 ((⟨rfR qp_k,.normal,qpS a e o⟩:Cfg)) []).cfg.k=[]:=by kernel_rfl
theorem qpX (a:Fp) (e:List Int) (o:Fp) (ho:AllP []) (hs:Sim w0 F0 K ac (qpS a e o) cX aX) (hK:∀ac cY aY,Sim w0 F0 K ac (mkSt 23 [6] [.pt 48 0] [48] [(some (.fl [.ob (.p o)]))] 224 [] []) cY aY→Wq Try.prog Q ([]) ac Exit.ret aY cY.w):Wq Try.prog Q (rfR qp_k) ac .normal aX cX.w:=
  run_at2 (o:=⟨_,_,_,_,_,_,_⟩) qeI_ok (by kernel_rfl) (qpX_hk a e o) ho hs hK
noncomputable def qpE (a:Fp) (e:List Int) (o:Fp):St:=mkSt 23 [6] [.pt 48 0] [16,48,80,128] [(some (.fl [.ob (.p a)])),(some (.fl [(.ob (.p (0:Fp)))])),some (.fl [.ob (.p o)]),(some (.fl [.sl (.u64 e)]))] 384 [[3,6,7,11]] [([.pt 16 0,.pt 48 0,.pt 80 0,(.v (.c (.clo 105 [(128,0)])))],23)]
noncomputable def qpZ (o:Fp):St:=mkSt 23 [6] [.pt 48 0] [48] [some (.fl [.ob (.p o)])] 224 [] []
theorem qpR_end (o:Fp):runEnd qeI Try.f103 false 3000 (⟨[],.ret,qpZ o⟩) [] [] []=(some ([],((.v (.a [.ob (.p o)])),[]))):=by kernel_rfl
end
end Go.Proofs.Ytdeohachoeopdaa

/- Bits handed on; powers of an element. No conditions. -/
namespace Go.Proofs.Ytdeohachoeopdaa

theorem and1 {m:Nat}:bitsOp BinOp.and IntKind.u64 (m:Int) (1:Int)=((m % 2:Nat):Int):=by
  show IntKind.wrap IntKind.u64 ((BitVec.ofInt 64 (m:Int) &&& BitVec.ofInt 64 ((1:Nat):Int)).toNat:Int)=_
  rw[BitVec.ofInt_natCast,BitVec.ofInt_natCast,BitVec.toNat_and,BitVec.toNat_ofNat,BitVec.toNat_ofNat]
  have e:1 % 2 ^ 64=2 ^ 1-1:=by decide
  rw[e,Nat.and_two_pow_sub_one_eq_mod,wrap_u64]
  omega

theorem bit_expr {e:List Int} (h:lims e) {i:Nat} (hi:i<1024):(bitsOp BinOp.and IntKind.u64 (Int.fdiv (List.getD e (IntKind.wrap IntKind.i64 (Int.tdiv (i:Int) (64:Int))).toNat (0:Int)) ((2:Int) ^ (Min.min (Int.tmod (i:Int) (64:Int)).toNat 64))) (1:Int) == (1:Int))=decide (numL e / 2 ^ i % 2=1):=by
  have e1:Int.tdiv (i:Int) (64:Int)=((i / 64:Nat):Int):=Int.tdiv_eq_ediv_of_nonneg (by omega)
  have e2:Int.tmod (i:Int) (64:Int)=((i % 64:Nat):Int):=Int.tmod_eq_emod_of_nonneg (by omega)
  have e3:Min.min (((i % 64:Nat):Int)).toNat 64=i % 64:=by omega
  have hg:=lims_get h (i / 64)
  rw[e1,wrap_id (by omega) (by omega),Int.toNat_natCast,e2,e3,numL_bit h i]
  obtain ⟨g,hg2⟩:=Int.eq_ofNat_of_zero_le hg.1
  have hp:((2:Int) ^ (i % 64))=((2 ^ (i % 64):Nat):Int):=by simp
  rw[hg2,hp,Int.fdiv_eq_ediv_of_nonneg _ (Int.natCast_nonneg _),←Int.natCast_ediv,and1,Int.toNat_natCast]
  generalize g / 2 ^ (i % 64)=m
  by_cases hm:m % 2=1
  · rw[hm];rfl
  · have:m % 2=0:=by omega
    rw[this];rfl

def btEnc (z:Bool):List Value:=[.bool z]

theorem bits_iter {x:Ctx} {p:Nat} {e:List Int} {M:List Bool→Nat→Option En} (hl:e.length≤16) (hlim:lims e) (hM:∀s,M s p=some (.fl [.sl (.u64 e)])) :
    IterC Try.prog x 105 [(p,0)] btEnc (btL (numL e) (bitsC e e.length) (bitsC e e.length)) M:=by
  intro l J W hgrow hread hyield hJ
  have hcl:=bitsC_le e e.length
  generalize hc:bitsC e e.length=c at *
  generalize hN:numL e=N at *
  have key:Wq Try.prog (bodyPost Try.prog Try.f105 fun e' W' => (∃v,e' = Ending.returned v)∧J (btL N c c) W') [.code (bodyOf Try.f105)] [] .normal { tmps:=[Value.func (.yield l) #[] #[],.pointer (some ⟨x.β p,0,none⟩)].toArray++Array.replicate 22 undef,defers:=[] } W:=?_
  · exact calls_of_wp (c:=bodyOf Try.f105) Try.func105 rfl ((wpIn_wide (n:=0)).1 key.wp)
  obtain ⟨y,rfl,hm,hcp⟩:=hread [] W hJ
  obtain ⟨hr,hβ⟩:=hcp (p,0) List.mem_cons_self
  have hr:y.k p = .real:=hr
  have hβ:y.β p=x.β p:=hβ
  have hargs:denSs (itCtx y p) [.v (.c (.val (.func (.yield l) #[] #[]))),.v (.c (.ptr 0 0))] [.func (.yield l) #[] #[],.pointer (some ⟨x.β p,0,none⟩)]:=
    .cons ⟨rfl,0,rfl,rfl⟩ (.cons ⟨rfl,0,rfl,by show _=[Value.pointer (some ⟨y.β p,0,none⟩)];rw[hβ]⟩ .nil)
  obtain ⟨v,hv,hbox⟩:=box_sl hm (hM []) hr
  have hs:=it_sim (nx:=16) (nt:=24) (a:={ tmps:=[Value.func (.yield l) #[] #[],.pointer (some ⟨x.β p,0,none⟩)].toArray++Array.replicate 22 undef,defers:=[] }) hm (hM []) hr hbox rfl (by simp) (argT_den hargs 22)
  change Wq Try.prog _ _ _ _ _ (itCtx y p).w
  refine bt l v trivial hs fun ac cY aY hs1=>?_
  have hmb:Mem (itCtx y p) (one (.fl [.val v])):=it_mem hm (hM _) hr hbox
  obtain ⟨hg1,_,_⟩:=it_back hmb rfl hs1 rfl
  have hsl:cY.D (.sl (.u64 e)) [v]:=data_grow hg1 (fun b hb=>hs1.base.f0 b hb) hm.fw rfl hv
  have hs2:=hs1.slots (svs' := [.v (.c (.val (.func (.yield l) #[] #[]))),.v (.c (.ptr 0 0)),.v (.c (.sl (.u64 e)))]) ⟨fun _ h=>h,fun _ h=>h,conv_val rfl hsl,trivial⟩
  refine bu l v e ⟨hl,hlim,trivial⟩ hs2 fun ac cZ aZ hs3=>?_
  rw[hc,wrap_id (by omega) (by omega)] at hs3
  let I:{ t:Nat // t≤c } → List Act→Act→World→Prop:=fun t ac a w=>∃y z v,z.w=w∧y.k p = .real∧y.β p=x.β p∧Mem y (M (btL N c t.1))∧J (btL N c t.1) y.w∧y.D (.sl (.u64 e)) [v]∧Mem (itCtx y p) (one (.fl [.val v]))∧Sim y.w y.F (kPin (itCtx y p)) ac (buS l v ((c:Int)-1-(t.1:Int))) z a
  refine loop_inv I (fun t=>c-t.1) (c:=lpC bu_k) (k:=lpR bu_k) (by kernel_rfl) (fun t ih ac b w hI=>?_) ⟨0,Nat.zero_le _⟩ ⟨y,cZ,v,rfl,hr,hβ,hm,hJ,hv,hmb,by
      show Sim _ _ _ _ (buS l v ((c:Int)-1-((0:Nat):Int))) _ _
      rw[show (c:Int)-1-((0:Nat):Int)=(c:Int)-1 from by omega]
      exact hs3.nx _⟩
  obtain ⟨t,ht⟩:=t
  obtain ⟨y,z,v,rfl,hr,hβ,hm,hJ,hv,hmb,hs⟩:=hI
  simp only at hm hJ hs ih
  by_cases h:t<c
  · obtain ⟨i,hi⟩:∃i:Nat,i=c-1-t:=⟨_,rfl⟩
    have ei:(c:Int)-1-(t:Int)=(i:Int):=by omega
    rw[ei] at hs
    refine bv l v _ ⟨by simp,by decide,trivial⟩ hs fun ac cV aV hs4=>?_
    obtain ⟨hg4,_,_⟩:=it_back hmb rfl hs4 rfl
    have hsl4:cV.D (.sl (.u64 e)) [v]:=data_grow hg4 (fun b hb=>hs4.base.f0 b hb) hm.fw rfl hv
    have hs5:=hs4.slots (svs' := [.v (.c (.val (.func (.yield l) #[] #[]))),.v (.c (.ptr 0 0)),.v (.c (.int .i64 (i:Int))),.v (.c (.val (.func (.yield l) #[] #[]))),.v (.c (.sl (.u64 e))),.v (.c (.int .i64 (IntKind.wrap IntKind.i64 (Int.tdiv (i:Int) (64:Int)))))])
      ⟨fun _ h=>h,fun _ h=>h,fun _ h=>h,fun _ h=>h,conv_val rfl hsl4,fun _ h=>h,trivial⟩
    have e1:Int.tdiv (i:Int) (64:Int)=((i / 64:Nat):Int):=Int.tdiv_eq_ediv_of_nonneg (by omega)
    have e2:Int.tmod (i:Int) (64:Int)=((i % 64:Nat):Int):=Int.tmod_eq_emod_of_nonneg (by omega)
    refine bw l v e _ ⟨by rw[e1,wrap_id (by omega) (by omega)];omega,by rw[e1,wrap_id (by omega) (by omega)];omega,by decide,by rw[e2];omega,trivial⟩ hs5 fun ac cU aU hs6=>?_
    rw[bit_expr hlim (by omega:i<1024),hN] at hs6
    obtain ⟨hg,hk2,hβ2⟩:=it_back hmb rfl hs6 rfl
    have hJ2:=hgrow _ _ _ hJ hg
    have e3:btL N c (t+1)=btL N c t++[decide (N / 2 ^ i % 2=1)]:=by rw[btL_succ,hi]
    obtain ⟨r,hr1⟩:=btL_pre N c (n:=c) (t:=t+1) h
    refine yield_at (R:=fun W' => J (btL N c (t+1)) W') (dst:=some 22) (f:=.tmp 11) (args:=[.tmp 21]) (by kernel_rfl) hs6 (l:=l) rfl (vs:=btEnc (decide (N / 2 ^ i % 2=1))) ?_ ?_ fun W' hJ3=>?_
    · have h21:=D_bool (hs6.t 21)
      show [aU.tmps.getD 21 undef]=_
      rw[h21]
      rfl
    · have:=hyield (btL N c t) (decide (N / 2 ^ i % 2=1)) _ hJ2 ⟨r,by rw[hr1,e3,List.append_assoc];rfl⟩
      rw[←e3] at this
      exact this
    · obtain ⟨y3,rfl,hm3,hc3⟩:=hread _ _ hJ3
      obtain ⟨hr3,hβ3⟩:=hc3 (p,0) List.mem_cons_self
      have hr3:y3.k p = .real:=hr3
      have hβ3:y3.β p=x.β p:=hβ3
      obtain ⟨v3,hv3,hbox3⟩:=box_sl hm3 (hM _) hr3
      have hmb3:Mem (itCtx y3 p) (one (.fl [.val v3])):=it_mem hm3 (hM _) hr3 hbox3
      have hs7:=it_again (nx' := 400) (dst:=22) (b:=true) hs6 (by kernel_rfl) rfl hm3 (hM _) hr3 hbox3 (by rw[hβ2,hβ];exact hβ3.symm) (by decide)
      change Wq Try.prog _ _ _ _ _ (itCtx y3 p).w
      refine bB l v3 _ _ trivial hs7 fun ac cT aT hs8=>?_
      have e4:IntKind.wrap IntKind.i64 ((i:Int)-1)=(c:Int)-1-((t+1:Nat):Int):=by rw[wrap_id (by omega) (by omega)];omega
      rw[e4] at hs8
      exact ih ⟨t+1,by omega⟩ (by show c-(t+1)<c-t;omega) ac aT _ ⟨y3,cT,v3,rfl,hr3,hβ3,hm3,hJ3,hv3,hmb3,hs8.nx _⟩
  · have e5:t=c:=by omega
    subst e5
    refine bX l v _ ⟨by simp;omega,trivial⟩ hs fun ac cV aV hs4=>?_
    obtain ⟨hg,_,_⟩:=it_back hmb rfl hs4 rfl
    exact ⟨it_end qeH_ok hs4 rfl rfl rfl (fun v=>⟨⟨v,rfl⟩,hgrow _ _ _ hJ hg⟩) (.inr rfl)⟩

def btVals (z:Bool):List SV:=[.v (.c (.bool z))]

theorem pw_bit (a:Fp) (l:List Bool) (z:Bool):pw a (pv (l++[z]))=if z=true then pw a (pv l)*pw a (pv l)*a else pw a (pv l)*pw a (pv l):=by
  rw[pv_snoc,Nat.two_mul]
  cases z with
  | true=>
    rw[if_pos rfl,←pw_add_g]
    rfl
  | false=>
    rw[if_neg (by decide),←pw_add_g]
    rfl

theorem powerP_fnd (a:Fp) (e:List Int) (hl:e.length≤16) (hlim:lims e) :
    FnD Try.prog 103 [.v (.a [.ob (.p a)]),.v (.a [.ob (.p 1)]),.v (.c (.sl (.u64 e)))] (.v (.a [.ob (.p (pw a (numL e)))])) []:=by
  refine fn_start_m (fn:=Try.f103) (c:=bodyOf Try.f103) Try.func103 rfl rfl fun x b hk hF hs=>?_
  refine qp a e trivial hs fun ac cY aY hs1=>?_
  obtain ⟨e1,e2⟩:=isRf_eq (k:=qp_k) (by kernel_rfl)
  rw[e1]
  have eP:(rfP qp_k).toList=[12]:=by kernel_rfl
  have eG:rfG qp_k = .tmp 11:=by kernel_rfl
  refine range_rule (ps:=rfP qp_k) e2 hs1 (gf:=105) (caps:=[(128,0)]) (enters_of Try.func105 rfl rfl) (fun pre=>qpS a e (pw a (pv pre))) (fun s=>by rw[eG];rfl) ⟨_,rfl⟩ (btL (numL e) (bitsC e e.length) (bitsC e e.length)) btVals btEnc
    (fun y z=>.cons ⟨rfl,0,rfl⟩ .nil) (fun z=>by rw[←Array.length_toList,eP];rfl) (fun pre p hp=>?_) (bits_iter hl hlim fun s=>rfl) (fun pre z=>qpB a e (pw a (pv pre)) z)
    (fun pre z=>qpE a e (pw a (pv (pre++[z])))) (fun pre z=>⟨_,rfl⟩) (fun pre z hz w1 F1 K1 as1 Q1 l y b hs2 hQ=>?_) (fun pre z hz w1 F1 K1 as1 Q1 l y b hs2 hQ=>?_) fun D y hs2 hD hFD hd=>?_
  · rw[eP] at hp
    have h23:(qpS a e (pw a (pv pre))).nt=23:=rfl
    rw[h23]
    simp only[List.mem_cons,List.not_mem_nil,or_false] at hp
    subst hp
    decide
  · rw[eP] at hs2
    exact qpA a e _ z trivial hs2 fun cZ aZ hs3=>⟨hQ _ _ (hs3.nx _)⟩
  · rw[pw_bit] at hQ
    cases z with
    | true=>exact qpC a e _ true ⟨rfl,trivial⟩ hs2 fun cZ aZ hs3=>⟨hQ _ _ (hs3.nx _)⟩
    | false=>exact qpD a e _ false ⟨rfl,trivial⟩ hs2 fun cZ aZ hs3=>⟨hQ _ _ (hs3.nx _)⟩
  · have hs3:=hs2.marked rfl rfl D
    have hN:numL e<2 ^ bitsC e e.length:=by
      have:=numL_lt hlim e.length (Nat.le_refl _)
      rwa [List.take_length] at this
    rw[pv_bits hN _ (Nat.le_refl _),Nat.sub_self,Nat.pow_zero,Nat.div_one] at hs2 hs3
    generalize pw a (numL e)=o at hs2 hs3 ⊢
    refine qpX a e o trivial hs3 fun ac cV aV hs6=>⟨?_⟩
    have hs7:Sim y.w y.F (kOwn y kAll (markOf D)) ac (qpZ o) cV aV:=hs6
    exact fn_finish qeI_ok hk hF (qpR_end o) trivial (fun y v hd=>hd) hs2 hD hFD hd rfl hs7

end Go.Proofs.Ytdeohachoeopdaa

/- The inverse in the greater field; sums and doubles of points, walked. No conditions. -/
namespace Go.Proofs.Ytdeohachoeopdaa

theorem powerP_fnd2 (a u:Fp) (e:List Int) (hu:u=1) (hl:e.length≤16) (hlim:lims e) :
    FnD Try.prog 103 [.v (.a [.ob (.p a)]),.v (.a [.ob (.p u)]),.v (.c (.sl (.u64 e)))] (.v (.a [.ob (.p (pw a (numL e)))])) []:=by
  subst hu
  exact powerP_fnd a e hl hlim
def powerPSpec:FnSpec
  | [.v (.a [.ob (.p a)]),.v (.a [.ob (.p u)]),.v (.c (.sl (.u64 e)))]=>some ([u=1,e.length≤16,lims e],.v (.a [.ob (.p (pw a (numL e)))]),[])
  | _=>none
noncomputable def qeI1:Env:=qeI.set (addT qeI.fn 103 powerPSpec)
theorem qeI1_ok:EnvOk Try.prog qeI1:=env_add qeI_ok 103 powerPSpec (enters_of Try.func103 rfl rfl) fun args o r es h ho=>by
  unfold powerPSpec at h
  split at h
  · cases h;exact powerP_fnd2 _ _ _ ho.1 ho.2.1 ho.2.2.1
  · cases h
--@env qeI1 qeI1_ok
theorem invP0 (a:Fp):fnRes qeI1 Try.f100 3000 [.v (.a [.ob (.p a)])] [] [] []=(some ([((0:Int)≤(0:Int)),((0:Int)<(6:Int)),(0<6),((0:Int)≤(0:Int)),((0:Int)<(6:Int)),((0:Int)≤(1:Int)),((1:Int)<(18446744073709551616:Int)),((Fin.ofNat pN 1)=(1:Fp)),(6≤16),(lims [(13402431016077863593:Int),(2210141511517208575:Int),(7435674573564081700:Int),(7239337960414712511:Int),(5412103778470702295:Int),(1873798617647539866:Int)])],((.v (.a [(.ob (.p (pw a 4002409555221667393417789825735904156556882819939007885332058136124031650490837864442687629129015664037894272559785)))])),[]))):=by kernel_rfl
/-- 1 divided by it; 0 of 0. -/
def ivP (a:Fp):Fp:=pw a (pN-2)
theorem ivP_mul (x:Fp) (hx:x≠0):x*ivP x=1:=by
  have h:=fermat_p x hx
  have e:pN-1=(pN-2)+1:=by decide
  rw[e] at h
  have h2:ivP x*x=1:=h
  rw[mul_comm_g]
  exact h2
theorem invP_fnd (a:Fp):FnD Try.prog 100 [.v (.a [.ob (.p a)])] (.v (.a [.ob (.p (ivP a))])) []:=by
  have e:4002409555221667393417789825735904156556882819939007885332058136124031650490837864442687629129015664037894272559785=pN-2:=by decide +kernel
  have r:=invP0 a
  rw[e] at r
  refine fn_sound qeI1_ok Try.func100 r ⟨by decide,by decide,by decide,by decide,by decide,by decide,by decide,rfl,by decide,?_,trivial⟩
  intro x hx
  simp only[List.mem_cons,List.not_mem_nil,or_false] at hx
  rcases hx with rfl | rfl | rfl | rfl | rfl | rfl<;>decide
def invPSpec:FnSpec
  | [.v (.a [.ob (.p a)])]=>some ([],.v (.a [.ob (.p (ivP a))]),[])
  | _=>none
noncomputable def qeJ:Env:=qeI1.set (addT qeI1.fn 100 invPSpec)
theorem qeJ_ok:EnvOk Try.prog qeJ:=env_add qeI1_ok 100 invPSpec (enters_of Try.func100 rfl rfl) fun args o r es h _=>by
  unfold invPSpec at h
  split at h
  · cases h;exact invP_fnd _
  · cases h
--@env qeJ qeJ_ok
theorem twA (x y z:Fp):fnRes qeJ Try.f66 3000 [.v (.a [.ob (.p x),.ob (.p y),.ob (.p z)])] [true] [] []=(some ([((decide (z=(0:Fp)))=true)],((.v (.a [.ob (.p x),.ob (.p y),.ob (.p z)])),[]))):=by kernel_rfl
theorem twB (x y z:Fp):fnRes qeJ Try.f66 3000 [.v (.a [.ob (.p x),.ob (.p y),.ob (.p z)])] [false] [] []=(some ([((decide (z=(0:Fp)))=false)],((.v (.a [(.ob (.p ((((((x*x)+(x*x))+(x*x))*(((x*x)+(x*x))+(x*x)))-(((((x+(y*y))*(x+(y*y)))-(x*x))-((y*y)*(y*y)))+((((x+(y*y))*(x+(y*y)))-(x*x))-((y*y)*(y*y)))))-(((((x+(y*y))*(x+(y*y)))-(x*x))-((y*y)*(y*y)))+((((x+(y*y))*(x+(y*y)))-(x*x))-((y*y)*(y*y))))))),(.ob (.p (((((x*x)+(x*x))+(x*x))*((((((x+(y*y))*(x+(y*y)))-(x*x))-((y*y)*(y*y)))+((((x+(y*y))*(x+(y*y)))-(x*x))-((y*y)*(y*y))))-((((((x*x)+(x*x))+(x*x))*(((x*x)+(x*x))+(x*x)))-(((((x+(y*y))*(x+(y*y)))-(x*x))-((y*y)*(y*y)))+((((x+(y*y))*(x+(y*y)))-(x*x))-((y*y)*(y*y)))))-(((((x+(y*y))*(x+(y*y)))-(x*x))-((y*y)*(y*y)))+((((x+(y*y))*(x+(y*y)))-(x*x))-((y*y)*(y*y)))))))-(((((y*y)*(y*y))+((y*y)*(y*y)))+(((y*y)*(y*y))+((y*y)*(y*y))))+((((y*y)*(y*y))+((y*y)*(y*y)))+(((y*y)*(y*y))+((y*y)*(y*y)))))))),(.ob (.p ((y*z)+(y*z))))])),[]))):=by kernel_rfl
theorem ngP (x y z:Fp):fnRes qeJ Try.f82 3000 [.v (.a [.ob (.p x),.ob (.p y),.ob (.p z)])] [] [] []=(some ([],((.v (.a [.ob (.p x),(.ob (.p ((0:Fp)-y))),.ob (.p z)])),[]))):=by kernel_rfl
end Go.Proofs.Ytdeohachoeopdaa

/- Digits of a number, handed on: walked. No conditions. -/
namespace Go.Proofs.Ytdeohachoeopdaa
section
variable {w0:World} {F0:Nat→Prop} {K:Kp} {ac:List Act} {Q:Exit→Act→World→Prop} {cX:Ctx} {aX:Act}

--@env qeJ qeJ_ok
noncomputable def dg_k:List KI:=(run qeJ false 3000 ((fun (l:Nat) (k:U4)=>(⟨[.code (bodyOf Try.f73)],.normal,⟨argT [.v (.c (.val (.func (.yield l) #[] #[]))),.v (.c (.ptr 0 0))],one (.fl [.ob (.fr k)]),Try.f73.ntmps,16,[]⟩⟩:Cfg)) default default) []).cfg.k
theorem dg_hk (l:Nat) (k:U4):(run qeJ false 3000 ((⟨[.code (bodyOf Try.f73)],.normal,⟨argT [.v (.c (.val (.func (.yield l) #[] #[]))),.v (.c (.ptr 0 0))],one (.fl [.ob (.fr k)]),Try.f73.ntmps,16,[]⟩⟩:Cfg)) []).cfg.k=dg_k:=by kernel_rfl
theorem dg (l:Nat) (k:U4) (ho:AllP []) (hs:Sim w0 F0 K ac (⟨argT [.v (.c (.val (.func (.yield l) #[] #[]))),.v (.c (.ptr 0 0))],one (.fl [.ob (.fr k)]),Try.f73.ntmps,16,[]⟩) cX aX) (hK:∀ac cY aY,Sim w0 F0 K ac (mkSt 32 [0,1,3,4] [(.v (.c (.val (Value.func (Fn.yield l) (Array.mk ([]:List Value)) (Array.mk ([]:List Value)))))),.pt 0 0,(.v (.c (.lit false))),.ii (63:Int)] [0] [(some (.fl [.ob (.fr k)]))] 48 [] []) cY aY→Wq Try.prog Q (dg_k) ac Exit.normal aY cY.w):Wq Try.prog Q ([.code (bodyOf Try.f73)]) ac .normal aX cX.w:=
  run_at2 (o:=⟨_,_,_,_,_,_,_⟩) qeJ_ok (by kernel_rfl) (dg_hk l k) ho hs hK
noncomputable def dgS (l:Nat) (k:U4) (g:Bool) (i:Int):St:=mkSt 32 [0,1,3,4] [(.v (.c (.val (Value.func (Fn.yield l) (Array.mk ([]:List Value)) (Array.mk ([]:List Value)))))),.pt 0 0,.v (.c (.bool g)),.v (.c (.int .i64 i))] [0] [(some (.fl [.ob (.fr k)]))] 48 [] []
noncomputable def dgY_k:List KI:=(run qeJ false 3000 ((fun (l:Nat) (k:U4) (g:Bool) (i:Int)=>(⟨lpIn dg_k,.normal,dgS l k g i⟩:Cfg)) default default default default) [true,true,true]).cfg.k
theorem dgY_hk (l:Nat) (k:U4) (g:Bool) (i:Int):(run qeJ false 3000 ((⟨lpIn dg_k,.normal,dgS l k g i⟩:Cfg)) [true,true,true]).cfg.k=dgY_k:=by kernel_rfl
theorem dgY (l:Nat) (k:U4) (g:Bool) (i:Int) (ho:AllP [((decide (i ≥ (0:Int)))=true),((16:Int)≠(0:Int)),((0:Int)≤(IntKind.wrap .i64 (Int.tdiv i (16:Int)))),((IntKind.wrap .i64 (Int.tdiv i (16:Int)))<(4:Int)),((0+(((IntKind.wrap .i64 (Int.tdiv i (16:Int)))).toNat*1))<(Ob.k (.fr k))),((16:Int)≠(0:Int)),((0:Int)≤(IntKind.wrap .i64 ((4:Int)*(Int.tmod i (16:Int))))),(g=true)]) (hs:Sim w0 F0 K ac (dgS l k g i) cX aX) (hK:∀ac cY aY,Sim w0 F0 K ac (mkSt 32 [0,1,3,4,26,27,28] [(.v (.c (.val (Value.func (Fn.yield l) (Array.mk ([]:List Value)) (Array.mk ([]:List Value)))))),.pt 0 0,(.v (.c (.lit true))),.ii i,(.v (.c (.lit true))),(.v (.c (.val (Value.func (Fn.yield l) (Array.mk ([]:List Value)) (Array.mk ([]:List Value)))))),(.ii (IntKind.wrap .i64 (bitsOp BinOp.and IntKind.u64 (Int.fdiv (limb (Ob.n (.fr k)) (0+(((IntKind.wrap .i64 (Int.tdiv i (16:Int)))).toNat*1))) ((2:Int) ^ (Min.min ((IntKind.wrap .i64 ((4:Int)*(Int.tmod i (16:Int))))).toNat 64))) (15:Int))))] [0] [(some (.fl [.ob (.fr k)]))] 416 [] []) cY aY→Wq Try.prog Q (dgY_k) ac Exit.normal aY cY.w):Wq Try.prog Q (lpIn dg_k) ac .normal aX cX.w:=
  run_at2 (o:=⟨_,_,_,_,_,_,_⟩) qeJ_ok (by kernel_rfl) (dgY_hk l k g i) ho hs hK
theorem dgZ_hk (l:Nat) (k:U4) (g:Bool) (i:Int):(run qeJ false 3000 ((⟨lpIn dg_k,.normal,dgS l k g i⟩:Cfg)) [true,false,true]).cfg.k=dgY_k:=by kernel_rfl
theorem dgZ (l:Nat) (k:U4) (g:Bool) (i:Int) (ho:AllP [((decide (i ≥ (0:Int)))=true),((16:Int)≠(0:Int)),((0:Int)≤(IntKind.wrap .i64 (Int.tdiv i (16:Int)))),((IntKind.wrap .i64 (Int.tdiv i (16:Int)))<(4:Int)),((0+(((IntKind.wrap .i64 (Int.tdiv i (16:Int)))).toNat*1))<(Ob.k (.fr k))),((16:Int)≠(0:Int)),((0:Int)≤(IntKind.wrap .i64 ((4:Int)*(Int.tmod i (16:Int))))),(g=false),((decide ((IntKind.wrap .i64 (bitsOp BinOp.and IntKind.u64 (Int.fdiv (limb (Ob.n (.fr k)) (0+(((IntKind.wrap .i64 (Int.tdiv i (16:Int)))).toNat*1))) ((2:Int) ^ (Min.min ((IntKind.wrap .i64 ((4:Int)*(Int.tmod i (16:Int))))).toNat 64))) (15:Int))) > (0:Int)))=true)]) (hs:Sim w0 F0 K ac (dgS l k g i) cX aX) (hK:∀ac cY aY,Sim w0 F0 K ac (mkSt 32 [0,1,3,4,26,27,28] [(.v (.c (.val (Value.func (Fn.yield l) (Array.mk ([]:List Value)) (Array.mk ([]:List Value)))))),.pt 0 0,(.v (.c (.bool (decide ((IntKind.wrap .i64 (bitsOp BinOp.and IntKind.u64 (Int.fdiv (limb (Ob.n (.fr k)) (0+(((IntKind.wrap .i64 (Int.tdiv i (16:Int)))).toNat*1))) ((2:Int) ^ (Min.min ((IntKind.wrap .i64 ((4:Int)*(Int.tmod i (16:Int))))).toNat 64))) (15:Int))) > (0:Int)))))),.ii i,(.v (.c (.lit true))),(.v (.c (.val (Value.func (Fn.yield l) (Array.mk ([]:List Value)) (Array.mk ([]:List Value)))))),(.ii (IntKind.wrap .i64 (bitsOp BinOp.and IntKind.u64 (Int.fdiv (limb (Ob.n (.fr k)) (0+(((IntKind.wrap .i64 (Int.tdiv i (16:Int)))).toNat*1))) ((2:Int) ^ (Min.min ((IntKind.wrap .i64 ((4:Int)*(Int.tmod i (16:Int))))).toNat 64))) (15:Int))))] [0] [(some (.fl [.ob (.fr k)]))] 416 [] []) cY aY→Wq Try.prog Q (dgY_k) ac Exit.normal aY cY.w):Wq Try.prog Q (lpIn dg_k) ac .normal aX cX.w:=
  run_at2 (o:=⟨_,_,_,_,_,_,_⟩) qeJ_ok (by kernel_rfl) (dgZ_hk l k g i) ho hs hK
theorem dgN_hk (l:Nat) (k:U4) (g:Bool) (i:Int):(run qeJ false 3000 ((⟨lpIn dg_k,.normal,dgS l k g i⟩:Cfg)) [true,false,false]).cfg.k=lpBk dg_k:=by kernel_rfl
theorem dgN (l:Nat) (k:U4) (g:Bool) (i:Int) (ho:AllP [((decide (i ≥ (0:Int)))=true),((16:Int)≠(0:Int)),((0:Int)≤(IntKind.wrap .i64 (Int.tdiv i (16:Int)))),((IntKind.wrap .i64 (Int.tdiv i (16:Int)))<(4:Int)),((0+(((IntKind.wrap .i64 (Int.tdiv i (16:Int)))).toNat*1))<(Ob.k (.fr k))),((16:Int)≠(0:Int)),((0:Int)≤(IntKind.wrap .i64 ((4:Int)*(Int.tmod i (16:Int))))),(g=false),((decide ((IntKind.wrap .i64 (bitsOp BinOp.and IntKind.u64 (Int.fdiv (limb (Ob.n (.fr k)) (0+(((IntKind.wrap .i64 (Int.tdiv i (16:Int)))).toNat*1))) ((2:Int) ^ (Min.min ((IntKind.wrap .i64 ((4:Int)*(Int.tmod i (16:Int))))).toNat 64))) (15:Int))) > (0:Int)))=false)]) (hs:Sim w0 F0 K ac (dgS l k g i) cX aX) (hK:∀ac cY aY,Sim w0 F0 K ac (mkSt 32 [0,1,3,4] [(.v (.c (.val (Value.func (Fn.yield l) (Array.mk ([]:List Value)) (Array.mk ([]:List Value)))))),.pt 0 0,(.v (.c (.bool (decide ((IntKind.wrap .i64 (bitsOp BinOp.and IntKind.u64 (Int.fdiv (limb (Ob.n (.fr k)) (0+(((IntKind.wrap .i64 (Int.tdiv i (16:Int)))).toNat*1))) ((2:Int) ^ (Min.min ((IntKind.wrap .i64 ((4:Int)*(Int.tmod i (16:Int))))).toNat 64))) (15:Int))) > (0:Int)))))),(.ii (IntKind.wrap .i64 (i-(1:Int))))] [0] [(some (.fl [.ob (.fr k)]))] 512 [] []) cY aY→Wq Try.prog Q (lpBk dg_k) ac Exit.normal aY cY.w):Wq Try.prog Q (lpIn dg_k) ac .normal aX cX.w:=
  run_at2 (o:=⟨_,_,_,_,_,_,_⟩) qeJ_ok (by kernel_rfl) (dgN_hk l k g i) ho hs hK
theorem dgX_hk (l:Nat) (k:U4) (g:Bool) (i:Int):(run qeJ false 3000 ((⟨lpIn dg_k,.normal,dgS l k g i⟩:Cfg)) [false]).cfg.k=[]:=by kernel_rfl
theorem dgX (l:Nat) (k:U4) (g:Bool) (i:Int) (ho:AllP [((decide (i ≥ (0:Int)))=false)]) (hs:Sim w0 F0 K ac (dgS l k g i) cX aX) (hK:∀ac cY aY,Sim w0 F0 K ac (mkSt 32 [] [] [0] [(some (.fl [.ob (.fr k)]))] 80 [] []) cY aY→Wq Try.prog Q ([]) ac Exit.normal aY cY.w):Wq Try.prog Q (lpIn dg_k) ac .normal aX cX.w:=
  run_at2 (o:=⟨_,_,_,_,_,_,_⟩) qeJ_ok (by kernel_rfl) (dgX_hk l k g i) ho hs hK
theorem dgB_hk (l:Nat) (k:U4) (i d:Int):(run qeJ false 3000 ((⟨opsNext dgY_k,.normal,⟨setT (look .top [0,1,3,4,26,27,28] [(.v (.c (.val (.func (.yield l) #[] #[])))),(.v (.c (.ptr 0 0))),(.v (.c (.bool true))),(.v (.c (.int .i64 i))),(.v (.c (.lit true))),(.v (.c (.val (.func (.yield l) #[] #[])))),(.v (.c (.int .i64 d)))]) 29 (.v (.c (.lit true))),one (.fl [.ob (.fr k)]),32,400,[]⟩⟩:Cfg)) []).cfg.k=lpBk dg_k:=by kernel_rfl
theorem dgB (l:Nat) (k:U4) (i d:Int) (ho:AllP []) (hs:Sim w0 F0 K ac (⟨setT (look .top [0,1,3,4,26,27,28] [(.v (.c (.val (.func (.yield l) #[] #[])))),.pt 0 0,(.v (.c (.bool true))),.ii i,(.v (.c (.lit true))),(.v (.c (.val (.func (.yield l) #[] #[])))),.ii d]) 29 (.v (.c (.lit true))),one (.fl [.ob (.fr k)]),32,400,[]⟩) cX aX) (hK:∀ac cY aY,Sim w0 F0 K ac (mkSt 32 [0,1,3,4] [(.v (.c (.val (Value.func (Fn.yield l) (Array.mk ([]:List Value)) (Array.mk ([]:List Value)))))),.pt 0 0,(.v (.c (.bool true))),(.ii (IntKind.wrap .i64 (i-(1:Int))))] [0] [(some (.fl [.ob (.fr k)]))] 480 [] []) cY aY→Wq Try.prog Q (lpBk dg_k) ac Exit.normal aY cY.w):Wq Try.prog Q (opsNext dgY_k) ac .normal aX cX.w:=
  run_at2 (o:=⟨_,_,_,_,_,_,_⟩) qeJ_ok (by kernel_rfl) (dgB_hk l k i d) ho hs hK
end
end Go.Proofs.Ytdeohachoeopdaa

/- Digits handed on: contract. No conditions. -/
namespace Go.Proofs.Ytdeohachoeopdaa

def dgEnc (d:Nat):List Value:=[.int .i64 (d:Int)]
def dgVals (d:Nat):List SV:=[.v (.c (.int .i64 (d:Int)))]

theorem digits_iter {x:Ctx} {p:Nat} {k:U4} {M:List Nat→Nat→Option En} (hM:∀s,M s p=some (.fl [.ob (.fr k)])) :
    IterC Try.prog x 73 [(p,0)] dgEnc (dgT k.val 64) M:=by
  intro l J W hgrow hread hyield hJ
  have key:Wq Try.prog (bodyPost Try.prog Try.f73 fun e' W' => (∃v,e' = Ending.returned v)∧J (dgT k.val 64) W') [.code (bodyOf Try.f73)] [] .normal { tmps:=[Value.func (.yield l) #[] #[],.pointer (some ⟨x.β p,0,none⟩)].toArray++Array.replicate 30 undef,defers:=[] } W:=?_
  · exact calls_of_wp (c:=bodyOf Try.f73) Try.func73 rfl ((wpIn_wide (n:=0)).1 key.wp)
  obtain ⟨y,rfl,hm,hcp⟩:=hread [] W hJ
  obtain ⟨hr,hβ⟩:=hcp (p,0) List.mem_cons_self
  have hr:y.k p = .real:=hr
  have hβ:y.β p=x.β p:=hβ
  have hargs:denSs (itCtx y p) [.v (.c (.val (.func (.yield l) #[] #[]))),.v (.c (.ptr 0 0))] [.func (.yield l) #[] #[],.pointer (some ⟨x.β p,0,none⟩)]:=
    .cons ⟨rfl,0,rfl,rfl⟩ (.cons ⟨rfl,0,rfl,by show _=[Value.pointer (some ⟨y.β p,0,none⟩)];rw[hβ]⟩ .nil)
  have hpure:∀y:Ctx,∀(cs:Array Value) ty,y.w.heap[y.β p]? = some (.cells cs ty (0,0))→denEn y (.fl [.ob (.fr k)]) cs.toList→denEn (itCtx y p) (.fl [.ob (.fr k)]) cs.toList:=fun y cs ty _ h=>pure_En rfl h
  have hs:=it_sim (nx:=16) (nt:=32) (a:={ tmps:=[Value.func (.yield l) #[] #[],.pointer (some ⟨x.β p,0,none⟩)].toArray++Array.replicate 30 undef,defers:=[] }) hm (hM []) hr (hpure y) rfl (by simp) (argT_den hargs 30)
  change Wq Try.prog _ _ _ _ _ (itCtx y p).w
  refine dg l k trivial hs fun ac cY aY hs1=>?_
  have hmb:Mem (itCtx y p) (one (.fl [.ob (.fr k)])):=it_mem hm (hM _) hr (hpure y)
  have hs2:=hs1.slots (svs' := [.v (.c (.val (.func (.yield l) #[] #[]))),.v (.c (.ptr 0 0)),.v (.c (.bool false)),.v (.c (.int .i64 63))]) ⟨fun _ h=>h,fun _ h=>h,fun _ h=>lit_bool rfl h,fun _ h=>h,trivial⟩
  let I:{ t:Nat // t≤64 } → List Act→Act→World→Prop:=fun t ac a w=>∃y z,z.w=w∧y.k p = .real∧y.β p=x.β p∧Mem y (M (dgT k.val t.1))∧J (dgT k.val t.1) y.w∧Mem (itCtx y p) (one (.fl [.ob (.fr k)]))∧Sim y.w y.F (kPin (itCtx y p)) ac (dgS l k (!(dgT k.val t.1).isEmpty) ((63:Int)-(t.1:Int))) z a
  refine loop_inv I (fun t=>64-t) (c:=lpC dg_k) (k:=lpR dg_k) (by kernel_rfl) (fun t ih ac b w hI=>?_) ⟨0,Nat.zero_le _⟩ ⟨y,cY,rfl,hr,hβ,hm,hJ,hmb,hs2.nx _⟩
  obtain ⟨t,ht⟩:=t
  obtain ⟨y,z,rfl,hr,hβ,hm,hJ,hmb,hs⟩:=hI
  simp only at hm hJ hs ih
  by_cases h:t<64
  · obtain ⟨i,hi⟩:∃i:Nat,i=63-t:=⟨_,rfl⟩
    have ei:(63:Int)-(t:Int)=(i:Int):=by omega
    have hi64:i<64:=by omega
    rw[ei] at hs
    have hdig:=dig_expr k hi64
    have hpl:=dig_place hi64
    have ho1:decide ((i:Int) ≥ 0)=true:=decide_eq_true (by omega)
    have ho2:(0:Int)≤IntKind.wrap IntKind.i64 (Int.tdiv (i:Int) 16):=by rw[hpl];omega
    have ho3:IntKind.wrap IntKind.i64 (Int.tdiv (i:Int) 16)<4:=by rw[hpl];omega
    have ho4:0+(IntKind.wrap IntKind.i64 (Int.tdiv (i:Int) 16)).toNat*1<Ob.k (Ob.fr k):=by rw[hpl];show _<4;omega
    have ho5:=dig_shift i
    have e4:IntKind.wrap IntKind.i64 ((i:Int)-1)=(63:Int)-((t+1:Nat):Int):=by rw[wrap_id (by omega) (by omega)];omega
    obtain ⟨d,hd⟩:∃d,k.val / 16 ^ i % 16=d:=⟨_,rfl⟩
    rw[hd] at hdig
    have hd' : k.val / 16 ^ (63-t) % 16=d:=by rw[←hi];exact hd
    -- what is handed on
    have give:∀(ac:List Act) (cU:Ctx) (aU:Act),dgT k.val (t+1)=dgT k.val t++[d]→Sim y.w y.F (kPin (itCtx y p)) ac (mkSt 32 [0,1,3,4,26,27,28] [.v (.c (.val (.func (.yield l) #[] #[]))),.v (.c (.ptr 0 0)),.v (.c (.bool true)),.v (.c (.int .i64 (i:Int))),.v (.c (.lit true)),.v (.c (.val (.func (.yield l) #[] #[]))),.v (.c (.int .i64 (d:Int)))] [0] [some (.fl [.ob (.fr k)])] 416 [] []) cU aU →
        Wq Try.prog (bodyPost Try.prog Try.f73 fun e' W' => (∃v,e' = Ending.returned v)∧J (dgT k.val 64) W') dgY_k ac .normal aU cU.w:=by
      intro ac cU aU e3 hs6
      obtain ⟨hg,hk2,hβ2⟩:=it_back hmb rfl hs6 rfl
      have hJ2:=hgrow _ _ _ hJ hg
      obtain ⟨r,hr1⟩:=dgT_pre k.val (m:=64) (t:=t+1) h
      refine yield_at (R:=fun W' => J (dgT k.val (t+1)) W') (dst:=some 29) (f:=.tmp 27) (args:=[.tmp 28]) (by kernel_rfl) hs6 (l:=l) rfl (vs:=dgEnc d) ?_ ?_ fun W' hJ3=>?_
      · have h21:=D_int (hs6.t 28)
        show [aU.tmps.getD 28 undef]=_
        rw[h21]
        rfl
      · have:=hyield (dgT k.val t) d _ hJ2 ⟨r,by rw[hr1,e3,List.append_assoc];rfl⟩
        rw[←e3] at this
        exact this
      · obtain ⟨y3,rfl,hm3,hc3⟩:=hread _ _ hJ3
        obtain ⟨hr3,hβ3⟩:=hc3 (p,0) List.mem_cons_self
        have hr3:y3.k p = .real:=hr3
        have hβ3:y3.β p=x.β p:=hβ3
        have hmb3:Mem (itCtx y3 p) (one (.fl [.ob (.fr k)])):=it_mem hm3 (hM _) hr3 (hpure y3)
        have hs7:=it_again (nx' := 400) (dst:=29) (b:=true) hs6 (by kernel_rfl) rfl hm3 (hM _) hr3 (hpure y3) (by rw[hβ2,hβ];exact hβ3.symm) (by decide)
        change Wq Try.prog _ _ _ _ _ (itCtx y3 p).w
        refine dgB l k _ _ trivial hs7 fun ac cT aT hs8=>?_
        rw[e4] at hs8
        have hne:(!(dgT k.val (t+1)).isEmpty)=true:=by rw[e3];simp
        refine ih ⟨t+1,by omega⟩ (by show 64-(t+1)<64-t;omega) ac aT _ ⟨y3,cT,rfl,hr3,hβ3,hm3,hJ3,hmb3,?_⟩
        show Sim _ _ _ _ (dgS l k (!(dgT k.val (t+1)).isEmpty) _) _ _
        rw[hne]
        exact hs8.nx _
    by_cases hg:(dgT k.val t).isEmpty=true
    · rw[hg] at hs
      by_cases hz:d=0
      · have e3:dgT k.val (t+1)=[]:=dgT_stay hg (by rw[hd',hz])
        refine dgN l k _ _ ⟨ho1,by decide,ho2,ho3,ho4,by decide,ho5,rfl,by rw[hdig,hz];rfl,trivial⟩ hs fun ac cT aT hs8=>?_
        rw[e4,hdig,hz] at hs8
        have e5:dgT k.val (t+1)=dgT k.val t:=by rw[e3,List.isEmpty_iff.1 hg]
        refine ih ⟨t+1,by omega⟩ (by show 64-(t+1)<64-t;omega) ac aT _ ⟨y,cT,rfl,hr,hβ,?_,?_,hmb,?_⟩
        · show Mem y (M (dgT k.val (t+1)))
          rw[e5];exact hm
        · show J (dgT k.val (t+1)) y.w
          rw[e5];exact hJ
        · show Sim _ _ _ _ (dgS l k (!(dgT k.val (t+1)).isEmpty) _) _ _
          rw[e3]
          exact hs8.nx _
      · have e3:dgT k.val (t+1)=dgT k.val t++[d]:=by
          rw[←hd']
          exact dgT_go fun hc=>hz (by rw[←hd'];exact hc.2)
        have hp0:decide ((d:Int) > 0)=true:=decide_eq_true (by omega)
        refine dgZ l k _ _ ⟨ho1,by decide,ho2,ho3,ho4,by decide,ho5,rfl,by rw[hdig];exact hp0,trivial⟩ hs fun ac cU aU hs6=>?_
        rw[hdig,hp0] at hs6
        exact give ac cU aU e3 (hs6.nx _)
    · have hg:(dgT k.val t).isEmpty=false:=Bool.eq_false_iff.2 hg
      rw[hg] at hs
      have e3:dgT k.val (t+1)=dgT k.val t++[d]:=by
        rw[←hd']
        exact dgT_go fun hc=>by rw[hg] at hc;exact absurd hc.1 (by decide)
      refine dgY l k _ _ ⟨ho1,by decide,ho2,ho3,ho4,by decide,ho5,rfl,trivial⟩ hs fun ac cU aU hs6=>?_
      rw[hdig] at hs6
      have hs6' := hs6.slots (svs' := [.v (.c (.val (.func (.yield l) #[] #[]))),.v (.c (.ptr 0 0)),.v (.c (.bool true)),.v (.c (.int .i64 (i:Int))),.v (.c (.lit true)),.v (.c (.val (.func (.yield l) #[] #[]))),.v (.c (.int .i64 (d:Int)))])
        ⟨fun _ h=>h,fun _ h=>h,fun _ h=>lit_bool rfl h,fun _ h=>h,fun _ h=>h,fun _ h=>h,fun _ h=>h,trivial⟩
      exact give ac cU aU e3 (hs6'.nx _)
  · have e5:t=64:=by omega
    subst e5
    refine dgX l k _ _ ⟨by decide,trivial⟩ hs fun ac cV aV hs4=>?_
    obtain ⟨hg,_,_⟩:=it_back hmb rfl hs4 rfl
    exact ⟨it_end qeJ_ok hs4 rfl rfl rfl (fun v=>⟨⟨v,rfl⟩,hgrow _ _ _ hJ hg⟩) (.inr rfl)⟩

end Go.Proofs.Ytdeohachoeopdaa

/- Signed digits of a number, walked. No conditions. -/
namespace Go.Proofs.Ytdeohachoeopdaa
section
variable {w0:World} {F0:Nat→Prop} {K:Kp} {ac:List Act} {Q:Exit→Act→World→Prop} {cX:Ctx} {aX:Act}

--@env env0 env0_ok
noncomputable def di_k:List KI:=(run env0 false 3000 ((fun (k:U4)=>(⟨[.code (bodyOf Try.f78)],.normal,initSt Try.f78.ntmps [.v (.a [.ob (.fr k)])]⟩:Cfg)) default) []).cfg.k
theorem di_hk (k:U4):(run env0 false 3000 ((⟨[.code (bodyOf Try.f78)],.normal,initSt Try.f78.ntmps [.v (.a [.ob (.fr k)])]⟩:Cfg)) []).cfg.k=di_k:=by kernel_rfl
theorem di (k:U4) (ho:AllP []) (hs:Sim w0 F0 K ac (initSt Try.f78.ntmps [.v (.a [.ob (.fr k)])]) cX aX) (hK:∀ac cY aY,Sim w0 F0 K ac (mkSt 49 [1,3,4,5] [.pt 16 0,(.v (.c (.val (Value.slice Option.none 0 0)))),.ii (0:Int),.ii (0:Int)] [16] [(some (.fl [.ob (.fr k)]))] 96 [] []) cY aY→Wq Try.prog Q (di_k) ac Exit.normal aY cY.w):Wq Try.prog Q ([.code (bodyOf Try.f78)]) ac .normal aX cX.w:=
  run_at2 (o:=⟨_,_,_,_,_,_,_⟩) env0_ok (by kernel_rfl) (di_hk k) ho hs hK
noncomputable def diS (k:U4) (L:List Int) (n:Nat) (c i:Int):St:=mkSt 49 [1,3,4,5] [.pt 16 0,.v (.c (.slc 17 0 n 1)),.v (.c (.int .i64 c)),.v (.c (.int .i64 i))] [16,17] [(some (.fl [.ob (.fr k)])),some (.sq (.int L))] 96 [] []
noncomputable def diA_k:List KI:=(run env0 false 3000 ((fun (k:U4) (L:List Int) (n:Nat) (c i:Int)=>(⟨lpIn di_k,.normal,diS k L n c i⟩:Cfg)) default default default default default) [true]).cfg.k
theorem diA_hk (k:U4) (L:List Int) (n:Nat) (c i:Int):(run env0 false 3000 ((⟨lpIn di_k,.normal,diS k L n c i⟩:Cfg)) [true]).cfg.k=diA_k:=by kernel_rfl
theorem diA (k:U4) (L:List Int) (n:Nat) (c i:Int) (ho:AllP [((decide (i<(256:Int)))=true)]) (hs:Sim w0 F0 K ac (diS k L n c i) cX aX) (hK:∀ac cY aY,Sim w0 F0 K ac (mkSt 49 [1,3,5,6,18] [.pt 16 0,(.v (.c (.slc 17 0 n 1))),.ii i,.ii c,.ii (0:Int)] [16,17] [(some (.fl [.ob (.fr k)])),(some (.sq (.int L)))] 240 [] []) cY aY→Wq Try.prog Q (diA_k) ac Exit.normal aY cY.w):Wq Try.prog Q (lpIn di_k) ac .normal aX cX.w:=
  run_at2 (o:=⟨_,_,_,_,_,_,_⟩) env0_ok (by kernel_rfl) (diA_hk k L n c i) ho hs hK
noncomputable def diI (k:U4) (L:List Int) (n:Nat) (i d j:Int):St:=mkSt 49 [1,3,5,6,18] [.pt 16 0,(.v (.c (.slc 17 0 n 1))),.ii i,.v (.c (.int .i64 d)),.v (.c (.int .i64 j))] [16,17] [(some (.fl [.ob (.fr k)])),(some (.sq (.int L)))] 240 [] []
theorem diB_hk (k:U4) (L:List Int) (n:Nat) (i d j:Int):(run env0 false 3000 ((⟨lpIn diA_k,.normal,diI k L n i d j⟩:Cfg)) [true,true]).cfg.k=lpBk diA_k:=by kernel_rfl
theorem diB (k:U4) (L:List Int) (n:Nat) (i d j:Int) (ho:AllP [((decide (j<(5:Int)))=true),((decide ((IntKind.wrap .i64 (i+j))<(256:Int)))=true),((64:Int)≠(0:Int)),((0:Int)≤(IntKind.wrap .i64 (Int.tdiv (IntKind.wrap .i64 (i+j)) (64:Int)))),((IntKind.wrap .i64 (Int.tdiv (IntKind.wrap .i64 (i+j)) (64:Int)))<(4:Int)),((0+(((IntKind.wrap .i64 (Int.tdiv (IntKind.wrap .i64 (i+j)) (64:Int)))).toNat*1))<(Ob.k (.fr k))),((64:Int)≠(0:Int)),((0:Int)≤(Int.tmod (IntKind.wrap .i64 (i+j)) (64:Int))),((0:Int)≤j)]) (hs:Sim w0 F0 K ac (diI k L n i d j) cX aX) (hK:∀ac cY aY,Sim w0 F0 K ac (mkSt 49 [1,3,5,6,18] [.pt 16 0,(.v (.c (.slc 17 0 n 1))),.ii i,(.ii (IntKind.wrap .i64 (d+(IntKind.wrap .i64 ((IntKind.wrap .i64 (bitsOp BinOp.and IntKind.u64 (Int.fdiv (limb (Ob.n (.fr k)) (0+(((IntKind.wrap .i64 (Int.tdiv (IntKind.wrap .i64 (i+j)) (64:Int)))).toNat*1))) ((2:Int) ^ (Min.min ((Int.tmod (IntKind.wrap .i64 (i+j)) (64:Int))).toNat 64))) (1:Int)))*((2:Int) ^ (Min.min (j).toNat 64))))))),(.ii (IntKind.wrap .i64 (j+(1:Int))))] [16,17] [(some (.fl [.ob (.fr k)])),(some (.sq (.int L)))] 640 [] []) cY aY→Wq Try.prog Q (lpBk diA_k) ac Exit.normal aY cY.w):Wq Try.prog Q (lpIn diA_k) ac .normal aX cX.w:=
  run_at2 (o:=⟨_,_,_,_,_,_,_⟩) env0_ok (by kernel_rfl) (diB_hk k L n i d j) ho hs hK
theorem diC_hk (k:U4) (L:List Int) (n:Nat) (i d j:Int):(run env0 false 3000 ((⟨lpIn diA_k,.normal,diI k L n i d j⟩:Cfg)) [true,false]).cfg.k=lpBk diA_k:=by kernel_rfl
theorem diC (k:U4) (L:List Int) (n:Nat) (i d j:Int) (ho:AllP [((decide (j<(5:Int)))=true),((decide ((IntKind.wrap .i64 (i+j))<(256:Int)))=false)]) (hs:Sim w0 F0 K ac (diI k L n i d j) cX aX) (hK:∀ac cY aY,Sim w0 F0 K ac (mkSt 49 [1,3,5,6,18] [.pt 16 0,(.v (.c (.slc 17 0 n 1))),.ii i,.ii d,(.ii (IntKind.wrap .i64 (j+(1:Int))))] [16,17] [(some (.fl [.ob (.fr k)])),(some (.sq (.int L)))] 416 [] []) cY aY→Wq Try.prog Q (lpBk diA_k) ac Exit.normal aY cY.w):Wq Try.prog Q (lpIn diA_k) ac .normal aX cX.w:=
  run_at2 (o:=⟨_,_,_,_,_,_,_⟩) env0_ok (by kernel_rfl) (diC_hk k L n i d j) ho hs hK
theorem diD_hk (k:U4) (L:List Int) (n:Nat) (i d j:Int):(run env0 false 3000 ((⟨lpIn diA_k,.normal,diI k L n i d j⟩:Cfg)) [false,true]).cfg.k=lpBk di_k:=by kernel_rfl
theorem diD (k:U4) (L:List Int) (n:Nat) (i d j:Int) (ho:AllP [((decide (j<(5:Int)))=false),((decide (d > (16:Int)))=true),((((List.length L)+1)*8)≤140737488355328),(((List.length L)+1)≤maxLen),(n=(List.length L)),(1=1)]) (hs:Sim w0 F0 K ac (diI k L n i d j) cX aX) (hK:∀ac cY aY,Sim w0 F0 K ac (mkSt 49 [1,3,4,5] [.pt 16 0,(.v (.c (.slc 17 0 ((List.length L)+1) 1))),.ii (1:Int),(.ii (IntKind.wrap .i64 (i+(5:Int))))] [16,17] [(some (.fl [.ob (.fr k)])),(some (.sq (.int (L++[(IntKind.wrap .i64 (d-(32:Int)))]))))] 496 [] []) cY aY→Wq Try.prog Q (lpBk di_k) ac Exit.normal aY cY.w):Wq Try.prog Q (lpIn diA_k) ac .normal aX cX.w:=
  run_at2 (o:=⟨_,_,_,_,_,_,_⟩) env0_ok (by kernel_rfl) (diD_hk k L n i d j) ho hs hK
theorem diE_hk (k:U4) (L:List Int) (n:Nat) (i d j:Int):(run env0 false 3000 ((⟨lpIn diA_k,.normal,diI k L n i d j⟩:Cfg)) [false,false]).cfg.k=lpBk di_k:=by kernel_rfl
theorem diE (k:U4) (L:List Int) (n:Nat) (i d j:Int) (ho:AllP [((decide (j<(5:Int)))=false),((decide (d > (16:Int)))=false),((((List.length L)+1)*8)≤140737488355328),(((List.length L)+1)≤maxLen),(n=(List.length L)),(1=1)]) (hs:Sim w0 F0 K ac (diI k L n i d j) cX aX) (hK:∀ac cY aY,Sim w0 F0 K ac (mkSt 49 [1,3,4,5] [.pt 16 0,(.v (.c (.slc 17 0 ((List.length L)+1) 1))),.ii (0:Int),(.ii (IntKind.wrap .i64 (i+(5:Int))))] [16,17] [(some (.fl [.ob (.fr k)])),(some (.sq (.int (L++[d]))))] 432 [] []) cY aY→Wq Try.prog Q (lpBk di_k) ac Exit.normal aY cY.w):Wq Try.prog Q (lpIn diA_k) ac .normal aX cX.w:=
  run_at2 (o:=⟨_,_,_,_,_,_,_⟩) env0_ok (by kernel_rfl) (diE_hk k L n i d j) ho hs hK
theorem diX_end (k:U4) (L:List Int) (n:Nat) (c i:Int):runEnd env0 Try.f78 false 3000 (⟨lpIn di_k,.normal,diS k L n c i⟩) [false,false] [] [17]=(some ([((decide (i<(256:Int)))=false),((decide (c > (0:Int)))=false),(n=(List.length L))],((.v (.c (.sl (.int L)))),[]))):=by kernel_rfl
end
end Go.Proofs.Ytdeohachoeopdaa

/- Signed digits of a number: contract. No conditions. -/
namespace Go.Proofs.Ytdeohachoeopdaa

/-- One bit, as it is reckoned. -/
theorem bit1_expr (k:U4) {m j:Nat} (h:m+j<256) (hj:j<5):IntKind.wrap IntKind.i64 ((IntKind.wrap IntKind.i64 (bitsOp BinOp.and IntKind.u64 (Int.fdiv (limb (Ob.n (Ob.fr k)) (0+(((IntKind.wrap IntKind.i64 (Int.tdiv (IntKind.wrap IntKind.i64 ((m:Int)+(j:Int))) (64:Int)))).toNat*1))) ((2:Int) ^ (Min.min ((Int.tmod (IntKind.wrap IntKind.i64 ((m:Int)+(j:Int))) (64:Int))).toNat 64))) (1:Int)))*((2:Int) ^ (Min.min ((j:Int)).toNat 64)))=((k.val / 2 ^ (m+j) % 2*2 ^ j:Nat):Int):=by
  rw[wrap_id (n:=(m:Int)+(j:Int)) (by omega) (by omega),←Int.natCast_add]
  generalize hi:m+j=i at *
  have e1:Int.tdiv (i:Int) (64:Int)=((i / 64:Nat):Int):=Int.tdiv_eq_ediv_of_nonneg (by omega)
  have e2:Int.tmod (i:Int) (64:Int)=((i % 64:Nat):Int):=Int.tmod_eq_emod_of_nonneg (by omega)
  rw[e1,e2,wrap_id (n:=((i / 64:Nat):Int)) (by omega) (by omega),Int.toNat_natCast,Int.toNat_natCast,Int.toNat_natCast]
  have e3:Min.min (i % 64) 64=i % 64:=by omega
  have e4:0+i / 64*1=i / 64:=by omega
  have e5:Min.min j 64=j:=by omega
  rw[e3,e4,e5]
  have hl:limb (Ob.n (Ob.fr k)) (i / 64)=((k.val / 2 ^ (64*(i / 64)) % 18446744073709551616:Nat):Int):=rfl
  rw[hl]
  have hb:k.val / 2 ^ (64*(i / 64)) % 18446744073709551616 / 2 ^ (i % 64) % 2=k.val / 2 ^ i % 2:=by
    have h64:18446744073709551616=2 ^ (i % 64)*(2*2 ^ (63-i % 64)):=by
      rw[←Nat.pow_succ',←Nat.pow_add,show i % 64+(63-i % 64+1)=64 from by omega]
    rw[h64,Nat.mod_mul_right_div_self,Nat.mod_mul_right_mod,Nat.div_div_eq_div_mul,←Nat.pow_add,show 64*(i / 64)+i % 64=i from Nat.div_add_mod i 64]
  rw[←hb]
  have hlt:k.val / 2 ^ (64*(i / 64)) % 18446744073709551616<18446744073709551616:=Nat.mod_lt _ (by decide)
  generalize k.val / 2 ^ (64*(i / 64)) % 18446744073709551616=w at *
  have hp:((2:Int) ^ (i % 64))=((2 ^ (i % 64):Nat):Int):=by simp
  have hp2:((2:Int) ^ j)=((2 ^ j:Nat):Int):=by simp
  rw[hp,hp2,Int.fdiv_eq_ediv_of_nonneg _ (Int.natCast_nonneg _),←Int.natCast_ediv]
  generalize w / 2 ^ (i % 64)=v
  have ha:bitsOp BinOp.and IntKind.u64 (v:Int) (1:Int)=((v % 2:Nat):Int):=by
    show IntKind.wrap IntKind.u64 ((BitVec.ofInt 64 (v:Int) &&& BitVec.ofInt 64 ((1:Nat):Int)).toNat:Int)=_
    rw[BitVec.ofInt_natCast,BitVec.ofInt_natCast,BitVec.toNat_and,BitVec.toNat_ofNat,BitVec.toNat_ofNat]
    have e:1 % 2 ^ 64=2 ^ 1-1:=by decide
    rw[e,Nat.and_two_pow_sub_one_eq_mod]
    show (((v % 2 ^ 64 % 2 ^ 1:Nat):Int)) % 18446744073709551616=_
    omega
  have h32:2 ^ j≤2 ^ 4:=Nat.pow_le_pow_right (by decide) (by omega)
  have h2:v % 2<2:=Nat.mod_lt _ (by decide)
  have hm:v % 2*2 ^ j≤1*2 ^ 4:=Nat.mul_le_mul (by omega) h32
  rw[ha,wrap_id (n:=((v % 2:Nat):Int)) (by omega) (by omega),←Int.natCast_mul,wrap_id (by omega) (by omega)]

theorem win_step (k m j:Nat):k / 2 ^ m % 2 ^ (j+1)=k / 2 ^ m % 2 ^ j+k / 2 ^ (m+j) % 2*2 ^ j:=by
  rw[Nat.pow_succ,Nat.mod_mul,Nat.div_div_eq_div_mul,←Nat.pow_add,Nat.mul_comm (2 ^ j)]
theorem win_32 (k m:Nat):k / 2 ^ (5*m) % 2 ^ 5=k / 32 ^ m % 32:=by
  rw[Nat.pow_mul]
theorem u4_lt (k:U4):k.val<2 ^ 256:=by
  have h:B4=2 ^ 256:=by decide +kernel
  rw[←h]
  exact k.isLt

theorem digits_fnd (k:U4) {N:Nat} (hN:N=52):FnD Try.prog 78 [.v (.a [.ob (.fr k)])] (.v (.c (.sl (.int (dgW k.val N).1)))) []:=by
  refine fn_start (fn:=Try.f78) (c:=bodyOf Try.f78) Try.func78 rfl rfl fun x0 a0 hk hF hs=>?_
  refine di k trivial hs fun ac cY aY hs1=>?_
  have hs2:=hs1.nilRow (p:=17) (q:=.int []) rfl (by decide) rfl (ml' := [16,17]) (ens' := [some (.fl [.ob (.fr k)]),some (.sq (.int []))]) (fun r=>fl_look (by decide)) (svs' := [.v (.c (.ptr 16 0)),.v (.c (.slc 17 0 0 1)),.v (.c (.int .i64 0)),.v (.c (.int .i64 0))]) ⟨.inl rfl,.inr ⟨1,rfl,rfl⟩,.inl rfl,.inl rfl,trivial⟩
  change Wq Try.prog _ _ _ _ _ (nilCtx cY 17).w
  refine loop_rule (ι:={ m:Nat // m≤N }) (fun m=>diS k (dgW k.val m.1).1 m.1 ((dgW k.val m.1).2:Int) ((5*m.1:Nat):Int)) (fun m=>N-m.1) (c:=lpC di_k) (k:=lpR di_k) (by kernel_rfl) (fun m ih ac cY aY hs=>?_) ⟨0,Nat.zero_le _⟩ (hs2.nx _)
  obtain ⟨m,hm⟩:=m
  simp only at ih hs
  have hc:=dgW_carry k.val m
  have hl:=dgW_len k.val m
  by_cases h:m<N
  · refine diA k _ m _ _ ⟨decide_eq_true (by omega),trivial⟩ hs fun ac cZ aZ hs3=>?_
    have e0:(((dgW k.val m).2:Nat):Int)=(((dgW k.val m).2+k.val / 2 ^ (5*m) % 2 ^ 0:Nat):Int):=by rw[Nat.pow_zero,Nat.mod_one,Nat.add_zero]
    rw[e0] at hs3
    refine loop_rule (ι:={ j:Nat // j≤5 }) (fun j=>diI k (dgW k.val m).1 m ((5*m:Nat):Int) (((dgW k.val m).2+k.val / 2 ^ (5*m) % 2 ^ j.1:Nat):Int) (j.1:Int)) (fun j=>5-j.1) (c:=lpC diA_k) (k:=lpR diA_k) (by kernel_rfl) (fun j ih2 ac cY aY hs=>?_) ⟨0,Nat.zero_le _⟩ (hs3.nx _)
    obtain ⟨j,hj⟩:=j
    simp only at ih2 hs
    have hpj:k.val / 2 ^ (5*m) % 2 ^ j<2 ^ j:=Nat.mod_lt _ (Nat.two_pow_pos _)
    have hj5:2 ^ j≤2 ^ 5:=Nat.pow_le_pow_right (by decide) hj
    by_cases hj2:j<5
    · have ej:IntKind.wrap IntKind.i64 ((j:Int)+1)=((j+1:Nat):Int):=by rw[wrap_id (by omega) (by omega)];rfl
      have hsum:=win_step k.val (5*m) j
      by_cases hb:5*m+j<256
      · have eb:=bit1_expr k hb hj2
        have hw:IntKind.wrap IntKind.i64 (((5*m:Nat):Int)+(j:Int))=((5*m+j:Nat):Int):=by rw[wrap_id (by omega) (by omega)];rfl
        have ht:Int.tdiv ((5*m+j:Nat):Int) 64=(((5*m+j) / 64:Nat):Int):=Int.tdiv_eq_ediv_of_nonneg (by omega)
        have ht2:Int.tmod ((5*m+j:Nat):Int) 64=(((5*m+j) % 64:Nat):Int):=Int.tmod_eq_emod_of_nonneg (by omega)
        have hw2:IntKind.wrap IntKind.i64 (((5*m+j) / 64:Nat):Int)=(((5*m+j) / 64:Nat):Int):=wrap_id (by omega) (by omega)
        refine diB k _ m _ _ _ ⟨decide_eq_true (by omega),by rw[hw];exact decide_eq_true (by omega),by decide,by rw[hw,ht,hw2];omega,by rw[hw,ht,hw2];omega,by rw[hw,ht,hw2,Int.toNat_natCast];show _<4;omega,by decide,by rw[hw,ht2];omega,by omega,trivial⟩ hs fun ac cU aU hs4=>?_
        rw[eb,ej] at hs4
        have hbit:k.val / 2 ^ (5*m+j) % 2*2 ^ j≤1*2 ^ 5:=Nat.mul_le_mul (by omega) hj5
        rw[wrap_id (by omega) (by omega),←Int.natCast_add,Nat.add_assoc,←hsum] at hs4
        exact ih2 ⟨j+1,hj2⟩ (by show 5-(j+1)<5-j;omega) ac cU aU (hs4.nx _)
      · have hw:IntKind.wrap IntKind.i64 (((5*m:Nat):Int)+(j:Int))=((5*m+j:Nat):Int):=by rw[wrap_id (by omega) (by omega)];rfl
        refine diC k _ m _ _ _ ⟨decide_eq_true (by omega),by rw[hw];exact decide_eq_false (by omega),trivial⟩ hs fun ac cU aU hs4=>?_
        have h0:k.val / 2 ^ (5*m+j)=0:=Nat.div_eq_of_lt (Nat.lt_of_lt_of_le (u4_lt k) (Nat.pow_le_pow_right (by decide) (by omega)))
        rw[h0,Nat.zero_mod,Nat.zero_mul,Nat.add_zero (k.val / 2 ^ (5*m) % 2 ^ j)] at hsum
        rw[ej,←hsum] at hs4
        exact ih2 ⟨j+1,hj2⟩ (by show 5-(j+1)<5-j;omega) ac cU aU (hs4.nx _)
    · have:j=5:=by omega
      subst this
      rw[win_32,Nat.add_comm] at hs
      have hw5:k.val / 32 ^ m % 32<32:=Nat.mod_lt _ (by decide)
      have e5:IntKind.wrap IntKind.i64 (((5*m:Nat):Int)+5)=((5*(m+1):Nat):Int):=by rw[wrap_id (by omega) (by omega)];omega
      have hml:(dgW k.val m).1.length≤52:=by omega
      have hmax:(dgW k.val m).1.length+1≤maxLen:=Nat.le_trans (by omega) (show 53≤maxLen by decide)
      by_cases hg:k.val / 32 ^ m % 32+(dgW k.val m).2 > 16
      · refine diD k _ m _ _ _ ⟨by decide,decide_eq_true (by omega),by omega,hmax,hl.symm,rfl,trivial⟩ hs fun ac cU aU hs4=>?_
        rw[e5,hl,wrap_id (by omega) (by omega)] at hs4
        refine ih ⟨m+1,h⟩ (by show N-(m+1)<N-m;omega) ac cU aU ?_
        show Sim _ _ _ _ (diS k (dgW k.val (m+1)).1 (m+1) ((dgW k.val (m+1)).2:Int) ((5*(m+1):Nat):Int)) _ _
        rw[dgW_big hg]
        exact hs4.nx _
      · refine diE k _ m _ _ _ ⟨by decide,decide_eq_false (by omega),by omega,hmax,hl.symm,rfl,trivial⟩ hs fun ac cU aU hs4=>?_
        rw[e5,hl] at hs4
        refine ih ⟨m+1,h⟩ (by show N-(m+1)<N-m;omega) ac cU aU ?_
        show Sim _ _ _ _ (diS k (dgW k.val (m+1)).1 (m+1) ((dgW k.val (m+1)).2:Int) ((5*(m+1):Nat):Int)) _ _
        rw[dgW_small hg]
        exact hs4.nx _
  · obtain rfl:m=N:=by omega
    have h0:=(dgW_all hN (u4_lt k)).2
    exact run_end2 env0_ok hk hF (diX_end k (dgW k.val m).1 m ((dgW k.val m).2:Int) ((5*m:Nat):Int)) ⟨decide_eq_false (by omega),by rw[h0];decide,hl.symm,trivial⟩ (fun y v hd=>hd) hs

end Go.Proofs.Ytdeohachoeopdaa

/- Elements of the greater field, inside and outside; the field; lines. No conditions. -/
namespace Go.Proofs.Ytdeohachoeopdaa

def fp1:Fp:=Fin.ofNat pN 1
def fp4:Fp:=Fin.ofNat pN 4
section
variable {r:Nat} [NeZero r]
theorem fin_of_val (n:Nat):(Fin.ofNat r n).val=n % r:=rfl
end

theorem inP_val (x:U6):(inP x).val=x.val % pN:=fin_of_val _
theorem in_out (x:Fp):inP (outP x)=x:=by
  apply Fin.ext
  rw[inP_val,outP_val]
  exact Nat.mod_eq_of_lt x.isLt
section
variable {r:Nat} [NeZero r]
theorem pw_cube (x:Fin r):∀n,pw (x*x*x) n=pw x n*pw x n*pw x n
  | 0=>by show (1:Fin r)=1*1*1;grind
  | n+1=>by
    show pw (x*x*x) n*(x*x*x)=pw x n*x*(pw x n*x)*(pw x n*x)
    rw[pw_cube x n]
    grind
theorem pw_three (x:Fin r) (n:Nat):pw (x*x*x) n=pw x (n+n+n):=by
  rw[pw_add_g,pw_add_g,pw_cube]
theorem neg_of_sum {a b:Fin r} (h:a+b=0):a=0-b:=by grind
end

theorem one_ne_p:(1:Fp)≠0:=by decide +kernel
theorem two_ne_p:(1:Fp)+1≠0:=by decide +kernel
theorem fp1_one:fp1=1:=by decide +kernel
theorem neg4:(0:Fp)-fp4=Fin.ofNat pN (pN-4):=by decide +kernel
theorem thirds:pN-1=(pN-1) / 3+(pN-1) / 3+(pN-1) / 3:=by decide +kernel
theorem neg4_val:(Fin.ofNat pN (pN-4)).val=pN-4:=by decide +kernel
theorem neg4_pow:mpow pN (pN-4) 384 ((pN-1) / 3)≠1:=by decide +kernel
theorem third_lt:(pN-1) / 3<2 ^ 384:=by decide +kernel
theorem one_val_p:((1:Fp):Nat)=1:=by decide +kernel

theorem cube_ne (c:Fp) (hc:pw c ((pN-1) / 3)≠1) (h0:c≠0) (x:Fp):x*x*x≠c:=by
  intro h
  by_cases hx:x=0
  · apply h0
    rw[←h,hx]
    exact mul_zero6
  · apply hc
    rw[←h,pw_three,←thirds]
    exact fermat_p x hx
where mul_zero6:(0:Fp)*0*0=0:=by decide +kernel

instance fldP:Fld Fp:=
  { (inferInstance:CRing (Fin pN)) with
    inv:=ivP
    mul_inv:=ivP_mul
    one_ne:=one_ne_p }

section
variable {F:Type} [Fld F]
end

end Go.Proofs.Ytdeohachoeopdaa

/- Points of the first curve: twice, negative, sums, walked. No conditions. -/
namespace Go.Proofs.Ytdeohachoeopdaa

theorem twice_fnd (x y z:Fp):FnD Try.prog 66 [.v (.a [.ob (.p x),.ob (.p y),.ob (.p z)])] (.v (.a (ptIts (jtw (x,y,z))))) []:=by
  by_cases h:z=0
  · have e:jtw (x,y,z)=(x,y,z):=if_pos h
    rw[e]
    exact fn_sound qeJ_ok Try.func66 (twA x y z) ⟨decide_eq_true h,trivial⟩
  · unfold jtw
    rw[if_neg h]
    exact fn_sound qeJ_ok Try.func66 (twB x y z) ⟨decide_eq_false h,trivial⟩
def twPSpec:FnSpec
  | [.v (.a [.ob (.p x),.ob (.p y),.ob (.p z)])]=>some ([],.v (.a (ptIts (jtw (x,y,z)))),[])
  | _=>none
noncomputable def qsA:Env:=qeJ.set (addT qeJ.fn 66 twPSpec)
theorem qsA_ok:EnvOk Try.prog qsA:=env_add qeJ_ok 66 twPSpec (enters_of Try.func66 rfl rfl) fun args o r es h _=>by
  unfold twPSpec at h
  split at h
  · cases h;exact twice_fnd _ _ _
  · cases h
def ngPSpec:FnSpec
  | [.v (.a [.ob (.p x),.ob (.p y),.ob (.p z)])]=>some ([],.v (.a (ptIts (jng (x,y,z)))),[])
  | _=>none
noncomputable def qsB:Env:=qsA.set (addT qsA.fn 82 ngPSpec)
theorem qsB_ok:EnvOk Try.prog qsB:=env_add qsA_ok 82 ngPSpec (enters_of Try.func82 rfl rfl) fun args o r es h _=>by
  unfold ngPSpec at h
  split at h
  · cases h;exact fn_sound qeJ_ok Try.func82 (ngP _ _ _) trivial
  · cases h
--@env qsB qsB_ok
theorem plA (x y z u v w:Fp):fnRes qsB Try.f37 3000 [.v (.a [.ob (.p x),.ob (.p y),.ob (.p z)]),.v (.a [.ob (.p u),.ob (.p v),.ob (.p w)])] [true] [] []=(some ([((decide (z=(0:Fp)))=true)],((.v (.a [.ob (.p u),.ob (.p v),.ob (.p w)])),[]))):=by kernel_rfl
theorem plB (x y z u v w:Fp):fnRes qsB Try.f37 3000 [.v (.a [.ob (.p x),.ob (.p y),.ob (.p z)]),.v (.a [.ob (.p u),.ob (.p v),.ob (.p w)])] [false,true] [] []=(some ([((decide (z=(0:Fp)))=false),((decide (w=(0:Fp)))=true)],((.v (.a [.ob (.p x),.ob (.p y),.ob (.p z)])),[]))):=by kernel_rfl
theorem plC (x y z u v w:Fp):fnRes qsB Try.f37 3000 [.v (.a [.ob (.p x),.ob (.p y),.ob (.p z)]),.v (.a [.ob (.p u),.ob (.p v),.ob (.p w)])] [false,false,true,true] [] []=(some ([((decide (z=(0:Fp)))=false),((decide (w=(0:Fp)))=false),((decide (((u*(z*z))-(x*(w*w)))=(0:Fp)))=true),((decide ((((v*(z*z))*z)-((y*(w*w))*w))=(0:Fp)))=true)],((.v (.a [(.ob (.p (Prod.fst (jtw (x,(y,z)))))),(.ob (.p (Prod.fst (Prod.snd (jtw (x,(y,z))))))),(.ob (.p (Prod.snd (Prod.snd (jtw (x,(y,z)))))))])),[]))):=by kernel_rfl
theorem plD (x y z u v w:Fp):fnRes qsB Try.f37 3000 [.v (.a [.ob (.p x),.ob (.p y),.ob (.p z)]),.v (.a [.ob (.p u),.ob (.p v),.ob (.p w)])] [false,false,true,false] [] []=(some ([((decide (z=(0:Fp)))=false),((decide (w=(0:Fp)))=false),((decide (((u*(z*z))-(x*(w*w)))=(0:Fp)))=true),((decide ((((v*(z*z))*z)-((y*(w*w))*w))=(0:Fp)))=false)],((.v (.a [.ob (.p x),.ob (.p y),(.ob (.p (0:Fp)))])),[]))):=by kernel_rfl
theorem plE (x y z u v w:Fp):fnRes qsB Try.f37 3000 [.v (.a [.ob (.p x),.ob (.p y),.ob (.p z)]),.v (.a [.ob (.p u),.ob (.p v),.ob (.p w)])] [false,false,false] [] []=(some ([((decide (z=(0:Fp)))=false),((decide (w=(0:Fp)))=false),((decide (((u*(z*z))-(x*(w*w)))=(0:Fp)))=false)],((.v (.a [(.ob (.p (((((((v*(z*z))*z)-((y*(w*w))*w))*(((v*(z*z))*z)-((y*(w*w))*w)))-((((u*(z*z))-(x*(w*w)))*((u*(z*z))-(x*(w*w))))*((u*(z*z))-(x*(w*w)))))-((x*(w*w))*(((u*(z*z))-(x*(w*w)))*((u*(z*z))-(x*(w*w))))))-((x*(w*w))*(((u*(z*z))-(x*(w*w)))*((u*(z*z))-(x*(w*w)))))))),(.ob (.p (((((v*(z*z))*z)-((y*(w*w))*w))*(((x*(w*w))*(((u*(z*z))-(x*(w*w)))*((u*(z*z))-(x*(w*w)))))-(((((((v*(z*z))*z)-((y*(w*w))*w))*(((v*(z*z))*z)-((y*(w*w))*w)))-((((u*(z*z))-(x*(w*w)))*((u*(z*z))-(x*(w*w))))*((u*(z*z))-(x*(w*w)))))-((x*(w*w))*(((u*(z*z))-(x*(w*w)))*((u*(z*z))-(x*(w*w))))))-((x*(w*w))*(((u*(z*z))-(x*(w*w)))*((u*(z*z))-(x*(w*w))))))))-(((y*(w*w))*w)*((((u*(z*z))-(x*(w*w)))*((u*(z*z))-(x*(w*w))))*((u*(z*z))-(x*(w*w)))))))),(.ob (.p ((((u*(z*z))-(x*(w*w)))*z)*w)))])),[]))):=by kernel_rfl
end Go.Proofs.Ytdeohachoeopdaa

/- Points of the first curve: sums, contract. No conditions. -/
namespace Go.Proofs.Ytdeohachoeopdaa

theorem plusPt_fnd (x y z u v w:Fp):FnD Try.prog 37 [.v (.a [.ob (.p x),.ob (.p y),.ob (.p z)]),.v (.a [.ob (.p u),.ob (.p v),.ob (.p w)])] (.v (.a (ptIts (jpl (x,y,z) (u,v,w))))) []:=by
  by_cases h:z=0
  · have e:jpl (x,y,z) (u,v,w)=(u,v,w):=if_pos h
    rw[e]
    exact fn_sound qsB_ok Try.func37 (plA x y z u v w) ⟨decide_eq_true h,trivial⟩
  · by_cases h2:w=0
    · have e:jpl (x,y,z) (u,v,w)=(x,y,z):=(if_neg h).trans (if_pos h2)
      rw[e]
      exact fn_sound qsB_ok Try.func37 (plB x y z u v w) ⟨decide_eq_false h,decide_eq_true h2,trivial⟩
    · unfold jpl
      rw[if_neg h,if_neg h2]
      dsimp only
      by_cases h3:u*(z*z)-x*(w*w)=0
      · rw[if_pos h3]
        by_cases h4:v*(z*z)*z-y*(w*w)*w=0
        · rw[if_pos h4]
          exact fn_sound qsB_ok Try.func37 (plC x y z u v w) ⟨decide_eq_false h,decide_eq_false h2,decide_eq_true h3,decide_eq_true h4,trivial⟩
        · rw[if_neg h4]
          exact fn_sound qsB_ok Try.func37 (plD x y z u v w) ⟨decide_eq_false h,decide_eq_false h2,decide_eq_true h3,decide_eq_false h4,trivial⟩
      · rw[if_neg h3]
        exact fn_sound qsB_ok Try.func37 (plE x y z u v w) ⟨decide_eq_false h,decide_eq_false h2,decide_eq_false h3,trivial⟩

end Go.Proofs.Ytdeohachoeopdaa

/- Points of the first curve, in and out, walked. No conditions. -/
namespace Go.Proofs.Ytdeohachoeopdaa

def plPSpec:FnSpec
  | [.v (.a [.ob (.p x),.ob (.p y),.ob (.p z)]),.v (.a [.ob (.p u),.ob (.p v),.ob (.p w)])]=>some ([],.v (.a (ptIts (jpl (x,y,z) (u,v,w)))),[])
  | _=>none
noncomputable def qsC:Env:=qsB.set (addT qsB.fn 37 plPSpec)
theorem qsC_ok:EnvOk Try.prog qsC:=env_add qsB_ok 37 plPSpec (enters_of Try.func37 rfl rfl) fun args o r es h _=>by
  unfold plPSpec at h
  split at h
  · cases h;exact plusPt_fnd _ _ _ _ _ _
  · cases h
noncomputable def inlAf (T:Nat→Option Func) (f:Nat):Option Func:=if f=44 then some Try.f44 else T f
noncomputable def qsD:Env:={ qsC with inl:=inlAf qsC.inl }
theorem qsD_ok:EnvOk Try.prog qsD:=by
  refine ⟨qsC_ok.ty,qsC_ok.mixed,qsC_ok.fn,qsC_ok.mu,fun f fn h=>?_,qsC_ok.ex,qsC_ok.inv⟩
  have h:inlAf qsC.inl f=some fn:=h
  unfold inlAf at h
  split at h
  · rename_i hf;cases h;subst hf;exact ⟨Try.func44,enters_of Try.func44 rfl rfl⟩
  exact qsC_ok.inl f fn h
--@env qsD qsD_ok
theorem igA (x y:U6) (i:Bool):fnRes qsD Try.f19 3000 [.v (.a [.ob (.fp x),.ob (.fp y),.bool i])] [true] [] []=(some ([(i=true),((0:Int)≤(1:Int)),((1:Int)<(18446744073709551616:Int)),((0:Int)≤(1:Int)),((1:Int)<(18446744073709551616:Int))],((.v (.a [(.ob (.p (Fin.ofNat pN 1))),(.ob (.p (Fin.ofNat pN 1))),(.ob (.p (0:Fp)))])),[]))):=by kernel_rfl
theorem igB (x y:U6) (i:Bool):fnRes qsD Try.f19 3000 [.v (.a [.ob (.fp x),.ob (.fp y),.bool i])] [false] [] []=(some ([(i=false),((0:Int)≤(1:Int)),((1:Int)<(18446744073709551616:Int))],((.v (.a [(.ob (.p (inP x))),(.ob (.p (inP y))),(.ob (.p (Fin.ofNat pN 1)))])),[]))):=by kernel_rfl
theorem ogA (x y z:Fp):fnRes qsD Try.f22 3000 [.v (.a [.ob (.p x),.ob (.p y),.ob (.p z)])] [true,true] [] []=(some ([((decide (z=(0:Fp)))=true)],((.v (.a [(.ob (.fp (0:U6))),(.ob (.fp (0:U6))),(.lit true)])),[]))):=by kernel_rfl
theorem ogB (x y z:Fp):fnRes qsD Try.f22 3000 [.v (.a [.ob (.p x),.ob (.p y),.ob (.p z)])] [false,false] [] []=(some ([((decide (z=(0:Fp)))=false)],((.v (.a [(.ob (.fp (outP (x*((ivP z)*(ivP z)))))),(.ob (.fp (outP ((y*((ivP z)*(ivP z)))*(ivP z))))),(.lit false)])),[]))):=by kernel_rfl
theorem onA (x y:U6) (i:Bool):fnRes qsD Try.f39 3000 [.v (.a [.ob (.fp x),.ob (.fp y),.bool i])] [true] [] []=(some ([(i=true)],((.v (.c (.bool (ite (true=true) (Bool.and (decide (x=(0:U6))) (Bool.and (decide (y=(0:U6))) (i == true))) (Bool.not (Bool.and (decide (x=(0:U6))) (Bool.and (decide (y=(0:U6))) (i == true)))))))),[]))):=by kernel_rfl
theorem onB (x y:U6) (i:Bool):fnRes qsD Try.f39 3000 [.v (.a [.ob (.fp x),.ob (.fp y),.bool i])] [false,true,true] [] []=(some ([(i=false),((ite (true=true) (decide ((outP (inP x))=x)) (Bool.not (decide ((outP (inP x))=x))))=true),((ite (true=true) (decide ((outP (inP y))=y)) (Bool.not (decide ((outP (inP y))=y))))=true),((0:Int)≤(4:Int)),((4:Int)<(18446744073709551616:Int))],((.v (.c (.bool (ite (true=true) (decide (((inP y)*(inP y))=((((inP x)*(inP x))*(inP x))+(Fin.ofNat pN 4)))) (Bool.not (decide (((inP y)*(inP y))=((((inP x)*(inP x))*(inP x))+(Fin.ofNat pN 4))))))))),[]))):=by kernel_rfl
theorem onC (x y:U6) (i:Bool):fnRes qsD Try.f39 3000 [.v (.a [.ob (.fp x),.ob (.fp y),.bool i])] [false,true,false] [] []=(some ([(i=false),((ite (true=true) (decide ((outP (inP x))=x)) (Bool.not (decide ((outP (inP x))=x))))=true),((ite (true=true) (decide ((outP (inP y))=y)) (Bool.not (decide ((outP (inP y))=y))))=false)],((.v (.c (.lit false))),[]))):=by kernel_rfl
theorem onD (x y:U6) (i:Bool):fnRes qsD Try.f39 3000 [.v (.a [.ob (.fp x),.ob (.fp y),.bool i])] [false,false,false] [] []=(some ([(i=false),((ite (true=true) (decide ((outP (inP x))=x)) (Bool.not (decide ((outP (inP x))=x))))=false)],((.v (.c (.lit false))),[]))):=by kernel_rfl
end Go.Proofs.Ytdeohachoeopdaa

/- Points of the first curve, in and out: contracts; the functions outside, walked. No conditions. -/
namespace Go.Proofs.Ytdeohachoeopdaa

/-- Which points may be. -/
def onG (a:G1D):Bool:=
  if a.inf then decide (a.x=0) && decide (a.y=0)
  else decide (outP (inP a.x)=a.x) && (decide (outP (inP a.y)=a.y) && decide (inP a.y*inP a.y=inP a.x*inP a.x*inP a.x+fp4))
def inG (a:G1D):Fp×Fp×Fp:=if a.inf then (fp1,fp1,0) else (inP a.x,inP a.y,fp1)
def outG (t:Fp×Fp×Fp):G1D:=
  if t.2.2=0 then ⟨0,0,true⟩ else ⟨outP (t.1*(ivP t.2.2*ivP t.2.2)),outP (t.2.1*(ivP t.2.2*ivP t.2.2)*ivP t.2.2),false⟩

theorem lit_third {x:Ctx} {i j:It} {b:Bool} {v:Value} (h:denS x (.v (.a [i,j,.lit b])) v):denS x (.v (.a [i,j,.bool b])) v:=by
  obtain ⟨cs,e,c1,r1,e1,h1,c2,r2,e2,h2,c3,r3,e3,⟨d,h3⟩,h4⟩:=h
  refine ⟨cs,e,c1,r1,e1,h1,c2,r2,e2,h2,c3,r3,e3,⟨d,?_⟩,h4⟩
  cases d<;>exact h3
theorem inG_fnd (x y:U6) (i:Bool):FnD Try.prog 19 [.v (.a [.ob (.fp x),.ob (.fp y),.bool i])] (.v (.a (ptIts (inG ⟨x,y,i⟩)))) []:=by
  cases i with
  | true=>exact fn_sound qsD_ok Try.func19 (igA x y true) ⟨rfl,by decide,by decide,by decide,by decide,trivial⟩
  | false=>exact fn_sound qsD_ok Try.func19 (igB x y false) ⟨rfl,by decide,by decide,trivial⟩

theorem outG_fnd (x y z:Fp):FnD Try.prog 22 [.v (.a [.ob (.p x),.ob (.p y),.ob (.p z)])] (.v (.a (outG (x,y,z)).its)) []:=by
  by_cases h:z=0
  · have e:outG (x,y,z)=⟨0,0,true⟩:=if_pos h
    rw[e]
    exact (fn_sound qsD_ok Try.func22 (ogA x y z) ⟨decide_eq_true h,trivial⟩).conv (fun _ _ h=>h) fun y v hd=>lit_third hd
  · unfold outG
    rw[if_neg h]
    exact (fn_sound qsD_ok Try.func22 (ogB x y z) ⟨decide_eq_false h,trivial⟩).conv (fun _ _ h=>h) fun y v hd=>lit_third hd

theorem onG_fnd (x y:U6) (i:Bool):FnD Try.prog 39 [.v (.a [.ob (.fp x),.ob (.fp y),.bool i])] (.v (.c (.bool (onG ⟨x,y,i⟩)))) []:=by
  cases i with
  | true=>
    have r:=onA x y true
    rw[if_pos rfl] at r
    have e:onG ⟨x,y,true⟩=((decide (x=0)) && ((decide (y=0)) && (true == true))):=by
      show (decide (x=0) && decide (y=0))=_
      simp
    rw[e]
    exact fn_sound qsD_ok Try.func39 r ⟨rfl,trivial⟩
  | false=>
    by_cases h1:outP (inP x)=x
    · by_cases h2:outP (inP y)=y
      · have r:=onB x y false
        rw[if_pos rfl,if_pos rfl,if_pos rfl] at r
        have e:onG ⟨x,y,false⟩=decide (inP y*inP y=inP x*inP x*inP x+Fin.ofNat pN 4):=by
          show (decide (outP (inP x)=x) && (decide (outP (inP y)=y) && decide (inP y*inP y=inP x*inP x*inP x+fp4)))=_
          rw[decide_eq_true h1,decide_eq_true h2];rfl
        rw[e]
        exact fn_sound qsD_ok Try.func39 r ⟨rfl,decide_eq_true h1,decide_eq_true h2,by decide,by decide,trivial⟩
      · have r:=onC x y false
        rw[if_pos rfl,if_pos rfl] at r
        have e:onG ⟨x,y,false⟩=false:=by
          show (decide (outP (inP x)=x) && (decide (outP (inP y)=y) && decide (inP y*inP y=inP x*inP x*inP x+fp4)))=_
          rw[decide_eq_false h2,Bool.false_and,Bool.and_false]
        rw[e]
        exact (fn_sound qsD_ok Try.func39 r ⟨rfl,decide_eq_true h1,decide_eq_false h2,trivial⟩).conv (fun _ _ h=>h) fun y v hd=>lit_bool rfl hd
    · have r:=onD x y false
      rw[if_pos rfl] at r
      have e:onG ⟨x,y,false⟩=false:=by
        show (decide (outP (inP x)=x) && (decide (outP (inP y)=y) && decide (inP y*inP y=inP x*inP x*inP x+fp4)))=_
        rw[decide_eq_false h1,Bool.false_and]
      rw[e]
      exact (fn_sound qsD_ok Try.func39 r ⟨rfl,decide_eq_false h1,trivial⟩).conv (fun _ _ h=>h) fun y v hd=>lit_bool rfl hd
def inGSpec:FnSpec
  | [.v (.a [.ob (.fp x),.ob (.fp y),.bool i])]=>some ([],.v (.a (ptIts (inG ⟨x,y,i⟩))),[])
  | _=>none
noncomputable def qsE:Env:=qsD.set (addT qsD.fn 19 inGSpec)
theorem qsE_ok:EnvOk Try.prog qsE:=env_add qsD_ok 19 inGSpec (enters_of Try.func19 rfl rfl) fun args o r es h _=>by
  unfold inGSpec at h
  split at h
  · cases h;exact inG_fnd _ _ _
  · cases h
def outGSpec:FnSpec
  | [.v (.a [.ob (.p x),.ob (.p y),.ob (.p z)])]=>some ([],.v (.a (outG (x,y,z)).its),[])
  | _=>none
noncomputable def qsF:Env:=qsE.set (addT qsE.fn 22 outGSpec)
theorem qsF_ok:EnvOk Try.prog qsF:=env_add qsE_ok 22 outGSpec (enters_of Try.func22 rfl rfl) fun args o r es h _=>by
  unfold outGSpec at h
  split at h
  · cases h;exact outG_fnd _ _ _
  · cases h
def onGSpec:FnSpec
  | [.v (.a [.ob (.fp x),.ob (.fp y),.bool i])]=>some ([],.v (.c (.bool (onG ⟨x,y,i⟩))),[])
  | _=>none
noncomputable def qsG:Env:=qsF.set (addT qsF.fn 39 onGSpec)
theorem qsG_ok:EnvOk Try.prog qsG:=env_add qsF_ok 39 onGSpec (enters_of Try.func39 rfl rfl) fun args o r es h _=>by
  unfold onGSpec at h
  split at h
  · cases h;exact onG_fnd _ _ _
  · cases h
--@env qsG qsG_ok
theorem riR (x y:U6) (i:Bool):fnRes qsG Try.f17 3000 [.v (.a [.ob (.fp x),.ob (.fp y),.bool i])] [] [] []=(some ([],((.v (.c (.bool (onG (G1D.mk x y i))))),[]))):=by kernel_rfl
theorem geR  : fnRes qsG Try.f8 3000 [] [] [] []=(some ([((0:Int)≤(18103045581585958587:Int)),((18103045581585958587:Int)<(18446744073709551616:Int)),((0:Int)≤(7806400890582735599:Int)),((7806400890582735599:Int)<(18446744073709551616:Int)),((0:Int)≤(11623291730934869080:Int)),((11623291730934869080:Int)<(18446744073709551616:Int)),((0:Int)≤(14080658508445169925:Int)),((14080658508445169925:Int)<(18446744073709551616:Int)),((0:Int)≤(2780237799254240271:Int)),((2780237799254240271:Int)<(18446744073709551616:Int)),((0:Int)≤(1725392847304644500:Int)),((1725392847304644500:Int)<(18446744073709551616:Int)),((0:Int)≤(912580534683953121:Int)),((912580534683953121:Int)<(18446744073709551616:Int)),((0:Int)≤(15005087156090211044:Int)),((15005087156090211044:Int)<(18446744073709551616:Int)),((0:Int)≤(61670280795567085:Int)),((61670280795567085:Int)<(18446744073709551616:Int)),((0:Int)≤(18227722000993880822:Int)),((18227722000993880822:Int)<(18446744073709551616:Int)),((0:Int)≤(11573741888802228964:Int)),((11573741888802228964:Int)<(18446744073709551616:Int)),((0:Int)≤(627113611842199793:Int)),((627113611842199793:Int)<(18446744073709551616:Int))],((.v (.a [(.ob (.fp (Fin.ofNat B6 3685416753713387016781088315183077757961620795782546409894578378688607592378376318836054947676345821548104185464507))),(.ob (.fp (Fin.ofNat B6 1339506544944476473020471379941921221584933875938349620426543736416511423956333506472724655353366534992391756441569))),(.lit false)])),[]))):=by kernel_rfl
end Go.Proofs.Ytdeohachoeopdaa

/- The reference's functions on points of the first curve: contracts. No conditions. -/
namespace Go.Proofs.Ytdeohachoeopdaa

def genX:U6:=Fin.ofNat B6 3685416753713387016781088315183077757961620795782546409894578378688607592378376318836054947676345821548104185464507
def genY:U6:=Fin.ofNat B6 1339506544944476473020471379941921221584933875938349620426543736416511423956333506472724655353366534992391756441569
def genG:G1D:=⟨genX,genY,false⟩

theorem gen_fnd:FnD Try.prog 8 [] (.v (.a genG.its)) []:=
  (fn_sound qsG_ok Try.func8 geR (by simp [AllP])).conv (fun _ _ h=>h) fun y v hd=>lit_third hd
end Go.Proofs.Ytdeohachoeopdaa

/- Points of the first curve outside, and the reference's: sums, walked. No conditions. -/
namespace Go.Proofs.Ytdeohachoeopdaa

def rightSpec1:FnSpec
  | [.v (.a [.ob (.fp x),.ob (.fp y),.bool i])]=>some ([],.v (.c (.bool (onG ⟨x,y,i⟩))),[])
  | _=>none
noncomputable def qtA:Env:=qsG.set (addT qsG.fn 17 rightSpec1)
theorem qtA_ok:EnvOk Try.prog qtA:=env_add qsG_ok 17 rightSpec1 (enters_of Try.func17 rfl rfl) fun args o r es h _=>by
  unfold rightSpec1 at h
  split at h
  · cases h;exact fn_sound qsG_ok Try.func17 (riR _ _ _) trivial
  · cases h
def genSpec1:FnSpec
  | []=>some ([],.v (.a genG.its),[])
  | _=>none
noncomputable def qtC:Env:=qtA.set (addT qtA.fn 8 genSpec1)
theorem qtC_ok:EnvOk Try.prog qtC:=env_add qtA_ok 8 genSpec1 (enters_of Try.func8 rfl rfl) fun args o r es h _=>by
  unfold genSpec1 at h
  split at h
  · cases h;exact gen_fnd
  · cases h
noncomputable def qtG:Env:=qtC
theorem qtG_ok:EnvOk Try.prog qtG:=qtC_ok
theorem adA (a b c d:U6) (i j:Bool):fnRes qtG Try.f15 3000 [.v (.a [.ob (.fp a),.ob (.fp b),.bool i]),.v (.a [.ob (.fp c),.ob (.fp d),.bool j])] [true,true] [] []=(some ([((Bool.not (onG (G1D.mk a b i)))=true)],((.t [(.a [(.ob (.fp (0:U6))),(.ob (.fp (0:U6))),(.lit false)]),(.c (.int .i64 (30:Int)))]),[]))):=by kernel_rfl
theorem adB (a b c d:U6) (i j:Bool):fnRes qtG Try.f15 3000 [.v (.a [.ob (.fp a),.ob (.fp b),.bool i]),.v (.a [.ob (.fp c),.ob (.fp d),.bool j])] [false,true] [] []=(some ([((Bool.not (onG (G1D.mk a b i)))=false),((Bool.not (onG (G1D.mk c d j)))=true)],((.t [(.a [(.ob (.fp (0:U6))),(.ob (.fp (0:U6))),(.lit false)]),(.c (.int .i64 (30:Int)))]),[]))):=by kernel_rfl
theorem adC (a b c d:U6) (i j:Bool):fnRes qtG Try.f15 3000 [.v (.a [.ob (.fp a),.ob (.fp b),.bool i]),.v (.a [.ob (.fp c),.ob (.fp d),.bool j])] [false,false] [] []=(some ([((Bool.not (onG (G1D.mk a b i)))=false),((Bool.not (onG (G1D.mk c d j)))=false)],((.t [(.a [(.ob (.fp (G1D.x (outG (jpl (inG (G1D.mk a b i)) (inG (G1D.mk c d j))))))),(.ob (.fp (G1D.y (outG (jpl (inG (G1D.mk a b i)) (inG (G1D.mk c d j))))))),(.bool (G1D.inf (outG (jpl (inG (G1D.mk a b i)) (inG (G1D.mk c d j))))))]),(.c (.int .i64 (0:Int)))]),[]))):=by kernel_rfl
end Go.Proofs.Ytdeohachoeopdaa

/- Sums and negatives of points of the first curve outside: contracts. No conditions. -/
namespace Go.Proofs.Ytdeohachoeopdaa

def addG (a b:G1D):G1D:=outG (jpl (inG a) (inG b))
/-- What Add and Neg tell. -/
def adR (a b:G1D):G1D×Int:=if onG a && onG b then (addG a b,0) else (g10,30)
theorem lit_third_t {x:Ctx} {i j k:It} {b:Bool} {v:Value} (h:denS x (.t [.a [i,j,.lit b],.c k]) v):denS x (.t [.a [i,j,.bool b],.c k]) v:=by
  obtain ⟨vs,e,h1⟩:=h
  cases h1 with | cons d1 ds=>
  exact ⟨_,e,.cons (lit_third d1) ds⟩

theorem add_fnd1 (a b c d:U6) (i j:Bool):FnD Try.prog 15 [.v (.a [.ob (.fp a),.ob (.fp b),.bool i]),.v (.a [.ob (.fp c),.ob (.fp d),.bool j])] (.t [.a (adR ⟨a,b,i⟩ ⟨c,d,j⟩).1.its,.c (.int .i64 (adR ⟨a,b,i⟩ ⟨c,d,j⟩).2)]) []:=by
  by_cases h1:onG ⟨a,b,i⟩=true
  · by_cases h2:onG ⟨c,d,j⟩=true
    · have e:adR ⟨a,b,i⟩ ⟨c,d,j⟩=(addG ⟨a,b,i⟩ ⟨c,d,j⟩,0):=by unfold adR;rw[h1,h2];rfl
      rw[e]
      exact fn_sound qtG_ok Try.func15 (adC a b c d i j) ⟨by rw[h1];rfl,by rw[h2];rfl,trivial⟩
    · have h2:onG ⟨c,d,j⟩=false:=Bool.eq_false_iff.2 h2
      have e:adR ⟨a,b,i⟩ ⟨c,d,j⟩=(g10,30):=by unfold adR;rw[h1,h2];rfl
      rw[e]
      exact (fn_sound qtG_ok Try.func15 (adB a b c d i j) ⟨by rw[h1];rfl,by rw[h2];rfl,trivial⟩).conv (fun _ _ h=>h) fun y v hd=>lit_third_t hd
  · have h1:onG ⟨a,b,i⟩=false:=Bool.eq_false_iff.2 h1
    have e:adR ⟨a,b,i⟩ ⟨c,d,j⟩=(g10,30):=by unfold adR;rw[h1];rfl
    rw[e]
    exact (fn_sound qtG_ok Try.func15 (adA a b c d i j) ⟨by rw[h1];rfl,trivial⟩).conv (fun _ _ h=>h) fun y v hd=>lit_third_t hd

end Go.Proofs.Ytdeohachoeopdaa

/- The first curve is a group: points inside and outside; the plain law. No conditions. -/
namespace Go.Proofs.Ytdeohachoeopdaa

theorem no2_p (x:Fp):x*x*x+fp4≠0:=by
  intro h
  have h:=neg_of_sum h
  rw[neg4] at h
  refine cube_ne _ (fun e=>?_) (fun e=>?_) x h
  · have:=congrArg Fin.val e
    rw[pw_mpow _ 384 _ third_lt,neg4_val,one_val_p] at this
    exact neg4_pow this
  · have:=congrArg Fin.val e
    rw[neg4_val] at this
    revert this
    decide +kernel

theorem cv1:Cv fp4:=⟨two_ne_p,no2_p⟩

/-- A point outside, as a point; and back. -/
def pG (a:G1D):Pt Fp:=if a.inf then none else some (inP a.x,inP a.y)
def gP:Pt Fp→G1D
  | none=>⟨0,0,true⟩
  | some p=>⟨outP p.1,outP p.2,false⟩

theorem pG_gP:∀P:Pt Fp,pG (gP P)=P
  | none=>rfl
  | some p=>by
    show some (inP (outP p.1),inP (outP p.2))=some p
    rw[in_out,in_out]

theorem onG_is {a:G1D} (h:onG a=true):gP (pG a)=a∧OnC fp4 (pG a):=by
  obtain ⟨x,y,i⟩:=a
  cases i with
  | true=>
    have h:(decide (x=0) && decide (y=0))=true:=h
    rw[Bool.and_eq_true,decide_eq_true_eq,decide_eq_true_eq] at h
    obtain ⟨rfl,rfl⟩:=h
    exact ⟨rfl,True.intro⟩
  | false=>
    have h:(decide (outP (inP x)=x) && (decide (outP (inP y)=y) && decide (inP y*inP y=inP x*inP x*inP x+fp4)))=true:=h
    rw[Bool.and_eq_true,Bool.and_eq_true,decide_eq_true_eq,decide_eq_true_eq,decide_eq_true_eq] at h
    obtain ⟨h1,h2,h3⟩:=h
    refine ⟨?_,h3⟩
    show (⟨outP (inP x),outP (inP y),false⟩:G1D)=⟨x,y,false⟩
    rw[h1,h2]

theorem onG_gP:∀{P:Pt Fp},OnC fp4 P→onG (gP P)=true
  | none,_=>by
    show (decide ((0:U6)=0) && decide ((0:U6)=0))=true
    rw[decide_eq_true rfl];rfl
  | some p,h=>by
    have h:p.2*p.2=p.1*p.1*p.1+fp4:=h
    show (decide (outP (inP (outP p.1))=outP p.1) && (decide (outP (inP (outP p.2))=outP p.2) && decide (inP (outP p.2)*inP (outP p.2)=inP (outP p.1)*inP (outP p.1)*inP (outP p.1)+fp4)))=true
    rw[in_out,in_out,decide_eq_true rfl,decide_eq_true rfl,decide_eq_true h]
    rfl

theorem one_sq:(1:Fp)*1=1:=by decide +kernel
theorem inG_jc (a:G1D):Jc (pG a) (inG a):=by
  obtain ⟨x,y,i⟩:=a
  cases i with
  | true=>exact (rfl:(0:Fp)=0)
  | false=>
    show Jc (some (inP x,inP y)) (inP x,inP y,fp1)
    rw[fp1_one]
    refine ⟨one_ne_p,?_,?_⟩
    · show inP x=inP x*(1*1)
      rw[one_sq]
      exact (mul_one_g _).symm
    · show inP y=inP y*(1*1*1)
      rw[one_sq,one_sq]
      exact (mul_one_g _).symm

theorem outG_jc {P:Pt Fp} {t:Fp×Fp×Fp} (h:Jc P t):outG t=gP P:=by
  rw[←jpt_of P t h]
  unfold outG jpt
  by_cases hz:t.2.2=0
  · rw[if_pos hz,if_pos hz];rfl
  · rw[if_neg hz,if_neg hz];rfl

theorem addG_is (a b:G1D):addG a b=gP (gadd (pG a) (pG b)):=outG_jc (jpl_ok two_ne_p _ _ _ _ (inG_jc a) (inG_jc b))
end Go.Proofs.Ytdeohachoeopdaa

/- Sums and negatives of points: contracts. No conditions. -/
namespace Go.Proofs.Ytdeohachoeopdaa

def addSpec1:FnSpec
  | [.v (.a [.ob (.fp a),.ob (.fp b),.bool i]),.v (.a [.ob (.fp c),.ob (.fp d),.bool j])]=>some ([],.t [.a (adR ⟨a,b,i⟩ ⟨c,d,j⟩).1.its,.c (.int .i64 (adR ⟨a,b,i⟩ ⟨c,d,j⟩).2)],[])
  | _=>none
noncomputable def qvA:Env:=qtG.set (addT qtG.fn 15 addSpec1)
theorem qvA_ok:EnvOk Try.prog qvA:=env_add qtG_ok 15 addSpec1 (enters_of Try.func15 rfl rfl) fun args o r es h _=>by
  unfold addSpec1 at h
  split at h
  · cases h;exact add_fnd1 _ _ _ _ _ _
  · cases h
noncomputable def qvF:Env:=qvA
theorem qvF_ok:EnvOk Try.prog qvF:=qvA_ok
end Go.Proofs.Ytdeohachoeopdaa

/- What Add and Neg tell. No conditions. -/
namespace Go.Proofs.Ytdeohachoeopdaa

theorem adR_on {a b:G1D} (ha:onG a=true) (hb:onG b=true):adR a b=(addG a b,0):=by unfold adR;rw[ha,hb];rfl
end Go.Proofs.Ytdeohachoeopdaa

/- Digits of a number, handed on; a point as often as a number says: the functions, walked. No conditions. -/
namespace Go.Proofs.Ytdeohachoeopdaa
section
variable {w0:World} {F0:Nat→Prop} {K:Kp} {ac:List Act} {Q:Exit→Act→World→Prop} {cX:Ctx} {aX:Act}

--@env qvF qvF_ok
noncomputable def my_k:List KI:=(run qvF false 3000 ((fun (x y z:Fp) (k:U4)=>(⟨[.code (bodyOf Try.f38)],.normal,initSt Try.f38.ntmps [.v (.a [.ob (.p x),.ob (.p y),.ob (.p z)]),.v (.a [.ob (.fr k)])]⟩:Cfg)) default default default default) []).cfg.k
theorem my_hk (x y z:Fp) (k:U4):(run qvF false 3000 ((⟨[.code (bodyOf Try.f38)],.normal,initSt Try.f38.ntmps [.v (.a [.ob (.p x),.ob (.p y),.ob (.p z)]),.v (.a [.ob (.fr k)])]⟩:Cfg)) []).cfg.k=my_k:=by kernel_rfl
theorem my (x y z:Fp) (k:U4) (ho:AllP [((0:Int)≤(0:Int)),((0:Int)<(16:Int))]) (hs:Sim w0 F0 K ac (initSt Try.f38.ntmps [.v (.a [.ob (.p x),.ob (.p y),.ob (.p z)]),.v (.a [.ob (.fr k)])]) cX aX) (hK:∀ac cY aY,Sim w0 F0 K ac (mkSt 43 [2,3,4,5,6] [.pt 16 0,.pt 32 0,.pt 48 0,.pt 64 0,.ii (1:Int)] [16,32,48,64] [(some (.fl [.ob (.p x),.ob (.p y),.ob (.p z)])),(some (.fl [.ob (.fr k)])),(some (.fl [(.ob (.p (0:Fp))),(.ob (.p (0:Fp))),(.ob (.p (0:Fp)))])),(some (.fl [.ob (.p x),.ob (.p y),(.ob (.p (0:Fp))),(.ob (.p (0:Fp))),(.ob (.p (0:Fp))),(.ob (.p (0:Fp))),(.ob (.p (0:Fp))),(.ob (.p (0:Fp))),(.ob (.p (0:Fp))),(.ob (.p (0:Fp))),(.ob (.p (0:Fp))),(.ob (.p (0:Fp))),(.ob (.p (0:Fp))),(.ob (.p (0:Fp))),(.ob (.p (0:Fp))),(.ob (.p (0:Fp))),(.ob (.p (0:Fp))),(.ob (.p (0:Fp))),(.ob (.p (0:Fp))),(.ob (.p (0:Fp))),(.ob (.p (0:Fp))),(.ob (.p (0:Fp))),(.ob (.p (0:Fp))),(.ob (.p (0:Fp))),(.ob (.p (0:Fp))),(.ob (.p (0:Fp))),(.ob (.p (0:Fp))),(.ob (.p (0:Fp))),(.ob (.p (0:Fp))),(.ob (.p (0:Fp))),(.ob (.p (0:Fp))),(.ob (.p (0:Fp))),(.ob (.p (0:Fp))),(.ob (.p (0:Fp))),(.ob (.p (0:Fp))),(.ob (.p (0:Fp))),(.ob (.p (0:Fp))),(.ob (.p (0:Fp))),(.ob (.p (0:Fp))),(.ob (.p (0:Fp))),(.ob (.p (0:Fp))),(.ob (.p (0:Fp))),(.ob (.p (0:Fp))),(.ob (.p (0:Fp))),(.ob (.p (0:Fp))),(.ob (.p (0:Fp))),(.ob (.p (0:Fp))),(.ob (.p (0:Fp)))]))] 208 [] []) cY aY→Wq Try.prog Q (my_k) ac Exit.normal aY cY.w):Wq Try.prog Q ([.code (bodyOf Try.f38)]) ac .normal aX cX.w:=
  run_at2 (o:=⟨_,_,_,_,_,_,_⟩) qvF_ok (by kernel_rfl) (my_hk x y z k) ho hs hK
noncomputable def myS (x y z:Fp) (k:U4) (L:List (Fp×Fp×Fp)) (i:Int):St:=mkSt 43 [2,3,4,5,6] [.pt 16 0,.pt 32 0,.pt 48 0,.pt 64 0,.v (.c (.int .i64 i))] [16,32,48,64] [(some (.fl [.ob (.p x),.ob (.p y),.ob (.p z)])),(some (.fl [.ob (.fr k)])),(some (.fl [(.ob (.p (0:Fp))),(.ob (.p (0:Fp))),(.ob (.p (0:Fp)))])),some (.sq (.pt L))] 208 [] []
theorem myA_hk (x y z:Fp) (k:U4) (L:List (Fp×Fp×Fp)) (i:Int):(run qvF false 3000 ((⟨lpIn my_k,.normal,myS x y z k L i⟩:Cfg)) [true]).cfg.k=lpBk my_k:=by kernel_rfl
theorem myA (x y z:Fp) (k:U4) (L:List (Fp×Fp×Fp)) (i:Int) (ho:AllP [((decide (i<(16:Int)))=true),((0:Int)≤(IntKind.wrap .i64 (i-(1:Int)))),((IntKind.wrap .i64 (i-(1:Int)))<(16:Int)),(0=0),(((IntKind.wrap .i64 (i-(1:Int)))).toNat<(List.length L)),((0:Int)≤i),(i<(16:Int)),(0=0),((i).toNat<(List.length L))]) (hs:Sim w0 F0 K ac (myS x y z k L i) cX aX) (hK:∀ac cY aY,Sim w0 F0 K ac (mkSt 43 [2,3,4,5,6] [.pt 16 0,.pt 32 0,.pt 48 0,.pt 64 0,(.ii (IntKind.wrap .i64 (i+(1:Int))))] [16,32,48,64] [(some (.fl [.ob (.p x),.ob (.p y),.ob (.p z)])),(some (.fl [.ob (.fr k)])),(some (.fl [(.ob (.p (0:Fp))),(.ob (.p (0:Fp))),(.ob (.p (0:Fp)))])),(some (.sq (Sq.pt (List.set L (i).toNat (jpl (List.getD L ((IntKind.wrap .i64 (i-(1:Int)))).toNat pt0) (x,(y,z)))))))] 432 [] []) cY aY→Wq Try.prog Q (lpBk my_k) ac Exit.normal aY cY.w):Wq Try.prog Q (lpIn my_k) ac .normal aX cX.w:=
  run_at2 (o:=⟨_,_,_,_,_,_,_⟩) qvF_ok (by kernel_rfl) (myA_hk x y z k L i) ho hs hK
noncomputable def myB_k:List KI:=(run qvF false 3000 ((fun (x y z:Fp) (k:U4) (L:List (Fp×Fp×Fp)) (i:Int)=>(⟨lpIn my_k,.normal,myS x y z k L i⟩:Cfg)) default default default default default default) [false]).cfg.k
theorem myB_hk (x y z:Fp) (k:U4) (L:List (Fp×Fp×Fp)) (i:Int):(run qvF false 3000 ((⟨lpIn my_k,.normal,myS x y z k L i⟩:Cfg)) [false]).cfg.k=myB_k:=by kernel_rfl
theorem myB (x y z:Fp) (k:U4) (L:List (Fp×Fp×Fp)) (i:Int) (ho:AllP [((decide (i<(16:Int)))=false),((0:Int)≤(0:Int)),((0:Int)<(16:Int)),(0=0),(0<(List.length L))]) (hs:Sim w0 F0 K ac (myS x y z k L i) cX aX) (hK:∀ac cY aY,Sim w0 F0 K ac (mkSt 43 [4,5,7,30] [.pt 48 0,.pt 64 0,.pt 272 0,(.v (.c (.clo 73 [(320,0)])))] [48,64,272,320] [(some (.fl [(.ob (.p (0:Fp))),(.ob (.p (0:Fp))),(.ob (.p (0:Fp)))])),(some (.sq (Sq.pt L))),(some (.fl [(.ob (.p (Prod.fst (List.getD L 0 pt0)))),(.ob (.p (Prod.fst (Prod.snd (List.getD L 0 pt0))))),(.ob (.p (Prod.snd (Prod.snd (List.getD L 0 pt0)))))])),(some (.fl [.ob (.fr k)]))] 384 [] []) cY aY→Wq Try.prog Q (myB_k) ac Exit.normal aY cY.w):Wq Try.prog Q (lpIn my_k) ac .normal aX cX.w:=
  run_at2 (o:=⟨_,_,_,_,_,_,_⟩) qvF_ok (by kernel_rfl) (myB_hk x y z k L i) ho hs hK
noncomputable def myR (k:U4) (L:List (Fp×Fp×Fp)) (o:Fp×Fp×Fp):St:=mkSt 43 [4,5,7,30] [.pt 48 0,.pt 64 0,.pt 272 0,(.v (.c (.clo 73 [(320,0)])))] [48,64,272,320] [(some (.fl [(.ob (.p (0:Fp))),(.ob (.p (0:Fp))),(.ob (.p (0:Fp)))])),(some (.sq (Sq.pt L))),some (.fl [.ob (.p o.1),.ob (.p o.2.1),.ob (.p o.2.2)]),(some (.fl [.ob (.fr k)]))] 384 [] []
theorem mrA_hk (k:U4) (L:List (Fp×Fp×Fp)) (o:Fp×Fp×Fp) (d:Int):(run qvF false 3000 ((⟨[.code (rfA myB_k)],.normal,roundSt (myR k L o) [(31,.v (.c (.int .i64 d)))]⟩:Cfg)) []).cfg.k=[]:=by kernel_rfl
theorem mrA (k:U4) (L:List (Fp×Fp×Fp)) (o:Fp×Fp×Fp) (d:Int) {ρ:Option Nat} (ho:AllP []) (hs:Sim w0 F0 K ac (roundSt (myR k L o) [(31,.v (.c (.int .i64 d)))]) cX aX) (hK:∀cY aY,Sim w0 F0 K ac (mkSt 43 [4,5,7,8] [.pt 48 0,.pt 64 0,.pt 272 0,.ii d] [48,64,272,320] [(some (.fl [(.ob (.p (0:Fp))),(.ob (.p (0:Fp))),(.ob (.p (0:Fp)))])),(some (.sq (Sq.pt L))),(some (.fl [(.ob (.p (Prod.fst o))),(.ob (.p (Prod.fst (Prod.snd o)))),(.ob (.p (Prod.snd (Prod.snd o))))])),(some (.fl [.ob (.fr k)]))] 400 [[4,5,7,30]] [([.pt 48 0,.pt 64 0,.pt 272 0,(.v (.c (.clo 73 [(320,0)])))],43)]) cY aY→Wq Try.prog Q ([]) ac Exit.normal aY cY.w ρ):Wq Try.prog Q ([.code (rfA myB_k)]) ac .normal aX cX.w ρ :=
  run_atT (o:=⟨_,_,_,_,_,_,_⟩) qvF_ok (by kernel_rfl) (mrA_hk k L o d) ho (by kernel_rfl) (by kernel_rfl) hs hK
noncomputable def mrB (k:U4) (L:List (Fp×Fp×Fp)) (o:Fp×Fp×Fp) (d:Int):St:=mkSt 43 [4,5,7,8] [.pt 48 0,.pt 64 0,.pt 272 0,.ii d] [48,64,272,320] [(some (.fl [(.ob (.p (0:Fp))),(.ob (.p (0:Fp))),(.ob (.p (0:Fp)))])),(some (.sq (Sq.pt L))),some (.fl [.ob (.p o.1),.ob (.p o.2.1),.ob (.p o.2.2)]),(some (.fl [.ob (.fr k)]))] 400 [[4,5,7,30]] [([.pt 48 0,.pt 64 0,.pt 272 0,(.v (.c (.clo 73 [(320,0)])))],43)]
noncomputable def mrC_k:List KI:=(run qvF false 3000 ((fun (k:U4) (L:List (Fp×Fp×Fp)) (o:Fp×Fp×Fp) (d:Int)=>(⟨[.code (rfB myB_k)],.normal,mrB k L o d⟩:Cfg)) default default default default) []).cfg.k
theorem mrC_hk (k:U4) (L:List (Fp×Fp×Fp)) (o:Fp×Fp×Fp) (d:Int):(run qvF false 3000 ((⟨[.code (rfB myB_k)],.normal,mrB k L o d⟩:Cfg)) []).cfg.k=mrC_k:=by kernel_rfl
theorem mrC (k:U4) (L:List (Fp×Fp×Fp)) (o:Fp×Fp×Fp) (d:Int) {ρ:Option Nat} (ho:AllP []) (hs:Sim w0 F0 K ac (mrB k L o d) cX aX) (hK:∀cY aY,Sim w0 F0 K ac (mkSt 43 [4,5,7,8,32] [.pt 48 0,.pt 64 0,.pt 272 0,.ii d,.ii (0:Int)] [48,64,272,320] [(some (.fl [(.ob (.p (0:Fp))),(.ob (.p (0:Fp))),(.ob (.p (0:Fp)))])),(some (.sq (Sq.pt L))),(some (.fl [(.ob (.p (Prod.fst o))),(.ob (.p (Prod.fst (Prod.snd o)))),(.ob (.p (Prod.snd (Prod.snd o))))])),(some (.fl [.ob (.fr k)]))] 416 [[4,5,7,30]] [([.pt 48 0,.pt 64 0,.pt 272 0,(.v (.c (.clo 73 [(320,0)])))],43)]) cY aY→Wq Try.prog Q (mrC_k) ac Exit.normal aY cY.w ρ):Wq Try.prog Q ([.code (rfB myB_k)]) ac .normal aX cX.w ρ :=
  run_atT (o:=⟨_,_,_,_,_,_,_⟩) qvF_ok (by kernel_rfl) (mrC_hk k L o d) ho (by kernel_rfl) (by kernel_rfl) hs hK
noncomputable def mrS (k:U4) (L:List (Fp×Fp×Fp)) (o:Fp×Fp×Fp) (d j:Int):St:=mkSt 43 [4,5,7,8,32] [.pt 48 0,.pt 64 0,.pt 272 0,.ii d,.v (.c (.int .i64 j))] [48,64,272,320] [(some (.fl [(.ob (.p (0:Fp))),(.ob (.p (0:Fp))),(.ob (.p (0:Fp)))])),(some (.sq (Sq.pt L))),some (.fl [.ob (.p o.1),.ob (.p o.2.1),.ob (.p o.2.2)]),(some (.fl [.ob (.fr k)]))] 416 [[4,5,7,30]] [([.pt 48 0,.pt 64 0,.pt 272 0,(.v (.c (.clo 73 [(320,0)])))],43)]
theorem mrD_hk (k:U4) (L:List (Fp×Fp×Fp)) (o:Fp×Fp×Fp) (d j:Int):(run qvF false 3000 ((⟨lpIn mrC_k,.normal,mrS k L o d j⟩:Cfg)) [true]).cfg.k=lpBk mrC_k:=by kernel_rfl
theorem mrD (k:U4) (L:List (Fp×Fp×Fp)) (o:Fp×Fp×Fp) (d j:Int) {ρ:Option Nat} (ho:AllP [((decide (j<(4:Int)))=true)]) (hs:Sim w0 F0 K ac (mrS k L o d j) cX aX) (hK:∀cY aY,Sim w0 F0 K ac (mkSt 43 [4,5,7,8,32] [.pt 48 0,.pt 64 0,.pt 272 0,.ii d,(.ii (IntKind.wrap .i64 (j+(1:Int))))] [48,64,272,320] [(some (.fl [(.ob (.p (0:Fp))),(.ob (.p (0:Fp))),(.ob (.p (0:Fp)))])),(some (.sq (Sq.pt L))),(some (.fl [(.ob (.p (Prod.fst (jtw o)))),(.ob (.p (Prod.fst (Prod.snd (jtw o))))),(.ob (.p (Prod.snd (Prod.snd (jtw o)))))])),(some (.fl [.ob (.fr k)]))] 512 [[4,5,7,30]] [([.pt 48 0,.pt 64 0,.pt 272 0,(.v (.c (.clo 73 [(320,0)])))],43)]) cY aY→Wq Try.prog Q (lpBk mrC_k) ac Exit.normal aY cY.w ρ):Wq Try.prog Q (lpIn mrC_k) ac .normal aX cX.w ρ :=
  run_atT (o:=⟨_,_,_,_,_,_,_⟩) qvF_ok (by kernel_rfl) (mrD_hk k L o d j) ho (by kernel_rfl) (by kernel_rfl) hs hK
theorem mrE_hk (k:U4) (L:List (Fp×Fp×Fp)) (o:Fp×Fp×Fp) (d j:Int):(run qvF false 3000 ((⟨lpIn mrC_k,.normal,mrS k L o d j⟩:Cfg)) [false]).cfg.k=[]:=by kernel_rfl
theorem mrE (k:U4) (L:List (Fp×Fp×Fp)) (o:Fp×Fp×Fp) (d j:Int) {ρ:Option Nat} (ho:AllP [((decide (j<(4:Int)))=false),((0:Int)≤d),(d<(16:Int)),(0=0),((d).toNat<(List.length L))]) (hs:Sim w0 F0 K ac (mrS k L o d j) cX aX) (hK:∀cY aY,Sim w0 F0 K ac (mkSt 43 [4] [.pt 48 0] [48,64,272,320] [(some (.fl [(.ob (.p (0:Fp))),(.ob (.p (0:Fp))),(.ob (.p (0:Fp)))])),(some (.sq (Sq.pt L))),(some (.fl [(.ob (.p (Prod.fst (jpl o (List.getD L (d).toNat pt0))))),(.ob (.p (Prod.fst (Prod.snd (jpl o (List.getD L (d).toNat pt0)))))),(.ob (.p (Prod.snd (Prod.snd (jpl o (List.getD L (d).toNat pt0))))))])),(some (.fl [.ob (.fr k)]))] 528 [[4,5,7,30]] [([.pt 48 0,.pt 64 0,.pt 272 0,(.v (.c (.clo 73 [(320,0)])))],43)]) cY aY→Wq Try.prog Q ([]) ac Exit.normal aY cY.w ρ):Wq Try.prog Q (lpIn mrC_k) ac .normal aX cX.w ρ :=
  run_atT (o:=⟨_,_,_,_,_,_,_⟩) qvF_ok (by kernel_rfl) (mrE_hk k L o d j) ho (by kernel_rfl) (by kernel_rfl) hs hK
noncomputable def mrF (k:U4) (L:List (Fp×Fp×Fp)) (o:Fp×Fp×Fp):St:=mkSt 43 [4] [.pt 48 0] [48,64,272,320] [(some (.fl [(.ob (.p (0:Fp))),(.ob (.p (0:Fp))),(.ob (.p (0:Fp)))])),(some (.sq (Sq.pt L))),some (.fl [.ob (.p o.1),.ob (.p o.2.1),.ob (.p o.2.2)]),(some (.fl [.ob (.fr k)]))] 528 [[4,5,7,30]] [([.pt 48 0,.pt 64 0,.pt 272 0,(.v (.c (.clo 73 [(320,0)])))],43)]
theorem mrX_hk (k:U4) (L:List (Fp×Fp×Fp)) (o:Fp×Fp×Fp):(run qvF false 3000 ((⟨rfR myB_k,.normal,myR k L o⟩:Cfg)) []).cfg.k=[]:=by kernel_rfl
theorem mrX (k:U4) (L:List (Fp×Fp×Fp)) (o:Fp×Fp×Fp) (ho:AllP []) (hs:Sim w0 F0 K ac (myR k L o) cX aX) (hK:∀ac cY aY,Sim w0 F0 K ac (mkSt 43 [4] [.pt 48 0] [48] [(some (.fl [(.ob (.p (Prod.fst o))),(.ob (.p (Prod.fst (Prod.snd o)))),(.ob (.p (Prod.snd (Prod.snd o))))]))] 416 [] []) cY aY→Wq Try.prog Q ([]) ac Exit.ret aY cY.w):Wq Try.prog Q (rfR myB_k) ac .normal aX cX.w:=
  run_at2 (o:=⟨_,_,_,_,_,_,_⟩) qvF_ok (by kernel_rfl) (mrX_hk k L o) ho hs hK
noncomputable def mrZ (o:Fp×Fp×Fp):St:=mkSt 43 [4] [.pt 48 0] [48] [some (.fl [.ob (.p o.1),.ob (.p o.2.1),.ob (.p o.2.2)])] 416 [] []
theorem mrR_end (o:Fp×Fp×Fp):runEnd qvF Try.f38 false 3000 (⟨[],.ret,mrZ o⟩) [] [] []=(some ([],((.v (.a [(.ob (.p (Prod.fst o))),(.ob (.p (Prod.fst (Prod.snd o)))),(.ob (.p (Prod.snd (Prod.snd o))))])),[]))):=by kernel_rfl
end
end Go.Proofs.Ytdeohachoeopdaa

/- A point as often as a number says: contract. No conditions. -/
namespace Go.Proofs.Ytdeohachoeopdaa

theorem cat_flat {x:Ctx} (L:List (Fp×Fp×Fp)):∀(n i:Nat) (cs:List Value),catL x.D (flatPt L i n) cs→cs.length=n*18∧∀j,j<n→∃c,catL x.D (ptIts (L.getD (i+j) pt0)) c∧∀(q:Nat) (v:Value),c[q]? = some v→cs[j*18+q]? = some v
  | 0,i,cs,h=>by
    have h:cs=[]:=h
    subst h
    exact ⟨rfl,fun j hj=>absurd hj (Nat.not_lt_zero _)⟩
  | n+1,i,cs,h=>by
    obtain ⟨c1,r1,e1,h1,c2,r2,e2,h2,c3,r3,e3,h3,h4⟩:=h
    obtain ⟨hl,hj⟩:=cat_flat L n (i+1) r3 h4
    have l1:c1.length=6:=D_len h1
    have l2:c2.length=6:=D_len h2
    have l3:c3.length=6:=D_len h3
    subst e1 e2 e3
    refine ⟨by simp only[List.length_append];omega,fun j hjn=>?_⟩
    cases j with
    | zero=>
      refine ⟨c1++(c2++(c3++[])),⟨c1,_,rfl,h1,c2,_,rfl,h2,c3,_,rfl,h3,rfl⟩,fun q v hq=>?_⟩
      rw[List.append_nil] at hq
      have hlt:q<(c1++(c2++c3)).length:=by
        rcases Nat.lt_or_ge q (c1++(c2++c3)).length with h | h
        · exact h
        · rw[List.getElem?_eq_none h] at hq;cases hq
      rw[Nat.zero_mul,Nat.zero_add,←hq]
      have e:c1++(c2++(c3++r3))=(c1++(c2++c3))++r3:=by simp
      rw[e,List.getElem?_append_left hlt]
    | succ j=>
      obtain ⟨c,hc,hv⟩:=hj j (by omega)
      rw[show i+1+j=i+(j+1) from by omega] at hc
      refine ⟨c,hc,fun q v hq=>?_⟩
      have e:c1++(c2++(c3++r3))=(c1++(c2++c3))++r3:=by simp
      have hl18:(c1++(c2++c3)).length=18:=by simp only[List.length_append];omega
      rw[e,List.getElem?_append_right (by rw[hl18];omega),hl18,show (j+1)*18+q-18=j*18+q from by omega]
      exact hv q v hq

theorem tab_conv {x:Ctx} (L:List (Fp×Fp×Fp)) (h:L.length=16) (cs:List Value) (hc:denEn x (.fl (flatPt L 0 16)) cs):denEn x (.sq (.pt L)) cs:=by
  obtain ⟨hl,hj⟩:=cat_flat L 16 0 cs hc
  refine ⟨?_,fun i hi=>?_⟩
  · show L.length*18≤cs.length
    rw[h,hl]
    exact Nat.le_refl _
  · have hi:i<L.length:=hi
    rw[h] at hi
    obtain ⟨c,h1,h2⟩:=hj i hi
    rw[Nat.zero_add] at h1
    exact ⟨c,h1,h2⟩

def tab0 (x y:Fp):List (Fp×Fp×Fp):=(x,y,0)::List.replicate 15 pt0

theorem many_fnd (x y z:Fp) (k:U4):FnD Try.prog 38 [.v (.a [.ob (.p x),.ob (.p y),.ob (.p z)]),.v (.a [.ob (.fr k)])] (.v (.a (ptIts (jmn (x,y,z) (dgT k.val 64))))) []:=by
  refine fn_start_m (fn:=Try.f38) (c:=bodyOf Try.f38) Try.func38 rfl rfl fun x0 a0 hk hF hs=>?_
  refine my x y z k ⟨by decide,by decide,trivial⟩ hs fun ac cY aY hs1=>?_
  have hs2:=hs1.blocks (ens' := [some (.fl [.ob (.p x),.ob (.p y),.ob (.p z)]),some (.fl [.ob (.fr k)]),some (.fl [.ob (.p 0),.ob (.p 0),.ob (.p 0)]),some (.sq (.pt (tab0 x y)))])
    ⟨.inl rfl,.inl rfl,.inl rfl,.inr ⟨_,_,_,rfl,rfl,rfl,fun cs h=>tab_conv _ rfl cs h⟩,trivial⟩
  refine loop_rule (ι:={ p:Nat×List (Fp×Fp×Fp) // 1≤p.1∧p.1≤16∧p.2.length=16∧∀j,j<p.1→p.2.getD j pt0=jtab (x,y,z) j }) (fun p=>myS x y z k p.1.2 (p.1.1:Int)) (fun p=>16-p.1.1) (c:=lpC my_k) (k:=lpR my_k) (by kernel_rfl) (fun p ih ac cY aY hs=>?_)
    ⟨(1,tab0 x y),Nat.le_refl 1,by show (1:Nat)≤16;omega,rfl,fun j hj=>by
      have:j=0:=by have hj:j<1:=hj;omega
      subst this;rfl⟩ (hs2.nx _)
  obtain ⟨⟨i,L⟩,h1,h16,hL,htab⟩:=p
  simp only at ih hs h1 h16 hL htab
  by_cases hi:i<16
  · have e1:IntKind.wrap IntKind.i64 ((i:Int)-1)=((i-1:Nat):Int):=by rw[wrap_id (by omega) (by omega)];omega
    have e2:IntKind.wrap IntKind.i64 ((i:Int)+1)=((i+1:Nat):Int):=by rw[wrap_id (by omega) (by omega)];omega
    refine myA x y z k L i ⟨decide_eq_true (by omega),by rw[e1];omega,by rw[e1];omega,rfl,by rw[e1,Int.toNat_natCast,hL];omega,by omega,by omega,rfl,by rw[Int.toNat_natCast,hL];exact hi,trivial⟩ hs fun ac cZ aZ hs3=>?_
    rw[e1,e2,Int.toNat_natCast,Int.toNat_natCast,htab (i-1) (by omega)] at hs3
    have e3:jpl (jtab (x,y,z) (i-1)) (x,y,z)=jtab (x,y,z) i:=by
      obtain ⟨m,rfl⟩:∃m,i=m+1:=⟨i-1,by omega⟩
      rfl
    rw[e3] at hs3
    refine ih ⟨(i+1,L.set i (jtab (x,y,z) i)),by show 1≤i+1;omega,hi,by show (L.set i _).length=16;rw[List.length_set];exact hL,fun j hj=>?_⟩ (by show 16-(i+1)<16-i;omega) ac cZ aZ (hs3.nx _)
    have hj:j<i+1:=hj
    show (L.set i (jtab (x,y,z) i)).getD j pt0=_
    by_cases e:j=i
    · subst e
      simp [List.getD,hL,hi]
    · have:(L.set i (jtab (x,y,z) i)).getD j pt0=L.getD j pt0:=by
        simp [List.getD,List.getElem?_set_ne (Ne.symm e)]
      rw[this]
      exact htab j (by omega)
  · have:i=16:=by omega
    subst this
    refine myB x y z k L _ ⟨by decide,by decide,by decide,rfl,by rw[hL];decide,trivial⟩ hs fun ac cZ aZ hs3=>?_
    rw[htab 0 (by decide)] at hs3
    obtain ⟨e1,e2⟩:=isRf_eq (k:=myB_k) (by kernel_rfl)
    rw[e1]
    have eP:(rfP myB_k).toList=[31]:=by kernel_rfl
    have eG:rfG myB_k = .tmp 30:=by kernel_rfl
    refine range_rule (ps:=rfP myB_k) e2 hs3 (gf:=73) (caps:=[(320,0)]) (enters_of Try.func73 rfl rfl) (fun pre=>myR k L (pre.foldl (jst (x,y,z)) (jtab (x,y,z) 0))) (fun s=>by rw[eG];rfl) ⟨_,rfl⟩ (dgT k.val 64) dgVals dgEnc
      (fun y z=>.cons ⟨rfl,0,rfl⟩ .nil) (fun z=>by rw[←Array.length_toList,eP];rfl) (fun pre p hp=>?_) (digits_iter fun s=>rfl) (fun pre d=>mrB k L (pre.foldl (jst (x,y,z)) (jtab (x,y,z) 0)) d)
      (fun pre d=>mrF k L ((pre++[d]).foldl (jst (x,y,z)) (jtab (x,y,z) 0))) (fun pre d=>⟨_,rfl⟩) (fun pre d hd w1 F1 K1 as1 Q1 l y1 b hs4 hQ=>?_) (fun pre d hd w1 F1 K1 as1 Q1 l y1 b hs4 hQ=>?_) fun D y1 hs4 hD hFD hd=>?_
    · rw[eP] at hp
      have h43:(myR k L (pre.foldl (jst (x,y,z)) (jtab (x,y,z) 0))).nt=43:=rfl
      rw[h43]
      simp only[List.mem_cons,List.not_mem_nil,or_false] at hp
      subst hp
      decide
    · rw[eP] at hs4
      exact mrA k L _ d trivial hs4 fun cZ aZ hs5=>⟨hQ _ _ (hs5.nx _)⟩
    · have hd16:d<16:=by
        obtain ⟨r,hr⟩:=hd
        exact dgT_lt (n:=k.val) 64 d (by rw[hr];simp)
      rw[List.foldl_append] at hQ
      generalize pre.foldl (jst (x,y,z)) (jtab (x,y,z) 0)=o at hs4 hQ
      have hst:List.foldl (jst (x,y,z)) o [d]=jpl (jtws 4 o) (L.getD d pt0):=by
        rw[htab d hd16]
        rfl
      rw[hst] at hQ
      refine mrC k L o d trivial hs4 fun cV aV hs5=>?_
      let I:{ j:Nat // j≤4 } → List Act→Act→World→Prop:=fun j ac a w=>ac=as1∧∃z,z.w=w∧Sim w1 F1 K1 as1 (mrS k L (jtws j.1 o) d (j.1:Int)) z a
      refine loop_inv (ρ:=some l) I (fun j=>4-j.1) (c:=lpC mrC_k) (k:=lpR mrC_k) (by kernel_rfl) (fun j ih ac aV w hI=>?_) ⟨0,Nat.zero_le _⟩ ⟨rfl,cV,rfl,hs5.nx _⟩
      obtain ⟨j,hj⟩:=j
      obtain ⟨rfl,cV,rfl,hs6⟩:=hI
      simp only at ih hs6
      by_cases hj4:j<4
      · refine mrD k L _ d j ⟨decide_eq_true (by omega),trivial⟩ hs6 fun cU aU hs7=>?_
        rw[wrap_id (n:=(j:Int)+1) (by omega) (by omega)] at hs7
        exact ih ⟨j+1,hj4⟩ (by show 4-(j+1)<4-j;omega) _ aU _ ⟨rfl,cU,rfl,hs7.nx _⟩
      · have:j=4:=by omega
        subst this
        refine mrE k L _ d _ ⟨by decide,by omega,by omega,rfl,by rw[Int.toNat_natCast,hL];exact hd16,trivial⟩ hs6 fun cU aU hs7=>?_
        rw[Int.toNat_natCast] at hs7
        exact ⟨hQ _ _ (hs7.nx _)⟩
    · have hs5:=hs4.marked rfl rfl D
      show Wq _ _ _ _ _ _ _ _
      have ej:(dgT k.val 64).foldl (jst (x,y,z)) (jtab (x,y,z) 0)=jmn (x,y,z) (dgT k.val 64):=rfl
      rw[ej] at hs4 hs5
      generalize jmn (x,y,z) (dgT k.val 64)=o at hs4 hs5 ⊢
      refine mrX k L o trivial hs5 fun ac cV aV hs6=>⟨?_⟩
      have hs7:Sim y1.w y1.F (kOwn y1 kAll (markOf D)) ac (mrZ o) cV aV:=hs6
      exact fn_finish qvF_ok hk hF (mrR_end o) trivial (fun y v hd=>hd) hs4 hD hFD hd rfl hs7

end Go.Proofs.Ytdeohachoeopdaa

/- A point as often as a number says: the plain law. No conditions. -/
namespace Go.Proofs.Ytdeohachoeopdaa

/-- A point outside as often as a number says. -/
def mulG (a:G1D) (k:U4):G1D:=outG (jmn (inG a) (dgT k.val 64))
theorem mulG_is {a:G1D} (ha:onG a=true) (k:U4):mulG a k=gP (nmul (pG a) k.val):=by
  unfold mulG
  generalize hl:dgT k.val 64=l
  have h:=jmn_ok cv1 (onG_is ha).2 (inG_jc a) l
  have e:dgV l=k.val:=by rw[←hl];exact dgV_is k
  rw[e] at h
  exact outG_jc h
end Go.Proofs.Ytdeohachoeopdaa

/- one.Mul, and OneTimes' law, walked. No conditions. -/
namespace Go.Proofs.Ytdeohachoeopdaa

instance:Inhabited G1D:=⟨g10⟩
def manySpec1:FnSpec
  | [.v (.a [.ob (.p x),.ob (.p y),.ob (.p z)]),.v (.a [.ob (.fr k)])]=>some ([],.v (.a (ptIts (jmn (x,y,z) (dgT k.val 64)))),[])
  | _=>none
noncomputable def qwA:Env:=qvF.set (addT qvF.fn 38 manySpec1)
theorem qwA_ok:EnvOk Try.prog qwA:=env_add qvF_ok 38 manySpec1 (enters_of Try.func38 rfl rfl) fun args o r es h _=>by
  unfold manySpec1 at h
  split at h
  · cases h;exact many_fnd _ _ _ _
  · cases h
--@env qwA qwA_ok
theorem muA (a b:U6) (i:Bool) (k:U4):fnRes qwA Try.f16 3000 [.v (.a [.ob (.fp a),.ob (.fp b),.bool i]),.v (.a [.ob (.fr k)])] [true] [] []=(some ([((Bool.not (onG (G1D.mk a b i)))=true)],((.t [(.a [(.ob (.fp (0:U6))),(.ob (.fp (0:U6))),(.lit false)]),(.c (.int .i64 (30:Int)))]),[]))):=by kernel_rfl
theorem muB (a b:U6) (i:Bool) (k:U4):fnRes qwA Try.f16 3000 [.v (.a [.ob (.fp a),.ob (.fp b),.bool i]),.v (.a [.ob (.fr k)])] [false] [] []=(some ([((Bool.not (onG (G1D.mk a b i)))=false)],((.t [(.a [(.ob (.fp (G1D.x (outG (jmn (inG (G1D.mk a b i)) (dgT (Fin.val k) 64)))))),(.ob (.fp (G1D.y (outG (jmn (inG (G1D.mk a b i)) (dgT (Fin.val k) 64)))))),(.bool (G1D.inf (outG (jmn (inG (G1D.mk a b i)) (dgT (Fin.val k) 64)))))]),(.c (.int .i64 (0:Int)))]),[]))):=by kernel_rfl
/-- What Mul tells. -/
def muR (a:G1D) (k:U4):G1D×Int:=if onG a then (mulG a k,0) else (g10,30)
theorem muR_on {a:G1D} (k:U4) (ha:onG a=true):muR a k=(mulG a k,0):=by unfold muR;rw[ha];rfl
theorem muR_off {a:G1D} (k:U4) (ha:onG a=false):muR a k=(g10,30):=by unfold muR;rw[ha];rfl
theorem mul_fnd1 (a b:U6) (i:Bool) (k:U4):FnD Try.prog 16 [.v (.a [.ob (.fp a),.ob (.fp b),.bool i]),.v (.a [.ob (.fr k)])] (.t [.a (muR ⟨a,b,i⟩ k).1.its,.c (.int .i64 (muR ⟨a,b,i⟩ k).2)]) []:=by
  by_cases h1:onG ⟨a,b,i⟩=true
  · rw[muR_on k h1]
    exact fn_sound qwA_ok Try.func16 (muB a b i k) ⟨by rw[h1];rfl,trivial⟩
  · have h1:onG ⟨a,b,i⟩=false:=Bool.eq_false_iff.2 h1
    rw[muR_off k h1]
    exact (fn_sound qwA_ok Try.func16 (muA a b i k) ⟨by rw[h1];rfl,trivial⟩).conv (fun _ _ h=>h) fun y v hd=>lit_third_t hd
def mulSpec1:FnSpec
  | [.v (.a [.ob (.fp a),.ob (.fp b),.bool i]),.v (.a [.ob (.fr k)])]=>some ([],.t [.a (muR ⟨a,b,i⟩ k).1.its,.c (.int .i64 (muR ⟨a,b,i⟩ k).2)],[])
  | _=>none
noncomputable def qwC:Env:=qwA.set (addT qwA.fn 16 mulSpec1)
theorem qwC_ok:EnvOk Try.prog qwC:=env_add qwA_ok 16 mulSpec1 (enters_of Try.func16 rfl rfl) fun args o r es h _=>by
  unfold mulSpec1 at h
  split at h
  · cases h;exact mul_fnd1 _ _ _ _
  · cases h
--@env qwC qwC_ok
end Go.Proofs.Ytdeohachoeopdaa

/- What the sums stand on. No conditions. -/
namespace Go.Proofs.Ytdeohachoeopdaa

noncomputable def uaB:Env:=qwC.or S4.gK
theorem uaB_ok:EnvOk Try.prog uaB:=env_or qwC_ok S4.gK_ok
end Go.Proofs.Ytdeohachoeopdaa

/- Sums of the points of each digit, and their total, walked. No conditions. -/
namespace Go.Proofs.Ytdeohachoeopdaa
section
variable {w0:World} {F0:Nat→Prop} {K:Kp} {ac:List Act} {Q:Exit→Act→World→Prop} {cX:Ctx} {aX:Act}

def digitsSpec:FnSpec
  | [.v (.a [.ob (.fr k)])]=>some ([],.v (.c (.sl (.int (dgW k.val 52).1))),[])
  | _=>none
noncomputable def ucA:Env:=uaB.set (addT uaB.fn 78 digitsSpec)
theorem ucA_ok:EnvOk Try.prog ucA:=env_add uaB_ok 78 digitsSpec (enters_of Try.func78 rfl rfl) fun args o r es h _=>by
  unfold digitsSpec at h
  split at h
  · cases h;exact digits_fnd _ (Eq.refl 52)
  · cases h
noncomputable def inlTo (T:Nat→Option Func) (f:Nat):Option Func:=if f=83 then some Try.f83 else T f
noncomputable def ucB:Env:={ ucA with inl:=inlTo ucA.inl }
theorem ucB_ok:EnvOk Try.prog ucB:=by
  refine ⟨ucA_ok.ty,ucA_ok.mixed,ucA_ok.fn,ucA_ok.mu,fun f fn h=>?_,ucA_ok.ex,ucA_ok.inv⟩
  have h:inlTo ucA.inl f=some fn:=h
  unfold inlTo at h
  split at h
  · rename_i hf;cases h;subst hf;exact ⟨Try.func83,enters_of Try.func83 rfl rfl⟩
  exact ucA_ok.inl f fn h
--@env ucB ucB_ok
noncomputable def kb_k:List KI:=(run ucB false 3000 ((fun (P:List (Fp×Fp×Fp)) (D:List Int)=>(⟨[.code (bodyOf Try.f79)],.normal,initSt Try.f79.ntmps [.v (.c (.sl (.pt P))),.v (.c (.sl (.int D)))]⟩:Cfg)) default default) []).cfg.k
theorem kb_hk (P:List (Fp×Fp×Fp)) (D:List Int):(run ucB false 3000 ((⟨[.code (bodyOf Try.f79)],.normal,initSt Try.f79.ntmps [.v (.c (.sl (.pt P))),.v (.c (.sl (.int D)))]⟩:Cfg)) []).cfg.k=kb_k:=by kernel_rfl
theorem kb (P:List (Fp×Fp×Fp)) (D:List Int) (ho:AllP []) (hs:Sim w0 F0 K ac (initSt Try.f79.ntmps [.v (.c (.sl (.pt P))),.v (.c (.sl (.int D)))]) cX aX) (hK:∀ac cY aY,Sim w0 F0 K ac (mkSt 45 [1,4,5,9,10,11] [(.v (.c (.sl (.int D)))),.pt 16 0,.pt 32 0,(.v (.c (.sl (Sq.pt P)))),(.ii (((List.length P):Nat):Int)),.ii (0:Int)] [16,32] [(some (.fl [(.ob (.p (0:Fp))),(.ob (.p (0:Fp))),(.ob (.p (0:Fp)))])),(some (.fl [(.ob (.p (0:Fp))),(.ob (.p (0:Fp))),(.ob (.p (0:Fp))),(.ob (.p (0:Fp))),(.ob (.p (0:Fp))),(.ob (.p (0:Fp))),(.ob (.p (0:Fp))),(.ob (.p (0:Fp))),(.ob (.p (0:Fp))),(.ob (.p (0:Fp))),(.ob (.p (0:Fp))),(.ob (.p (0:Fp))),(.ob (.p (0:Fp))),(.ob (.p (0:Fp))),(.ob (.p (0:Fp))),(.ob (.p (0:Fp))),(.ob (.p (0:Fp))),(.ob (.p (0:Fp))),(.ob (.p (0:Fp))),(.ob (.p (0:Fp))),(.ob (.p (0:Fp))),(.ob (.p (0:Fp))),(.ob (.p (0:Fp))),(.ob (.p (0:Fp))),(.ob (.p (0:Fp))),(.ob (.p (0:Fp))),(.ob (.p (0:Fp))),(.ob (.p (0:Fp))),(.ob (.p (0:Fp))),(.ob (.p (0:Fp))),(.ob (.p (0:Fp))),(.ob (.p (0:Fp))),(.ob (.p (0:Fp))),(.ob (.p (0:Fp))),(.ob (.p (0:Fp))),(.ob (.p (0:Fp))),(.ob (.p (0:Fp))),(.ob (.p (0:Fp))),(.ob (.p (0:Fp))),(.ob (.p (0:Fp))),(.ob (.p (0:Fp))),(.ob (.p (0:Fp))),(.ob (.p (0:Fp))),(.ob (.p (0:Fp))),(.ob (.p (0:Fp))),(.ob (.p (0:Fp))),(.ob (.p (0:Fp))),(.ob (.p (0:Fp))),(.ob (.p (0:Fp))),(.ob (.p (0:Fp))),(.ob (.p (0:Fp)))]))] 96 [] []) cY aY→Wq Try.prog Q (kb_k) ac Exit.normal aY cY.w):Wq Try.prog Q ([.code (bodyOf Try.f79)]) ac .normal aX cX.w:=
  run_at2 (o:=⟨_,_,_,_,_,_,_⟩) ucB_ok (by kernel_rfl) (kb_hk P D) ho hs hK
noncomputable def kbS (P:List (Fp×Fp×Fp)) (D:List Int) (S:List (Fp×Fp×Fp)) (i:Int):St:=mkSt 45 [1,4,5,9,10,11] [(.v (.c (.sl (.int D)))),.pt 16 0,.pt 32 0,(.v (.c (.sl (Sq.pt P)))),(.ii (((List.length P):Nat):Int)),.v (.c (.int .i64 i))] [16,32] [(some (.fl [(.ob (.p (0:Fp))),(.ob (.p (0:Fp))),(.ob (.p (0:Fp)))])),some (.sq (.pt S))] 96 [] []
theorem kbA_hk (P:List (Fp×Fp×Fp)) (D:List Int) (S:List (Fp×Fp×Fp)) (i:Int):(run ucB false 3000 ((⟨lpIn kb_k,.normal,kbS P D S i⟩:Cfg)) [true,true]).cfg.k=lpBk kb_k:=by kernel_rfl
theorem kbA (P:List (Fp×Fp×Fp)) (D:List Int) (S:List (Fp×Fp×Fp)) (i:Int) (ho:AllP [((decide (i<(((List.length P):Nat):Int)))=true),((0:Int)≤i),(i<(((List.length P):Nat):Int)),((0:Int)≤i),(i<(((List.length D):Nat):Int)),((decide ((List.getD D (i).toNat (0:Int)) > (0:Int)))=true),((0:Int)≤(List.getD D (i).toNat (0:Int))),((List.getD D (i).toNat (0:Int))<(17:Int)),(0=0),(((List.getD D (i).toNat (0:Int))).toNat<(List.length S)),((0:Int)≤(List.getD D (i).toNat (0:Int))),((List.getD D (i).toNat (0:Int))<(17:Int)),(0=0),(((List.getD D (i).toNat (0:Int))).toNat<(List.length S))]) (hs:Sim w0 F0 K ac (kbS P D S i) cX aX) (hK:∀ac cY aY,Sim w0 F0 K ac (mkSt 45 [1,4,5,9,10,11] [(.v (.c (.sl (.int D)))),.pt 16 0,.pt 32 0,(.v (.c (.sl (Sq.pt P)))),(.ii (((List.length P):Nat):Int)),(.ii (IntKind.wrap .i64 (i+(1:Int))))] [16,32] [(some (.fl [(.ob (.p (0:Fp))),(.ob (.p (0:Fp))),(.ob (.p (0:Fp)))])),(some (.sq (Sq.pt (List.set S ((List.getD D (i).toNat (0:Int))).toNat (jpl (List.getD S ((List.getD D (i).toNat (0:Int))).toNat pt0) (List.getD P (i).toNat pt0))))))] 496 [] []) cY aY→Wq Try.prog Q (lpBk kb_k) ac Exit.normal aY cY.w):Wq Try.prog Q (lpIn kb_k) ac .normal aX cX.w:=
  run_at2 (o:=⟨_,_,_,_,_,_,_⟩) ucB_ok (by kernel_rfl) (kbA_hk P D S i) ho hs hK
theorem kbB_hk (P:List (Fp×Fp×Fp)) (D:List Int) (S:List (Fp×Fp×Fp)) (i:Int):(run ucB false 3000 ((⟨lpIn kb_k,.normal,kbS P D S i⟩:Cfg)) [true,false,true]).cfg.k=lpBk kb_k:=by kernel_rfl
theorem kbB (P:List (Fp×Fp×Fp)) (D:List Int) (S:List (Fp×Fp×Fp)) (i:Int) (ho:AllP [((decide (i<(((List.length P):Nat):Int)))=true),((0:Int)≤i),(i<(((List.length P):Nat):Int)),((0:Int)≤i),(i<(((List.length D):Nat):Int)),((decide ((List.getD D (i).toNat (0:Int)) > (0:Int)))=false),((decide ((List.getD D (i).toNat (0:Int))<(0:Int)))=true),((0:Int)≤(IntKind.wrap .i64 ((0:Int)-(List.getD D (i).toNat (0:Int))))),((IntKind.wrap .i64 ((0:Int)-(List.getD D (i).toNat (0:Int))))<(17:Int)),(0=0),(((IntKind.wrap .i64 ((0:Int)-(List.getD D (i).toNat (0:Int))))).toNat<(List.length S)),((0:Int)≤(IntKind.wrap .i64 ((0:Int)-(List.getD D (i).toNat (0:Int))))),((IntKind.wrap .i64 ((0:Int)-(List.getD D (i).toNat (0:Int))))<(17:Int)),(0=0),(((IntKind.wrap .i64 ((0:Int)-(List.getD D (i).toNat (0:Int))))).toNat<(List.length S))]) (hs:Sim w0 F0 K ac (kbS P D S i) cX aX) (hK:∀ac cY aY,Sim w0 F0 K ac (mkSt 45 [1,4,5,9,10,11] [(.v (.c (.sl (.int D)))),.pt 16 0,.pt 32 0,(.v (.c (.sl (Sq.pt P)))),(.ii (((List.length P):Nat):Int)),(.ii (IntKind.wrap .i64 (i+(1:Int))))] [16,32] [(some (.fl [(.ob (.p (0:Fp))),(.ob (.p (0:Fp))),(.ob (.p (0:Fp)))])),(some (.sq (Sq.pt (List.set S ((IntKind.wrap .i64 ((0:Int)-(List.getD D (i).toNat (0:Int))))).toNat (jpl (List.getD S ((IntKind.wrap .i64 ((0:Int)-(List.getD D (i).toNat (0:Int))))).toNat pt0) (jng (List.getD P (i).toNat pt0)))))))] 592 [] []) cY aY→Wq Try.prog Q (lpBk kb_k) ac Exit.normal aY cY.w):Wq Try.prog Q (lpIn kb_k) ac .normal aX cX.w:=
  run_at2 (o:=⟨_,_,_,_,_,_,_⟩) ucB_ok (by kernel_rfl) (kbB_hk P D S i) ho hs hK
theorem kbC_hk (P:List (Fp×Fp×Fp)) (D:List Int) (S:List (Fp×Fp×Fp)) (i:Int):(run ucB false 3000 ((⟨lpIn kb_k,.normal,kbS P D S i⟩:Cfg)) [true,false,false]).cfg.k=lpBk kb_k:=by kernel_rfl
theorem kbC (P:List (Fp×Fp×Fp)) (D:List Int) (S:List (Fp×Fp×Fp)) (i:Int) (ho:AllP [((decide (i<(((List.length P):Nat):Int)))=true),((0:Int)≤i),(i<(((List.length P):Nat):Int)),((0:Int)≤i),(i<(((List.length D):Nat):Int)),((decide ((List.getD D (i).toNat (0:Int)) > (0:Int)))=false),((decide ((List.getD D (i).toNat (0:Int))<(0:Int)))=false)]) (hs:Sim w0 F0 K ac (kbS P D S i) cX aX) (hK:∀ac cY aY,Sim w0 F0 K ac (mkSt 45 [1,4,5,9,10,11] [(.v (.c (.sl (.int D)))),.pt 16 0,.pt 32 0,(.v (.c (.sl (Sq.pt P)))),(.ii (((List.length P):Nat):Int)),(.ii (IntKind.wrap .i64 (i+(1:Int))))] [16,32] [(some (.fl [(.ob (.p (0:Fp))),(.ob (.p (0:Fp))),(.ob (.p (0:Fp)))])),(some (.sq (Sq.pt S)))] 416 [] []) cY aY→Wq Try.prog Q (lpBk kb_k) ac Exit.normal aY cY.w):Wq Try.prog Q (lpIn kb_k) ac .normal aX cX.w:=
  run_at2 (o:=⟨_,_,_,_,_,_,_⟩) ucB_ok (by kernel_rfl) (kbC_hk P D S i) ho hs hK
noncomputable def kbX_k:List KI:=(run ucB false 3000 ((fun (P:List (Fp×Fp×Fp)) (D:List Int) (S:List (Fp×Fp×Fp)) (i:Int)=>(⟨lpIn kb_k,.normal,kbS P D S i⟩:Cfg)) default default default default) [false]).cfg.k
theorem kbX_hk (P:List (Fp×Fp×Fp)) (D:List Int) (S:List (Fp×Fp×Fp)) (i:Int):(run ucB false 3000 ((⟨lpIn kb_k,.normal,kbS P D S i⟩:Cfg)) [false]).cfg.k=kbX_k:=by kernel_rfl
theorem kbX (P:List (Fp×Fp×Fp)) (D:List Int) (S:List (Fp×Fp×Fp)) (i:Int) (ho:AllP [((decide (i<(((List.length P):Nat):Int)))=false)]) (hs:Sim w0 F0 K ac (kbS P D S i) cX aX) (hK:∀ac cY aY,Sim w0 F0 K ac (mkSt 21 [0,2,3,4,5] [.pt 32 0,.pt 112 0,.pt 128 0,.pt 144 0,.ii (16:Int)] [16,32,112,128,144] [(some (.fl [(.ob (.p (0:Fp))),(.ob (.p (0:Fp))),(.ob (.p (0:Fp)))])),(some (.sq (Sq.pt S))),(some (.fl [(.ob (.p (0:Fp))),(.ob (.p (0:Fp))),(.ob (.p (0:Fp)))])),(some (.fl [(.ob (.p (0:Fp))),(.ob (.p (0:Fp))),(.ob (.p (0:Fp)))])),(some (.fl [(.ob (.p (0:Fp))),(.ob (.p (0:Fp))),(.ob (.p (0:Fp)))]))] 176 [[4]] [([.pt 16 0],45)]) cY aY→Wq Try.prog Q (kbX_k) ac Exit.normal aY cY.w):Wq Try.prog Q (lpIn kb_k) ac .normal aX cX.w:=
  run_at2 (o:=⟨_,_,_,_,_,_,_⟩) ucB_ok (by kernel_rfl) (kbX_hk P D S i) ho hs hK
noncomputable def kbT (S:List (Fp×Fp×Fp)) (r o:Fp×Fp×Fp) (d:Int):St:=mkSt 21 [0,2,3,4,5] [.pt 32 0,.pt 112 0,.pt 128 0,.pt 144 0,.v (.c (.int .i64 d))] [16,32,112,128,144] [(some (.fl [(.ob (.p (0:Fp))),(.ob (.p (0:Fp))),(.ob (.p (0:Fp)))])),(some (.sq (Sq.pt S))),(some (.fl [(.ob (.p (0:Fp))),(.ob (.p (0:Fp))),(.ob (.p (0:Fp)))])),some (.fl [.ob (.p o.1),.ob (.p o.2.1),.ob (.p o.2.2)]),some (.fl [.ob (.p r.1),.ob (.p r.2.1),.ob (.p r.2.2)])] 176 [[4]] [([.pt 16 0],45)]
theorem kbU_hk (S:List (Fp×Fp×Fp)) (r o:Fp×Fp×Fp) (d:Int):(run ucB false 3000 ((⟨lpIn kbX_k,.normal,kbT S r o d⟩:Cfg)) [true]).cfg.k=lpBk kbX_k:=by kernel_rfl
theorem kbU (S:List (Fp×Fp×Fp)) (r o:Fp×Fp×Fp) (d:Int) (ho:AllP [((decide (d > (0:Int)))=true),((0:Int)≤d),(d<(17:Int)),(0=0),((d).toNat<(List.length S))]) (hs:Sim w0 F0 K ac (kbT S r o d) cX aX) (hK:∀ac cY aY,Sim w0 F0 K ac (mkSt 21 [0,2,3,4,5] [.pt 32 0,.pt 112 0,.pt 128 0,.pt 144 0,(.ii (IntKind.wrap .i64 (d-(1:Int))))] [16,32,112,128,144] [(some (.fl [(.ob (.p (0:Fp))),(.ob (.p (0:Fp))),(.ob (.p (0:Fp)))])),(some (.sq (Sq.pt S))),(some (.fl [(.ob (.p (0:Fp))),(.ob (.p (0:Fp))),(.ob (.p (0:Fp)))])),(some (.fl [(.ob (.p (Prod.fst (jpl o (jpl r (List.getD S (d).toNat pt0)))))),(.ob (.p (Prod.fst (Prod.snd (jpl o (jpl r (List.getD S (d).toNat pt0))))))),(.ob (.p (Prod.snd (Prod.snd (jpl o (jpl r (List.getD S (d).toNat pt0)))))))])),(some (.fl [(.ob (.p (Prod.fst (jpl r (List.getD S (d).toNat pt0))))),(.ob (.p (Prod.fst (Prod.snd (jpl r (List.getD S (d).toNat pt0)))))),(.ob (.p (Prod.snd (Prod.snd (jpl r (List.getD S (d).toNat pt0))))))]))] 448 [[4]] [([.pt 16 0],45)]) cY aY→Wq Try.prog Q (lpBk kbX_k) ac Exit.normal aY cY.w):Wq Try.prog Q (lpIn kbX_k) ac .normal aX cX.w:=
  run_at2 (o:=⟨_,_,_,_,_,_,_⟩) ucB_ok (by kernel_rfl) (kbU_hk S r o d) ho hs hK
theorem kbV_end (S:List (Fp×Fp×Fp)) (r o:Fp×Fp×Fp) (d:Int):runEnd ucB Try.f79 false 3000 (⟨lpIn kbX_k,.normal,kbT S r o d⟩) [false] [] []=(some ([((decide (d > (0:Int)))=false)],((.v (.a [(.ob (.p (Prod.fst o))),(.ob (.p (Prod.fst (Prod.snd o)))),(.ob (.p (Prod.snd (Prod.snd o))))])),[]))):=by kernel_rfl
end
end Go.Proofs.Ytdeohachoeopdaa

/- Sums of the points of each digit, and their total: contract. No conditions. -/
namespace Go.Proofs.Ytdeohachoeopdaa

theorem tab_convn {x:Ctx} {n:Nat} (L:List (Fp×Fp×Fp)) (h:L.length=n) (cs:List Value) (hc:denEn x (.fl (flatPt L 0 n)) cs):denEn x (.sq (.pt L)) cs:=by
  obtain ⟨hl,hj⟩:=cat_flat L n 0 cs hc
  refine ⟨?_,fun i hi=>?_⟩
  · show L.length*18≤cs.length
    rw[h,hl]
    exact Nat.le_refl _
  · have hi:i<L.length:=hi
    rw[h] at hi
    obtain ⟨c,h1,h2⟩:=hj i hi
    rw[Nat.zero_add] at h1
    exact ⟨c,h1,h2⟩

theorem buckets_fnd (P:List (Fp×Fp×Fp)) (D:List Int) (hl:D.length=P.length) (hp:P.length≤4611686018427387904) (hd:∀i,-16≤D.getD i 0∧D.getD i 0≤16) :
    FnD Try.prog 79 [.v (.c (.sl (.pt P))),.v (.c (.sl (.int D)))] (.v (.a (ptIts (bkT pt0 P D)))) []:=by
  refine fn_start (fn:=Try.f79) (c:=bodyOf Try.f79) Try.func79 rfl rfl fun x0 a0 hk hF hs=>?_
  refine kb P D trivial hs fun ac cY aY hs1=>?_
  have hs2:=hs1.blocks (ens' := [some (.fl [.ob (.p 0),.ob (.p 0),.ob (.p 0)]),some (.sq (.pt (List.replicate 17 pt0)))])
    ⟨.inl rfl,.inr ⟨_,_,_,rfl,rfl,rfl,fun cs h=>tab_convn (n:=17) _ rfl cs h⟩,trivial⟩
  have hlen:∀i,(bkN pt0 (List.replicate 17 pt0) P D i).length=17:=fun i=>(bkN_len ..).trans List.length_replicate
  refine loop_rule (ι:={ i:Nat // i≤P.length }) (fun i=>kbS P D (bkN pt0 (List.replicate 17 pt0) P D i.1) (i.1:Int)) (fun i=>P.length-i.1) (c:=lpC kb_k) (k:=lpR kb_k) (by kernel_rfl) (fun i ih ac cY aY hs=>?_) ⟨0,Nat.zero_le _⟩ (hs2.nx _)
  obtain ⟨i,hi⟩:=i
  simp only at ih hs
  have hS:=hlen i
  by_cases h:i<P.length
  · have hnext:bkN pt0 (List.replicate 17 pt0) P D (i+1)=bkS pt0 (bkN pt0 (List.replicate 17 pt0) P D i) (P.getD i pt0) (D.getD i 0):=rfl
    have ei:IntKind.wrap IntKind.i64 ((i:Int)+1)=((i+1:Nat):Int):=by rw[wrap_id (by omega) (by omega)];rfl
    have hdi:=hd i
    have go:∀(S' : List (Fp×Fp×Fp)) (n:Nat) (ac:List Act) (cU:Ctx) (aU:Act),S' = bkN pt0 (List.replicate 17 pt0) P D (i+1)→Sim x0.w x0.F kAll ac (kbS P D S' ((i+1:Nat):Int)) cU aU→Wq Try.prog (Post Try.prog Try.f79 x0 (.v (.a (ptIts (bkT pt0 P D)))) []) (lpBk kb_k) ac .normal aU cU.w:=by
      intro S' n ac cU aU e hs
      rw[e] at hs
      exact ih ⟨i+1,h⟩ (by show P.length-(i+1)<P.length-i;omega) ac cU aU hs
    generalize bkN pt0 (List.replicate 17 pt0) P D i=S at hs hS hnext
    generalize hd0:D.getD i 0=d at hdi hnext
    by_cases hpos:d > 0
    · refine kbA P D S i ⟨decide_eq_true (by omega),by omega,by omega,by omega,by omega,?_,?_,?_,rfl,?_,?_,?_,rfl,?_,trivial⟩ hs fun ac cU aU hs3=>?_
      all_goals try rw[Int.toNat_natCast,hd0]
      · exact decide_eq_true hpos
      · omega
      · omega
      · omega
      · omega
      · omega
      · omega
      · rw[Int.toNat_natCast,hd0,ei] at hs3
        refine go _ 0 ac cU aU ?_ (hs3.nx _)
        rw[hnext]
        exact (if_pos hpos).symm
    · by_cases hneg:d<0
      · have ew:IntKind.wrap IntKind.i64 ((0:Int)-d) = -d:=by rw[wrap_id (by omega) (by omega)];omega
        refine kbB P D S i ⟨decide_eq_true (by omega),by omega,by omega,by omega,by omega,?_,?_,?_,?_,rfl,?_,?_,?_,rfl,?_,trivial⟩ hs fun ac cU aU hs3=>?_
        all_goals try rw[Int.toNat_natCast,hd0]
        · exact decide_eq_false hpos
        · exact decide_eq_true hneg
        all_goals try rw[ew]
        · omega
        · omega
        · omega
        · omega
        · omega
        · omega
        · rw[Int.toNat_natCast,hd0,ew,ei] at hs3
          refine go _ 0 ac cU aU ?_ (hs3.nx _)
          rw[hnext]
          unfold bkS
          rw[if_neg hpos,if_pos hneg]
      · refine kbC P D S i ⟨decide_eq_true (by omega),by omega,by omega,by omega,by omega,?_,?_,trivial⟩ hs fun ac cU aU hs3=>?_
        all_goals try rw[Int.toNat_natCast,hd0]
        · exact decide_eq_false hpos
        · exact decide_eq_false hneg
        · rw[ei] at hs3
          refine go _ 0 ac cU aU ?_ (hs3.nx _)
          rw[hnext]
          unfold bkS
          rw[if_neg hpos,if_neg hneg]
  · obtain rfl:i=P.length:=by omega
    have hT:bkT pt0 P D=toO pt0 (bkN pt0 (List.replicate 17 pt0) P D P.length) 16:=rfl
    rw[hT]
    generalize bkN pt0 (List.replicate 17 pt0) P D P.length=S at hs hS ⊢
    refine kbX P D S _ ⟨decide_eq_false (by omega),trivial⟩ hs fun ac cU aU hs3=>?_
    refine loop_rule (ι:={ n:Nat // n≤16 }) (fun n=>kbT S (toR pt0 S n.1) (toO pt0 S n.1) ((16-n.1:Nat):Int)) (fun n=>16-n.1) (c:=lpC kbX_k) (k:=lpR kbX_k) (by kernel_rfl) (fun n ih2 ac cY aY hs=>?_) ⟨0,Nat.zero_le _⟩ (hs3.nx _)
    obtain ⟨n,hn⟩:=n
    simp only at ih2 hs
    by_cases hn16:n<16
    · refine kbU S _ _ _ ⟨decide_eq_true (by omega),by omega,by omega,rfl,by rw[Int.toNat_natCast,hS];omega,trivial⟩ hs fun ac cV aV hs4=>?_
      have en:IntKind.wrap IntKind.i64 (((16-n:Nat):Int)-1)=((16-(n+1):Nat):Int):=by rw[wrap_id (by omega) (by omega)];omega
      have e1:jpl (toR pt0 S n) (S.getD (16-n) pt0)=toR pt0 S (n+1):=rfl
      have e2:jpl (toO pt0 S n) (toR pt0 S (n+1))=toO pt0 S (n+1):=rfl
      rw[Int.toNat_natCast,en,e1,e2] at hs4
      exact ih2 ⟨n+1,hn16⟩ (by show 16-(n+1)<16-n;omega) ac cV aV (hs4.nx _)
    · obtain rfl:n=16:=by omega
      exact run_end2 ucB_ok hk hF (kbV_end S _ _ _) ⟨by decide,trivial⟩ (fun y v hd=>hd) hs

end Go.Proofs.Ytdeohachoeopdaa

/- Many points, each as often as its number says, walked. No conditions. -/
namespace Go.Proofs.Ytdeohachoeopdaa
section
variable {w0:World} {F0:Nat→Prop} {K:Kp} {ac:List Act} {Q:Exit→Act→World→Prop} {cX:Ctx} {aX:Act}

theorem buckets_fnd2 (P:List (Fp×Fp×Fp)) (D:List Int) (h:D.length=P.length∧P.length≤4611686018427387904∧dsOk D):FnD Try.prog 79 [.v (.c (.sl (.pt P))),.v (.c (.sl (.int D)))] (.v (.a (ptIts (bkT pt0 P D)))) []:=buckets_fnd P D h.1 h.2.1 h.2.2
def bucketsSpec:FnSpec
  | [.v (.c (.sl (.pt P))),.v (.c (.sl (.int D)))]=>some ([D.length=P.length,P.length≤4611686018427387904,dsOk D],.v (.a (ptIts (bkT pt0 P D))),[])
  | _=>none
noncomputable def ucC:Env:=ucB.set (addT ucB.fn 79 bucketsSpec)
theorem ucC_ok:EnvOk Try.prog ucC:=env_add ucB_ok 79 bucketsSpec (enters_of Try.func79 rfl rfl) fun args o r es h ho=>by
  unfold bucketsSpec at h
  split at h
  · cases h;exact buckets_fnd2 _ _ ⟨ho.1,ho.2.1,ho.2.2.1⟩
  · cases h
--@env ucC ucC_ok
noncomputable def am_k:List KI:=(run ucC false 3000 ((fun (P:List (Fp×Fp×Fp)) (k:List U4)=>(⟨[.code (bodyOf Try.f64)],.normal,initSt Try.f64.ntmps [.v (.c (.sl (.pt P))),.v (.c (.sl (.fr k)))]⟩:Cfg)) default default) []).cfg.k
theorem am_hk (P:List (Fp×Fp×Fp)) (k:List U4):(run ucC false 3000 ((⟨[.code (bodyOf Try.f64)],.normal,initSt Try.f64.ntmps [.v (.c (.sl (.pt P))),.v (.c (.sl (.fr k)))]⟩:Cfg)) []).cfg.k=am_k:=by kernel_rfl
theorem am (P:List (Fp×Fp×Fp)) (k:List U4) (ho:AllP []) (hs:Sim w0 F0 K ac (initSt Try.f64.ntmps [.v (.c (.sl (.pt P))),.v (.c (.sl (.fr k)))]) cX aX) (hK:∀ac cY aY,Sim w0 F0 K ac (mkSt 72 [0,1,4,5,6,15,16,17] [(.v (.c (.sl (Sq.pt P)))),(.v (.c (.sl (.fr k)))),.pt 16 0,(.v (.c (.val (Value.slice Option.none 0 0)))),.ii (0:Int),(.v (.c (.sl (.fr k)))),(.ii (((List.length k):Nat):Int)),.ii (0:Int)] [16] [(some (.fl [(.ob (.p (0:Fp))),(.ob (.p (0:Fp))),(.ob (.p (0:Fp)))]))] 112 [] []) cY aY→Wq Try.prog Q (am_k) ac Exit.normal aY cY.w):Wq Try.prog Q ([.code (bodyOf Try.f64)]) ac .normal aX cX.w:=
  run_at2 (o:=⟨_,_,_,_,_,_,_⟩) ucC_ok (by kernel_rfl) (am_hk P k) ho hs hK
noncomputable def amS (P:List (Fp×Fp×Fp)) (k:List U4) (R:List (List Int)) (n:Nat) (m i:Int):St:=mkSt 72 [0,1,4,5,6,15,16,17] [(.v (.c (.sl (Sq.pt P)))),(.v (.c (.sl (.fr k)))),.pt 16 0,.v (.c (.slc 17 0 n 1)),.v (.c (.int .i64 m)),(.v (.c (.sl (.fr k)))),(.ii (((List.length k):Nat):Int)),.v (.c (.int .i64 i))] [16,17] [(some (.fl [(.ob (.p (0:Fp))),(.ob (.p (0:Fp))),(.ob (.p (0:Fp)))])),some (.sq (.ints R))] 112 [] []
theorem amA_hk (P:List (Fp×Fp×Fp)) (k:List U4) (R:List (List Int)) (n:Nat) (m i:Int):(run ucC false 3000 ((⟨lpIn am_k,.normal,amS P k R n m i⟩:Cfg)) [true]).cfg.k=lpBk am_k:=by kernel_rfl
theorem amA (P:List (Fp×Fp×Fp)) (k:List U4) (R:List (List Int)) (n:Nat) (m i:Int) (ho:AllP [((decide (i<(((List.length k):Nat):Int)))=true),((0:Int)≤i),(i<(((List.length k):Nat):Int)),((((List.length R)+1)*24)≤140737488355328),(((List.length R)+1)≤maxLen),(n=(List.length R)),(1=1)]) (hs:Sim w0 F0 K ac (amS P k R n m i) cX aX) (hK:∀ac cY aY,Sim w0 F0 K ac (mkSt 72 [0,1,4,5,6,15,16,17] [(.v (.c (.sl (Sq.pt P)))),(.v (.c (.sl (.fr k)))),.pt 16 0,(.v (.c (.slc 17 0 ((List.length R)+1) 1))),(.ii (ite ((((List.length (Prod.fst (dgW (Fin.val (List.getD k (i).toNat (0:U4))) 52))):Nat):Int) > m) (((List.length (Prod.fst (dgW (Fin.val (List.getD k (i).toNat (0:U4))) 52))):Nat):Int) m)),(.v (.c (.sl (.fr k)))),(.ii (((List.length k):Nat):Int)),(.ii (IntKind.wrap .i64 (i+(1:Int))))] [16,17] [(some (.fl [(.ob (.p (0:Fp))),(.ob (.p (0:Fp))),(.ob (.p (0:Fp)))])),(some (.sq (.ints (R++[(Prod.fst (dgW (Fin.val (List.getD k (i).toNat (0:U4))) 52))]))))] 432 [] []) cY aY→Wq Try.prog Q (lpBk am_k) ac Exit.normal aY cY.w):Wq Try.prog Q (lpIn am_k) ac .normal aX cX.w:=
  run_at2 (o:=⟨_,_,_,_,_,_,_⟩) ucC_ok (by kernel_rfl) (amA_hk P k R n m i) ho hs hK
noncomputable def amB_k:List KI:=(run ucC false 3000 ((fun (P:List (Fp×Fp×Fp)) (k:List U4) (R:List (List Int)) (n:Nat) (m i:Int)=>(⟨lpIn am_k,.normal,amS P k R n m i⟩:Cfg)) default default default default default default) [false]).cfg.k
theorem amB_hk (P:List (Fp×Fp×Fp)) (k:List U4) (R:List (List Int)) (n:Nat) (m i:Int):(run ucC false 3000 ((⟨lpIn am_k,.normal,amS P k R n m i⟩:Cfg)) [false]).cfg.k=amB_k:=by kernel_rfl
theorem amB (P:List (Fp×Fp×Fp)) (k:List U4) (R:List (List Int)) (n:Nat) (m i:Int) (ho:AllP [((decide (i<(((List.length k):Nat):Int)))=false),((0:Int)≤(((List.length k):Nat):Int)),((((List.length k):Nat):Int)=(((List.length k):Nat):Int)),(((8:Int)*(((List.length k):Nat):Int))≤(281474976710656:Int)),((((List.length k):Nat):Int)≤(9223372036854775807:Int))]) (hs:Sim w0 F0 K ac (amS P k R n m i) cX aX) (hK:∀ac cY aY,Sim w0 F0 K ac (mkSt 72 [0,4,5,10,11,12] [(.v (.c (.sl (Sq.pt P)))),.pt 16 0,(.v (.c (.slc 17 0 n 1))),.pt 128 0,(.v (.c (.slc 176 0 ((((List.length k):Nat):Int)).toNat 1))),(.ii (IntKind.wrap .i64 (m-(1:Int))))] [16,17,128,176] [(some (.fl [(.ob (.p (0:Fp))),(.ob (.p (0:Fp))),(.ob (.p (0:Fp)))])),(some (.sq (.ints R))),(some (.fl [(.ob (.p (0:Fp))),(.ob (.p (0:Fp))),(.ob (.p (0:Fp)))])),(some (.sq (.int (List.replicate ((((List.length k):Nat):Int)).toNat (0:Int)))))] 256 [] []) cY aY→Wq Try.prog Q (amB_k) ac Exit.normal aY cY.w):Wq Try.prog Q (lpIn am_k) ac .normal aX cX.w:=
  run_at2 (o:=⟨_,_,_,_,_,_,_⟩) ucC_ok (by kernel_rfl) (amB_hk P k R n m i) ho hs hK
noncomputable def amT (P:List (Fp×Fp×Fp)) (R:List (List Int)) (n q:Nat) (D:List Int) (o:Fp×Fp×Fp) (h:Int):St:=mkSt 72 [0,4,5,10,11,12] [(.v (.c (.sl (Sq.pt P)))),.pt 16 0,(.v (.c (.slc 17 0 n 1))),.pt 128 0,.v (.c (.slc 176 0 q 1)),.v (.c (.int .i64 h))] [16,17,128,176] [(some (.fl [(.ob (.p (0:Fp))),(.ob (.p (0:Fp))),(.ob (.p (0:Fp)))])),(some (.sq (.ints R))),some (.fl [.ob (.p o.1),.ob (.p o.2.1),.ob (.p o.2.2)]),some (.sq (.int D))] 256 [] []
noncomputable def amC_k:List KI:=(run ucC false 3000 ((fun (P:List (Fp×Fp×Fp)) (R:List (List Int)) (n q:Nat) (D:List Int) (o:Fp×Fp×Fp) (h:Int)=>(⟨lpIn amB_k,.normal,amT P R n q D o h⟩:Cfg)) default default default default default default default) [true]).cfg.k
theorem amC_hk (P:List (Fp×Fp×Fp)) (R:List (List Int)) (n q:Nat) (D:List Int) (o:Fp×Fp×Fp) (h:Int):(run ucC false 3000 ((⟨lpIn amB_k,.normal,amT P R n q D o h⟩:Cfg)) [true]).cfg.k=amC_k:=by kernel_rfl
theorem amC (P:List (Fp×Fp×Fp)) (R:List (List Int)) (n q:Nat) (D:List Int) (o:Fp×Fp×Fp) (h:Int) (ho:AllP [((decide (h ≥ (0:Int)))=true)]) (hs:Sim w0 F0 K ac (amT P R n q D o h) cX aX) (hK:∀ac cY aY,Sim w0 F0 K ac (mkSt 72 [0,4,5,10,11,12,41] [(.v (.c (.sl (Sq.pt P)))),.pt 16 0,(.v (.c (.slc 17 0 n 1))),.pt 128 0,(.v (.c (.slc 176 0 q 1))),.ii h,.ii (0:Int)] [16,17,128,176] [(some (.fl [(.ob (.p (0:Fp))),(.ob (.p (0:Fp))),(.ob (.p (0:Fp)))])),(some (.sq (.ints R))),(some (.fl [(.ob (.p (Prod.fst o))),(.ob (.p (Prod.fst (Prod.snd o)))),(.ob (.p (Prod.snd (Prod.snd o))))])),(some (.sq (.int D)))] 304 [] []) cY aY→Wq Try.prog Q (amC_k) ac Exit.normal aY cY.w):Wq Try.prog Q (lpIn amB_k) ac .normal aX cX.w:=
  run_at2 (o:=⟨_,_,_,_,_,_,_⟩) ucC_ok (by kernel_rfl) (amC_hk P R n q D o h) ho hs hK
noncomputable def amU (P:List (Fp×Fp×Fp)) (R:List (List Int)) (n q:Nat) (D:List Int) (o:Fp×Fp×Fp) (h j:Int):St:=mkSt 72 [0,4,5,10,11,12,41] [(.v (.c (.sl (Sq.pt P)))),.pt 16 0,(.v (.c (.slc 17 0 n 1))),.pt 128 0,(.v (.c (.slc 176 0 q 1))),.ii h,.v (.c (.int .i64 j))] [16,17,128,176] [(some (.fl [(.ob (.p (0:Fp))),(.ob (.p (0:Fp))),(.ob (.p (0:Fp)))])),(some (.sq (.ints R))),(some (.fl [(.ob (.p (Prod.fst o))),(.ob (.p (Prod.fst (Prod.snd o)))),(.ob (.p (Prod.snd (Prod.snd o))))])),(some (.sq (.int D)))] 304 [] []
theorem amD_hk (P:List (Fp×Fp×Fp)) (R:List (List Int)) (n q:Nat) (D:List Int) (o:Fp×Fp×Fp) (h j:Int):(run ucC false 3000 ((⟨lpIn amC_k,.normal,amU P R n q D o h j⟩:Cfg)) [true]).cfg.k=lpBk amC_k:=by kernel_rfl
theorem amD (P:List (Fp×Fp×Fp)) (R:List (List Int)) (n q:Nat) (D:List Int) (o:Fp×Fp×Fp) (h j:Int) (ho:AllP [((decide (j<(5:Int)))=true)]) (hs:Sim w0 F0 K ac (amU P R n q D o h j) cX aX) (hK:∀ac cY aY,Sim w0 F0 K ac (mkSt 72 [0,4,5,10,11,12,41] [(.v (.c (.sl (Sq.pt P)))),.pt 16 0,(.v (.c (.slc 17 0 n 1))),.pt 128 0,(.v (.c (.slc 176 0 q 1))),.ii h,(.ii (IntKind.wrap .i64 (j+(1:Int))))] [16,17,128,176] [(some (.fl [(.ob (.p (0:Fp))),(.ob (.p (0:Fp))),(.ob (.p (0:Fp)))])),(some (.sq (.ints R))),(some (.fl [(.ob (.p (Prod.fst (jtw o)))),(.ob (.p (Prod.fst (Prod.snd (jtw o))))),(.ob (.p (Prod.snd (Prod.snd (jtw o)))))])),(some (.sq (.int D)))] 400 [] []) cY aY→Wq Try.prog Q (lpBk amC_k) ac Exit.normal aY cY.w):Wq Try.prog Q (lpIn amC_k) ac .normal aX cX.w:=
  run_at2 (o:=⟨_,_,_,_,_,_,_⟩) ucC_ok (by kernel_rfl) (amD_hk P R n q D o h j) ho hs hK
noncomputable def amE_k:List KI:=(run ucC false 3000 ((fun (P:List (Fp×Fp×Fp)) (R:List (List Int)) (n q:Nat) (D:List Int) (o:Fp×Fp×Fp) (h j:Int)=>(⟨lpIn amC_k,.normal,amU P R n q D o h j⟩:Cfg)) default default default default default default default default) [false]).cfg.k
theorem amE_hk (P:List (Fp×Fp×Fp)) (R:List (List Int)) (n q:Nat) (D:List Int) (o:Fp×Fp×Fp) (h j:Int):(run ucC false 3000 ((⟨lpIn amC_k,.normal,amU P R n q D o h j⟩:Cfg)) [false]).cfg.k=amE_k:=by kernel_rfl
theorem amE (P:List (Fp×Fp×Fp)) (R:List (List Int)) (n q:Nat) (D:List Int) (o:Fp×Fp×Fp) (h j:Int) (ho:AllP [((decide (j<(5:Int)))=false),(q=(List.length D))]) (hs:Sim w0 F0 K ac (amU P R n q D o h j) cX aX) (hK:∀ac cY aY,Sim w0 F0 K ac (mkSt 72 [0,4,5,10,11,12,47,48,49] [(.v (.c (.sl (Sq.pt P)))),.pt 16 0,(.v (.c (.slc 17 0 n 1))),.pt 128 0,(.v (.c (.slc 176 0 q 1))),.ii h,(.v (.c (.slc 17 0 n 1))),(.ii ((n:Nat):Int)),.ii (0:Int)] [16,17,128,176] [(some (.fl [(.ob (.p (0:Fp))),(.ob (.p (0:Fp))),(.ob (.p (0:Fp)))])),(some (.sq (.ints R))),(some (.fl [(.ob (.p (Prod.fst o))),(.ob (.p (Prod.fst (Prod.snd o)))),(.ob (.p (Prod.snd (Prod.snd o))))])),(some (.sq (.int (List.replicate (List.length D) (0:Int)))))] 400 [] []) cY aY→Wq Try.prog Q (amE_k) ac Exit.normal aY cY.w):Wq Try.prog Q (lpIn amC_k) ac .normal aX cX.w:=
  run_at2 (o:=⟨_,_,_,_,_,_,_⟩) ucC_ok (by kernel_rfl) (amE_hk P R n q D o h j) ho hs hK
noncomputable def amV (P:List (Fp×Fp×Fp)) (R:List (List Int)) (n q:Nat) (D:List Int) (o:Fp×Fp×Fp) (h i:Int):St:=mkSt 72 [0,4,5,10,11,12,47,48,49] [(.v (.c (.sl (Sq.pt P)))),.pt 16 0,(.v (.c (.slc 17 0 n 1))),.pt 128 0,(.v (.c (.slc 176 0 q 1))),.ii h,(.v (.c (.slc 17 0 n 1))),(.ii ((n:Nat):Int)),.v (.c (.int .i64 i))] [16,17,128,176] [(some (.fl [(.ob (.p (0:Fp))),(.ob (.p (0:Fp))),(.ob (.p (0:Fp)))])),(some (.sq (.ints R))),(some (.fl [(.ob (.p (Prod.fst o))),(.ob (.p (Prod.fst (Prod.snd o)))),(.ob (.p (Prod.snd (Prod.snd o))))])),some (.sq (.int D))] 400 [] []
theorem amF_hk (P:List (Fp×Fp×Fp)) (R:List (List Int)) (n q:Nat) (D:List Int) (o:Fp×Fp×Fp) (h i:Int):(run ucC false 3000 ((⟨lpIn amE_k,.normal,amV P R n q D o h i⟩:Cfg)) [true,true]).cfg.k=lpBk amE_k:=by kernel_rfl
theorem amF (P:List (Fp×Fp×Fp)) (R:List (List Int)) (n q:Nat) (D:List Int) (o:Fp×Fp×Fp) (h i:Int) (ho:AllP [((decide (i<((n:Nat):Int)))=true),((0:Int)≤i),(i<((n:Nat):Int)),(0=0),((i).toNat<(List.length R)),((decide (h<(((List.length (List.getD R (i).toNat ([]:List Int))):Nat):Int)))=true),((0:Int)≤h),(h<(((List.length (List.getD R (i).toNat ([]:List Int))):Nat):Int)),((0:Int)≤i),(i<((q:Nat):Int)),(0=0),((i).toNat<(List.length D))]) (hs:Sim w0 F0 K ac (amV P R n q D o h i) cX aX) (hK:∀ac cY aY,Sim w0 F0 K ac (mkSt 72 [0,4,5,10,11,12,47,48,49] [(.v (.c (.sl (Sq.pt P)))),.pt 16 0,(.v (.c (.slc 17 0 n 1))),.pt 128 0,(.v (.c (.slc 176 0 q 1))),.ii h,(.v (.c (.slc 17 0 n 1))),(.ii ((n:Nat):Int)),(.ii (IntKind.wrap .i64 (i+(1:Int))))] [16,17,128,176] [(some (.fl [(.ob (.p (0:Fp))),(.ob (.p (0:Fp))),(.ob (.p (0:Fp)))])),(some (.sq (.ints R))),(some (.fl [(.ob (.p (Prod.fst o))),(.ob (.p (Prod.fst (Prod.snd o)))),(.ob (.p (Prod.snd (Prod.snd o))))])),(some (.sq (.int (List.set D (i).toNat (List.getD (List.getD R (i).toNat ([]:List Int)) (h).toNat (0:Int))))))] 720 [] []) cY aY→Wq Try.prog Q (lpBk amE_k) ac Exit.normal aY cY.w):Wq Try.prog Q (lpIn amE_k) ac .normal aX cX.w:=
  run_at2 (o:=⟨_,_,_,_,_,_,_⟩) ucC_ok (by kernel_rfl) (amF_hk P R n q D o h i) ho hs hK
theorem amH_hk (P:List (Fp×Fp×Fp)) (R:List (List Int)) (n q:Nat) (D:List Int) (o:Fp×Fp×Fp) (h i:Int):(run ucC false 3000 ((⟨lpIn amE_k,.normal,amV P R n q D o h i⟩:Cfg)) [false]).cfg.k=lpBk amB_k:=by kernel_rfl
theorem amH (P:List (Fp×Fp×Fp)) (R:List (List Int)) (n q:Nat) (D:List Int) (o:Fp×Fp×Fp) (h i:Int) (ho:AllP [((decide (i<((n:Nat):Int)))=false),(0=0),(q=(List.length D)),(1=1),((List.length D)=(List.length P)),((List.length P)≤4611686018427387904),(dsOk D)]) (hs:Sim w0 F0 K ac (amV P R n q D o h i) cX aX) (hK:∀ac cY aY,Sim w0 F0 K ac (mkSt 72 [0,4,5,10,11,12] [(.v (.c (.sl (Sq.pt P)))),.pt 16 0,(.v (.c (.slc 17 0 n 1))),.pt 128 0,(.v (.c (.slc 176 0 q 1))),(.ii (IntKind.wrap .i64 (h-(1:Int))))] [16,17,128,176] [(some (.fl [(.ob (.p (0:Fp))),(.ob (.p (0:Fp))),(.ob (.p (0:Fp)))])),(some (.sq (.ints R))),(some (.fl [(.ob (.p (Prod.fst (jpl o (bkT pt0 P D))))),(.ob (.p (Prod.fst (Prod.snd (jpl o (bkT pt0 P D)))))),(.ob (.p (Prod.snd (Prod.snd (jpl o (bkT pt0 P D))))))])),(some (.sq (.int D)))] 560 [] []) cY aY→Wq Try.prog Q (lpBk amB_k) ac Exit.normal aY cY.w):Wq Try.prog Q (lpIn amE_k) ac .normal aX cX.w:=
  run_at2 (o:=⟨_,_,_,_,_,_,_⟩) ucC_ok (by kernel_rfl) (amH_hk P R n q D o h i) ho hs hK
theorem amX_end (P:List (Fp×Fp×Fp)) (R:List (List Int)) (n q:Nat) (D:List Int) (o:Fp×Fp×Fp) (h:Int):runEnd ucC Try.f64 false 3000 (⟨lpIn amB_k,.normal,amT P R n q D o h⟩) [false] [] []=(some ([((decide (h ≥ (0:Int)))=false)],((.v (.a [(.ob (.p (Prod.fst o))),(.ob (.p (Prod.fst (Prod.snd o)))),(.ob (.p (Prod.snd (Prod.snd o))))])),[]))):=by kernel_rfl
end
end Go.Proofs.Ytdeohachoeopdaa

/- Many points, each as often as its number says: contract. No conditions. -/
namespace Go.Proofs.Ytdeohachoeopdaa

theorem all_fnd (P:List (Fp×Fp×Fp)) (k:List U4) (hk0:k.length=P.length) (hp:P.length≤4096) {N:Nat} (hN:N=52) :
    FnD Try.prog 64 [.v (.c (.sl (.pt P))),.v (.c (.sl (.fr k)))] (.v (.a (ptIts (smJ N pt0 P k)))) []:=by
  refine fn_start (fn:=Try.f64) (c:=bodyOf Try.f64) Try.func64 rfl rfl fun x0 a0 hk hF hs=>?_
  refine am P k trivial hs fun ac cY aY hs1=>?_
  have hs2:=hs1.nilRow (p:=17) (q:=.ints []) rfl (by decide) rfl (ml' := [16,17]) (ens' := [some (.fl [.ob (.p 0),.ob (.p 0),.ob (.p 0)]),some (.sq (.ints []))]) (fun r=>fl_look (by decide))
    (svs' := [.v (.c (.sl (.pt P))),.v (.c (.sl (.fr k))),.v (.c (.ptr 16 0)),.v (.c (.slc 17 0 0 1)),.v (.c (.int .i64 0)),.v (.c (.sl (.fr k))),.v (.c (.int .i64 ((k.length:Nat):Int))),.v (.c (.int .i64 0))]) ⟨.inl rfl,.inl rfl,.inl rfl,.inr ⟨1,rfl,rfl⟩,.inl rfl,.inl rfl,.inl rfl,.inl rfl,trivial⟩
  have hL:=dgK_len N k
  have hrow:=@dgK_row N k
  have hget:=dgK_get N k
  have hdig:=dgK_dig N k
  have hmax:4097≤maxLen:=by decide
  change Wq Try.prog _ _ _ _ _ (nilCtx cY 17).w
  refine loop_rule (ι:={ i:Nat // i≤k.length }) (fun i=>amS P k ((dgK N k).take i.1) i.1 (if i.1=0 then 0 else (N:Int)) (i.1:Int)) (fun i=>k.length-i.1) (c:=lpC am_k) (k:=lpR am_k) (by kernel_rfl) (fun i ih ac cY aY hs=>?_) ⟨0,Nat.zero_le _⟩ (hs2.nx _)
  obtain ⟨i,hi⟩:=i
  simp only at ih hs
  have htl:((dgK N k).take i).length=i:=by rw[List.length_take,hL];omega
  by_cases h:i<k.length
  · refine amA P k _ i _ i ⟨decide_eq_true (by omega),by omega,by omega,by rw[htl];omega,by rw[htl];omega,htl.symm,rfl,trivial⟩ hs fun ac cU aU hs3=>?_
    have ei:IntKind.wrap IntKind.i64 ((i:Int)+1)=((i+1:Nat):Int):=by rw[wrap_id (by omega) (by omega)];rfl
    have e52:(dgW (k.getD i 0).val 52).1=(dgK N k).getD i []:=by rw[hget i h,hN]
    rw[Int.toNat_natCast,ei,htl,e52,take_snoc _ _ (by omega),hrow i h] at hs3
    have em:(if ((N:Nat):Int) > (if i=0 then 0 else (N:Int)) then ((N:Nat):Int) else (if i=0 then 0 else (N:Int)))=(if i+1=0 then 0 else (N:Int)):=by
      rw[if_neg (show ¬i+1=0 from by omega)]
      split<;>split<;>omega
    rw[em] at hs3
    exact ih ⟨i+1,h⟩ (by show k.length-(i+1)<k.length-i;omega) ac cU aU (hs3.nx _)
  · obtain rfl:i=k.length:=by omega
    have ht:(dgK N k).take k.length=dgK N k:=by rw[←hL,List.take_length]
    rw[ht] at hs
    have em:(if k.length=0 then 0 else (N:Int))=((mst N k:Nat):Int):=by
      cases k with
      | nil=>rfl
      | cons x l=>rfl
    rw[em] at hs
    have hm52:mst N k≤52:=by
      cases k with
      | nil=>exact Nat.zero_le _
      | cons x l=>exact Nat.le_of_eq hN
    have hmN:0<k.length→mst N k=N:=by
      intro h
      cases k with
      | nil=>cases h
      | cons x l=>rfl
    refine amB P k _ k.length _ _ ⟨decide_eq_false (by omega),by omega,rfl,by omega,by omega,trivial⟩ hs fun ac cU aU hs3=>?_
    rw[Int.toNat_natCast] at hs3
    have hres:smJ N pt0 P k=alN pt0 P (dgK N k) (mst N k) (mst N k):=rfl
    rw[hres]
    generalize dgK N k=L at hs3 hL hrow hdig ⊢
    generalize mst N k=m at hs3 hm52 hmN ⊢
    have eh:IntKind.wrap IntKind.i64 ((m:Int)-1)=(m:Int)-1-((0:Nat):Int):=by rw[wrap_id (by omega) (by omega)];omega
    rw[eh] at hs3
    refine loop_rule (ι:={ p:Nat×List Int // p.1≤m∧p.2.length=k.length }) (fun p=>amT P L k.length k.length p.1.2 (alN pt0 P L m p.1.1) ((m:Int)-1-(p.1.1:Int))) (fun p=>m-p.1.1) (c:=lpC amB_k) (k:=lpR amB_k) (by kernel_rfl) (fun p ih2 ac cY aY hs=>?_) ⟨(0,List.replicate k.length 0),Nat.zero_le _,List.length_replicate⟩ (hs3.nx _)
    obtain ⟨⟨t,D⟩,ht1,hD⟩:=p
    simp only at ih2 hs ht1 hD
    by_cases htm:t<m
    · have hlt:m-(t+1)<m-t:=by omega
      obtain ⟨a,ha⟩:∃a:Nat,a=m-1-t:=⟨_,rfl⟩
      have ea:(m:Int)-1-(t:Int)=(a:Int):=by omega
      rw[ea] at hs
      have hnext:alN pt0 P L m (t+1)=jpl (jtws 5 (alN pt0 P L m t)) (bkT pt0 P (rowAt L a)):=by rw[ha];rfl
      generalize alN pt0 P L m t=o at hs hnext
      refine amC P L _ _ D o _ ⟨decide_eq_true (by omega),trivial⟩ hs fun ac cZ aZ hs4=>?_
      refine loop_rule (ι:={ j:Nat // j≤5 }) (fun j=>amU P L k.length k.length D (jtws j.1 o) (a:Int) (j.1:Int)) (fun j=>5-j.1) (c:=lpC amC_k) (k:=lpR amC_k) (by kernel_rfl) (fun j ih3 ac cY aY hs=>?_) ⟨0,Nat.zero_le _⟩ (hs4.nx _)
      obtain ⟨j,hj⟩:=j
      simp only at ih3 hs
      by_cases hj5:j<5
      · have ej:jtw (jtws j o)=jtws (j+1) o:=(jtws_succ j o).symm
        generalize jtws j o=o1 at hs ej
        refine amD P L _ _ D _ _ _ ⟨decide_eq_true (by omega),trivial⟩ hs fun ac cV aV hs5=>?_
        rw[wrap_id (n:=(j:Int)+1) (by omega) (by omega),ej] at hs5
        exact ih3 ⟨j+1,hj5⟩ (by show 5-(j+1)<5-j;omega) ac cV aV (hs5.nx _)
      · obtain rfl:j=5:=by omega
        generalize jtws 5 o=o5 at hs hnext
        refine amE P L _ _ D _ _ _ ⟨by decide,hD.symm,trivial⟩ hs fun ac cV aV hs5=>?_
        refine loop_rule (ι:={ p:Nat×List Int // p.1≤k.length∧p.2.length=k.length∧∀j,j<p.1→p.2.getD j 0=(L.getD j []).getD a 0 }) (fun p=>amV P L k.length k.length p.1.2 o5 (a:Int) (p.1.1:Int)) (fun p=>k.length-p.1.1) (c:=lpC amE_k) (k:=lpR amE_k) (by kernel_rfl) (fun p ih4 ac cY aY hs=>?_)
          ⟨(0,List.replicate D.length 0),Nat.zero_le _,List.length_replicate.trans hD,fun j hj=>absurd hj (Nat.not_lt_zero j)⟩ (hs5.nx _)
        obtain ⟨⟨i,E⟩,hi1,hE,hEg⟩:=p
        simp only at ih4 hs hi1 hE hEg
        by_cases hik:i<k.length
        · have hri:=hrow i hik
          have hmn:=hmN (by omega)
          refine amF P L _ _ E _ _ _ ⟨decide_eq_true (by omega),by omega,by omega,rfl,by rw[Int.toNat_natCast];omega,by rw[Int.toNat_natCast,hri];exact decide_eq_true (by omega),by omega,by rw[Int.toNat_natCast,hri];omega,by omega,by omega,rfl,by rw[Int.toNat_natCast];omega,trivial⟩ hs fun ac cW aW hs6=>?_
          rw[Int.toNat_natCast,Int.toNat_natCast,wrap_id (n:=(i:Int)+1) (by omega) (by omega)] at hs6
          refine ih4 ⟨(i+1,E.set i ((L.getD i []).getD a 0)),hik,(List.length_set ..).trans hE,fun j hj=>?_⟩ (by show k.length-(i+1)<k.length-i;omega) ac cW aW (hs6.nx _)
          have hj:j<i+1:=hj
          show (E.set i _).getD j 0=_
          rw[set_getD _ _ _ _ _ (by omega)]
          by_cases e:j=i
          · subst e;rw[if_pos rfl]
          · rw[if_neg e];exact hEg j (by omega)
        · obtain rfl:i=k.length:=by omega
          have hrowE:E=rowAt L a:=row_ext (by omega) fun j hj=>hEg j (by omega)
          subst hrowE
          have hds:dsOk (rowAt L a):=fun j=>by rw[rowAt_get];exact hdig j a
          refine amH P L _ _ _ _ _ _ ⟨decide_eq_false (by omega),rfl,by omega,rfl,by omega,by omega,hds,trivial⟩ hs fun ac cW aW hs6=>?_
          have e7:IntKind.wrap IntKind.i64 ((a:Int)-1)=(m:Int)-1-((t+1:Nat):Int):=by rw[wrap_id (by omega) (by omega)];omega
          rw[e7,←hnext] at hs6
          have ih5:=ih2 ⟨(t+1,rowAt L a),htm,hE⟩ hlt
          dsimp only at ih5
          generalize alN pt0 P L m (t+1)=oN at hs6 ih5
          exact ih5 ac cW aW (hs6.nx _)
    · obtain rfl:t=m:=by omega
      exact run_end2 ucC_ok hk hF (amX_end P L _ _ D _ _) ⟨decide_eq_false (by omega),trivial⟩ (fun y v hd=>hd) hs

end Go.Proofs.Ytdeohachoeopdaa

/- What refuses, walked. No conditions. -/
namespace Go.Proofs.Ytdeohachoeopdaa

--@env env0 env0_ok
theorem ckA (a b:Int) (w:Bool):fnRes env0 Try.f63 3000 [.v (.c (.int .i64 a)),.v (.c (.int .i64 b)),.v (.c (.bool w))] [true] [] []=(some ([((a != b)=true)],((.ii (3:Int)),[]))):=by kernel_rfl
theorem ckB (a b:Int) (w:Bool):fnRes env0 Try.f63 3000 [.v (.c (.int .i64 a)),.v (.c (.int .i64 b)),.v (.c (.bool w))] [false,true] [] []=(some ([((a != b)=false),((decide (a > (4096:Int)))=true)],((.ii (2:Int)),[]))):=by kernel_rfl
theorem ckC (a b:Int) (w:Bool):fnRes env0 Try.f63 3000 [.v (.c (.int .i64 a)),.v (.c (.int .i64 b)),.v (.c (.bool w))] [false,false,true] [] []=(some ([((a != b)=false),((decide (a > (4096:Int)))=false),(w=true)],((.ii (30:Int)),[]))):=by kernel_rfl
theorem ckD (a b:Int) (w:Bool):fnRes env0 Try.f63 3000 [.v (.c (.int .i64 a)),.v (.c (.int .i64 b)),.v (.c (.bool w))] [false,false,false] [] []=(some ([((a != b)=false),((decide (a > (4096:Int)))=false),(w=false)],((.ii (0:Int)),[]))):=by kernel_rfl
end Go.Proofs.Ytdeohachoeopdaa

/- What refuses: contracts. No conditions. -/
namespace Go.Proofs.Ytdeohachoeopdaa

theorem check_fnd (a b:Int) (w:Bool):FnD Try.prog 63 [.v (.c (.int .i64 a)),.v (.c (.int .i64 b)),.v (.c (.bool w))] (.v (.c (.int .i64 (chkE a b w)))) []:=by
  by_cases h:a=b
  · by_cases h2:a > 4096
    · rw[chk_gt h h2]
      exact fn_sound env0_ok Try.func63 (ckB a b w) ⟨by simp [h],decide_eq_true h2,trivial⟩
    · cases w with
      | true=>rw[chk_w h h2 rfl];exact fn_sound env0_ok Try.func63 (ckC a b true) ⟨by simp [h],decide_eq_false h2,rfl,trivial⟩
      | false=>rw[chk_ok h h2 rfl];exact fn_sound env0_ok Try.func63 (ckD a b false) ⟨by simp [h],decide_eq_false h2,rfl,trivial⟩
  · rw[chk_ne h]
    exact fn_sound env0_ok Try.func63 (ckA a b w) ⟨by simp [h],trivial⟩

end Go.Proofs.Ytdeohachoeopdaa

/- Sum1, and what it calls, walked. No conditions. -/
namespace Go.Proofs.Ytdeohachoeopdaa
section
variable {w0:World} {F0:Nat→Prop} {K:Kp} {ac:List Act} {Q:Exit→Act→World→Prop} {cX:Ctx} {aX:Act}

theorem all_fnd2 (P:List (Fp×Fp×Fp)) (k:List U4) (h:k.length=P.length∧P.length≤4096):FnD Try.prog 64 [.v (.c (.sl (.pt P))),.v (.c (.sl (.fr k)))] (.v (.a (ptIts (smJ 52 pt0 P k)))) []:=all_fnd P k h.1 h.2 (Eq.refl 52)
def allSpec:FnSpec
  | [.v (.c (.sl (.pt P))),.v (.c (.sl (.fr k)))]=>some ([k.length=P.length,P.length≤4096],.v (.a (ptIts (smJ 52 pt0 P k))),[])
  | _=>none
noncomputable def udA:Env:=ucC.set (addT ucC.fn 64 allSpec)
theorem udA_ok:EnvOk Try.prog udA:=env_add ucC_ok 64 allSpec (enters_of Try.func64 rfl rfl) fun args o r es h ho=>by
  unfold allSpec at h
  split at h
  · cases h;exact all_fnd2 _ _ ⟨ho.1,ho.2.1⟩
  · cases h
--@env udA udA_ok
noncomputable def ea_k:List KI:=(run udA false 3000 ((fun (l:List G1D)=>(⟨[.code (bodyOf Try.f65)],.normal,initSt Try.f65.ntmps [.v (.c (.sl (.g1 l))),.v (.c (.clo 19 []))]⟩:Cfg)) default) []).cfg.k
theorem ea_hk (l:List G1D):(run udA false 3000 ((⟨[.code (bodyOf Try.f65)],.normal,initSt Try.f65.ntmps [.v (.c (.sl (.g1 l))),.v (.c (.clo 19 []))]⟩:Cfg)) []).cfg.k=ea_k:=by kernel_rfl
theorem ea (l:List G1D) (ho:AllP [((0:Int)≤(((List.length l):Nat):Int)),((((List.length l):Nat):Int)=(((List.length l):Nat):Int)),(((144:Int)*(((List.length l):Nat):Int))≤(281474976710656:Int)),((((List.length l):Nat):Int)≤(9223372036854775807:Int))]) (hs:Sim w0 F0 K ac (initSt Try.f65.ntmps [.v (.c (.sl (.g1 l))),.v (.c (.clo 19 []))]) cX aX) (hK:∀ac cY aY,Sim w0 F0 K ac (mkSt 26 [1,5,11,12,13] [(.v (.c (.clo 19 ([]:List (Prod Nat Nat))))),(.v (.c (.slc 64 0 ((((List.length l):Nat):Int)).toNat 18))),(.v (.c (.sl (Sq.g1 l)))),(.ii (((List.length l):Nat):Int)),.ii (0:Int)] [64] [(some (.sq (Sq.pt (List.replicate ((((List.length l):Nat):Int)).toNat pt0))))] 144 [] []) cY aY→Wq Try.prog Q (ea_k) ac Exit.normal aY cY.w):Wq Try.prog Q ([.code (bodyOf Try.f65)]) ac .normal aX cX.w:=
  run_at2 (o:=⟨_,_,_,_,_,_,_⟩) udA_ok (by kernel_rfl) (ea_hk l) ho hs hK
noncomputable def eaS (l:List G1D) (L:List (Fp×Fp×Fp)) (n:Nat) (i:Int):St:=mkSt 26 [1,5,11,12,13] [(.v (.c (.clo 19 ([]:List (Prod Nat Nat))))),.v (.c (.slc 64 0 n 18)),(.v (.c (.sl (Sq.g1 l)))),(.ii (((List.length l):Nat):Int)),.v (.c (.int .i64 i))] [64] [some (.sq (.pt L))] 144 [] []
theorem eaA_hk (l:List G1D) (L:List (Fp×Fp×Fp)) (n:Nat) (i:Int):(run udA false 3000 ((⟨lpIn ea_k,.normal,eaS l L n i⟩:Cfg)) [true]).cfg.k=lpBk ea_k:=by kernel_rfl
theorem eaA (l:List G1D) (L:List (Fp×Fp×Fp)) (n:Nat) (i:Int) (ho:AllP [((decide (i<(((List.length l):Nat):Int)))=true),((0:Int)≤i),(i<(((List.length l):Nat):Int)),((0:Int)≤i),(i<((n:Nat):Int)),(0=0),((i).toNat<(List.length L))]) (hs:Sim w0 F0 K ac (eaS l L n i) cX aX) (hK:∀ac cY aY,Sim w0 F0 K ac (mkSt 26 [1,5,11,12,13] [(.v (.c (.clo 19 ([]:List (Prod Nat Nat))))),(.v (.c (.slc 64 0 n 18))),(.v (.c (.sl (Sq.g1 l)))),(.ii (((List.length l):Nat):Int)),(.ii (IntKind.wrap .i64 (i+(1:Int))))] [64] [(some (.sq (Sq.pt (List.set L (i).toNat (inG (List.getD l (i).toNat g10))))))] 400 [] []) cY aY→Wq Try.prog Q (lpBk ea_k) ac Exit.normal aY cY.w):Wq Try.prog Q (lpIn ea_k) ac .normal aX cX.w:=
  run_at2 (o:=⟨_,_,_,_,_,_,_⟩) udA_ok (by kernel_rfl) (eaA_hk l L n i) ho hs hK
theorem eaX_end (l:List G1D) (L:List (Fp×Fp×Fp)) (n:Nat) (i:Int):runEnd udA Try.f65 false 3000 (⟨lpIn ea_k,.normal,eaS l L n i⟩) [false] [] [64]=(some ([((decide (i<(((List.length l):Nat):Int)))=false),(n=(List.length L))],((.v (.c (.sl (Sq.pt L)))),[]))):=by kernel_rfl
theorem nrR1 (a b:U6) (i:Bool):fnRes udA Try.f62 3000 [.v (.a [.ob (.fp a),.ob (.fp b),.bool i])] [] [] []=(some ([],((.v (.c (.bool (Bool.not (onG (G1D.mk a b i)))))),[]))):=by kernel_rfl
def notRight:FnSpec
  | [.v (.a [.ob (.fp a),.ob (.fp b),.bool i])]=>some ([],.v (.c (.bool (!(onG ⟨a,b,i⟩)))),[])
  | _=>none
noncomputable def udB:Env:=udA.set (addT udA.fn 62 notRight)
theorem udB_ok:EnvOk Try.prog udB:=env_add udA_ok 62 notRight (enters_of Try.func62 rfl rfl) fun args o r es h _=>by
  unfold notRight at h
  split at h
  · cases h;exact fn_sound udA_ok Try.func62 (nrR1 _ _ _) trivial
  · cases h
--@env udB udB_ok
noncomputable def iw_k:List KI:=(run udB false 3000 ((fun (l:List G1D)=>(⟨[.code (bodyOf Try.f77)],.normal,initSt Try.f77.ntmps [.v (.c (.sl (.g1 l))),.v (.c (.clo 62 []))]⟩:Cfg)) default) []).cfg.k
theorem iw_hk (l:List G1D):(run udB false 3000 ((⟨[.code (bodyOf Try.f77)],.normal,initSt Try.f77.ntmps [.v (.c (.sl (.g1 l))),.v (.c (.clo 62 []))]⟩:Cfg)) []).cfg.k=iw_k:=by kernel_rfl
theorem iw (l:List G1D) (ho:AllP []) (hs:Sim w0 F0 K ac (initSt Try.f77.ntmps [.v (.c (.sl (.g1 l))),.v (.c (.clo 62 []))]) cX aX) (hK:∀ac cY aY,Sim w0 F0 K ac (mkSt 19 [0,1,7,8] [(.v (.c (.sl (Sq.g1 l)))),(.v (.c (.clo 62 ([]:List (Prod Nat Nat))))),(.ii (((List.length l):Nat):Int)),.ii (0:Int)] [] [] 80 [] []) cY aY→Wq Try.prog Q (iw_k) ac Exit.normal aY cY.w):Wq Try.prog Q ([.code (bodyOf Try.f77)]) ac .normal aX cX.w:=
  run_at2 (o:=⟨_,_,_,_,_,_,_⟩) udB_ok (by kernel_rfl) (iw_hk l) ho hs hK
noncomputable def iwS (l:List G1D) (i:Int):St:=mkSt 19 [0,1,7,8] [(.v (.c (.sl (Sq.g1 l)))),(.v (.c (.clo 62 ([]:List (Prod Nat Nat))))),(.ii (((List.length l):Nat):Int)),.v (.c (.int .i64 i))] [] [] 80 [] []
theorem iwA_hk (l:List G1D) (i:Int):(run udB false 3000 ((⟨lpIn iw_k,.normal,iwS l i⟩:Cfg)) [true,false]).cfg.k=lpBk iw_k:=by kernel_rfl
theorem iwA (l:List G1D) (i:Int) (ho:AllP [((decide (i<(((List.length l):Nat):Int)))=true),((0:Int)≤i),(i<(((List.length l):Nat):Int)),((Bool.not (onG (List.getD l (i).toNat g10)))=false)]) (hs:Sim w0 F0 K ac (iwS l i) cX aX) (hK:∀ac cY aY,Sim w0 F0 K ac (mkSt 19 [0,1,7,8] [(.v (.c (.sl (Sq.g1 l)))),(.v (.c (.clo 62 ([]:List (Prod Nat Nat))))),(.ii (((List.length l):Nat):Int)),(.ii (IntKind.wrap .i64 (i+(1:Int))))] [] [] 256 [] []) cY aY→Wq Try.prog Q (lpBk iw_k) ac Exit.normal aY cY.w):Wq Try.prog Q (lpIn iw_k) ac .normal aX cX.w:=
  run_at2 (o:=⟨_,_,_,_,_,_,_⟩) udB_ok (by kernel_rfl) (iwA_hk l i) ho hs hK
theorem iwY_end (l:List G1D) (i:Int):runEnd udB Try.f77 false 3000 (⟨lpIn iw_k,.normal,iwS l i⟩) [true,true] [] []=(some ([((decide (i<(((List.length l):Nat):Int)))=true),((0:Int)≤i),(i<(((List.length l):Nat):Int)),((Bool.not (onG (List.getD l (i).toNat g10)))=true)],((.ii i),[]))):=by kernel_rfl
theorem iwX_end (l:List G1D) (i:Int):runEnd udB Try.f77 false 3000 (⟨lpIn iw_k,.normal,iwS l i⟩) [false] [] []=(some ([((decide (i<(((List.length l):Nat):Int)))=false)],((.ii (-(1:Int))),[]))):=by kernel_rfl
end
end Go.Proofs.Ytdeohachoeopdaa

/- What Sum1 calls: contracts. No conditions. -/
namespace Go.Proofs.Ytdeohachoeopdaa

theorem each_fnd (l:List G1D) (hl:l.length≤1048576):FnD Try.prog 65 [.v (.c (.sl (.g1 l))),.v (.c (.clo 19 []))] (.v (.c (.sl (.pt (l.map inG))))) []:=by
  refine fn_start (fn:=Try.f65) (c:=bodyOf Try.f65) Try.func65 rfl rfl fun x0 a0 hk hF hs=>?_
  refine ea l ⟨by omega,rfl,by omega,by omega,trivial⟩ hs fun ac cY aY hs1=>?_
  rw[Int.toNat_natCast] at hs1
  refine loop_rule (ι:={ p:Nat×List (Fp×Fp×Fp) // p.1≤l.length∧p.2.length=l.length∧∀j,j<p.1→p.2.getD j pt0=inG (l.getD j g10) }) (fun p=>eaS l p.1.2 l.length (p.1.1:Int)) (fun p=>l.length-p.1.1) (c:=lpC ea_k) (k:=lpR ea_k) (by kernel_rfl) (fun p ih ac cY aY hs=>?_)
    ⟨(0,List.replicate l.length pt0),Nat.zero_le _,List.length_replicate,fun j hj=>absurd hj (Nat.not_lt_zero j)⟩ (hs1.nx _)
  obtain ⟨⟨i,L⟩,hi,hL,hg⟩:=p
  simp only at ih hs hi hL hg
  by_cases h:i<l.length
  · refine eaA l L l.length i ⟨decide_eq_true (by omega),by omega,by omega,by omega,by omega,rfl,by rw[Int.toNat_natCast];omega,trivial⟩ hs fun ac cU aU hs2=>?_
    rw[Int.toNat_natCast,wrap_id (n:=(i:Int)+1) (by omega) (by omega)] at hs2
    refine ih ⟨(i+1,L.set i (inG (l.getD i g10))),h,(List.length_set ..).trans hL,fun j hj=>?_⟩ (by show l.length-(i+1)<l.length-i;omega) ac cU aU (hs2.nx _)
    have hj:j<i+1:=hj
    show (L.set i _).getD j pt0=_
    rw[set_getD _ _ _ _ _ (by omega)]
    by_cases e:j=i
    · subst e;rw[if_pos rfl]
    · rw[if_neg e];exact hg j (by omega)
  · obtain rfl:i=l.length:=by omega
    have e:L=l.map inG:=by
      apply List.ext_getElem (by rw[hL,List.length_map])
      intro j h1 h2
      have e:=hg j (by omega)
      rw[←map_getD inG l g10 pt0 (by omega),List.getD_eq_getElem?_getD,List.getD_eq_getElem?_getD,List.getElem?_eq_getElem h1,List.getElem?_eq_getElem h2] at e
      exact e
    subst e
    exact run_end2 udA_ok hk hF (eaX_end l _ _ _) ⟨decide_eq_false (by omega),hL.symm,trivial⟩ (fun y v hd=>hd) hs

/-- Where the first one lies that is so. -/
def fstIx (p:G1D→Bool):List G1D→Nat→Int
  | [],_=>-1
  | a::l,i=>if p a then (i:Int) else fstIx p l (i+1)
theorem fstIx_any (p:G1D→Bool):∀(l:List G1D) (i:Nat),decide (fstIx p l i ≥ 0)=l.any p
  | [],_=>rfl
  | a::l,i=>by
    show decide ((if p a then (i:Int) else fstIx p l (i+1)) ≥ 0)=(p a || l.any p)
    cases h:p a with
    | true=>rw[if_pos rfl,Bool.true_or];exact decide_eq_true (Int.natCast_nonneg i)
    | false=>rw[if_neg Bool.false_ne_true,Bool.false_or];exact fstIx_any p l (i+1)
def offG (a:G1D):Bool:=!(onG a)
theorem fstIx_drop (p:G1D→Bool) (l:List G1D) (i:Nat) (h:i<l.length):fstIx p (l.drop i) i=if p (l.getD i g10) then (i:Int) else fstIx p (l.drop (i+1)) (i+1):=by
  rw[List.drop_eq_getElem_cons h,List.getD_eq_getElem?_getD,List.getElem?_eq_getElem h]
  rfl
theorem index_fnd (l:List G1D):FnD Try.prog 77 [.v (.c (.sl (.g1 l))),.v (.c (.clo 62 []))] (.v (.c (.int .i64 (fstIx offG l 0)))) []:=by
  refine fn_start (fn:=Try.f77) (c:=bodyOf Try.f77) Try.func77 rfl rfl fun x0 a0 hk hF hs=>?_
  have hlen:l.length≤maxLen:=by
    have h0:=hs.t 0
    exact sl_len h0
  have hmax:maxLen≤9223372036854775807:=by decide
  refine iw l trivial hs fun ac cY aY hs1=>?_
  refine loop_rule (ι:={ i:Nat // i≤l.length∧fstIx offG (l.drop i) i=fstIx offG l 0 }) (fun i=>iwS l (i.1:Int)) (fun i=>l.length-i.1) (c:=lpC iw_k) (k:=lpR iw_k) (by kernel_rfl) (fun i ih ac cY aY hs=>?_) ⟨0,Nat.zero_le _,by rw[List.drop_zero]⟩ (hs1.nx _)
  obtain ⟨i,hi,he⟩:=i
  simp only at ih hs
  by_cases h:i<l.length
  · rw[fstIx_drop _ _ _ h] at he
    cases ho:offG (l.getD i g10) with
    | true=>
      rw[ho,if_pos rfl] at he
      rw[←he]
      exact run_end2 udB_ok hk hF (iwY_end l i) ⟨decide_eq_true (by omega),by omega,by omega,by rw[Int.toNat_natCast];exact ho,trivial⟩ (fun y v hd=>hd) hs
    | false=>
      rw[ho,if_neg Bool.false_ne_true] at he
      refine iwA l i ⟨decide_eq_true (by omega),by omega,by omega,by rw[Int.toNat_natCast];exact ho,trivial⟩ hs fun ac cU aU hs2=>?_
      rw[wrap_id (n:=(i:Int)+1) (by omega) (by omega)] at hs2
      exact ih ⟨i+1,h,he⟩ (by show l.length-(i+1)<l.length-i;omega) ac cU aU (hs2.nx _)
  · obtain rfl:i=l.length:=by omega
    rw[List.drop_length] at he
    rw[←he]
    exact run_end2 udB_ok hk hF (iwX_end l _) ⟨decide_eq_false (by omega),trivial⟩ (fun y v hd=>hd) hs

end Go.Proofs.Ytdeohachoeopdaa

/- Sum1, and the laws on sums of points of the first curve, walked. No conditions. -/
namespace Go.Proofs.Ytdeohachoeopdaa

def eachSpec:FnSpec
  | [.v (.c (.sl (.g1 l))),.v (.c (.clo 19 []))]=>some ([l.length≤1048576],.v (.c (.sl (.pt (l.map inG)))),[])
  | _=>none
noncomputable def ueA:Env:=udB.set (addT udB.fn 65 eachSpec)
theorem ueA_ok:EnvOk Try.prog ueA:=env_add udB_ok 65 eachSpec (enters_of Try.func65 rfl rfl) fun args o r es h ho=>by
  unfold eachSpec at h
  split at h
  · cases h;exact each_fnd _ ho.1
  · cases h
def indexSpec:FnSpec
  | [.v (.c (.sl (.g1 l))),.v (.c (.clo 62 []))]=>some ([],.v (.c (.int .i64 (fstIx offG l 0))),[])
  | _=>none
noncomputable def ueB:Env:=ueA.set (addT ueA.fn 77 indexSpec)
theorem ueB_ok:EnvOk Try.prog ueB:=env_add ueA_ok 77 indexSpec (enters_of Try.func77 rfl rfl) fun args o r es h _=>by
  unfold indexSpec at h
  split at h
  · cases h;exact index_fnd _
  · cases h
def checkSpec:FnSpec
  | [.v (.c (.int .i64 a)),.v (.c (.int .i64 b)),.v (.c (.bool w))]=>some ([],.v (.c (.int .i64 (chkE a b w))),[])
  | _=>none
noncomputable def ueC:Env:=ueB.set (addT ueB.fn 63 checkSpec)
theorem ueC_ok:EnvOk Try.prog ueC:=env_add ueB_ok 63 checkSpec (enters_of Try.func63 rfl rfl) fun args o r es h _=>by
  unfold checkSpec at h
  split at h
  · cases h;exact check_fnd _ _ _
  · cases h
noncomputable def ueD:Env:=ueC
theorem ueD_ok:EnvOk Try.prog ueD:=ueC_ok
theorem cfR (l:List G1D):fnRes ueD Try.f61 3000 [.v (.c (.sl (.g1 l))),.v (.c (.clo 62 []))] [] [] []=(some ([],((.v (.c (.bool (decide ((fstIx offG l 0) ≥ (0:Int)))))),[]))):=by kernel_rfl
theorem contains_fnd (l:List G1D):FnD Try.prog 61 [.v (.c (.sl (.g1 l))),.v (.c (.clo 62 []))] (.v (.c (.bool (l.any offG)))) []:=by
  have r:=cfR l
  rw[fstIx_any] at r
  exact fn_sound ueD_ok Try.func61 r trivial
def containsSpec:FnSpec
  | [.v (.c (.sl (.g1 l))),.v (.c (.clo 62 []))]=>some ([],.v (.c (.bool (l.any offG))),[])
  | _=>none
noncomputable def ueE:Env:=ueD.set (addT ueD.fn 61 containsSpec)
theorem ueE_ok:EnvOk Try.prog ueE:=env_add ueD_ok 61 containsSpec (enters_of Try.func61 rfl rfl) fun args o r es h _=>by
  unfold containsSpec at h
  split at h
  · cases h;exact contains_fnd _
  · cases h
--@env ueE ueE_ok
theorem s1A (l:List G1D) (k:List U4):fnRes ueE Try.f35 3000 [.v (.c (.sl (.g1 l))),.v (.c (.sl (.fr k)))] [true] [] []=(some ([(((chkE (((List.length l):Nat):Int) (((List.length k):Nat):Int) (List.any l offG)) != (0:Int))=true)],((.t [(.a [(.ob (.fp (0:U6))),(.ob (.fp (0:U6))),(.lit false)]),(.c (.int .i64 (chkE (((List.length l):Nat):Int) (((List.length k):Nat):Int) (List.any l offG))))]),[]))):=by kernel_rfl
theorem s1B (l:List G1D) (k:List U4):fnRes ueE Try.f35 3000 [.v (.c (.sl (.g1 l))),.v (.c (.sl (.fr k)))] [false] [] []=(some ([(((chkE (((List.length l):Nat):Int) (((List.length k):Nat):Int) (List.any l offG)) != (0:Int))=false),((List.length l)≤1048576),((List.length k)=(List.length (List.map inG l))),((List.length (List.map inG l))≤4096)],((.t [(.a [(.ob (.fp (G1D.x (outG (smJ 52 pt0 (List.map inG l) k))))),(.ob (.fp (G1D.y (outG (smJ 52 pt0 (List.map inG l) k))))),(.bool (G1D.inf (outG (smJ 52 pt0 (List.map inG l) k))))]),(.c (.int .i64 (0:Int)))]),[]))):=by kernel_rfl
end Go.Proofs.Ytdeohachoeopdaa

/- Sum1: contract. No conditions. -/
namespace Go.Proofs.Ytdeohachoeopdaa

/-- What Sum1 tells. -/
def sum1 (l:List G1D) (k:List U4):G1D×Int:=
  if chkE (l.length:Int) (k.length:Int) (l.any offG)=0 then (outG (smJ 52 pt0 (l.map inG) k),0) else (g10,chkE (l.length:Int) (k.length:Int) (l.any offG))
theorem sum1_ok {l:List G1D} {k:List U4} (h:chkE (l.length:Int) (k.length:Int) (l.any offG)=0):sum1 l k=(outG (smJ 52 pt0 (l.map inG) k),0):=if_pos h
theorem sum1_no {l:List G1D} {k:List U4} (h:¬chkE (l.length:Int) (k.length:Int) (l.any offG)=0):sum1 l k=(g10,chkE (l.length:Int) (k.length:Int) (l.any offG)):=if_neg h
theorem sum1_fnd (l:List G1D) (k:List U4):FnD Try.prog 35 [.v (.c (.sl (.g1 l))),.v (.c (.sl (.fr k)))] (.t [.a (sum1 l k).1.its,.c (.int .i64 (sum1 l k).2)]) []:=by
  by_cases h:chkE (l.length:Int) (k.length:Int) (l.any offG)=0
  · rw[sum1_ok h]
    obtain ⟨h1,h2,h3⟩:=chk_zero h
    exact fn_sound ueE_ok Try.func35 (s1B l k) ⟨by rw[h];rfl,by omega,by rw[List.length_map];omega,by rw[List.length_map];omega,trivial⟩
  · rw[sum1_no h]
    exact (fn_sound ueE_ok Try.func35 (s1A l k) ⟨by simpa using h,trivial⟩).conv (fun _ _ h=>h) fun y v hd=>lit_third_t hd

theorem smJ_gP {N:Nat} (hN:N=52) {l:List G1D} {k:List U4} (hl:k.length=l.length) (ho:l.any offG=false):outG (smJ N pt0 (l.map inG) k)=gP (gsum (k.map (·.val)) (l.map pG)):=by
  have hon:∀a,a∈l→onG a=true:=fun a ha=>by
    rw[List.any_eq_false] at ho
    have:=ho a ha
    unfold offG at this
    simpa using this
  cases k with
  | nil=>
    have e:l=[]:=List.length_eq_zero_iff.1 hl.symm
    subst e
    exact outG_jc (P:=none) (rfl:(0:Fp)=0)
  | cons x k=>
    have hm:smJ N pt0 (l.map inG) (x::k)=alN pt0 (l.map inG) (digs N ((x::k).map (·.val))) N N:=rfl
    rw[hm]
    refine outG_jc (many_sum hN cv1 pt0 rfl (by rw[List.length_map,List.length_map]) (fun P hP=>?_) (fun i hi=>?_) (by rw[List.length_map,List.length_map];exact hl) (fun v hv=>?_))
    · obtain ⟨a,ha,rfl⟩:=List.mem_map.1 hP
      exact (onG_is (hon a ha)).2
    · rw[List.length_map] at hi
      rw[map_getD pG l g10 none hi,map_getD inG l g10 pt0 hi]
      exact inG_jc _
    · obtain ⟨u,_,rfl⟩:=List.mem_map.1 hv
      exact u4_lt u

/-- Sums of multiples, from the left. -/
def gsl (ks:List Nat) (Ps:List (Pt Fp)):Nat→Pt Fp
  | 0=>none
  | i+1=>gadd (gsl ks Ps i) (nmul (Ps.getD i none) (ks.getD i 0))
theorem gsum_snoc (k:Nat) (P:Pt Fp) (hP:OnC fp4 P):∀(ks:List Nat) (Ps:List (Pt Fp)),ks.length=Ps.length→(∀Q,Q∈Ps→OnC fp4 Q)→gsum (ks++[k]) (Ps++[P])=gadd (gsum ks Ps) (nmul P k)
  | [],[],_,_=>by
    show gadd (nmul P k) none=gadd none (nmul P k)
    rw[gadd_none]
    rfl
  | [],_::_,h,_=>by cases h
  | _::_,[],h,_=>by cases h
  | c::ks,Q::Ps,h,ho=>by
    show gadd (nmul Q c) (gsum (ks++[k]) (Ps++[P]))=gadd (gadd (nmul Q c) (gsum ks Ps)) (nmul P k)
    rw[gsum_snoc k P hP ks Ps (Nat.succ.inj h) fun R hR=>ho R (List.mem_cons_of_mem _ hR),gadd_assoc cv1 _ _ _ (nmul_on cv1 (ho Q (List.mem_cons_self ..)) c) (gsum_on cv1 ks Ps fun R hR=>ho R (List.mem_cons_of_mem _ hR)) (nmul_on cv1 hP k)]
theorem gsl_is (ks:List Nat) (Ps:List (Pt Fp)) (hl:ks.length=Ps.length) (ho:∀Q,Q∈Ps→OnC fp4 Q):∀i,i≤Ps.length→gsl ks Ps i=gsum (ks.take i) (Ps.take i)
  | 0,_=>rfl
  | i+1,h=>by
    have e1:=take_snoc ks 0 (i:=i) (by omega)
    have e2:=take_snoc Ps none (i:=i) (by omega)
    have hm:Ps.getD i none∈Ps:=by
      rw[List.getD_eq_getElem?_getD,List.getElem?_eq_getElem (by omega)]
      exact List.getElem_mem _
    show gadd (gsl ks Ps i) (nmul (Ps.getD i none) (ks.getD i 0))=_
    rw[gsl_is ks Ps hl ho i (by omega),←e1,←e2,gsum_snoc _ _ (ho _ hm) _ _ (by rw[List.length_take,List.length_take,hl]) fun Q hQ=>ho Q (List.mem_of_mem_take hQ)]
end Go.Proofs.Ytdeohachoeopdaa

/- A table of multiples of a point, and one of each row added up, walked. No conditions. -/
namespace Go.Proofs.Ytdeohachoeopdaa
section
variable {w0:World} {F0:Nat→Prop} {K:Kp} {ac:List Act} {Q:Exit→Act→World→Prop} {cX:Ctx} {aX:Act}

--@env qtG qtG_ok
noncomputable def mv_k:List KI:=(run qtG false 3000 ((fun (a:Fp×Fp×Fp)=>(⟨[.code (bodyOf Try.f18)],.normal,initSt Try.f18.ntmps [.v (.a [.ob (.p a.1),.ob (.p a.2.1),.ob (.p a.2.2)])]⟩:Cfg)) default) []).cfg.k
theorem mv_hk (a:Fp×Fp×Fp):(run qtG false 3000 ((⟨[.code (bodyOf Try.f18)],.normal,initSt Try.f18.ntmps [.v (.a [.ob (.p a.1),.ob (.p a.2.1),.ob (.p a.2.2)])]⟩:Cfg)) []).cfg.k=mv_k:=by kernel_rfl
theorem mv (a:Fp×Fp×Fp) (ho:AllP []) (hs:Sim w0 F0 K ac (initSt Try.f18.ntmps [.v (.a [.ob (.p a.1),.ob (.p a.2.1),.ob (.p a.2.2)])]) cX aX) (hK:∀ac cY aY,Sim w0 F0 K ac (mkSt 30 [1,3,6] [.pt 16 0,(.v (.c (.val (Value.slice Option.none 0 0)))),.ii (0:Int)] [16] [(some (.fl [(.ob (.p (Prod.fst a))),(.ob (.p (Prod.fst (Prod.snd a)))),(.ob (.p (Prod.snd (Prod.snd a))))]))] 80 [] []) cY aY→Wq Try.prog Q (mv_k) ac Exit.normal aY cY.w):Wq Try.prog Q ([.code (bodyOf Try.f18)]) ac .normal aX cX.w:=
  run_at2 (o:=⟨_,_,_,_,_,_,_⟩) qtG_ok (by kernel_rfl) (mv_hk a) ho hs hK
noncomputable def mvS (a:Fp×Fp×Fp) (R:List (List (Fp×Fp×Fp))) (n:Nat) (i:Int):St:=mkSt 30 [1,3,6] [.pt 16 0,.v (.c (.slc 17 0 n 288)),.v (.c (.int .i64 i))] [16,17] [(some (.fl [(.ob (.p (Prod.fst a))),(.ob (.p (Prod.fst (Prod.snd a)))),(.ob (.p (Prod.snd (Prod.snd a))))])),some (.sq (.ptt R))] 80 [] []
noncomputable def mvA_k:List KI:=(run qtG false 3000 ((fun (a:Fp×Fp×Fp) (R:List (List (Fp×Fp×Fp))) (n:Nat) (i:Int)=>(⟨lpIn mv_k,.normal,mvS a R n i⟩:Cfg)) default default default default) [true]).cfg.k
theorem mvA_hk (a:Fp×Fp×Fp) (R:List (List (Fp×Fp×Fp))) (n:Nat) (i:Int):(run qtG false 3000 ((⟨lpIn mv_k,.normal,mvS a R n i⟩:Cfg)) [true]).cfg.k=mvA_k:=by kernel_rfl
theorem mvA (a:Fp×Fp×Fp) (R:List (List (Fp×Fp×Fp))) (n:Nat) (i:Int) (ho:AllP [((decide (i<(64:Int)))=true)]) (hs:Sim w0 F0 K ac (mvS a R n i) cX aX) (hK:∀ac cY aY,Sim w0 F0 K ac (mkSt 30 [1,3,4,5,6] [.pt 16 0,(.v (.c (.slc 17 0 n 288))),.pt 96 0,.ii (1:Int),.ii i] [16,17,96] [(some (.fl [(.ob (.p (Prod.fst a))),(.ob (.p (Prod.fst (Prod.snd a)))),(.ob (.p (Prod.snd (Prod.snd a))))])),(some (.sq (Sq.ptt R))),(some (.fl [(.ob (.p (0:Fp))),(.ob (.p (0:Fp))),(.ob (.p (0:Fp))),(.ob (.p (0:Fp))),(.ob (.p (0:Fp))),(.ob (.p (0:Fp))),(.ob (.p (0:Fp))),(.ob (.p (0:Fp))),(.ob (.p (0:Fp))),(.ob (.p (0:Fp))),(.ob (.p (0:Fp))),(.ob (.p (0:Fp))),(.ob (.p (0:Fp))),(.ob (.p (0:Fp))),(.ob (.p (0:Fp))),(.ob (.p (0:Fp))),(.ob (.p (0:Fp))),(.ob (.p (0:Fp))),(.ob (.p (0:Fp))),(.ob (.p (0:Fp))),(.ob (.p (0:Fp))),(.ob (.p (0:Fp))),(.ob (.p (0:Fp))),(.ob (.p (0:Fp))),(.ob (.p (0:Fp))),(.ob (.p (0:Fp))),(.ob (.p (0:Fp))),(.ob (.p (0:Fp))),(.ob (.p (0:Fp))),(.ob (.p (0:Fp))),(.ob (.p (0:Fp))),(.ob (.p (0:Fp))),(.ob (.p (0:Fp))),(.ob (.p (0:Fp))),(.ob (.p (0:Fp))),(.ob (.p (0:Fp))),(.ob (.p (0:Fp))),(.ob (.p (0:Fp))),(.ob (.p (0:Fp))),(.ob (.p (0:Fp))),(.ob (.p (0:Fp))),(.ob (.p (0:Fp))),(.ob (.p (0:Fp))),(.ob (.p (0:Fp))),(.ob (.p (0:Fp))),(.ob (.p (0:Fp))),(.ob (.p (0:Fp))),(.ob (.p (0:Fp)))]))] 128 [] []) cY aY→Wq Try.prog Q (mvA_k) ac Exit.normal aY cY.w):Wq Try.prog Q (lpIn mv_k) ac .normal aX cX.w:=
  run_at2 (o:=⟨_,_,_,_,_,_,_⟩) qtG_ok (by kernel_rfl) (mvA_hk a R n i) ho hs hK
theorem mvX_end (a:Fp×Fp×Fp) (R:List (List (Fp×Fp×Fp))) (n:Nat) (i:Int):runEnd qtG Try.f18 false 3000 (⟨lpIn mv_k,.normal,mvS a R n i⟩) [false] [] [17]=(some ([((decide (i<(64:Int)))=false),(n=(List.length R))],((.v (.c (.sl (Sq.ptt R)))),[]))):=by kernel_rfl
noncomputable def mvT (a:Fp×Fp×Fp) (R:List (List (Fp×Fp×Fp))) (n:Nat) (i:Int) (L:List (Fp×Fp×Fp)) (d:Int):St:=mkSt 30 [1,3,4,5,6] [.pt 16 0,(.v (.c (.slc 17 0 n 288))),.pt 96 0,.v (.c (.int .i64 d)),.ii i] [16,17,96] [(some (.fl [(.ob (.p (Prod.fst a))),(.ob (.p (Prod.fst (Prod.snd a)))),(.ob (.p (Prod.snd (Prod.snd a))))])),(some (.sq (Sq.ptt R))),some (.sq (.pt L))] 128 [] []
theorem mvB_hk (a:Fp×Fp×Fp) (R:List (List (Fp×Fp×Fp))) (n:Nat) (i:Int) (L:List (Fp×Fp×Fp)) (d:Int):(run qtG false 3000 ((⟨lpIn mvA_k,.normal,mvT a R n i L d⟩:Cfg)) [true]).cfg.k=lpBk mvA_k:=by kernel_rfl
theorem mvB (a:Fp×Fp×Fp) (R:List (List (Fp×Fp×Fp))) (n:Nat) (i:Int) (L:List (Fp×Fp×Fp)) (d:Int) (ho:AllP [((decide (d<(16:Int)))=true),((0:Int)≤(IntKind.wrap .i64 (d-(1:Int)))),((IntKind.wrap .i64 (d-(1:Int)))<(16:Int)),(0=0),(((IntKind.wrap .i64 (d-(1:Int)))).toNat<(List.length L)),((0:Int)≤d),(d<(16:Int)),(0=0),((d).toNat<(List.length L))]) (hs:Sim w0 F0 K ac (mvT a R n i L d) cX aX) (hK:∀ac cY aY,Sim w0 F0 K ac (mkSt 30 [1,3,4,5,6] [.pt 16 0,(.v (.c (.slc 17 0 n 288))),.pt 96 0,(.ii (IntKind.wrap .i64 (d+(1:Int)))),.ii i] [16,17,96] [(some (.fl [(.ob (.p (Prod.fst a))),(.ob (.p (Prod.fst (Prod.snd a)))),(.ob (.p (Prod.snd (Prod.snd a))))])),(some (.sq (Sq.ptt R))),(some (.sq (Sq.pt (List.set L (d).toNat (jpl (List.getD L ((IntKind.wrap .i64 (d-(1:Int)))).toNat pt0) a)))))] 352 [] []) cY aY→Wq Try.prog Q (lpBk mvA_k) ac Exit.normal aY cY.w):Wq Try.prog Q (lpIn mvA_k) ac .normal aX cX.w:=
  run_at2 (o:=⟨_,_,_,_,_,_,_⟩) qtG_ok (by kernel_rfl) (mvB_hk a R n i L d) ho hs hK
noncomputable def mvU (a:Fp×Fp×Fp) (R:List (List (Fp×Fp×Fp))) (n:Nat) (i:Int) (L:List (Fp×Fp×Fp)) (d:Int):St:=mkSt 30 [1,3,4,5,6] [.pt 16 0,(.v (.c (.slc 17 0 n 288))),.pt 96 0,.v (.c (.int .i64 d)),.ii i] [16,17,96] [(some (.fl [(.ob (.p (Prod.fst a))),(.ob (.p (Prod.fst (Prod.snd a)))),(.ob (.p (Prod.snd (Prod.snd a))))])),(some (.sq (Sq.ptt R))),some (.sq (.ptt [L]))] 128 [] []
noncomputable def mvC_k:List KI:=(run qtG false 19 ((fun (a:Fp×Fp×Fp) (R:List (List (Fp×Fp×Fp))) (n:Nat) (i:Int) (L:List (Fp×Fp×Fp)) (d:Int)=>(⟨lpIn mvA_k,.normal,mvU a R n i L d⟩:Cfg)) default default default default default default) [false]).cfg.k
theorem mvC_hk (a:Fp×Fp×Fp) (R:List (List (Fp×Fp×Fp))) (n:Nat) (i:Int) (L:List (Fp×Fp×Fp)) (d:Int):(run qtG false 19 ((⟨lpIn mvA_k,.normal,mvU a R n i L d⟩:Cfg)) [false]).cfg.k=mvC_k:=by kernel_rfl
theorem mvC (a:Fp×Fp×Fp) (R:List (List (Fp×Fp×Fp))) (n:Nat) (i:Int) (L:List (Fp×Fp×Fp)) (d:Int) (ho:AllP [((decide (d<(16:Int)))=false),(0<1),((((List.length R)+1)*2304)≤140737488355328),(((List.length R)+1)≤maxLen),(n=(List.length R)),(1=1)]) (hs:Sim w0 F0 K ac (mvU a R n i L d) cX aX) (hK:∀ac cY aY,Sim w0 F0 K ac (mkSt 30 [1,3,4,6] [.pt 16 0,(.v (.c (.slc 17 0 ((List.length R)+1) 288))),.pt 96 0,.ii i] [16,17,96] [(some (.fl [(.ob (.p (Prod.fst a))),(.ob (.p (Prod.fst (Prod.snd a)))),(.ob (.p (Prod.snd (Prod.snd a))))])),(some (.sq (Sq.ptt (R++[[(List.getD L 0 pt0),(List.getD L 1 pt0),(List.getD L 2 pt0),(List.getD L 3 pt0),(List.getD L 4 pt0),(List.getD L 5 pt0),(List.getD L 6 pt0),(List.getD L 7 pt0),(List.getD L 8 pt0),(List.getD L 9 pt0),(List.getD L 10 pt0),(List.getD L 11 pt0),(List.getD L 12 pt0),(List.getD L 13 pt0),(List.getD L 14 pt0),(List.getD L 15 pt0)]])))),(some (.sq (Sq.ptt [L])))] 240 [] []) cY aY→Wq Try.prog Q (mvC_k) ac Exit.normal aY cY.w):Wq Try.prog Q (lpIn mvA_k) ac .normal aX cX.w:=
  run_at2 (o:=⟨_,_,_,_,_,_,_⟩) qtG_ok (by kernel_rfl) (mvC_hk a R n i L d) ho hs hK
noncomputable def mvV (a:Fp×Fp×Fp) (R:List (List (Fp×Fp×Fp))) (n:Nat) (i:Int) (L:List (Fp×Fp×Fp)) (d:Int):St:=mkSt 30 [1,3,4,6] [.pt 16 0,(.v (.c (.slc 17 0 ((List.length R)+1) 288))),.pt 96 0,.ii i] [16,17,96] [(some (.fl [(.ob (.p (Prod.fst a))),(.ob (.p (Prod.fst (Prod.snd a)))),(.ob (.p (Prod.snd (Prod.snd a))))])),(some (.sq (Sq.ptt (R++[[(List.getD L 0 pt0),(List.getD L 1 pt0),(List.getD L 2 pt0),(List.getD L 3 pt0),(List.getD L 4 pt0),(List.getD L 5 pt0),(List.getD L 6 pt0),(List.getD L 7 pt0),(List.getD L 8 pt0),(List.getD L 9 pt0),(List.getD L 10 pt0),(List.getD L 11 pt0),(List.getD L 12 pt0),(List.getD L 13 pt0),(List.getD L 14 pt0),(List.getD L 15 pt0)]])))),some (.sq (.pt L))] 240 [] []
theorem mvD_hk (a:Fp×Fp×Fp) (R:List (List (Fp×Fp×Fp))) (n:Nat) (i:Int) (L:List (Fp×Fp×Fp)) (d:Int):(run qtG false 3000 ((⟨mvC_k,.normal,mvV a R n i L d⟩:Cfg)) []).cfg.k=lpBk mv_k:=by kernel_rfl
theorem mvD (a:Fp×Fp×Fp) (R:List (List (Fp×Fp×Fp))) (n:Nat) (i:Int) (L:List (Fp×Fp×Fp)) (d:Int) (ho:AllP [((0:Int)≤(15:Int)),((15:Int)<(16:Int)),(0=0),(15<(List.length L))]) (hs:Sim w0 F0 K ac (mvV a R n i L d) cX aX) (hK:∀ac cY aY,Sim w0 F0 K ac (mkSt 30 [1,3,6] [.pt 16 0,(.v (.c (.slc 17 0 ((List.length R)+1) 288))),(.ii (IntKind.wrap .i64 (i+(1:Int))))] [16,17] [(some (.fl [(.ob (.p (Prod.fst (jpl (List.getD L 15 pt0) a)))),(.ob (.p (Prod.fst (Prod.snd (jpl (List.getD L 15 pt0) a))))),(.ob (.p (Prod.snd (Prod.snd (jpl (List.getD L 15 pt0) a)))))])),(some (.sq (Sq.ptt (R++[[(List.getD L 0 pt0),(List.getD L 1 pt0),(List.getD L 2 pt0),(List.getD L 3 pt0),(List.getD L 4 pt0),(List.getD L 5 pt0),(List.getD L 6 pt0),(List.getD L 7 pt0),(List.getD L 8 pt0),(List.getD L 9 pt0),(List.getD L 10 pt0),(List.getD L 11 pt0),(List.getD L 12 pt0),(List.getD L 13 pt0),(List.getD L 14 pt0),(List.getD L 15 pt0)]]))))] 352 [] []) cY aY→Wq Try.prog Q (lpBk mv_k) ac Exit.normal aY cY.w):Wq Try.prog Q (mvC_k) ac .normal aX cX.w:=
  run_at2 (o:=⟨_,_,_,_,_,_,_⟩) qtG_ok (by kernel_rfl) (mvD_hk a R n i L d) ho hs hK
end
end Go.Proofs.Ytdeohachoeopdaa

/- Sixteen points in a block: as one element, or as sixteen. No conditions. -/
namespace Go.Proofs.Ytdeohachoeopdaa

theorem tab16 {x:Ctx} (L:List (Fp×Fp×Fp)) (h:L.length=16) (cs:List Value) (hc:denEn x (.fl (flatPt L 0 16)) cs):denEn x (.sq (.pt L)) cs:=by
  obtain ⟨hl,hj⟩:=cat_flat L 16 0 cs hc
  refine ⟨?_,fun i hi=>?_⟩
  · show L.length*18≤cs.length
    rw[h,hl]
    exact Nat.le_refl _
  · have hi:i<L.length:=hi
    rw[h] at hi
    obtain ⟨c,h1,h2⟩:=hj i hi
    rw[Nat.zero_add] at h1
    exact ⟨c,h1,h2⟩
theorem flat_cat {x:Ctx} (L:List (Fp×Fp×Fp)):∀(n k:Nat) (cs:List Value),(∀j,j<n→∃c,catL x.D (ptIts (L.getD (k+j) pt0)) c∧∀(q:Nat) (v:Value),c[q]? = some v→cs[j*18+q]? = some v) →
    ∃c,catL x.D (flatPt L k n) c∧∀(q:Nat) (v:Value),c[q]? = some v→cs[q]? = some v
  | 0,k,cs,_=>⟨[],rfl,fun q v h=>by simp at h⟩
  | n+1,k,cs,h=>by
    obtain ⟨c0,h0,g0⟩:=h 0 (Nat.zero_lt_succ _)
    rw[Nat.add_zero] at h0
    obtain ⟨c,hc,g⟩:=flat_cat L n (k+1) (cs.drop 18) fun j hj=>by
      obtain ⟨c,h1,h2⟩:=h (j+1) (by omega)
      rw[show k+(j+1)=k+1+j from by omega] at h1
      refine ⟨c,h1,fun q v hq=>?_⟩
      rw[List.getElem?_drop,←h2 q v hq]
      congr 1
      omega
    obtain ⟨c1,r1,e1,h1,c2,r2,e2,h2,c3,r3,e3,h3,h4⟩:=h0
    have h4:r3=[]:=h4
    have l1:c1.length=6:=D_len h1
    have l2:c2.length=6:=D_len h2
    have l3:c3.length=6:=D_len h3
    subst e1 e2 e3 h4
    refine ⟨c1++(c2++(c3++c)),⟨c1,_,rfl,h1,c2,_,rfl,h2,c3,_,rfl,h3,hc⟩,fun q v hq=>?_⟩
    have e:c1++(c2++(c3++c))=(c1++(c2++(c3++[])))++c:=by simp
    have hl:(c1++(c2++(c3++[]))).length=18:=by simp only[List.length_append,List.length_nil];omega
    rw[e] at hq
    by_cases hq18:q<18
    · rw[List.getElem?_append_left (by omega)] at hq
      have:=g0 q v hq
      rwa [Nat.zero_mul,Nat.zero_add] at this
    · rw[List.getElem?_append_right (by omega),hl] at hq
      have:=g _ v hq
      rw[List.getElem?_drop] at this
      rwa [show 18+(q-18)=q from by omega] at this
theorem pt_ptt {x:Ctx} (L:List (Fp×Fp×Fp)) (h:L.length=16) (cs:List Value) (hc:denEn x (.sq (.pt L)) cs):denEn x (.sq (.ptt [L])) cs:=by
  obtain ⟨hl,hj⟩:=hc
  have hl:L.length*18≤cs.length:=hl
  rw[h] at hl
  obtain ⟨c,h1,h2⟩:=flat_cat L 16 0 cs fun j hj16=>by
    obtain ⟨c,g1,g2⟩:=hj j (by show j<L.length;omega)
    refine ⟨c,?_,g2⟩
    rw[Nat.zero_add]
    exact g1
  refine ⟨by show 1*288≤cs.length;omega,fun i hi=>?_⟩
  have hi:i<1:=hi
  obtain rfl:i=0:=by omega
  refine ⟨c,h1,fun q v hq=>?_⟩
  rw[Nat.zero_mul,Nat.zero_add]
  exact h2 q v hq
theorem ptt_pt {x:Ctx} (L:List (Fp×Fp×Fp)) (h:L.length=16) (cs:List Value) (hc:denEn x (.sq (.ptt [L])) cs):denEn x (.sq (.pt L)) cs:=by
  obtain ⟨hl,hj⟩:=hc
  have hl:1*288≤cs.length:=hl
  obtain ⟨c,h1,h2⟩:=hj 0 (Nat.zero_lt_succ _)
  obtain ⟨_,g⟩:=cat_flat L 16 0 c h1
  refine ⟨by show L.length*18≤cs.length;omega,fun i hi=>?_⟩
  have hi:i<L.length:=hi
  obtain ⟨c',g1,g2⟩:=g i (by omega)
  rw[Nat.zero_add] at g1
  refine ⟨c',g1,fun q v hq=>?_⟩
  have:=h2 _ v (g2 q v hq)
  rwa [Nat.zero_mul,Nat.zero_add] at this

/-- Rows in blocks, told otherwise. -/
def convQ (x:Ctx):List (Option En)→List (Option En)→Prop
  | [],[]=>True
  | e::l,e' :: l' => (e=e' ∨ ∃q q',e=some (.sq q)∧e' = some (.sq q')∧(q.n=0→q'.n=0)∧∀cs,denEn x (.sq q) cs→denEn x (.sq q') cs)∧convQ x l l'
  | _,_=>False
theorem convQ_look {x:Ctx}:∀{ml:List Nat} {ens ens' : List (Option En)},convQ x ens ens' → ∀p,look none ml ens p=look none ml ens' p∨∃q q',look none ml ens p=some (.sq q)∧look none ml ens' p=some (.sq q')∧(q.n=0→q'.n=0)∧∀cs,denEn x (.sq q) cs→denEn x (.sq q') cs
  | [],_,_,_,_=>.inl rfl
  | _::_,[],[],_,_=>.inl rfl
  | _::_,[],_::_,h,_=>h.elim
  | _::_,_::_,[],h,_=>h.elim
  | t::tl,e::l,e' :: l',h,p=>by
    simp only[look]
    by_cases hp:p=t
    · simp only[hp,if_true];exact h.1
    · simp only[hp,if_false];exact convQ_look h.2 p
theorem Sim.rows {w0:World} {F0:Nat→Prop} {K:Kp} {ac:List Act} {nt nx:Nat} {tl:List Nat} {svs:List SV} {ml:List Nat} {ens ens' : List (Option En)} {ftl:List (List Nat)} {fsv:List (List SV×Nat)} {x:Ctx} {a:Act}
    (hs:Sim w0 F0 K ac (mkSt nt tl svs ml ens nx ftl fsv) x a) (h:convQ x ens ens'):Sim w0 F0 K ac (mkSt nt tl svs ml ens' nx ftl fsv) x a:=by
  have hm:=hs.mem
  refine ⟨hs.defers,hs.nt,hs.t,?_,hs.base,hs.frs⟩
  have key:=convQ_look (ml:=ml) h
  refine ⟨fun p=>?_,fun p l hp=>?_,fun p q hp hn=>?_,fun p e hp hr=>?_,hm.inj,hm.own,hm.fw⟩
  · rw[←hm.dom p]
    show look none ml ens' p=none↔look none ml ens p=none
    rcases key p with e | ⟨q,q',e1,e2,_⟩
    · rw[e]
    · rw[e1,e2]
      constructor<;>(intro h;cases h)
  · have hp:look none ml ens' p=some (.fl l):=hp
    rcases key p with e | ⟨q,q',e1,e2,_⟩
    · rw[←e] at hp;exact hm.fl p l hp
    · rw[e2] at hp;cases hp
  · have hp:look none ml ens' p=some (.sq q):=hp
    rcases key p with e | ⟨q1,q',e1,e2,h0,_⟩
    · rw[←e] at hp;exact hm.nil p q hp hn
    · rw[e2] at hp
      cases hp
      exact h0 (hm.nil p q1 e1 hn)
  · have hp:look none ml ens' p=some e:=hp
    rcases key p with e0 | ⟨q,q',e1,e2,_,hc⟩
    · rw[←e0] at hp;exact hm.ent p e hp hr
    · rw[e2] at hp
      cases hp
      obtain ⟨cs,ty,h1,h2⟩:=hm.ent p _ e1 hr
      exact ⟨cs,ty,h1,hc _ h2⟩

/-- One row, and all rows. -/
def rwL (a:Fp×Fp×Fp):List (Fp×Fp×Fp):=(List.range 16).map (rowT pt0 a)
def tbL (a:Fp×Fp×Fp) (n:Nat):List (List (Fp×Fp×Fp)):=(List.range n).map fun i=>rwL (baT pt0 a i)
theorem rwL_len (a:Fp×Fp×Fp):(rwL a).length=16:=rfl
theorem rwL_get (a:Fp×Fp×Fp) {d:Nat} (h:d<16):(rwL a).getD d pt0=rowT pt0 a d:=by
  unfold rwL
  rw[List.getD_eq_getElem?_getD,List.getElem?_map,List.getElem?_range h]
  rfl
theorem tbL_len (a:Fp×Fp×Fp) (n:Nat):(tbL a n).length=n:=by
  unfold tbL
  rw[List.length_map,List.length_range]
theorem tbL_succ (a:Fp×Fp×Fp) (n:Nat):tbL a (n+1)=tbL a n++[rwL (baT pt0 a n)]:=by
  unfold tbL
  rw[List.range_succ,List.map_append]
  rfl
theorem tbL_get (a:Fp×Fp×Fp) {n i:Nat} (h:i<n):(tbL a n).getD i []=rwL (baT pt0 a i):=by
  unfold tbL
  rw[List.getD_eq_getElem?_getD,List.getElem?_map,List.getElem?_range h]
  rfl
theorem rwL_ext {L:List (Fp×Fp×Fp)} {a:Fp×Fp×Fp} (hl:L.length=16) (hg:∀j,j<16→L.getD j pt0=rowT pt0 a j):L=rwL a:=by
  apply List.ext_getElem (by rw[hl,rwL_len])
  intro j h1 h2
  have e:=hg j (by omega)
  rw[←rwL_get a (by omega),List.getD_eq_getElem?_getD,List.getD_eq_getElem?_getD,List.getElem?_eq_getElem h1,List.getElem?_eq_getElem h2] at e
  exact e
theorem all16 {L:List (Fp×Fp×Fp)} (h:L.length=16):[L.getD 0 pt0,L.getD 1 pt0,L.getD 2 pt0,L.getD 3 pt0,L.getD 4 pt0,L.getD 5 pt0,L.getD 6 pt0,L.getD 7 pt0,L.getD 8 pt0,L.getD 9 pt0,L.getD 10 pt0,L.getD 11 pt0,L.getD 12 pt0,L.getD 13 pt0,L.getD 14 pt0,L.getD 15 pt0]=L:=by
  match L,h with
  | [_,_,_,_,_,_,_,_,_,_,_,_,_,_,_,_],_=>rfl
end Go.Proofs.Ytdeohachoeopdaa

/- A table of multiples of a point: contract. No conditions. -/
namespace Go.Proofs.Ytdeohachoeopdaa

theorem mult_fnd (a:Fp×Fp×Fp) {N:Nat} (hN:N=64):FnD Try.prog 18 [.v (.a (ptIts a))] (.v (.c (.sl (.ptt (tbL a N))))) []:=by
  refine fn_start (fn:=Try.f18) (c:=bodyOf Try.f18) Try.func18 rfl rfl fun x0 a0 hk hF hs=>?_
  refine mv a trivial hs fun ac cY aY hs1=>?_
  have hs2:=hs1.nilRow (p:=17) (q:=.ptt []) rfl (by decide) rfl (ml' := [16,17]) (ens' := [some (.fl (ptIts a)),some (.sq (.ptt []))]) (fun r=>fl_look (by decide))
    (svs' := [.v (.c (.ptr 16 0)),.v (.c (.slc 17 0 0 288)),.v (.c (.int .i64 0))]) ⟨.inl rfl,.inr ⟨288,rfl,rfl⟩,.inl rfl,trivial⟩
  have hmax:65≤maxLen:=by decide
  change Wq Try.prog _ _ _ _ _ (nilCtx cY 17).w
  refine loop_rule (ι:={ i:Nat // i≤N }) (fun i=>mvS (baT pt0 a i.1) (tbL a i.1) i.1 (i.1:Int)) (fun i=>N-i.1) (c:=lpC mv_k) (k:=lpR mv_k) (by kernel_rfl) (fun i ih ac cY aY hs=>?_) ⟨0,Nat.zero_le _⟩ (hs2.nx _)
  obtain ⟨i,hi⟩:=i
  simp only at ih hs
  by_cases h:i<N
  · have hnext:baT pt0 a (i+1)=jpl (rowT pt0 (baT pt0 a i) 15) (baT pt0 a i):=rfl
    have htab:=tbL_succ a i
    have hlen:=tbL_len a i
    have ih2:=ih ⟨i+1,h⟩ (by show N-(i+1)<N-i;omega)
    dsimp only at ih2
    rw[hnext,htab] at ih2
    clear ih hnext htab
    generalize baT pt0 a i=o at hs ih2
    generalize tbL a i=R at hs ih2 hlen
    refine mvA o R i i ⟨decide_eq_true (by omega),trivial⟩ hs fun ac cU aU hs3=>?_
    have hs4:=hs3.blocks (ens' := [some (.fl (ptIts o)),some (.sq (.ptt R)),some (.sq (.pt (List.replicate 16 pt0)))])
      ⟨.inl rfl,.inl rfl,.inr ⟨_,_,_,rfl,rfl,rfl,fun cs h=>tab16 _ rfl cs h⟩,trivial⟩
    refine loop_rule (ι:={ p:Nat×List (Fp×Fp×Fp) // 1≤p.1∧p.1≤16∧p.2.length=16∧∀j,j<p.1→p.2.getD j pt0=rowT pt0 o j }) (fun p=>mvT o R i i p.1.2 (p.1.1:Int)) (fun p=>16-p.1.1) (c:=lpC mvA_k) (k:=lpR mvA_k) (by kernel_rfl) (fun p ih ac cY aY hs=>?_)
      ⟨(1,List.replicate 16 pt0),Nat.le_refl _,by decide,rfl,fun j hj=>by
        obtain rfl:j=0:=by have hj:j<1:=hj;omega
        rfl⟩ (hs4.nx _)
    obtain ⟨⟨d,L⟩,hd1,hd16,hL,hg⟩:=p
    simp only at ih hs hd1 hd16 hL hg
    by_cases hd:d<16
    · have ed:(IntKind.wrap IntKind.i64 ((d:Int)-1))=((d-1:Nat):Int):=by rw[wrap_id (by omega) (by omega)];omega
      have ed2:(IntKind.wrap IntKind.i64 ((d:Int)+1))=((d+1:Nat):Int):=by rw[wrap_id (by omega) (by omega)];rfl
      refine mvB o R i i L d ⟨decide_eq_true (by omega),by rw[ed];omega,by rw[ed];omega,rfl,by rw[ed,Int.toNat_natCast];omega,by omega,by omega,rfl,by rw[Int.toNat_natCast];omega,trivial⟩ hs fun ac cV aV hs5=>?_
      rw[ed,ed2,Int.toNat_natCast,Int.toNat_natCast,hg (d-1) (by omega)] at hs5
      have er:jpl (rowT pt0 o (d-1)) o=rowT pt0 o d:=by
        obtain ⟨e,rfl⟩:∃e,d=e+1:=⟨d-1,by omega⟩
        rfl
      rw[er] at hs5
      refine ih ⟨(d+1,L.set d (rowT pt0 o d)),by show 1≤d+1;omega,hd,(List.length_set ..).trans hL,fun j hj=>?_⟩ (by show 16-(d+1)<16-d;omega) ac cV aV (hs5.nx _)
      have hj:j<d+1:=hj
      show (L.set d _).getD j pt0=_
      rw[set_getD _ _ _ _ _ (by omega)]
      by_cases e:j=d
      · subst e;rw[if_pos rfl]
      · rw[if_neg e];exact hg j (by omega)
    · obtain rfl:d=16:=by omega
      have eL:L=rwL o:=rwL_ext hL hg
      have h15:=rwL_get o (d:=15) (by decide)
      have h16:=rwL_len o
      rw[←eL] at ih2 h15 h16
      have hs5:=hs.rows (ens' := [some (.fl (ptIts o)),some (.sq (.ptt R)),some (.sq (.ptt [L]))])
        ⟨.inl rfl,.inl rfl,.inr ⟨_,_,rfl,rfl,fun h=>by have h:L.length=0:=h;omega,fun cs h=>pt_ptt L h16 cs h⟩,trivial⟩
      refine mvC o R i i L 16 ⟨by decide,by decide,by omega,by omega,by omega,rfl,trivial⟩ (hs5.nx _) fun ac cV aV hs6=>?_
      rw[all16 h16] at hs6
      have hs7:=hs6.rows (ens' := [some (.fl (ptIts o)),some (.sq (.ptt (R++[L]))),some (.sq (.pt L))])
        ⟨.inl rfl,.inl rfl,.inr ⟨_,_,rfl,rfl,fun h=>Nat.noConfusion (show 1=0 from h),fun cs h=>ptt_pt L h16 cs h⟩,trivial⟩
      have hs8:Sim x0.w x0.F kAll ac (mvV o R i i L 16) cV aV:=by
        unfold mvV
        rw[all16 h16]
        exact hs7
      refine mvD o R i i L 16 ⟨by decide,by decide,rfl,by omega,trivial⟩ hs8 fun ac cW aW hs9=>?_
      rw[all16 h16,h15,wrap_id (n:=(i:Int)+1) (by omega) (by omega),hlen] at hs9
      exact ih2 ac cW aW (hs9.nx _)
  · obtain rfl:i=N:=by omega
    exact run_end2 qtG_ok hk hF (mvX_end _ _ _ _) ⟨decide_eq_false (by omega),(tbL_len a i).symm,trivial⟩ (fun y v hd=>hd) hs

end Go.Proofs.Ytdeohachoeopdaa

/- One of each row added up, walked. No conditions. -/
namespace Go.Proofs.Ytdeohachoeopdaa
section
variable {w0:World} {F0:Nat→Prop} {K:Kp} {ac:List Act} {Q:Exit→Act→World→Prop} {cX:Ctx} {aX:Act}

--@env qtG qtG_ok
noncomputable def pc_k:List KI:=(run qtG false 3000 ((fun (T:List (List (Fp×Fp×Fp))) (k:U4)=>(⟨[.code (bodyOf Try.f23)],.normal,initSt Try.f23.ntmps [.v (.c (.sl (.ptt T))),.v (.a [.ob (.fr k)])]⟩:Cfg)) default default) []).cfg.k
theorem pc_hk (T:List (List (Fp×Fp×Fp))) (k:U4):(run qtG false 3000 ((⟨[.code (bodyOf Try.f23)],.normal,initSt Try.f23.ntmps [.v (.c (.sl (.ptt T))),.v (.a [.ob (.fr k)])]⟩:Cfg)) []).cfg.k=pc_k:=by kernel_rfl
theorem pc (T:List (List (Fp×Fp×Fp))) (k:U4) (ho:AllP []) (hs:Sim w0 F0 K ac (initSt Try.f23.ntmps [.v (.c (.sl (.ptt T))),.v (.a [.ob (.fr k)])]) cX aX) (hK:∀ac cY aY,Sim w0 F0 K ac (mkSt 30 [3,4,5,8,9,10] [.pt 16 0,.pt 32 0,.pt 48 0,(.v (.c (.sl (Sq.ptt T)))),(.ii (((List.length T):Nat):Int)),.ii (0:Int)] [16,32,48] [(some (.fl [.ob (.fr k)])),(some (.fl [(.ob (.p (0:Fp))),(.ob (.p (0:Fp))),(.ob (.p (0:Fp)))])),(some (.fl [(.ob (.p (0:Fp))),(.ob (.p (0:Fp))),(.ob (.p (0:Fp)))]))] 112 [] []) cY aY→Wq Try.prog Q (pc_k) ac Exit.normal aY cY.w):Wq Try.prog Q ([.code (bodyOf Try.f23)]) ac .normal aX cX.w:=
  run_at2 (o:=⟨_,_,_,_,_,_,_⟩) qtG_ok (by kernel_rfl) (pc_hk T k) ho hs hK
noncomputable def pcS (T:List (List (Fp×Fp×Fp))) (k:U4) (o:Fp×Fp×Fp) (i:Int):St:=mkSt 30 [3,4,5,8,9,10] [.pt 16 0,.pt 32 0,.pt 48 0,(.v (.c (.sl (Sq.ptt T)))),(.ii (((List.length T):Nat):Int)),.v (.c (.int .i64 i))] [16,32,48] [(some (.fl [.ob (.fr k)])),(some (.fl [(.ob (.p (0:Fp))),(.ob (.p (0:Fp))),(.ob (.p (0:Fp)))])),some (.fl [.ob (.p o.1),.ob (.p o.2.1),.ob (.p o.2.2)])] 112 [] []
noncomputable def pcA_k:List KI:=(run qtG false 18 ((fun (T:List (List (Fp×Fp×Fp))) (k:U4) (o:Fp×Fp×Fp) (i:Int)=>(⟨lpIn pc_k,.normal,pcS T k o i⟩:Cfg)) default default default default) [true]).cfg.k
theorem pcA_hk (T:List (List (Fp×Fp×Fp))) (k:U4) (o:Fp×Fp×Fp) (i:Int):(run qtG false 18 ((⟨lpIn pc_k,.normal,pcS T k o i⟩:Cfg)) [true]).cfg.k=pcA_k:=by kernel_rfl
theorem pcA (T:List (List (Fp×Fp×Fp))) (k:U4) (o:Fp×Fp×Fp) (i:Int) (ho:AllP [((decide (i<(((List.length T):Nat):Int)))=true),((0:Int)≤i),(i<(((List.length T):Nat):Int))]) (hs:Sim w0 F0 K ac (pcS T k o i) cX aX) (hK:∀ac cY aY,Sim w0 F0 K ac (mkSt 30 [3,4,5,6,7,8,9,10] [.pt 16 0,.pt 32 0,.pt 48 0,.ii i,.pt 176 0,(.v (.c (.sl (Sq.ptt T)))),(.ii (((List.length T):Nat):Int)),.ii i] [16,32,48,176] [(some (.fl [.ob (.fr k)])),(some (.fl [(.ob (.p (0:Fp))),(.ob (.p (0:Fp))),(.ob (.p (0:Fp)))])),(some (.fl [(.ob (.p (Prod.fst o))),(.ob (.p (Prod.fst (Prod.snd o)))),(.ob (.p (Prod.snd (Prod.snd o))))])),(some (.fl [(.ob (.p (Prod.fst (List.getD (List.getD T (i).toNat ([]:List (Prod Fp (Prod Fp Fp)))) 0 pt0)))),(.ob (.p (Prod.fst (Prod.snd (List.getD (List.getD T (i).toNat ([]:List (Prod Fp (Prod Fp Fp)))) 0 pt0))))),(.ob (.p (Prod.snd (Prod.snd (List.getD (List.getD T (i).toNat ([]:List (Prod Fp (Prod Fp Fp)))) 0 pt0))))),(.ob (.p (Prod.fst (List.getD (List.getD T (i).toNat ([]:List (Prod Fp (Prod Fp Fp)))) 1 pt0)))),(.ob (.p (Prod.fst (Prod.snd (List.getD (List.getD T (i).toNat ([]:List (Prod Fp (Prod Fp Fp)))) 1 pt0))))),(.ob (.p (Prod.snd (Prod.snd (List.getD (List.getD T (i).toNat ([]:List (Prod Fp (Prod Fp Fp)))) 1 pt0))))),(.ob (.p (Prod.fst (List.getD (List.getD T (i).toNat ([]:List (Prod Fp (Prod Fp Fp)))) 2 pt0)))),(.ob (.p (Prod.fst (Prod.snd (List.getD (List.getD T (i).toNat ([]:List (Prod Fp (Prod Fp Fp)))) 2 pt0))))),(.ob (.p (Prod.snd (Prod.snd (List.getD (List.getD T (i).toNat ([]:List (Prod Fp (Prod Fp Fp)))) 2 pt0))))),(.ob (.p (Prod.fst (List.getD (List.getD T (i).toNat ([]:List (Prod Fp (Prod Fp Fp)))) 3 pt0)))),(.ob (.p (Prod.fst (Prod.snd (List.getD (List.getD T (i).toNat ([]:List (Prod Fp (Prod Fp Fp)))) 3 pt0))))),(.ob (.p (Prod.snd (Prod.snd (List.getD (List.getD T (i).toNat ([]:List (Prod Fp (Prod Fp Fp)))) 3 pt0))))),(.ob (.p (Prod.fst (List.getD (List.getD T (i).toNat ([]:List (Prod Fp (Prod Fp Fp)))) 4 pt0)))),(.ob (.p (Prod.fst (Prod.snd (List.getD (List.getD T (i).toNat ([]:List (Prod Fp (Prod Fp Fp)))) 4 pt0))))),(.ob (.p (Prod.snd (Prod.snd (List.getD (List.getD T (i).toNat ([]:List (Prod Fp (Prod Fp Fp)))) 4 pt0))))),(.ob (.p (Prod.fst (List.getD (List.getD T (i).toNat ([]:List (Prod Fp (Prod Fp Fp)))) 5 pt0)))),(.ob (.p (Prod.fst (Prod.snd (List.getD (List.getD T (i).toNat ([]:List (Prod Fp (Prod Fp Fp)))) 5 pt0))))),(.ob (.p (Prod.snd (Prod.snd (List.getD (List.getD T (i).toNat ([]:List (Prod Fp (Prod Fp Fp)))) 5 pt0))))),(.ob (.p (Prod.fst (List.getD (List.getD T (i).toNat ([]:List (Prod Fp (Prod Fp Fp)))) 6 pt0)))),(.ob (.p (Prod.fst (Prod.snd (List.getD (List.getD T (i).toNat ([]:List (Prod Fp (Prod Fp Fp)))) 6 pt0))))),(.ob (.p (Prod.snd (Prod.snd (List.getD (List.getD T (i).toNat ([]:List (Prod Fp (Prod Fp Fp)))) 6 pt0))))),(.ob (.p (Prod.fst (List.getD (List.getD T (i).toNat ([]:List (Prod Fp (Prod Fp Fp)))) 7 pt0)))),(.ob (.p (Prod.fst (Prod.snd (List.getD (List.getD T (i).toNat ([]:List (Prod Fp (Prod Fp Fp)))) 7 pt0))))),(.ob (.p (Prod.snd (Prod.snd (List.getD (List.getD T (i).toNat ([]:List (Prod Fp (Prod Fp Fp)))) 7 pt0))))),(.ob (.p (Prod.fst (List.getD (List.getD T (i).toNat ([]:List (Prod Fp (Prod Fp Fp)))) 8 pt0)))),(.ob (.p (Prod.fst (Prod.snd (List.getD (List.getD T (i).toNat ([]:List (Prod Fp (Prod Fp Fp)))) 8 pt0))))),(.ob (.p (Prod.snd (Prod.snd (List.getD (List.getD T (i).toNat ([]:List (Prod Fp (Prod Fp Fp)))) 8 pt0))))),(.ob (.p (Prod.fst (List.getD (List.getD T (i).toNat ([]:List (Prod Fp (Prod Fp Fp)))) 9 pt0)))),(.ob (.p (Prod.fst (Prod.snd (List.getD (List.getD T (i).toNat ([]:List (Prod Fp (Prod Fp Fp)))) 9 pt0))))),(.ob (.p (Prod.snd (Prod.snd (List.getD (List.getD T (i).toNat ([]:List (Prod Fp (Prod Fp Fp)))) 9 pt0))))),(.ob (.p (Prod.fst (List.getD (List.getD T (i).toNat ([]:List (Prod Fp (Prod Fp Fp)))) 10 pt0)))),(.ob (.p (Prod.fst (Prod.snd (List.getD (List.getD T (i).toNat ([]:List (Prod Fp (Prod Fp Fp)))) 10 pt0))))),(.ob (.p (Prod.snd (Prod.snd (List.getD (List.getD T (i).toNat ([]:List (Prod Fp (Prod Fp Fp)))) 10 pt0))))),(.ob (.p (Prod.fst (List.getD (List.getD T (i).toNat ([]:List (Prod Fp (Prod Fp Fp)))) 11 pt0)))),(.ob (.p (Prod.fst (Prod.snd (List.getD (List.getD T (i).toNat ([]:List (Prod Fp (Prod Fp Fp)))) 11 pt0))))),(.ob (.p (Prod.snd (Prod.snd (List.getD (List.getD T (i).toNat ([]:List (Prod Fp (Prod Fp Fp)))) 11 pt0))))),(.ob (.p (Prod.fst (List.getD (List.getD T (i).toNat ([]:List (Prod Fp (Prod Fp Fp)))) 12 pt0)))),(.ob (.p (Prod.fst (Prod.snd (List.getD (List.getD T (i).toNat ([]:List (Prod Fp (Prod Fp Fp)))) 12 pt0))))),(.ob (.p (Prod.snd (Prod.snd (List.getD (List.getD T (i).toNat ([]:List (Prod Fp (Prod Fp Fp)))) 12 pt0))))),(.ob (.p (Prod.fst (List.getD (List.getD T (i).toNat ([]:List (Prod Fp (Prod Fp Fp)))) 13 pt0)))),(.ob (.p (Prod.fst (Prod.snd (List.getD (List.getD T (i).toNat ([]:List (Prod Fp (Prod Fp Fp)))) 13 pt0))))),(.ob (.p (Prod.snd (Prod.snd (List.getD (List.getD T (i).toNat ([]:List (Prod Fp (Prod Fp Fp)))) 13 pt0))))),(.ob (.p (Prod.fst (List.getD (List.getD T (i).toNat ([]:List (Prod Fp (Prod Fp Fp)))) 14 pt0)))),(.ob (.p (Prod.fst (Prod.snd (List.getD (List.getD T (i).toNat ([]:List (Prod Fp (Prod Fp Fp)))) 14 pt0))))),(.ob (.p (Prod.snd (Prod.snd (List.getD (List.getD T (i).toNat ([]:List (Prod Fp (Prod Fp Fp)))) 14 pt0))))),(.ob (.p (Prod.fst (List.getD (List.getD T (i).toNat ([]:List (Prod Fp (Prod Fp Fp)))) 15 pt0)))),(.ob (.p (Prod.fst (Prod.snd (List.getD (List.getD T (i).toNat ([]:List (Prod Fp (Prod Fp Fp)))) 15 pt0))))),(.ob (.p (Prod.snd (Prod.snd (List.getD (List.getD T (i).toNat ([]:List (Prod Fp (Prod Fp Fp)))) 15 pt0)))))]))] 224 [] []) cY aY→Wq Try.prog Q (pcA_k) ac Exit.normal aY cY.w):Wq Try.prog Q (lpIn pc_k) ac .normal aX cX.w:=
  run_at2 (o:=⟨_,_,_,_,_,_,_⟩) qtG_ok (by kernel_rfl) (pcA_hk T k o i) ho hs hK
theorem pcX_end (T:List (List (Fp×Fp×Fp))) (k:U4) (o:Fp×Fp×Fp) (i:Int):runEnd qtG Try.f23 false 3000 (⟨lpIn pc_k,.normal,pcS T k o i⟩) [false] [] []=(some ([((decide (i<(((List.length T):Nat):Int)))=false)],((.v (.a [(.ob (.p (Prod.fst o))),(.ob (.p (Prod.fst (Prod.snd o)))),(.ob (.p (Prod.snd (Prod.snd o))))])),[]))):=by kernel_rfl
noncomputable def pcT (T:List (List (Fp×Fp×Fp))) (k:U4) (o:Fp×Fp×Fp) (i:Int) (L:List (Fp×Fp×Fp)):St:=mkSt 30 [3,4,5,6,7,8,9,10] [.pt 16 0,.pt 32 0,.pt 48 0,.ii i,.pt 176 0,(.v (.c (.sl (Sq.ptt T)))),(.ii (((List.length T):Nat):Int)),.ii i] [16,32,48,176] [(some (.fl [.ob (.fr k)])),(some (.fl [(.ob (.p (0:Fp))),(.ob (.p (0:Fp))),(.ob (.p (0:Fp)))])),(some (.fl [(.ob (.p (Prod.fst o))),(.ob (.p (Prod.fst (Prod.snd o)))),(.ob (.p (Prod.snd (Prod.snd o))))])),some (.sq (.pt L))] 224 [] []
theorem pcB_hk (T:List (List (Fp×Fp×Fp))) (k:U4) (o:Fp×Fp×Fp) (i:Int) (L:List (Fp×Fp×Fp)):(run qtG false 3000 ((⟨pcA_k,.normal,pcT T k o i L⟩:Cfg)) []).cfg.k=lpBk pc_k:=by kernel_rfl
theorem pcB (T:List (List (Fp×Fp×Fp))) (k:U4) (o:Fp×Fp×Fp) (i:Int) (L:List (Fp×Fp×Fp)) (ho:AllP [((16:Int)≠(0:Int)),((0:Int)≤(IntKind.wrap .i64 (Int.tdiv i (16:Int)))),((IntKind.wrap .i64 (Int.tdiv i (16:Int)))<(4:Int)),((0+(((IntKind.wrap .i64 (Int.tdiv i (16:Int)))).toNat*1))<(Ob.k (.fr k))),((16:Int)≠(0:Int)),((0:Int)≤(IntKind.wrap .i64 ((4:Int)*(Int.tmod i (16:Int))))),((0:Int)≤(bitsOp BinOp.and IntKind.u64 (Int.fdiv (limb (Ob.n (.fr k)) (0+(((IntKind.wrap .i64 (Int.tdiv i (16:Int)))).toNat*1))) ((2:Int) ^ (Min.min ((IntKind.wrap .i64 ((4:Int)*(Int.tmod i (16:Int))))).toNat 64))) (15:Int))),((bitsOp BinOp.and IntKind.u64 (Int.fdiv (limb (Ob.n (.fr k)) (0+(((IntKind.wrap .i64 (Int.tdiv i (16:Int)))).toNat*1))) ((2:Int) ^ (Min.min ((IntKind.wrap .i64 ((4:Int)*(Int.tmod i (16:Int))))).toNat 64))) (15:Int))<(16:Int)),(0=0),(((bitsOp BinOp.and IntKind.u64 (Int.fdiv (limb (Ob.n (.fr k)) (0+(((IntKind.wrap .i64 (Int.tdiv i (16:Int)))).toNat*1))) ((2:Int) ^ (Min.min ((IntKind.wrap .i64 ((4:Int)*(Int.tmod i (16:Int))))).toNat 64))) (15:Int))).toNat<(List.length L))]) (hs:Sim w0 F0 K ac (pcT T k o i L) cX aX) (hK:∀ac cY aY,Sim w0 F0 K ac (mkSt 30 [3,4,5,8,9,10] [.pt 16 0,.pt 32 0,.pt 48 0,(.v (.c (.sl (Sq.ptt T)))),(.ii (((List.length T):Nat):Int)),(.ii (IntKind.wrap .i64 (i+(1:Int))))] [16,32,48] [(some (.fl [.ob (.fr k)])),(some (.fl [(.ob (.p (0:Fp))),(.ob (.p (0:Fp))),(.ob (.p (0:Fp)))])),(some (.fl [(.ob (.p (Prod.fst (jpl o (List.getD L ((bitsOp BinOp.and IntKind.u64 (Int.fdiv (limb (Ob.n (.fr k)) (0+(((IntKind.wrap .i64 (Int.tdiv i (16:Int)))).toNat*1))) ((2:Int) ^ (Min.min ((IntKind.wrap .i64 ((4:Int)*(Int.tmod i (16:Int))))).toNat 64))) (15:Int))).toNat pt0))))),(.ob (.p (Prod.fst (Prod.snd (jpl o (List.getD L ((bitsOp BinOp.and IntKind.u64 (Int.fdiv (limb (Ob.n (.fr k)) (0+(((IntKind.wrap .i64 (Int.tdiv i (16:Int)))).toNat*1))) ((2:Int) ^ (Min.min ((IntKind.wrap .i64 ((4:Int)*(Int.tmod i (16:Int))))).toNat 64))) (15:Int))).toNat pt0)))))),(.ob (.p (Prod.snd (Prod.snd (jpl o (List.getD L ((bitsOp BinOp.and IntKind.u64 (Int.fdiv (limb (Ob.n (.fr k)) (0+(((IntKind.wrap .i64 (Int.tdiv i (16:Int)))).toNat*1))) ((2:Int) ^ (Min.min ((IntKind.wrap .i64 ((4:Int)*(Int.tmod i (16:Int))))).toNat 64))) (15:Int))).toNat pt0))))))]))] 480 [] []) cY aY→Wq Try.prog Q (lpBk pc_k) ac Exit.normal aY cY.w):Wq Try.prog Q (pcA_k) ac .normal aX cX.w:=
  run_at2 (o:=⟨_,_,_,_,_,_,_⟩) qtG_ok (by kernel_rfl) (pcB_hk T k o i L) ho hs hK
end
end Go.Proofs.Ytdeohachoeopdaa

/- One of each row added up: contract. No conditions. -/
namespace Go.Proofs.Ytdeohachoeopdaa

theorem dig_expr0 (k:U4) {i:Nat} (hi:i<64):bitsOp BinOp.and IntKind.u64 (Int.fdiv (limb (Ob.n (Ob.fr k)) (0+(((IntKind.wrap IntKind.i64 (Int.tdiv (i:Int) (16:Int)))).toNat*1))) ((2:Int) ^ (Min.min ((IntKind.wrap IntKind.i64 ((4:Int)*(Int.tmod (i:Int) (16:Int))))).toNat 64))) (15:Int)=((k.val / 16 ^ i % 16:Nat):Int):=by
  have e1:Int.tdiv (i:Int) (16:Int)=((i / 16:Nat):Int):=Int.tdiv_eq_ediv_of_nonneg (by omega)
  have e2:Int.tmod (i:Int) (16:Int)=((i % 16:Nat):Int):=Int.tmod_eq_emod_of_nonneg (by omega)
  rw[e1,e2,wrap_id (n:=((i / 16:Nat):Int)) (by omega) (by omega),wrap_id (n:=(4:Int)*((i % 16:Nat):Int)) (by omega) (by omega),Int.toNat_natCast]
  have e3:Min.min ((4:Int)*((i % 16:Nat):Int)).toNat 64=4*(i % 16):=by omega
  have e4:0+i / 16*1=i / 16:=by omega
  rw[e3,e4]
  have hl:limb (Ob.n (Ob.fr k)) (i / 16)=((k.val / 2 ^ (64*(i / 16)) % 18446744073709551616:Nat):Int):=rfl
  rw[hl,←dig_nat k.val i]
  generalize k.val / 2 ^ (64*(i / 16)) % 18446744073709551616=m
  have hp:((2:Int) ^ (4*(i % 16)))=((2 ^ (4*(i % 16)):Nat):Int):=by simp
  rw[hp,Int.fdiv_eq_ediv_of_nonneg _ (Int.natCast_nonneg _),←Int.natCast_ediv,and15]

/-- One of each row of any table, added up. -/
def pkL (T:List (List (Fp×Fp×Fp))) (v:Nat):Nat→Fp×Fp×Fp
  | 0=>pt0
  | i+1=>jpl (pkL T v i) ((T.getD i []).getD (v / 16 ^ i % 16) pt0)
theorem pkL_is (a:Fp×Fp×Fp) (v n:Nat):∀i,i≤n→pkL (tbL a n) v i=pkT pt0 a v i
  | 0,_=>rfl
  | i+1,h=>by
    show jpl (pkL (tbL a n) v i) (((tbL a n).getD i []).getD (v / 16 ^ i % 16) pt0)=jpl (pkT pt0 a v i) (rowT pt0 (baT pt0 a i) (v / 16 ^ i % 16))
    rw[pkL_is a v n i (by omega),tbL_get a (by omega),rwL_get _ (Nat.mod_lt _ (by decide))]
theorem pick_fnd (T:List (List (Fp×Fp×Fp))) (k:U4) {N:Nat} (hN:N=64) (hlen:T.length=N) (h16:∀i,i<N→(T.getD i []).length=16):FnD Try.prog 23 [.v (.c (.sl (.ptt T))),.v (.a [.ob (.fr k)])] (.v (.a (ptIts (pkL T k.val N)))) []:=by
  refine fn_start (fn:=Try.f23) (c:=bodyOf Try.f23) Try.func23 rfl rfl fun x0 a0 hk hF hs=>?_
  refine pc T k trivial hs fun ac cY aY hs1=>?_
  refine loop_rule (ι:={ i:Nat // i≤N }) (fun i=>pcS T k (pkL T k.val i.1) (i.1:Int)) (fun i=>N-i.1) (c:=lpC pc_k) (k:=lpR pc_k) (by kernel_rfl) (fun i ih ac cY aY hs=>?_) ⟨0,Nat.zero_le _⟩ (hs1.nx _)
  obtain ⟨i,hi⟩:=i
  simp only at ih hs
  by_cases h:i<N
  · have hnext:pkL T k.val (i+1)=jpl (pkL T k.val i) ((T.getD i []).getD (k.val / 16 ^ i % 16) pt0):=rfl
    have hdl:k.val / 16 ^ i % 16<16:=Nat.mod_lt _ (by decide)
    have h16:=h16 i h
    have hdig:=dig_expr0 k (i:=i) (by omega)
    have hpl:=dig_place (i:=i) (by omega)
    have hsh:=dig_shift i
    have ih2:=ih ⟨i+1,h⟩ (by show N-(i+1)<N-i;omega)
    dsimp only at ih2
    rw[hnext] at ih2
    clear ih hnext
    generalize pkL T k.val i=o at hs ih2
    refine pcA T k o i ⟨decide_eq_true (by omega),by omega,by omega,trivial⟩ hs fun ac cU aU hs3=>?_
    rw[Int.toNat_natCast] at hs3
    generalize T.getD i []=L at ih2 h16 hs3
    have hs4:=hs3.blocks (ens' := [some (.fl [.ob (.fr k)]),some (.fl (ptIts pt0)),some (.fl (ptIts o)),some (.sq (.pt L))])
      ⟨.inl rfl,.inl rfl,.inl rfl,.inr ⟨_,_,_,rfl,rfl,rfl,fun cs h=>tab16 L h16 cs h⟩,trivial⟩
    refine pcB T k o i L ⟨by decide,by rw[hpl];omega,by rw[hpl];omega,by rw[hpl,Int.toNat_natCast];show 0+i / 16*1<4;omega,by decide,hsh,by rw[hdig];omega,by rw[hdig];omega,rfl,by rw[hdig,Int.toNat_natCast];omega,trivial⟩ hs4 fun ac cV aV hs5=>?_
    rw[hdig,Int.toNat_natCast,wrap_id (n:=(i:Int)+1) (by omega) (by omega)] at hs5
    exact ih2 ac cV aV (hs5.nx _)
  · obtain rfl:i=N:=by omega
    generalize pkL T k.val i=o at hs ⊢
    exact run_end2 qtG_ok hk hF (pcX_end _ _ _ _) ⟨decide_eq_false (by omega),trivial⟩ (fun y v hd=>hd) hs

end Go.Proofs.Ytdeohachoeopdaa

/- Powers of an element of the lesser field, walked. No conditions. -/
namespace Go.Proofs.Ytdeohachoeopdaa
section
variable {w0:World} {F0:Nat→Prop} {K:Kp} {ac:List Act} {Q:Exit→Act→World→Prop} {cX:Ctx} {aX:Act}

noncomputable def pvA:Env:=qeI.or S4.gK
theorem pvA_ok:EnvOk Try.prog pvA:=env_or qeI_ok S4.gK_ok
theorem meth77_Times (v : Value) (w : World) : (method (Try.prog.types.size + Made.depth) 77 v "Times").run Try.prog w = .ok (33, v) w := by kernel_rfl
noncomputable def invS (T : Nat → Option (List (String × Nat))) (t : Nat) : Option (List (String × Nat)) := if t = 77 then some [("Times", 33)] else T t
noncomputable def pvB:Env:={ pvA with inv:=invS pvA.inv }
theorem pvB_ok:EnvOk Try.prog pvB:=by
  refine ⟨pvA_ok.ty,pvA_ok.mixed,pvA_ok.fn,pvA_ok.mu,pvA_ok.inl,pvA_ok.ex,fun t l h=>?_⟩
  have h:invS pvA.inv t=some l:=h
  unfold invS at h
  split at h
  · rename_i ht
    cases h
    subst ht
    refine ⟨by kernel_rfl,fun name g hg v args w=>?_⟩
    unfold lookM at hg
    split at hg
    · rename_i hn
      cases hg
      subst hn
      simp only[callMethod,Sem.run_bind,run_program,Result.andThen_ok,meth77_Times]
    cases hg
  · exact pvA_ok.inv t l h
--@env pvB pvB_ok
noncomputable def pz_k:List KI:=(run pvB false 3000 ((fun (a:Fr) (e:List Int)=>(⟨[.code (bodyOf Try.f117)],.normal,initSt Try.f117.ntmps [.v (.a [.ob (.s a)]),.v (.a [.ob (.s 1)]),.v (.c (.sl (.u64 e)))]⟩:Cfg)) default default) []).cfg.k
theorem pz_hk (a:Fr) (e:List Int):(run pvB false 3000 ((⟨[.code (bodyOf Try.f117)],.normal,initSt Try.f117.ntmps [.v (.a [.ob (.s a)]),.v (.a [.ob (.s 1)]),.v (.c (.sl (.u64 e)))]⟩:Cfg)) []).cfg.k=pz_k:=by kernel_rfl
theorem pz (a:Fr) (e:List Int) (ho:AllP []) (hs:Sim w0 F0 K ac (initSt Try.f117.ntmps [.v (.a [.ob (.s a)]),.v (.a [.ob (.s 1)]),.v (.c (.sl (.u64 e)))]) cX aX) (hK:∀ac cY aY,Sim w0 F0 K ac (mkSt 23 [3,6,7,11] [.pt 16 0,.pt 48 0,.pt 80 0,(.v (.c (.clo 105 [(128,0)])))] [16,48,80,128] [(some (.fl [.ob (.s a)])),(some (.fl [(.ob (.s (0:Fr)))])),(some (.fl [(.ob (.s (1:Fr)))])),(some (.fl [.sl (.u64 e)]))] 192 [] []) cY aY→Wq Try.prog Q (pz_k) ac Exit.normal aY cY.w):Wq Try.prog Q ([.code (bodyOf Try.f117)]) ac .normal aX cX.w:=
  run_at2 (o:=⟨_,_,_,_,_,_,_⟩) pvB_ok (by kernel_rfl) (pz_hk a e) ho hs hK
noncomputable def pzS (a:Fr) (e:List Int) (o:Fr):St:=mkSt 23 [3,6,7,11] [.pt 16 0,.pt 48 0,.pt 80 0,(.v (.c (.clo 105 [(128,0)])))] [16,48,80,128] [(some (.fl [.ob (.s a)])),(some (.fl [(.ob (.s (0:Fr)))])),some (.fl [.ob (.s o)]),(some (.fl [.sl (.u64 e)]))] 192 [] []
theorem pzA_hk (a:Fr) (e:List Int) (o:Fr) (z:Bool):(run pvB false 3000 ((⟨[.code (rfA pz_k)],.normal,roundSt (pzS a e o) [(12,.v (.c (.bool z)))]⟩:Cfg)) []).cfg.k=[]:=by kernel_rfl
theorem pzA (a:Fr) (e:List Int) (o:Fr) (z:Bool) {ρ:Option Nat} (ho:AllP []) (hs:Sim w0 F0 K ac (roundSt (pzS a e o) [(12,.v (.c (.bool z)))]) cX aX) (hK:∀cY aY,Sim w0 F0 K ac (mkSt 23 [3,6,7,8] [.pt 16 0,.pt 48 0,.pt 80 0,(.v (.c (.bool z)))] [16,48,80,128] [(some (.fl [.ob (.s a)])),(some (.fl [(.ob (.s (0:Fr)))])),(some (.fl [.ob (.s o)])),(some (.fl [.sl (.u64 e)]))] 208 [[3,6,7,11]] [([.pt 16 0,.pt 48 0,.pt 80 0,(.v (.c (.clo 105 [(128,0)])))],23)]) cY aY→Wq Try.prog Q ([]) ac Exit.normal aY cY.w ρ):Wq Try.prog Q ([.code (rfA pz_k)]) ac .normal aX cX.w ρ :=
  run_atT (o:=⟨_,_,_,_,_,_,_⟩) pvB_ok (by kernel_rfl) (pzA_hk a e o z) ho (by kernel_rfl) (by kernel_rfl) hs hK
noncomputable def pzB (a:Fr) (e:List Int) (o:Fr) (z:Bool):St:=mkSt 23 [3,6,7,8] [.pt 16 0,.pt 48 0,.pt 80 0,(.v (.c (.bool z)))] [16,48,80,128] [(some (.fl [.ob (.s a)])),(some (.fl [(.ob (.s (0:Fr)))])),some (.fl [.ob (.s o)]),(some (.fl [.sl (.u64 e)]))] 208 [[3,6,7,11]] [([.pt 16 0,.pt 48 0,.pt 80 0,(.v (.c (.clo 105 [(128,0)])))],23)]
theorem pzC_hk (a:Fr) (e:List Int) (o:Fr) (z:Bool):(run pvB false 3000 ((⟨[.code (rfB pz_k)],.normal,pzB a e o z⟩:Cfg)) [true]).cfg.k=[]:=by kernel_rfl
theorem pzC (a:Fr) (e:List Int) (o:Fr) (z:Bool) {ρ:Option Nat} (ho:AllP [(z=true)]) (hs:Sim w0 F0 K ac (pzB a e o z) cX aX) (hK:∀cY aY,Sim w0 F0 K ac (mkSt 23 [6] [.pt 48 0] [16,48,80,128] [(some (.fl [.ob (.s a)])),(some (.fl [(.ob (.s (0:Fr)))])),(some (.fl [(.ob (.s ((o*o)*a)))])),(some (.fl [.sl (.u64 e)]))] 384 [[3,6,7,11]] [([.pt 16 0,.pt 48 0,.pt 80 0,(.v (.c (.clo 105 [(128,0)])))],23)]) cY aY→Wq Try.prog Q ([]) ac Exit.normal aY cY.w ρ):Wq Try.prog Q ([.code (rfB pz_k)]) ac .normal aX cX.w ρ :=
  run_atT (o:=⟨_,_,_,_,_,_,_⟩) pvB_ok (by kernel_rfl) (pzC_hk a e o z) ho (by kernel_rfl) (by kernel_rfl) hs hK
theorem pzD_hk (a:Fr) (e:List Int) (o:Fr) (z:Bool):(run pvB false 3000 ((⟨[.code (rfB pz_k)],.normal,pzB a e o z⟩:Cfg)) [false]).cfg.k=[]:=by kernel_rfl
theorem pzD (a:Fr) (e:List Int) (o:Fr) (z:Bool) {ρ:Option Nat} (ho:AllP [(z=false)]) (hs:Sim w0 F0 K ac (pzB a e o z) cX aX) (hK:∀cY aY,Sim w0 F0 K ac (mkSt 23 [6] [.pt 48 0] [16,48,80,128] [(some (.fl [.ob (.s a)])),(some (.fl [(.ob (.s (0:Fr)))])),(some (.fl [(.ob (.s (o*o)))])),(some (.fl [.sl (.u64 e)]))] 304 [[3,6,7,11]] [([.pt 16 0,.pt 48 0,.pt 80 0,(.v (.c (.clo 105 [(128,0)])))],23)]) cY aY→Wq Try.prog Q ([]) ac Exit.normal aY cY.w ρ):Wq Try.prog Q ([.code (rfB pz_k)]) ac .normal aX cX.w ρ :=
  run_atT (o:=⟨_,_,_,_,_,_,_⟩) pvB_ok (by kernel_rfl) (pzD_hk a e o z) ho (by kernel_rfl) (by kernel_rfl) hs hK
theorem pzX_hk (a:Fr) (e:List Int) (o:Fr):(run pvB false 3000 ((⟨rfR pz_k,.normal,pzS a e o⟩:Cfg)) []).cfg.k=[]:=by kernel_rfl
theorem pzX (a:Fr) (e:List Int) (o:Fr) (ho:AllP []) (hs:Sim w0 F0 K ac (pzS a e o) cX aX) (hK:∀ac cY aY,Sim w0 F0 K ac (mkSt 23 [6] [.pt 48 0] [48] [(some (.fl [.ob (.s o)]))] 224 [] []) cY aY→Wq Try.prog Q ([]) ac Exit.ret aY cY.w):Wq Try.prog Q (rfR pz_k) ac .normal aX cX.w:=
  run_at2 (o:=⟨_,_,_,_,_,_,_⟩) pvB_ok (by kernel_rfl) (pzX_hk a e o) ho hs hK
noncomputable def pzE (a:Fr) (e:List Int) (o:Fr):St:=mkSt 23 [6] [.pt 48 0] [16,48,80,128] [(some (.fl [.ob (.s a)])),(some (.fl [(.ob (.s (0:Fr)))])),some (.fl [.ob (.s o)]),(some (.fl [.sl (.u64 e)]))] 384 [[3,6,7,11]] [([.pt 16 0,.pt 48 0,.pt 80 0,(.v (.c (.clo 105 [(128,0)])))],23)]
noncomputable def pzZ (o:Fr):St:=mkSt 23 [6] [.pt 48 0] [48] [some (.fl [.ob (.s o)])] 224 [] []
theorem pzR_end (o:Fr):runEnd pvB Try.f117 false 3000 (⟨[],.ret,pzZ o⟩) [] [] []=(some ([],((.v (.a [.ob (.s o)])),[]))):=by kernel_rfl
end
end Go.Proofs.Ytdeohachoeopdaa

/- Powers of an element of the lesser field: contract. No conditions. -/
namespace Go.Proofs.Ytdeohachoeopdaa

theorem pw_bitS (a:Fr) (l:List Bool) (z:Bool):pw a (pv (l++[z]))=if z=true then pw a (pv l)*pw a (pv l)*a else pw a (pv l)*pw a (pv l):=by
  rw[pv_snoc,Nat.two_mul]
  cases z with
  | true=>
    rw[if_pos rfl,←pw_add_g]
    rfl
  | false=>
    rw[if_neg (by decide),←pw_add_g]
    rfl

theorem powerS_fnd (a:Fr) (e:List Int) (hl:e.length≤16) (hlim:lims e) :
    FnD Try.prog 117 [.v (.a [.ob (.s a)]),.v (.a [.ob (.s 1)]),.v (.c (.sl (.u64 e)))] (.v (.a [.ob (.s (pw a (numL e)))])) []:=by
  refine fn_start_m (fn:=Try.f117) (c:=bodyOf Try.f117) Try.func117 rfl rfl fun x b hk hF hs=>?_
  refine pz a e trivial hs fun ac cY aY hs1=>?_
  obtain ⟨e1,e2⟩:=isRf_eq (k:=pz_k) (by kernel_rfl)
  rw[e1]
  have eP:(rfP pz_k).toList=[12]:=by kernel_rfl
  have eG:rfG pz_k = .tmp 11:=by kernel_rfl
  refine range_rule (ps:=rfP pz_k) e2 hs1 (gf:=105) (caps:=[(128,0)]) (enters_of Try.func105 rfl rfl) (fun pre=>pzS a e (pw a (pv pre))) (fun s=>by rw[eG];rfl) ⟨_,rfl⟩ (btL (numL e) (bitsC e e.length) (bitsC e e.length)) btVals btEnc
    (fun y z=>.cons ⟨rfl,0,rfl⟩ .nil) (fun z=>by rw[←Array.length_toList,eP];rfl) (fun pre p hp=>?_) (bits_iter hl hlim fun s=>rfl) (fun pre z=>pzB a e (pw a (pv pre)) z)
    (fun pre z=>pzE a e (pw a (pv (pre++[z])))) (fun pre z=>⟨_,rfl⟩) (fun pre z hz w1 F1 K1 as1 Q1 l y b hs2 hQ=>?_) (fun pre z hz w1 F1 K1 as1 Q1 l y b hs2 hQ=>?_) fun D y hs2 hD hFD hd=>?_
  · rw[eP] at hp
    have h23:(pzS a e (pw a (pv pre))).nt=23:=rfl
    rw[h23]
    simp only[List.mem_cons,List.not_mem_nil,or_false] at hp
    subst hp
    decide
  · rw[eP] at hs2
    exact pzA a e _ z trivial hs2 fun cZ aZ hs3=>⟨hQ _ _ (hs3.nx _)⟩
  · rw[pw_bitS] at hQ
    cases z with
    | true=>exact pzC a e _ true ⟨rfl,trivial⟩ hs2 fun cZ aZ hs3=>⟨hQ _ _ (hs3.nx _)⟩
    | false=>exact pzD a e _ false ⟨rfl,trivial⟩ hs2 fun cZ aZ hs3=>⟨hQ _ _ (hs3.nx _)⟩
  · have hs3:=hs2.marked rfl rfl D
    have hN:numL e<2 ^ bitsC e e.length:=by
      have:=numL_lt hlim e.length (Nat.le_refl _)
      rwa [List.take_length] at this
    rw[pv_bits hN _ (Nat.le_refl _),Nat.sub_self,Nat.pow_zero,Nat.div_one] at hs2 hs3
    generalize pw a (numL e)=o at hs2 hs3 ⊢
    refine pzX a e o trivial hs3 fun ac cV aV hs6=>⟨?_⟩
    have hs7:Sim y.w y.F (kOwn y kAll (markOf D)) ac (pzZ o) cV aV:=hs6
    exact fn_finish pvB_ok hk hF (pzR_end o) trivial (fun y v hd=>hd) hs2 hD hFD hd rfl hs7

end Go.Proofs.Ytdeohachoeopdaa

/- Powers and small numbers of the lesser field, walked. No conditions. -/
namespace Go.Proofs.Ytdeohachoeopdaa

theorem powerS_fnd2 (a u:Fr) (e:List Int) (hu:u=1) (hl:e.length≤16) (hlim:lims e) :
    FnD Try.prog 117 [.v (.a [.ob (.s a)]),.v (.a [.ob (.s u)]),.v (.c (.sl (.u64 e)))] (.v (.a [.ob (.s (pw a (numL e)))])) []:=by
  subst hu
  exact powerS_fnd a e hl hlim
def powerSSpec:FnSpec
  | [.v (.a [.ob (.s a)]),.v (.a [.ob (.s u)]),.v (.c (.sl (.u64 e)))]=>some ([u=1,e.length≤16,lims e],.v (.a [.ob (.s (pw a (numL e)))]),[])
  | _=>none
noncomputable def pvC:Env:=pvB.set (addT pvB.fn 117 powerSSpec)
theorem pvC_ok:EnvOk Try.prog pvC:=env_add pvB_ok 117 powerSSpec (enters_of Try.func117 rfl rfl) fun args o r es h ho=>by
  unfold powerSSpec at h
  split at h
  · cases h;exact powerS_fnd2 _ _ _ ho.1 ho.2.1 ho.2.2.1
  · cases h
--@env pvC pvC_ok
theorem sm1  : fnRes pvC Try.f42 3000 [.v (.c (.int .u64 1))] [] [] []=(some ([((0:Int)≤(1:Int)),((1:Int)<(18446744073709551616:Int)),((0:Int)≤(0:Int)),((0:Int)<(18446744073709551616:Int)),((0:Int)≤(0:Int)),((0:Int)<(18446744073709551616:Int)),((0:Int)≤(0:Int)),((0:Int)<(18446744073709551616:Int))],((.v (.a [(.ob (.s (S4.inF (Fin.ofNat B4 1))))])),[]))):=by kernel_rfl
theorem small1_fnd {n:Int} (h:n=1):FnD Try.prog 42 [.v (.c (.int .u64 n))] (.v (.a [.ob (.s 1)])) []:=by
  subst h
  have r:=sm1
  rw[show S4.inF (Fin.ofNat B4 1)=1 from by decide +kernel] at r
  exact fn_sound pvC_ok Try.func42 r ⟨by decide,by decide,by decide,by decide,by decide,by decide,by decide,by decide,trivial⟩
def small1Spec:FnSpec
  | [.v (.c (.int .u64 n))]=>some ([n=1],.v (.a [.ob (.s 1)]),[])
  | _=>none
noncomputable def pvD:Env:=pvC.set (addT pvC.fn 42 small1Spec)
theorem pvD_ok:EnvOk Try.prog pvD:=env_add pvC_ok 42 small1Spec (enters_of Try.func42 rfl rfl) fun args o r es h ho=>by
  unfold small1Spec at h
  split at h
  · cases h;exact small1_fnd ho.1
  · cases h
--@env pvD pvD_ok
theorem sml  : fnRes pvD Try.f20 3000 [.v (.c (.int .i64 1))] [false] [] []=(some ([((decide ((1:Int)<(0:Int)))=false),((1:Int)=(1:Int))],((.v (.a [(.ob (.fr (S4.outF (1:Fr))))])),[]))):=by kernel_rfl
end Go.Proofs.Ytdeohachoeopdaa

/- Powers and small numbers of the lesser field: contracts. No conditions. -/
namespace Go.Proofs.Ytdeohachoeopdaa

theorem sml_fnd {n:Int} (h:n=1):FnD Try.prog 20 [.v (.c (.int .i64 n))] (.v (.a [.ob (.fr (S4.outF 1))])) []:=by
  subst h
  exact fn_sound pvD_ok Try.func20 sml ⟨rfl,rfl,trivial⟩

end Go.Proofs.Ytdeohachoeopdaa
