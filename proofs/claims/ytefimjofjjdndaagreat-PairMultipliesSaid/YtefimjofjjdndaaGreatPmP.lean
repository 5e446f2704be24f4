/- Parts of a proof, one behind the other: WPu, PPu, WPi, Pf, WCp, PCp, WCo1, WCo2, PCo2, WCo3, PCo3, Ga, WOa, WMd, PMd, WMy, PMz, Nm, WTi, WOb, WDa, WDb, PDb, WDc, PDc, WDd, PDd, WDe, Gb, WEa, WMw, PMw, WTj, WEb, WFa, WFb, WFc, PFc, WFd, PFd, WFe. No conditions. -/
import Derived.Shelf.Strconv.Itoa0
import Derived.Test.YtefimjofjjdndaaGreatPmO
open Go.IntKind (wrap)
namespace Go.Proofs.YtefimjofjjdndaaGreat
noncomputable section
section
section
variable {w0:World} {F0:Nat→Prop} {K:Kp} {ac:List Act} {Q:Exit→Act→World→Prop} {cX:Ctx} {aX:Act}
open Go.Shelf

theorem inP_ofNat {n:Nat} (h:n<B6):inP (Fin.ofNat B6 n)=Fin.ofNat pN n:=by
 apply Fin.ext
 show (n % B6) % pN=n % pN
 rw[Nat.mod_eq_of_lt h]
theorem smallP_fnd (n:Int) (h1:0≤n) (h2:n<18446744073709551616):FnD Tryz.prog 77 [.v (.c (.int .u64 n))] (.v (.a [.ob (.p (Fin.ofNat pN n.toNat))])) []:=by
 refine (fn_sound qeF_ok Tryz.func77 (smallP0 n) ⟨h1,h2,by decide,by decide,by decide,by decide,by decide,by decide,by decide,by decide,by decide,by decide,trivial⟩).conv (fun _ _ h=>h) fun y v hd=>?_
 rw[Nat.add_zero,inP_ofNat (by unfold B6;omega)] at hd
 exact hd
theorem zeroP_fnd (x:Fp):FnD Tryz.prog 60 [.v (.a [.ob (.p x)])] (.v (.c (.bool (decide (x=0))))) []:=by
 refine (fn_sound qeF_ok Tryz.func60 (zeroP0 _) trivial).conv (fun _ _ h=>h) fun y v hd=>?_
 rw[if_pos rfl] at hd
 exact hd
def smallPSpec:FnSpec
 | [.v (.c (.int .u64 n))]=>some ([0≤n,n<18446744073709551616],.v (.a [.ob (.p (Fin.ofNat pN n.toNat))]),[])
 | _=>none
def qeG1:Env:=qeF.set (addT qeF.fn 77 smallPSpec)
theorem qeG1_ok:EnvOk Tryz.prog qeG1:=env_add qeF_ok 77 smallPSpec (enters_of Tryz.func77 rfl rfl) fun args o r es h ho=>by
 unfold smallPSpec at h
 split at h
 ·cases h;exact smallP_fnd _ ho.1 ho.2.1
 ·cases h
def negPSpec:FnSpec
 | [.v (.a [.ob (.p x)])]=>some ([],.v (.a [.ob (.p (0-x))]),[])
 | _=>none
def qeG2:Env:=qeG1.set (addT qeG1.fn 135 negPSpec)
theorem qeG2_ok:EnvOk Tryz.prog qeG2:=env_add qeG1_ok 135 negPSpec (enters_of Tryz.func135 rfl rfl) fun args o r es h _=>by
 unfold negPSpec at h
 split at h
 ·cases h;exact fn_sound qeF_ok Tryz.func135 (negP0 _) trivial
 ·cases h
def zeroPSpec:FnSpec
 | [.v (.a [.ob (.p x)])]=>some ([],.v (.c (.bool (decide (x=0)))),[])
 | _=>none
def qeG:Env:=qeG2.set (addT qeG2.fn 60 zeroPSpec)
theorem qeG_ok:EnvOk Tryz.prog qeG:=env_add qeG2_ok 60 zeroPSpec (enters_of Tryz.func60 rfl rfl) fun args o r es h _=>by
 unfold zeroPSpec at h
 split at h
 ·cases h;exact zeroP_fnd _
 ·cases h

def renL:Ren:=⟨fun n=>if n=129 then 139 else 0,fun t=>if t=46 then 175 else if t=53 then 22 else t,fun g=>g⟩
theorem laysL:Lays.n129 Tryz.prog renL:=
  { mixed:=by kernel_rfl
    f129:=by kernel_rfl
    t3:=by kernel_rfl
    a3:=fun _=>by kernel_rfl
    z3:=fun _=>by kernel_rfl
    v3:=fun _=>by kernel_rfl
    t4:=by kernel_rfl
    a4:=fun _=>by kernel_rfl
    z4:=fun _=>by kernel_rfl
    v4:=fun _=>by kernel_rfl
    t5:=by kernel_rfl
    a5:=fun _=>by kernel_rfl
    z5:=fun _=>by kernel_rfl
    v5:=fun _=>by kernel_rfl
    t9:=by kernel_rfl
    a9:=fun _=>by kernel_rfl
    z9:=fun _=>by kernel_rfl
    v9:=fun _=>by kernel_rfl
    t46:=by kernel_rfl
    a46:=fun _=>by kernel_rfl
    z46:=fun _=>by kernel_rfl
    v46:=fun _=>by kernel_rfl
    t53:=by kernel_rfl
    a53:=fun _=>by kernel_rfl
    z53:=fun _=>by kernel_rfl
    v53:=fun _=>by kernel_rfl }
theorem len64_fnd (n:Int) (h0:0≤n) (h1:n<18446744073709551616):FnD Tryz.prog 139 [.v (.c (.int .u64 n))] (.v (.c (.int .i64 (Lib.bitLen n.toNat:Nat)))) []:=
 fnd_same fun x vs hd=>by
  cases hd with | cons d1 hd=>
  cases hd
  rw[D_int d1]
  exact ⟨_,Any.bits_Len64 laysL n x.w h0 (by omega),⟨rfl,0,rfl⟩⟩
def lenSpec:FnSpec
 | [.v (.c (.int .u64 n))]=>some ([0≤n,n<18446744073709551616],.v (.c (.int .i64 (Lib.bitLen n.toNat:Nat))),[])
 | _=>none
def qeH1:Env:=qeG.set (addT qeG.fn 139 lenSpec)
theorem qeH1_ok:EnvOk Tryz.prog qeH1:=env_add qeG_ok 139 lenSpec (enters_of Tryz.func139 rfl rfl) fun args o r es h ho=>by
 unfold lenSpec at h
 split at h
 ·cases h;exact len64_fnd _ ho.1 ho.2.1
 ·cases h
--@env qeH1 qeH1_ok
theorem ct (l:List Int):fnRes qeH1 Tryz.f138 3000 [.v (.c (.sl (.u64 l)))] [] [] []=(some ([(0≤(ite ((16:Int)<(l.length:Int)) (16:Int) (l.length:Int))),((ite ((16:Int)<(l.length:Int)) (16:Int) (l.length:Int))≤(ite ((16:Int)<(l.length:Int)) (16:Int) (l.length:Int))),((ite ((16:Int)<(l.length:Int)) (16:Int) (l.length:Int))≤(l.length:Int))],((.ci (.sl (.u64 (List.take ((ite ((16:Int)<(l.length:Int)) (16:Int) (l.length:Int))).toNat (List.drop 0 l))))),[]))):=by kernel_rfl

theorem cut_fnd (l:List Int) (hl:l.length≤16):FnD Tryz.prog 138 [.v (.c (.sl (.u64 l)))] (.v (.c (.sl (.u64 l)))) []:=by
 have r:=ct l
 have e:(if (16:Int)<((l.length:Nat):Int) then (16:Int) else ((l.length:Nat):Int))=((l.length:Nat):Int):=if_neg (by omega)
 rw[e,Int.toNat_natCast,List.drop_zero,List.take_length] at r
 exact fn_sound qeH1_ok Tryz.func138 r ⟨by omega,Int.le_refl _,Int.le_refl _,trivial⟩
def cutSpec:FnSpec
 | [.v (.c (.sl (.u64 l)))]=>some ([l.length≤16],.v (.c (.sl (.u64 l))),[])
 | _=>none
def qeH2:Env:=qeH1.set (addT qeH1.fn 138 cutSpec)
theorem qeH2_ok:EnvOk Tryz.prog qeH2:=env_add qeH1_ok 138 cutSpec (enters_of Tryz.func138 rfl rfl) fun args o r es h ho=>by
 unfold cutSpec at h
 split at h
 ·cases h;exact cut_fnd _ ho.1
 ·cases h
--@env qeH2 qeH2_ok
def nbIn_k:List KI:=(run qeH2 false 3000 ((fun (l:List Int)=>(⟨[.code (bodyOf Tryz.f124)],.normal,initSt Tryz.f124.ntmps [.v (.c (.sl (.u64 l)))]⟩:Cfg)) default) []).cfg.k
theorem nbIn (l:List Int) (ho:AllP [(l.length≤16)]):Sg Tryz.prog (initSt Tryz.f124.ntmps [.v (.c (.sl (.u64 l)))]) (mkSt 26 [0,3] [(.ci (.sl (.u64 l))),(.ii (wrap .i64 ((l.length:Int)-1)))] [] [] 144 [] []) .normal (nbIn_k) ([.code (bodyOf Tryz.f124)]):=fun hs hK=>
 run_at2 (unroll:=false) (n:=3000) (path:=[]) (o:=⟨_,_,_,_,_,_,_⟩) qeH2_ok (by kernel_rfl) (by kernel_rfl) ho hs hK
def nbS (l:List Int) (i:Int):St:=mkSt 26 [0,3] [(.ci (.sl (.u64 l))),.v (.c (.int .i64 i))] [] [] 144 [] []
theorem nbN (l:List Int) (i:Int) (ho:AllP [((decide (i ≥ (0:Int)))=true),(0≤i),(i<(l.length:Int)),(((l.getD i.toNat 0) != (0:Int))=false)]):Sg Tryz.prog (nbS l i) (mkSt 26 [0,3] [(.ci (.sl (.u64 l))),(.ii (wrap .i64 (i-1)))] [] [] 304 [] []) .normal (lpBk nbIn_k) (lpIn nbIn_k):=fun hs hK=>
 run_at2 (unroll:=false) (n:=3000) (path:=[true,false]) (o:=⟨_,_,_,_,_,_,_⟩) qeH2_ok (by kernel_rfl) (by kernel_rfl) ho hs hK
theorem nbY_end (l:List Int) (i:Int):runEnd qeH2 Tryz.f124 false 3000 (⟨lpIn nbIn_k,.normal,nbS l i⟩) [true,true] [] []=(some ([((decide (i ≥ (0:Int)))=true),(0≤i),(i<(l.length:Int)),(((l.getD i.toNat 0) != (0:Int))=true),(0≤i),(i<(l.length:Int)),(0≤(l.getD i.toNat 0)),((l.getD i.toNat 0)<(18446744073709551616:Int))],((.ii (wrap .i64 ((wrap .i64 ((64:Int)*i))+(((Lib.bitLen ((l.getD i.toNat 0)).toNat):Nat):Int)))),[]))):=by kernel_rfl
theorem nbX_end (l:List Int) (i:Int):runEnd qeH2 Tryz.f124 false 3000 (⟨lpIn nbIn_k,.normal,nbS l i⟩) [false] [] []=(some ([((decide (i ≥ (0:Int)))=false)],((.ii (0:Int)),[]))):=by kernel_rfl
theorem bits_fnd (l:List Int) (hl:l.length≤16) (hlim:lims l):FnD Tryz.prog 124 [.v (.c (.sl (.u64 l)))] (.v (.c (.int .i64 (bitsC l l.length:Nat)))) []:=by
 refine fn_start (fn:=Tryz.f124) (c:=bodyOf Tryz.f124) Tryz.func124 rfl rfl fun x a hk hF hs=>?_
 refine nbIn l ⟨hl,trivial⟩ hs fun ac cY aY hs1=>?_
 rw[wrap_id (by omega) (by omega)] at hs1
 refine loop_rule (ι:={ n:Nat // n≤l.length∧bitsC l n=bitsC l l.length }) (fun n=>nbS l ((n.1:Int)-1)) (fun n=>n.1) (c:=lpC nbIn_k) (k:=lpR nbIn_k) (by kernel_rfl) (fun n ih ac cY aY hs=>?_) ⟨l.length,Nat.le_refl _,rfl⟩ (hs1.nx _)
 obtain ⟨n,hn,he⟩:=n
 simp only at ih hs
 cases n with
 | zero=>
  rw[←he]
  exact run_end2 qeH2_ok hk hF (nbX_end l _) ⟨by simp,trivial⟩ (fun y v hd=>hd) hs
 | succ n=>
  have e1:((n+1:Nat):Int)-1=(n:Int):=by omega
  rw[e1] at hs
  have hg:=lims_get hlim n
  by_cases h0:l.getD n 0=0
  ·refine nbN l _ ⟨by simp,by omega,by omega,by rw[Int.toNat_natCast,h0];rfl,trivial⟩ hs fun ac cZ aZ hs2=>?_
   rw[wrap_id (by omega) (by omega)] at hs2
   refine ih ⟨n,by omega,?_⟩ (Nat.lt_succ_self n) ac cZ aZ (hs2.nx _)
   rw[←he]
   show _=if l.getD n 0≠0 then _ else bitsC l n
   rw[if_neg (by simpa using h0)]
  ·have r:=nbY_end l (n:Int)
   have hb:bitsC l l.length=64*n+Lib.bitLen (l.getD n 0).toNat:=by
    rw[←he]
    show (if l.getD n 0≠0 then _ else bitsC l n)=_
    rw[if_pos h0]
   have hle:=bitLen_le (l.getD n 0).toNat
   rw[Int.toNat_natCast] at r
   have e2:wrap IntKind.i64 (wrap IntKind.i64 ((64:Int)*(n:Int))+((Lib.bitLen (l.getD n 0).toNat:Nat):Int))=((bitsC l l.length:Nat):Int):=by
    rw[hb]
    generalize Lib.bitLen (l.getD n 0).toNat=B at *
    rw[wrap_id (n:=(64:Int)*(n:Int)) (by omega) (by omega),wrap_id (by omega) (by omega)]
    omega
   rw[e2] at r
   have hne:(l.getD n 0 != (0:Int))=true:=by simpa using h0
   exact run_end2 qeH2_ok hk hF r ⟨by simp,by omega,by omega,hne,by omega,by omega,hg.1,hg.2,trivial⟩ (fun y v hd=>hd) hs
def bitsSpec:FnSpec
 | [.v (.c (.sl (.u64 l)))]=>some ([l.length≤16,lims l],.v (.c (.int .i64 (bitsC l l.length:Nat))),[])
 | _=>none
def qeH:Env:=qeH2.set (addT qeH2.fn 124 bitsSpec)
theorem qeH_ok:EnvOk Tryz.prog qeH:=env_add qeH2_ok 124 bitsSpec (enters_of Tryz.func124 rfl rfl) fun args o r es h ho=>by
 unfold bitsSpec at h
 split at h
 ·cases h;exact bits_fnd _ ho.1 ho.2.1
 ·cases h
--@env qeH qeH_ok
def bt_k:List KI:=(run qeH false 3000 ((fun (l:Nat) (v:Value)=>(⟨[.code (bodyOf Tryz.f123)],.normal,⟨argT [.v (.c (.val (.func (.yield l) #[] #[]))),.v (.c (.ptr 0 0))],one (.fl [.val v]),Tryz.f123.ntmps,16,[]⟩⟩:Cfg)) default default) []).cfg.k
theorem bt (l:Nat) (v:Value) (ho:AllP []):Sg Tryz.prog (⟨argT [.v (.c (.val (.func (.yield l) #[] #[]))),.v (.c (.ptr 0 0))],one (.fl [.val v]),Tryz.f123.ntmps,16,[]⟩) (mkSt 24 [0,1,4] [(.ci (.val (Value.func (Fn.yield l) (Array.mk ([]:List Value)) (Array.mk ([]:List Value))))),.pt 0 0,(.ci (.val v))] [0] [(eF_ [(.val v)])] 32 [] []) .normal (bt_k) ([.code (bodyOf Tryz.f123)]):=fun hs hK=>
 run_at2 (unroll:=false) (n:=3000) (path:=[]) (o:=⟨_,_,_,_,_,_,_⟩) qeH_ok (by kernel_rfl) (by kernel_rfl) ho hs hK
def btA (l:Nat) (v:Value) (e:List Int):St:=mkSt 24 [0,1,4] [(.ci (.val (Value.func (Fn.yield l) (Array.mk ([]:List Value)) (Array.mk ([]:List Value))))),.pt 0 0,.v (.c (.sl (.u64 e)))] [0] [(eF_ [(.val v)])] 32 [] []
def bu_k:List KI:=(run qeH false 3000 ((fun (l:Nat) (v:Value) (e:List Int)=>(⟨bt_k,.normal,btA l v e⟩:Cfg)) default default default) []).cfg.k
theorem bu (l:Nat) (v:Value) (e:List Int) (ho:AllP [(e.length≤16),(lims e)]):Sg Tryz.prog (btA l v e) (mkSt 24 [0,1,3] [(.ci (.val (Value.func (Fn.yield l) (Array.mk ([]:List Value)) (Array.mk ([]:List Value))))),.pt 0 0,(.ii (wrap .i64 ((((bitsC e e.length):Nat):Int)-1)))] [0] [(eF_ [(.val v)])] 80 [] []) .normal (bu_k) (bt_k):=fun hs hK=>
 run_at2 (unroll:=false) (n:=3000) (path:=[]) (o:=⟨_,_,_,_,_,_,_⟩) qeH_ok (by kernel_rfl) (by kernel_rfl) ho hs hK
def buS (l:Nat) (v:Value) (i:Int):St:=mkSt 24 [0,1,3] [(.ci (.val (Value.func (Fn.yield l) (Array.mk ([]:List Value)) (Array.mk ([]:List Value))))),.pt 0 0,.v (.c (.int .i64 i))] [0] [(eF_ [(.val v)])] 80 [] []
def bv_k:List KI:=(run qeH false 3000 ((fun (l:Nat) (v:Value) (i:Int)=>(⟨lpIn bu_k,.normal,buS l v i⟩:Cfg)) default default default) [true]).cfg.k
theorem bv (l:Nat) (v:Value) (i:Int) (ho:AllP [((decide (i ≥ (0:Int)))=true),((64:Int)≠(0:Int))]):Sg Tryz.prog (buS l v i) (mkSt 24 [0,1,3,11,12,14] [(.ci (.val (Value.func (Fn.yield l) (Array.mk ([]:List Value)) (Array.mk ([]:List Value))))),.pt 0 0,.ii i,(.ci (.val (Value.func (Fn.yield l) (Array.mk ([]:List Value)) (Array.mk ([]:List Value))))),(.ci (.val v)),(.ii (wrap .i64 (Int.tdiv i (64:Int))))] [0] [(eF_ [(.val v)])] 176 [] []) .normal (bv_k) (lpIn bu_k):=fun hs hK=>
 run_at2 (unroll:=false) (n:=3000) (path:=[true]) (o:=⟨_,_,_,_,_,_,_⟩) qeH_ok (by kernel_rfl) (by kernel_rfl) ho hs hK
def bvA (l:Nat) (v:Value) (e:List Int) (i:Int):St:=mkSt 24 [0,1,3,11,12,14] [(.ci (.val (Value.func (Fn.yield l) (Array.mk ([]:List Value)) (Array.mk ([]:List Value))))),.pt 0 0,.ii i,(.ci (.val (Value.func (Fn.yield l) (Array.mk ([]:List Value)) (Array.mk ([]:List Value))))),.v (.c (.sl (.u64 e))),(.ii (wrap .i64 (Int.tdiv i (64:Int))))] [0] [(eF_ [(.val v)])] 176 [] []
def bw_k:List KI:=(run qeH false 3000 ((fun (l:Nat) (v:Value) (e:List Int) (i:Int)=>(⟨bv_k,.normal,bvA l v e i⟩:Cfg)) default default default default) []).cfg.k
theorem bw (l:Nat) (v:Value) (e:List Int) (i:Int) (ho:AllP [(0≤(wrap .i64 (Int.tdiv i (64:Int)))),((wrap .i64 (Int.tdiv i (64:Int)))<(e.length:Int)),((64:Int)≠(0:Int)),(0≤(Int.tmod i (64:Int)))]):Sg Tryz.prog (bvA l v e i) (mkSt 24 [0,1,3,11,21] [(.ci (.val (Value.func (Fn.yield l) (Array.mk ([]:List Value)) (Array.mk ([]:List Value))))),.pt 0 0,.ii i,(.ci (.val (Value.func (Fn.yield l) (Array.mk ([]:List Value)) (Array.mk ([]:List Value))))),(.ci (.bool ((bitsOp BinOp.and IntKind.u64 (Int.fdiv (List.getD e ((wrap .i64 (Int.tdiv i (64:Int)))).toNat 0) ((2:Int) ^ (Min.min ((Int.tmod i (64:Int))).toNat 64))) (1:Int)) == (1:Int))))] [0] [(eF_ [(.val v)])] 288 [] []) .normal (bw_k) (bv_k):=fun hs hK=>
 run_at2 (unroll:=false) (n:=3000) (path:=[]) (o:=⟨_,_,_,_,_,_,_⟩) qeH_ok (by kernel_rfl) (by kernel_rfl) ho hs hK
theorem bX (l:Nat) (v:Value) (i:Int) (ho:AllP [((decide (i ≥ (0:Int)))=false)]):Sg Tryz.prog (buS l v i) (mkSt 24 [] [] [0] [(eF_ [(.val v)])] 112 [] []) .normal ([]) (lpIn bu_k):=fun hs hK=>
 run_at2 (unroll:=false) (n:=3000) (path:=[false]) (o:=⟨_,_,_,_,_,_,_⟩) qeH_ok (by kernel_rfl) (by kernel_rfl) ho hs hK
theorem bB (l:Nat) (v:Value) (i:Int) (b:Bool) (ho:AllP []):Sg Tryz.prog (⟨setT (look .top [0,1,3,11,21] [(.ci (.val (.func (.yield l) #[] #[]))),.v (.c (.ptr 0 0)),.v (.c (.int .i64 i)),(.ci (.val (.func (.yield l) #[] #[]))),.v (.c (.bool b))]) 22 (.ci (.lit true)),one (.fl [.val v]),24,400,[]⟩) (mkSt 24 [0,1,3] [(.ci (.val (Value.func (Fn.yield l) (Array.mk ([]:List Value)) (Array.mk ([]:List Value))))),.pt 0 0,(.ii (wrap .i64 (i-1)))] [0] [(eF_ [(.val v)])] 464 [] []) .normal (lpBk bu_k) (opsNext bw_k):=fun hs hK=>
 run_at2 (unroll:=false) (n:=3000) (path:=[]) (o:=⟨_,_,_,_,_,_,_⟩) qeH_ok (by kernel_rfl) (by kernel_rfl) ho hs hK

theorem meth77_Times (v : Value) (w : World) : (method (Tryz.prog.types.size + Made.depth) 77 v "Times").run Tryz.prog w = .ok (105, v) w := by kernel_rfl
theorem meth77_Plus (v : Value) (w : World) : (method (Tryz.prog.types.size + Made.depth) 77 v "Plus").run Tryz.prog w = .ok (106, v) w := by kernel_rfl
theorem meth77_Minus (v : Value) (w : World) : (method (Tryz.prog.types.size + Made.depth) 77 v "Minus").run Tryz.prog w = .ok (132, v) w := by kernel_rfl
theorem meth77_IsZero (v : Value) (w : World) : (method (Tryz.prog.types.size + Made.depth) 77 v "IsZero").run Tryz.prog w = .ok (60, v) w := by kernel_rfl
theorem meth77_Negative (v : Value) (w : World) : (method (Tryz.prog.types.size + Made.depth) 77 v "Negative").run Tryz.prog w = .ok (135, v) w := by kernel_rfl
theorem meth77_Inverse (v : Value) (w : World) : (method (Tryz.prog.types.size + Made.depth) 77 v "Inverse").run Tryz.prog w = .ok (142, v) w := by kernel_rfl
def invP (t : Nat) : Option (List (String × Nat)) := if t = 77 then some [("Times", 105), ("Plus", 106), ("Minus", 132), ("IsZero", 60), ("Negative", 135), ("Inverse", 142)] else none
def qeI:Env:={ qeH with inv:=invP }
theorem qeI_ok:EnvOk Tryz.prog qeI:=by
 refine ⟨qeH_ok.ty,qeH_ok.mixed,qeH_ok.fn,qeH_ok.mu,qeH_ok.inl,qeH_ok.ex,fun t l h=>?_⟩
 have h:invP t=some l:=h
 unfold invP at h
 split at h
 ·rename_i ht
  cases h
  subst ht
  refine ⟨by kernel_rfl,fun name g hg v args w=>?_⟩
  unfold lookM at hg
  split at hg
  ·rename_i hn
   cases hg
   subst hn
   simp only[callMethod,Sem.run_bind,run_program,Result.andThen_ok,meth77_Times]
  unfold lookM at hg
  split at hg
  ·rename_i hn
   cases hg
   subst hn
   simp only[callMethod,Sem.run_bind,run_program,Result.andThen_ok,meth77_Plus]
  unfold lookM at hg
  split at hg
  ·rename_i hn
   cases hg
   subst hn
   simp only[callMethod,Sem.run_bind,run_program,Result.andThen_ok,meth77_Minus]
  unfold lookM at hg
  split at hg
  ·rename_i hn
   cases hg
   subst hn
   simp only[callMethod,Sem.run_bind,run_program,Result.andThen_ok,meth77_IsZero]
  unfold lookM at hg
  split at hg
  ·rename_i hn
   cases hg
   subst hn
   simp only[callMethod,Sem.run_bind,run_program,Result.andThen_ok,meth77_Negative]
  unfold lookM at hg
  split at hg
  ·rename_i hn
   cases hg
   subst hn
   simp only[callMethod,Sem.run_bind,run_program,Result.andThen_ok,meth77_Inverse]
  cases hg
 ·cases h
--@env qeI qeI_ok
def qp_k:List KI:=(run qeI false 3000 ((fun (a:Fp) (e:List Int)=>(⟨[.code (bodyOf Tryz.f143)],.normal,initSt Tryz.f143.ntmps [.v (.a [.ob (.p a)]),.v (.a [.ob (.p 1)]),.v (.c (.sl (.u64 e)))]⟩:Cfg)) default default) []).cfg.k
theorem qp (a:Fp) (e:List Int) (ho:AllP []):Sg Tryz.prog (initSt Tryz.f143.ntmps [.v (.a [.ob (.p a)]),.v (.a [.ob (.p 1)]),.v (.c (.sl (.u64 e)))]) (mkSt 23 [3,6,7,11] [.pt 16 0,.pt 48 0,.pt 80 0,(.ci (.clo 123 [(128,0)]))] [16,48,80,128] [(eF_ [.ob (.p a)]),(eF_ [(.ob (.p (0:Fp)))]),(eF_ [(.ob (.p (1:Fp)))]),(eF_ [.sl (.u64 e)])] 192 [] []) .normal (qp_k) ([.code (bodyOf Tryz.f143)]):=fun hs hK=>
 run_at2 (unroll:=false) (n:=3000) (path:=[]) (o:=⟨_,_,_,_,_,_,_⟩) qeI_ok (by kernel_rfl) (by kernel_rfl) ho hs hK
def qpS (a:Fp) (e:List Int) (o:Fp):St:=mkSt 23 [3,6,7,11] [.pt 16 0,.pt 48 0,.pt 80 0,(.ci (.clo 123 [(128,0)]))] [16,48,80,128] [(eF_ [.ob (.p a)]),(eF_ [(.ob (.p (0:Fp)))]),some (.fl [.ob (.p o)]),(eF_ [.sl (.u64 e)])] 192 [] []
theorem qpA (a:Fp) (e:List Int) (o:Fp) (z:Bool) {ρ:Option Nat} (ho:AllP []) (hs:Sim w0 F0 K ac (roundSt (qpS a e o) [(12,.v (.c (.bool z)))]) cX aX) (hK:∀cY aY,Sim w0 F0 K ac (mkSt 23 [3,6,7,8] [.pt 16 0,.pt 48 0,.pt 80 0,(.ci (.bool z))] [16,48,80,128] [(eF_ [.ob (.p a)]),(eF_ [(.ob (.p (0:Fp)))]),(eF_ [.ob (.p o)]),(eF_ [.sl (.u64 e)])] 208 [[3,6,7,11]] [([.pt 16 0,.pt 48 0,.pt 80 0,(.ci (.clo 123 [(128,0)]))],23)]) cY aY→Wq Tryz.prog Q ([]) ac Exit.normal aY cY.w ρ):Wq Tryz.prog Q ([.code (rfA qp_k)]) ac .normal aX cX.w ρ :=
 run_atT (unroll:=false) (n:=3000) (path:=[]) (o:=⟨_,_,_,_,_,_,_⟩) qeI_ok (by kernel_rfl) (by kernel_rfl) ho (by kernel_rfl) (by kernel_rfl) hs hK
def qpB (a:Fp) (e:List Int) (o:Fp) (z:Bool):St:=mkSt 23 [3,6,7,8] [.pt 16 0,.pt 48 0,.pt 80 0,(.ci (.bool z))] [16,48,80,128] [(eF_ [.ob (.p a)]),(eF_ [(.ob (.p (0:Fp)))]),some (.fl [.ob (.p o)]),(eF_ [.sl (.u64 e)])] 208 [[3,6,7,11]] [([.pt 16 0,.pt 48 0,.pt 80 0,(.ci (.clo 123 [(128,0)]))],23)]
theorem qpC (a:Fp) (e:List Int) (o:Fp) (z:Bool) {ρ:Option Nat} (ho:AllP [(z=true)]) (hs:Sim w0 F0 K ac (qpB a e o z) cX aX) (hK:∀cY aY,Sim w0 F0 K ac (mkSt 23 [6] [.pt 48 0] [16,48,80,128] [(eF_ [.ob (.p a)]),(eF_ [(.ob (.p (0:Fp)))]),(eF_ [(.ob (.p ((o*o)*a)))]),(eF_ [.sl (.u64 e)])] 384 [[3,6,7,11]] [([.pt 16 0,.pt 48 0,.pt 80 0,(.ci (.clo 123 [(128,0)]))],23)]) cY aY→Wq Tryz.prog Q ([]) ac Exit.normal aY cY.w ρ):Wq Tryz.prog Q ([.code (rfB qp_k)]) ac .normal aX cX.w ρ :=
 run_atT (unroll:=false) (n:=3000) (path:=[true]) (o:=⟨_,_,_,_,_,_,_⟩) qeI_ok (by kernel_rfl) (by kernel_rfl) ho (by kernel_rfl) (by kernel_rfl) hs hK
theorem qpD (a:Fp) (e:List Int) (o:Fp) (z:Bool) {ρ:Option Nat} (ho:AllP [(z=false)]) (hs:Sim w0 F0 K ac (qpB a e o z) cX aX) (hK:∀cY aY,Sim w0 F0 K ac (mkSt 23 [6] [.pt 48 0] [16,48,80,128] [(eF_ [.ob (.p a)]),(eF_ [(.ob (.p (0:Fp)))]),(eF_ [(.ob (.p (o*o)))]),(eF_ [.sl (.u64 e)])] 304 [[3,6,7,11]] [([.pt 16 0,.pt 48 0,.pt 80 0,(.ci (.clo 123 [(128,0)]))],23)]) cY aY→Wq Tryz.prog Q ([]) ac Exit.normal aY cY.w ρ):Wq Tryz.prog Q ([.code (rfB qp_k)]) ac .normal aX cX.w ρ :=
 run_atT (unroll:=false) (n:=3000) (path:=[false]) (o:=⟨_,_,_,_,_,_,_⟩) qeI_ok (by kernel_rfl) (by kernel_rfl) ho (by kernel_rfl) (by kernel_rfl) hs hK
theorem qpX (a:Fp) (e:List Int) (o:Fp) (ho:AllP []):Sg Tryz.prog (qpS a e o) (mkSt 23 [6] [.pt 48 0] [48] [(eF_ [.ob (.p o)])] 224 [] []) .ret ([]) (rfR qp_k):=fun hs hK=>
 run_at2 (unroll:=false) (n:=3000) (path:=[]) (o:=⟨_,_,_,_,_,_,_⟩) qeI_ok (by kernel_rfl) (by kernel_rfl) ho hs hK
def qpE (a:Fp) (e:List Int) (o:Fp):St:=mkSt 23 [6] [.pt 48 0] [16,48,80,128] [(eF_ [.ob (.p a)]),(eF_ [(.ob (.p (0:Fp)))]),some (.fl [.ob (.p o)]),(eF_ [.sl (.u64 e)])] 384 [[3,6,7,11]] [([.pt 16 0,.pt 48 0,.pt 80 0,(.ci (.clo 123 [(128,0)]))],23)]
def qpZ (o:Fp):St:=mkSt 23 [6] [.pt 48 0] [48] [some (.fl [.ob (.p o)])] 224 [] []
theorem qpR_end (o:Fp):runEnd qeI Tryz.f143 false 3000 (⟨[],.ret,qpZ o⟩) [] [] []=(some ([],((.v (.a [.ob (.p o)])),[]))):=by kernel_rfl
end
end

section

theorem and1 {m:Nat}:bitsOp BinOp.and IntKind.u64 (m:Int) (1:Int)=((m % 2:Nat):Int):=by
 show wrap IntKind.u64 ((BitVec.ofInt 64 (m:Int) &&& BitVec.ofInt 64 ((1:Nat):Int)).toNat:Int)=_
 rw[BitVec.ofInt_natCast,BitVec.ofInt_natCast,BitVec.toNat_and,BitVec.toNat_ofNat,BitVec.toNat_ofNat]
 have e:1 % 2 ^ 64=2 ^ 1-1:=by decide
 rw[e,Nat.and_two_pow_sub_one_eq_mod,wrap_u64]
 omega

theorem bit_expr {e:List Int} (h:lims e) {i:Nat} (hi:i<1024):(bitsOp BinOp.and IntKind.u64 (Int.fdiv (List.getD e (wrap IntKind.i64 (Int.tdiv (i:Int) (64:Int))).toNat (0:Int)) ((2:Int) ^ (Min.min (Int.tmod (i:Int) (64:Int)).toNat 64))) (1:Int) == (1:Int))=decide (numL e / 2 ^ i % 2=1):=by
 have e1:Int.tdiv (i:Int) (64:Int)=((i / 64:Nat):Int):=Int.tdiv_eq_ediv_of_nonneg (by omega)
 have e2:Int.tmod (i:Int) (64:Int)=((i % 64:Nat):Int):=Int.tmod_eq_emod_of_nonneg (by omega)
 have e3:Min.min (((i % 64:Nat):Int)).toNat 64=i % 64:=by omega
 have hg:=lims_get h (i / 64)
 rw[e1,wrap_id (by omega) (by omega),Int.toNat_natCast,e2,e3,numL_bit h i]
 obtain ⟨g,hg2⟩:=Int.eq_ofNat_of_zero_le hg.1
 have hp:((2:Int) ^ (i % 64))=((2 ^ (i % 64):Nat):Int):=by simp
 rw[hg2,hp,Int.fdiv_eq_ediv_of_nonneg _ (Int.natCast_nonneg _),←Int.natCast_ediv,and1,Int.toNat_natCast]
 generalize g / 2 ^ (i % 64)=m
 by_cases hm:m % 2=1
 ·rw[hm];rfl
 ·have:m % 2=0:=by omega
  rw[this];rfl

def btEnc (z:Bool):List Value:=[.bool z]

theorem bits_iter {x:Ctx} {p:Nat} {e:List Int} {M:List Bool→Nat→Option En} (hl:e.length≤16) (hlim:lims e) (hM:∀s,M s p=some (.fl [.sl (.u64 e)])) :
  IterC Tryz.prog x 123 [(p,0)] btEnc (btL (numL e) (bitsC e e.length) (bitsC e e.length)) M:=by
 intro l J W hgrow hread hyield hJ
 have hcl:=bitsC_le e e.length
 generalize hc:bitsC e e.length=c at *
 generalize hN:numL e=N at *
 have key:Wq Tryz.prog (bodyPost Tryz.prog Tryz.f123 fun e' W' => (∃v,e' = Ending.returned v)∧J (btL N c c) W') [.code (bodyOf Tryz.f123)] [] .normal { tmps:=[Value.func (.yield l) #[] #[],.pointer (some ⟨x.β p,0,none⟩)].toArray++Array.replicate 22 undef,defers:=[] } W:=?_
 ·exact calls_of_wp (c:=bodyOf Tryz.f123) Tryz.func123 rfl ((wpIn_wide (n:=0)).1 key.wp)
 obtain ⟨y,rfl,hm,hcp⟩:=hread [] W hJ
 obtain ⟨hr,hβ⟩:=hcp (p,0) List.mem_cons_self
 have hr:y.k p = .real:=hr
 have hβ:y.β p=x.β p:=hβ
 have hargs:denSs (itCtx y p) [.v (.c (.val (.func (.yield l) #[] #[]))),.v (.c (.ptr 0 0))] [.func (.yield l) #[] #[],.pointer (some ⟨x.β p,0,none⟩)]:=
  .cons ⟨rfl,0,rfl,rfl⟩ (.cons ⟨rfl,0,rfl,by show _=[Value.pointer (some ⟨y.β p,0,none⟩)];rw[hβ]⟩ .nil)
 obtain ⟨v,hv,hbox⟩:=box_sl hm (hM []) hr
 have hs:=it_sim (nx:=16) (nt:=24) (a:={ tmps:=[Value.func (.yield l) #[] #[],.pointer (some ⟨x.β p,0,none⟩)].toArray++Array.replicate 22 undef,defers:=[] }) hm (hM []) hr hbox rfl (by simp) (argT_den hargs 22)
 change Wq Tryz.prog _ _ _ _ _ (itCtx y p).w
 refine bt l v trivial hs fun ac cY aY hs1=>?_
 have hmb:Mem (itCtx y p) (one (.fl [.val v])):=it_mem hm (hM _) hr hbox
 obtain ⟨hg1,_,_⟩:=it_back hmb rfl hs1 rfl
 have hsl:cY.D (.sl (.u64 e)) [v]:=data_grow hg1 (fun b hb=>hs1.base.f0 b hb) hm.fw rfl hv
 have hs2:=hs1.slots (svs' := [.v (.c (.val (.func (.yield l) #[] #[]))),.v (.c (.ptr 0 0)),.v (.c (.sl (.u64 e)))]) ⟨fun _ h=>h,fun _ h=>h,conv_val rfl hsl,trivial⟩
 refine bu l v e ⟨hl,hlim,trivial⟩ hs2 fun ac cZ aZ hs3=>?_
 rw[hc,wrap_id (by omega) (by omega)] at hs3
 let I:{ t:Nat // t≤c } → List Act→Act→World→Prop:=fun t ac a w=>∃y z v,z.w=w∧y.k p = .real∧y.β p=x.β p∧Mem y (M (btL N c t.1))∧J (btL N c t.1) y.w∧y.D (.sl (.u64 e)) [v]∧Mem (itCtx y p) (one (.fl [.val v]))∧Sim y.w y.F (kPin (itCtx y p)) ac (buS l v ((c:Int)-1-(t.1:Int))) z a
 refine loop_inv I (fun t=>c-t.1) (c:=lpC bu_k) (k:=lpR bu_k) (by kernel_rfl) (fun t ih ac b w hI=>?_) ⟨0,Nat.zero_le _⟩ ⟨y,cZ,v,rfl,hr,hβ,hm,hJ,hv,hmb,by
   show Sim _ _ _ _ (buS l v ((c:Int)-1-((0:Nat):Int))) _ _
   rw[show (c:Int)-1-((0:Nat):Int)=(c:Int)-1 from by omega]
   exact hs3.nx _⟩
 obtain ⟨t,ht⟩:=t
 obtain ⟨y,z,v,rfl,hr,hβ,hm,hJ,hv,hmb,hs⟩:=hI
 simp only at hm hJ hs ih
 by_cases h:t<c
 ·obtain ⟨i,hi⟩:∃i:Nat,i=c-1-t:=⟨_,rfl⟩
  have ei:(c:Int)-1-(t:Int)=(i:Int):=by omega
  rw[ei] at hs
  refine bv l v _ ⟨by simp,by decide,trivial⟩ hs fun ac cV aV hs4=>?_
  obtain ⟨hg4,_,_⟩:=it_back hmb rfl hs4 rfl
  have hsl4:cV.D (.sl (.u64 e)) [v]:=data_grow hg4 (fun b hb=>hs4.base.f0 b hb) hm.fw rfl hv
  have hs5:=hs4.slots (svs' := [.v (.c (.val (.func (.yield l) #[] #[]))),.v (.c (.ptr 0 0)),.v (.c (.int .i64 (i:Int))),.v (.c (.val (.func (.yield l) #[] #[]))),.v (.c (.sl (.u64 e))),.v (.c (.int .i64 (wrap IntKind.i64 (Int.tdiv (i:Int) (64:Int)))))])
   ⟨fun _ h=>h,fun _ h=>h,fun _ h=>h,fun _ h=>h,conv_val rfl hsl4,fun _ h=>h,trivial⟩
  have e1:Int.tdiv (i:Int) (64:Int)=((i / 64:Nat):Int):=Int.tdiv_eq_ediv_of_nonneg (by omega)
  have e2:Int.tmod (i:Int) (64:Int)=((i % 64:Nat):Int):=Int.tmod_eq_emod_of_nonneg (by omega)
  refine bw l v e _ ⟨by rw[e1,wrap_id (by omega) (by omega)];omega,by rw[e1,wrap_id (by omega) (by omega)];omega,by decide,by rw[e2];omega,trivial⟩ hs5 fun ac cU aU hs6=>?_
  rw[bit_expr hlim (by omega:i<1024),hN] at hs6
  obtain ⟨hg,hk2,hβ2⟩:=it_back hmb rfl hs6 rfl
  have hJ2:=hgrow _ _ _ hJ hg
  have e3:btL N c (t+1)=btL N c t++[decide (N / 2 ^ i % 2=1)]:=by rw[btL_succ,hi]
  obtain ⟨r,hr1⟩:=btL_pre N c (n:=c) (t:=t+1) h
  refine yield_at (R:=fun W' => J (btL N c (t+1)) W') (dst:=some 22) (f:=.tmp 11) (args:=[.tmp 21]) (by kernel_rfl) hs6 (l:=l) rfl (vs:=btEnc (decide (N / 2 ^ i % 2=1))) ?_ ?_ fun W' hJ3=>?_
  ·have h21:=D_bool (hs6.t 21)
   show [aU.tmps.getD 21 undef]=_
   rw[h21]
   rfl
  ·have:=hyield (btL N c t) (decide (N / 2 ^ i % 2=1)) _ hJ2 ⟨r,by rw[hr1,e3,List.append_assoc];rfl⟩
   rw[←e3] at this
   exact this
  ·obtain ⟨y3,rfl,hm3,hc3⟩:=hread _ _ hJ3
   obtain ⟨hr3,hβ3⟩:=hc3 (p,0) List.mem_cons_self
   have hr3:y3.k p = .real:=hr3
   have hβ3:y3.β p=x.β p:=hβ3
   obtain ⟨v3,hv3,hbox3⟩:=box_sl hm3 (hM _) hr3
   have hmb3:Mem (itCtx y3 p) (one (.fl [.val v3])):=it_mem hm3 (hM _) hr3 hbox3
   have hs7:=it_again (nx' := 400) (dst:=22) (b:=true) hs6 (by kernel_rfl) rfl hm3 (hM _) hr3 hbox3 (by rw[hβ2,hβ];exact hβ3.symm) (by decide)
   change Wq Tryz.prog _ _ _ _ _ (itCtx y3 p).w
   refine bB l v3 _ _ trivial hs7 fun ac cT aT hs8=>?_
   have e4:wrap IntKind.i64 ((i:Int)-1)=(c:Int)-1-((t+1:Nat):Int):=by rw[wrap_id (by omega) (by omega)];omega
   rw[e4] at hs8
   exact ih ⟨t+1,by omega⟩ (by show c-(t+1)<c-t;omega) ac aT _ ⟨y3,cT,v3,rfl,hr3,hβ3,hm3,hJ3,hv3,hmb3,hs8.nx _⟩
 ·have e5:t=c:=by omega
  subst e5
  refine bX l v _ ⟨by simp;omega,trivial⟩ hs fun ac cV aV hs4=>?_
  obtain ⟨hg,_,_⟩:=it_back hmb rfl hs4 rfl
  exact ⟨it_end qeH_ok hs4 rfl rfl rfl (fun v=>⟨⟨v,rfl⟩,hgrow _ _ _ hJ hg⟩) (.inr rfl)⟩

def btVals (z:Bool):List SV:=[.v (.c (.bool z))]

theorem pw_bit (a:Fp) (l:List Bool) (z:Bool):pw a (pv (l++[z]))=if z=true then pw a (pv l)*pw a (pv l)*a else pw a (pv l)*pw a (pv l):=by
 rw[pv_snoc,Nat.two_mul]
 cases z with
 | true=>
  rw[if_pos rfl,←pw_add_g]
  rfl
 | false=>
  rw[if_neg (by decide),←pw_add_g]
  rfl

theorem powerP_fnd (a:Fp) (e:List Int) (hl:e.length≤16) (hlim:lims e) :
  FnD Tryz.prog 143 [.v (.a [.ob (.p a)]),.v (.a [.ob (.p 1)]),.v (.c (.sl (.u64 e)))] (.v (.a [.ob (.p (pw a (numL e)))])) []:=by
 refine fn_start_m (fn:=Tryz.f143) (c:=bodyOf Tryz.f143) Tryz.func143 rfl rfl fun x b hk hF hs=>?_
 refine qp a e trivial hs fun ac cY aY hs1=>?_
 obtain ⟨e1,e2⟩:=isRf_eq (k:=qp_k) (by kernel_rfl)
 rw[e1]
 have eP:(rfP qp_k).toList=[12]:=by kernel_rfl
 have eG:rfG qp_k = .tmp 11:=by kernel_rfl
 refine range_rule (ps:=rfP qp_k) e2 hs1 (gf:=123) (caps:=[(128,0)]) (enters_of Tryz.func123 rfl rfl) (fun pre=>qpS a e (pw a (pv pre))) (fun s=>by rw[eG];rfl) ⟨_,rfl⟩ (btL (numL e) (bitsC e e.length) (bitsC e e.length)) btVals btEnc
  (fun y z=>.cons ⟨rfl,0,rfl⟩ .nil) (fun z=>by rw[←Array.length_toList,eP];rfl) (fun pre p hp=>?_) (bits_iter hl hlim fun s=>rfl) (fun pre z=>qpB a e (pw a (pv pre)) z)
  (fun pre z=>qpE a e (pw a (pv (pre++[z])))) (fun pre z=>⟨_,rfl⟩) (fun pre z hz w1 F1 K1 as1 Q1 l y b hs2 hQ=>?_) (fun pre z hz w1 F1 K1 as1 Q1 l y b hs2 hQ=>?_) fun D y hs2 hD hFD hd=>?_
 ·rw[eP] at hp
  have h23:(qpS a e (pw a (pv pre))).nt=23:=rfl
  rw[h23]
  simp only[List.mem_cons,List.not_mem_nil,or_false] at hp
  subst hp
  decide
 ·rw[eP] at hs2
  exact qpA a e _ z trivial hs2 fun cZ aZ hs3=>⟨hQ _ _ (hs3.nx _)⟩
 ·rw[pw_bit] at hQ
  cases z with
  | true=>exact qpC a e _ true ⟨rfl,trivial⟩ hs2 fun cZ aZ hs3=>⟨hQ _ _ (hs3.nx _)⟩
  | false=>exact qpD a e _ false ⟨rfl,trivial⟩ hs2 fun cZ aZ hs3=>⟨hQ _ _ (hs3.nx _)⟩
 ·have hs3:=hs2.marked rfl rfl D
  have hN:numL e<2 ^ bitsC e e.length:=by
   have:=numL_lt hlim e.length (Nat.le_refl _)
   rwa [List.take_length] at this
  rw[pv_bits hN _ (Nat.le_refl _),Nat.sub_self,Nat.pow_zero,Nat.div_one] at hs2 hs3
  generalize pw a (numL e)=o at hs2 hs3 ⊢
  refine qpX a e o trivial hs3 fun ac cV aV hs6=>⟨?_⟩
  have hs7:Sim y.w y.F (kOwn y kAll (markOf D)) ac (qpZ o) cV aV:=hs6
  exact fn_finish qeI_ok hk hF (qpR_end o) trivial (fun y v hd=>hd) hs2 hD hFD hd rfl hs7

end

section

theorem powerP_fnd2 (a u:Fp) (e:List Int) (hu:u=1) (hl:e.length≤16) (hlim:lims e) :
  FnD Tryz.prog 143 [.v (.a [.ob (.p a)]),.v (.a [.ob (.p u)]),.v (.c (.sl (.u64 e)))] (.v (.a [.ob (.p (pw a (numL e)))])) []:=by
 subst hu
 exact powerP_fnd a e hl hlim
def powerPSpec:FnSpec
 | [.v (.a [.ob (.p a)]),.v (.a [.ob (.p u)]),.v (.c (.sl (.u64 e)))]=>some ([u=1,e.length≤16,lims e],.v (.a [.ob (.p (pw a (numL e)))]),[])
 | _=>none
def qeI1:Env:=qeI.set (addT qeI.fn 143 powerPSpec)
theorem qeI1_ok:EnvOk Tryz.prog qeI1:=env_add qeI_ok 143 powerPSpec (enters_of Tryz.func143 rfl rfl) fun args o r es h ho=>by
 unfold powerPSpec at h
 split at h
 ·cases h;exact powerP_fnd2 _ _ _ ho.1 ho.2.1 ho.2.2.1
 ·cases h
--@env qeI1 qeI1_ok
theorem invP0 (a:Fp):fnRes qeI1 Tryz.f142 3000 [.v (.a [.ob (.p a)])] [] [] []=(some ([(0≤(0:Int)),(0<(6:Int)),(0<6),(0≤(0:Int)),(0<(6:Int)),(0≤(1:Int)),((1:Int)<(18446744073709551616:Int)),((Fin.ofNat pN 1)=(1:Fp)),(6≤16),(lims [(13402431016077863593:Int),(2210141511517208575:Int),(7435674573564081700:Int),(7239337960414712511:Int),(5412103778470702295:Int),(1873798617647539866:Int)])],((.v (.a [(.ob (.p (pw a 4002409555221667393417789825735904156556882819939007885332058136124031650490837864442687629129015664037894272559785)))])),[]))):=by kernel_rfl
/-- 1 divided by it; 0 of 0. -/
def ivP (a:Fp):Fp:=pw a (pN-2)
theorem ivP_mul (x:Fp) (hx:x≠0):x*ivP x=1:=by
 have h:=fermat_p x hx
 have e:pN-1=(pN-2)+1:=by decide
 rw[e] at h
 have h2:ivP x*x=1:=h
 rw[mul_comm_g]
 exact h2
theorem invP_fnd (a:Fp):FnD Tryz.prog 142 [.v (.a [.ob (.p a)])] (.v (.a [.ob (.p (ivP a))])) []:=by
 have e:4002409555221667393417789825735904156556882819939007885332058136124031650490837864442687629129015664037894272559785=pN-2:=by decide +kernel
 have r:=invP0 a
 rw[e] at r
 refine fn_sound qeI1_ok Tryz.func142 r ⟨by decide,by decide,by decide,by decide,by decide,by decide,by decide,rfl,by decide,?_,trivial⟩
 intro x hx
 simp only[List.mem_cons,List.not_mem_nil,or_false] at hx
 rcases hx with rfl | rfl | rfl | rfl | rfl | rfl<;>decide
def invPSpec:FnSpec
 | [.v (.a [.ob (.p a)])]=>some ([],.v (.a [.ob (.p (ivP a))]),[])
 | _=>none
def qeJ:Env:=qeI1.set (addT qeI1.fn 142 invPSpec)
theorem qeJ_ok:EnvOk Tryz.prog qeJ:=env_add qeI1_ok 142 invPSpec (enters_of Tryz.func142 rfl rfl) fun args o r es h _=>by
 unfold invPSpec at h
 split at h
 ·cases h;exact invP_fnd _
 ·cases h
--@env qeJ qeJ_ok
theorem twA (x y z:Fp):fnRes qeJ Tryz.f81 3000 [.v (.a [.ob (.p x),.ob (.p y),.ob (.p z)])] [true] [] []=(some ([((decide (z=(0:Fp)))=true)],((.v (.a [.ob (.p x),.ob (.p y),.ob (.p z)])),[]))):=by kernel_rfl
theorem twB (x y z:Fp):fnRes qeJ Tryz.f81 3000 [.v (.a [.ob (.p x),.ob (.p y),.ob (.p z)])] [false] [] []=(some ([((decide (z=(0:Fp)))=false)],((.v (.a [(.ob (.p ((((((x*x)+(x*x))+(x*x))*(((x*x)+(x*x))+(x*x)))-(((((x+(y*y))*(x+(y*y)))-(x*x))-((y*y)*(y*y)))+((((x+(y*y))*(x+(y*y)))-(x*x))-((y*y)*(y*y)))))-(((((x+(y*y))*(x+(y*y)))-(x*x))-((y*y)*(y*y)))+((((x+(y*y))*(x+(y*y)))-(x*x))-((y*y)*(y*y))))))),(.ob (.p (((((x*x)+(x*x))+(x*x))*((((((x+(y*y))*(x+(y*y)))-(x*x))-((y*y)*(y*y)))+((((x+(y*y))*(x+(y*y)))-(x*x))-((y*y)*(y*y))))-((((((x*x)+(x*x))+(x*x))*(((x*x)+(x*x))+(x*x)))-(((((x+(y*y))*(x+(y*y)))-(x*x))-((y*y)*(y*y)))+((((x+(y*y))*(x+(y*y)))-(x*x))-((y*y)*(y*y)))))-(((((x+(y*y))*(x+(y*y)))-(x*x))-((y*y)*(y*y)))+((((x+(y*y))*(x+(y*y)))-(x*x))-((y*y)*(y*y)))))))-(((((y*y)*(y*y))+((y*y)*(y*y)))+(((y*y)*(y*y))+((y*y)*(y*y))))+((((y*y)*(y*y))+((y*y)*(y*y)))+(((y*y)*(y*y))+((y*y)*(y*y)))))))),(.ob (.p ((y*z)+(y*z))))])),[]))):=by kernel_rfl
theorem ngP (x y z:Fp):fnRes qeJ Tryz.f104 3000 [.v (.a [.ob (.p x),.ob (.p y),.ob (.p z)])] [] [] []=(some ([],((.v (.a [.ob (.p x),(.ob (.p ((0:Fp)-y))),.ob (.p z)])),[]))):=by kernel_rfl
end

section

def fp1:Fp:=Fin.ofNat pN 1
def fp4:Fp:=Fin.ofNat pN 4
section
variable {r:Nat} [NeZero r]
theorem fin_of_val (n:Nat):(Fin.ofNat r n).val=n % r:=rfl
end

theorem inP_val (x:U6):(inP x).val=x.val % pN:=fin_of_val _
theorem in_out (x:Fp):inP (outP x)=x:=by
 apply Fin.ext
 rw[inP_val,outP_val]
 exact Nat.mod_eq_of_lt x.isLt
section
variable {r:Nat} [NeZero r]
theorem pw_cube (x:Fin r):∀n,pw (x*x*x) n=pw x n*pw x n*pw x n
 | 0=>by show (1:Fin r)=1*1*1;grind
 | n+1=>by
  show pw (x*x*x) n*(x*x*x)=pw x n*x*(pw x n*x)*(pw x n*x)
  rw[pw_cube x n]
  grind
theorem pw_three (x:Fin r) (n:Nat):pw (x*x*x) n=pw x (n+n+n):=by
 rw[pw_add_g,pw_add_g,pw_cube]
theorem neg_of_sum {a b:Fin r} (h:a+b=0):a=0-b:=by grind
end

theorem one_ne_p:(1:Fp)≠0:=by decide +kernel
theorem two_ne_p:(1:Fp)+1≠0:=by decide +kernel
theorem fp1_one:fp1=1:=by decide +kernel
theorem neg4:(0:Fp)-fp4=Fin.ofNat pN (pN-4):=by decide +kernel
theorem thirds:pN-1=(pN-1) / 3+(pN-1) / 3+(pN-1) / 3:=by decide +kernel
theorem neg4_val:(Fin.ofNat pN (pN-4)).val=pN-4:=by decide +kernel
theorem neg4_pow:mpow pN (pN-4) 384 ((pN-1) / 3)≠1:=by decide +kernel
theorem third_lt:(pN-1) / 3<2 ^ 384:=by decide +kernel
theorem one_val_p:((1:Fp):Nat)=1:=by decide +kernel

theorem cube_ne (c:Fp) (hc:pw c ((pN-1) / 3)≠1) (h0:c≠0) (x:Fp):x*x*x≠c:=by
 intro h
 by_cases hx:x=0
 ·apply h0
  rw[←h,hx]
  exact mul_zero6
 ·apply hc
  rw[←h,pw_three,←thirds]
  exact fermat_p x hx
where mul_zero6:(0:Fp)*0*0=0:=by decide +kernel

instance fldP:Fld Fp:=
  { (inferInstance:CRing (Fin pN)) with
    inv:=ivP
    mul_inv:=ivP_mul
    one_ne:=one_ne_p }

section
variable {F:Type} [Fld F]
end

end

section

theorem twice_fnd (x y z:Fp):FnD Tryz.prog 81 [.v (.a [.ob (.p x),.ob (.p y),.ob (.p z)])] (.v (.a (ptIts (jtw (x,y,z))))) []:=by
 by_cases h:z=0
 ·have e:jtw (x,y,z)=(x,y,z):=if_pos h
  rw[e]
  exact fn_sound qeJ_ok Tryz.func81 (twA x y z) ⟨decide_eq_true h,trivial⟩
 ·unfold jtw
  rw[if_neg h]
  exact fn_sound qeJ_ok Tryz.func81 (twB x y z) ⟨decide_eq_false h,trivial⟩
def twPSpec:FnSpec
 | [.v (.a [.ob (.p x),.ob (.p y),.ob (.p z)])]=>some ([],.v (.a (ptIts (jtw (x,y,z)))),[])
 | _=>none
def qsA:Env:=qeJ.set (addT qeJ.fn 81 twPSpec)
theorem qsA_ok:EnvOk Tryz.prog qsA:=env_add qeJ_ok 81 twPSpec (enters_of Tryz.func81 rfl rfl) fun args o r es h _=>by
 unfold twPSpec at h
 split at h
 ·cases h;exact twice_fnd _ _ _
 ·cases h
def ngPSpec:FnSpec
 | [.v (.a [.ob (.p x),.ob (.p y),.ob (.p z)])]=>some ([],.v (.a (ptIts (jng (x,y,z)))),[])
 | _=>none
def qsB:Env:=qsA.set (addT qsA.fn 104 ngPSpec)
theorem qsB_ok:EnvOk Tryz.prog qsB:=env_add qsA_ok 104 ngPSpec (enters_of Tryz.func104 rfl rfl) fun args o r es h _=>by
 unfold ngPSpec at h
 split at h
 ·cases h;exact fn_sound qeJ_ok Tryz.func104 (ngP _ _ _) trivial
 ·cases h
--@env qsB qsB_ok
theorem plA (x y z u v w:Fp):fnRes qsB Tryz.f79 3000 [.v (.a [.ob (.p x),.ob (.p y),.ob (.p z)]),.v (.a [.ob (.p u),.ob (.p v),.ob (.p w)])] [true] [] []=(some ([((decide (z=(0:Fp)))=true)],((.v (.a [.ob (.p u),.ob (.p v),.ob (.p w)])),[]))):=by kernel_rfl
theorem plB (x y z u v w:Fp):fnRes qsB Tryz.f79 3000 [.v (.a [.ob (.p x),.ob (.p y),.ob (.p z)]),.v (.a [.ob (.p u),.ob (.p v),.ob (.p w)])] [false,true] [] []=(some ([((decide (z=(0:Fp)))=false),((decide (w=(0:Fp)))=true)],((.v (.a [.ob (.p x),.ob (.p y),.ob (.p z)])),[]))):=by kernel_rfl
theorem plC (x y z u v w:Fp):fnRes qsB Tryz.f79 3000 [.v (.a [.ob (.p x),.ob (.p y),.ob (.p z)]),.v (.a [.ob (.p u),.ob (.p v),.ob (.p w)])] [false,false,true,true] [] []=(some ([((decide (z=(0:Fp)))=false),((decide (w=(0:Fp)))=false),((decide (((u*(z*z))-(x*(w*w)))=(0:Fp)))=true),((decide ((((v*(z*z))*z)-((y*(w*w))*w))=(0:Fp)))=true)],((.v (.a [(.ob (.p (Prod.fst (jtw (x,(y,z)))))),(.ob (.p (Prod.fst (Prod.snd (jtw (x,(y,z))))))),(.ob (.p (Prod.snd (Prod.snd (jtw (x,(y,z)))))))])),[]))):=by kernel_rfl
theorem plD (x y z u v w:Fp):fnRes qsB Tryz.f79 3000 [.v (.a [.ob (.p x),.ob (.p y),.ob (.p z)]),.v (.a [.ob (.p u),.ob (.p v),.ob (.p w)])] [false,false,true,false] [] []=(some ([((decide (z=(0:Fp)))=false),((decide (w=(0:Fp)))=false),((decide (((u*(z*z))-(x*(w*w)))=(0:Fp)))=true),((decide ((((v*(z*z))*z)-((y*(w*w))*w))=(0:Fp)))=false)],((.v (.a [.ob (.p x),.ob (.p y),(.ob (.p (0:Fp)))])),[]))):=by kernel_rfl
theorem plE (x y z u v w:Fp):fnRes qsB Tryz.f79 3000 [.v (.a [.ob (.p x),.ob (.p y),.ob (.p z)]),.v (.a [.ob (.p u),.ob (.p v),.ob (.p w)])] [false,false,false] [] []=(some ([((decide (z=(0:Fp)))=false),((decide (w=(0:Fp)))=false),((decide (((u*(z*z))-(x*(w*w)))=(0:Fp)))=false)],((.v (.a [(.ob (.p (((((((v*(z*z))*z)-((y*(w*w))*w))*(((v*(z*z))*z)-((y*(w*w))*w)))-((((u*(z*z))-(x*(w*w)))*((u*(z*z))-(x*(w*w))))*((u*(z*z))-(x*(w*w)))))-((x*(w*w))*(((u*(z*z))-(x*(w*w)))*((u*(z*z))-(x*(w*w))))))-((x*(w*w))*(((u*(z*z))-(x*(w*w)))*((u*(z*z))-(x*(w*w)))))))),(.ob (.p (((((v*(z*z))*z)-((y*(w*w))*w))*(((x*(w*w))*(((u*(z*z))-(x*(w*w)))*((u*(z*z))-(x*(w*w)))))-(((((((v*(z*z))*z)-((y*(w*w))*w))*(((v*(z*z))*z)-((y*(w*w))*w)))-((((u*(z*z))-(x*(w*w)))*((u*(z*z))-(x*(w*w))))*((u*(z*z))-(x*(w*w)))))-((x*(w*w))*(((u*(z*z))-(x*(w*w)))*((u*(z*z))-(x*(w*w))))))-((x*(w*w))*(((u*(z*z))-(x*(w*w)))*((u*(z*z))-(x*(w*w))))))))-(((y*(w*w))*w)*((((u*(z*z))-(x*(w*w)))*((u*(z*z))-(x*(w*w))))*((u*(z*z))-(x*(w*w)))))))),(.ob (.p ((((u*(z*z))-(x*(w*w)))*z)*w)))])),[]))):=by kernel_rfl
end

section

theorem plusPt_fnd (x y z u v w:Fp):FnD Tryz.prog 79 [.v (.a [.ob (.p x),.ob (.p y),.ob (.p z)]),.v (.a [.ob (.p u),.ob (.p v),.ob (.p w)])] (.v (.a (ptIts (jpl (x,y,z) (u,v,w))))) []:=by
 by_cases h:z=0
 ·have e:jpl (x,y,z) (u,v,w)=(u,v,w):=if_pos h
  rw[e]
  exact fn_sound qsB_ok Tryz.func79 (plA x y z u v w) ⟨decide_eq_true h,trivial⟩
 ·by_cases h2:w=0
  ·have e:jpl (x,y,z) (u,v,w)=(x,y,z):=(if_neg h).trans (if_pos h2)
   rw[e]
   exact fn_sound qsB_ok Tryz.func79 (plB x y z u v w) ⟨decide_eq_false h,decide_eq_true h2,trivial⟩
  ·unfold jpl
   rw[if_neg h,if_neg h2]
   dsimp only
   by_cases h3:u*(z*z)-x*(w*w)=0
   ·rw[if_pos h3]
    by_cases h4:v*(z*z)*z-y*(w*w)*w=0
    ·rw[if_pos h4]
     exact fn_sound qsB_ok Tryz.func79 (plC x y z u v w) ⟨decide_eq_false h,decide_eq_false h2,decide_eq_true h3,decide_eq_true h4,trivial⟩
    ·rw[if_neg h4]
     exact fn_sound qsB_ok Tryz.func79 (plD x y z u v w) ⟨decide_eq_false h,decide_eq_false h2,decide_eq_true h3,decide_eq_false h4,trivial⟩
   ·rw[if_neg h3]
    exact fn_sound qsB_ok Tryz.func79 (plE x y z u v w) ⟨decide_eq_false h,decide_eq_false h2,decide_eq_false h3,trivial⟩

end

section

def plPSpec:FnSpec
 | [.v (.a [.ob (.p x),.ob (.p y),.ob (.p z)]),.v (.a [.ob (.p u),.ob (.p v),.ob (.p w)])]=>some ([],.v (.a (ptIts (jpl (x,y,z) (u,v,w)))),[])
 | _=>none
def qsC:Env:=qsB.set (addT qsB.fn 79 plPSpec)
theorem qsC_ok:EnvOk Tryz.prog qsC:=env_add qsB_ok 79 plPSpec (enters_of Tryz.func79 rfl rfl) fun args o r es h _=>by
 unfold plPSpec at h
 split at h
 ·cases h;exact plusPt_fnd _ _ _ _ _ _
 ·cases h
def inlAf (T:Nat→Option Func) (f:Nat):Option Func:=if f=75 then some Tryz.f75 else T f
def qsD:Env:={ qsC with inl:=inlAf qsC.inl }
theorem qsD_ok:EnvOk Tryz.prog qsD:=by
 refine ⟨qsC_ok.ty,qsC_ok.mixed,qsC_ok.fn,qsC_ok.mu,fun f fn h=>?_,qsC_ok.ex,qsC_ok.inv⟩
 have h:inlAf qsC.inl f=some fn:=h
 unfold inlAf at h
 split at h
 ·rename_i hf;cases h;subst hf;exact ⟨Tryz.func75,enters_of Tryz.func75 rfl rfl⟩
 exact qsC_ok.inl f fn h
--@env qsD qsD_ok
theorem igA (x y:U6) (i:Bool):fnRes qsD Tryz.f40 3000 [.v (.a [.ob (.fp x),.ob (.fp y),.bool i])] [true] [] []=(some ([(i=true),(0≤(1:Int)),((1:Int)<(18446744073709551616:Int)),(0≤(1:Int)),((1:Int)<(18446744073709551616:Int))],((.v (.a [(.ob (.p (Fin.ofNat pN 1))),(.ob (.p (Fin.ofNat pN 1))),(.ob (.p (0:Fp)))])),[]))):=by kernel_rfl
theorem igB (x y:U6) (i:Bool):fnRes qsD Tryz.f40 3000 [.v (.a [.ob (.fp x),.ob (.fp y),.bool i])] [false] [] []=(some ([(i=false),(0≤(1:Int)),((1:Int)<(18446744073709551616:Int))],((.v (.a [(.ob (.p (inP x))),(.ob (.p (inP y))),(.ob (.p (Fin.ofNat pN 1)))])),[]))):=by kernel_rfl
theorem ogA (x y z:Fp):fnRes qsD Tryz.f39 3000 [.v (.a [.ob (.p x),.ob (.p y),.ob (.p z)])] [true,true] [] []=(some ([((decide (z=(0:Fp)))=true)],((.v (.a [(.ob (.fp (0:U6))),(.ob (.fp (0:U6))),(.lit true)])),[]))):=by kernel_rfl
theorem ogB (x y z:Fp):fnRes qsD Tryz.f39 3000 [.v (.a [.ob (.p x),.ob (.p y),.ob (.p z)])] [false,false] [] []=(some ([((decide (z=(0:Fp)))=false)],((.v (.a [(.ob (.fp (outP (x*((ivP z)*(ivP z)))))),(.ob (.fp (outP ((y*((ivP z)*(ivP z)))*(ivP z))))),(.lit false)])),[]))):=by kernel_rfl
theorem onA (x y:U6) (i:Bool):fnRes qsD Tryz.f57 3000 [.v (.a [.ob (.fp x),.ob (.fp y),.bool i])] [true] [] []=(some ([(i=true)],((.ci (.bool (ite (true=true) (Bool.and (decide (x=(0:U6))) (Bool.and (decide (y=(0:U6))) (i == true))) (Bool.not (Bool.and (decide (x=(0:U6))) (Bool.and (decide (y=(0:U6))) (i == true))))))),[]))):=by kernel_rfl
theorem onB (x y:U6) (i:Bool):fnRes qsD Tryz.f57 3000 [.v (.a [.ob (.fp x),.ob (.fp y),.bool i])] [false,true,true] [] []=(some ([(i=false),((ite (true=true) (decide ((outP (inP x))=x)) (Bool.not (decide ((outP (inP x))=x))))=true),((ite (true=true) (decide ((outP (inP y))=y)) (Bool.not (decide ((outP (inP y))=y))))=true),(0≤(4:Int)),((4:Int)<(18446744073709551616:Int))],((.ci (.bool (ite (true=true) (decide (((inP y)*(inP y))=((((inP x)*(inP x))*(inP x))+(Fin.ofNat pN 4)))) (Bool.not (decide (((inP y)*(inP y))=((((inP x)*(inP x))*(inP x))+(Fin.ofNat pN 4)))))))),[]))):=by kernel_rfl
theorem onC (x y:U6) (i:Bool):fnRes qsD Tryz.f57 3000 [.v (.a [.ob (.fp x),.ob (.fp y),.bool i])] [false,true,false] [] []=(some ([(i=false),((ite (true=true) (decide ((outP (inP x))=x)) (Bool.not (decide ((outP (inP x))=x))))=true),((ite (true=true) (decide ((outP (inP y))=y)) (Bool.not (decide ((outP (inP y))=y))))=false)],((.ci (.lit false)),[]))):=by kernel_rfl
theorem onD (x y:U6) (i:Bool):fnRes qsD Tryz.f57 3000 [.v (.a [.ob (.fp x),.ob (.fp y),.bool i])] [false,false,false] [] []=(some ([(i=false),((ite (true=true) (decide ((outP (inP x))=x)) (Bool.not (decide ((outP (inP x))=x))))=false)],((.ci (.lit false)),[]))):=by kernel_rfl
end

section

/-- Which points may be. -/
def onG (a:G1D):Bool:=
 if a.inf then decide (a.x=0) && decide (a.y=0)
 else decide (outP (inP a.x)=a.x) && (decide (outP (inP a.y)=a.y) && decide (inP a.y*inP a.y=inP a.x*inP a.x*inP a.x+fp4))
def inG (a:G1D):Fp×Fp×Fp:=if a.inf then (fp1,fp1,0) else (inP a.x,inP a.y,fp1)
def outG (t:Fp×Fp×Fp):G1D:=
 if t.2.2=0 then ⟨0,0,true⟩ else ⟨outP (t.1*(ivP t.2.2*ivP t.2.2)),outP (t.2.1*(ivP t.2.2*ivP t.2.2)*ivP t.2.2),false⟩

theorem lit_third {x:Ctx} {i j:It} {b:Bool} {v:Value} (h:denS x (.v (.a [i,j,.lit b])) v):denS x (.v (.a [i,j,.bool b])) v:=by
 obtain ⟨cs,e,c1,r1,e1,h1,c2,r2,e2,h2,c3,r3,e3,⟨d,h3⟩,h4⟩:=h
 refine ⟨cs,e,c1,r1,e1,h1,c2,r2,e2,h2,c3,r3,e3,⟨d,?_⟩,h4⟩
 cases d<;>exact h3
theorem inG_fnd (x y:U6) (i:Bool):FnD Tryz.prog 40 [.v (.a [.ob (.fp x),.ob (.fp y),.bool i])] (.v (.a (ptIts (inG ⟨x,y,i⟩)))) []:=by
 cases i with
 | true=>exact fn_sound qsD_ok Tryz.func40 (igA x y true) ⟨rfl,by decide,by decide,by decide,by decide,trivial⟩
 | false=>exact fn_sound qsD_ok Tryz.func40 (igB x y false) ⟨rfl,by decide,by decide,trivial⟩

theorem outG_fnd (x y z:Fp):FnD Tryz.prog 39 [.v (.a [.ob (.p x),.ob (.p y),.ob (.p z)])] (.v (.a (outG (x,y,z)).its)) []:=by
 by_cases h:z=0
 ·have e:outG (x,y,z)=⟨0,0,true⟩:=if_pos h
  rw[e]
  exact (fn_sound qsD_ok Tryz.func39 (ogA x y z) ⟨decide_eq_true h,trivial⟩).conv (fun _ _ h=>h) fun y v hd=>lit_third hd
 ·unfold outG
  rw[if_neg h]
  exact (fn_sound qsD_ok Tryz.func39 (ogB x y z) ⟨decide_eq_false h,trivial⟩).conv (fun _ _ h=>h) fun y v hd=>lit_third hd

theorem onG_fnd (x y:U6) (i:Bool):FnD Tryz.prog 57 [.v (.a [.ob (.fp x),.ob (.fp y),.bool i])] (.v (.c (.bool (onG ⟨x,y,i⟩)))) []:=by
 cases i with
 | true=>
  have r:=onA x y true
  rw[if_pos rfl] at r
  have e:onG ⟨x,y,true⟩=((decide (x=0)) && ((decide (y=0)) && (true == true))):=by
   show (decide (x=0) && decide (y=0))=_
   simp
  rw[e]
  exact fn_sound qsD_ok Tryz.func57 r ⟨rfl,trivial⟩
 | false=>
  by_cases h1:outP (inP x)=x
  ·by_cases h2:outP (inP y)=y
   ·have r:=onB x y false
    rw[if_pos rfl,if_pos rfl,if_pos rfl] at r
    have e:onG ⟨x,y,false⟩=decide (inP y*inP y=inP x*inP x*inP x+Fin.ofNat pN 4):=by
     show (decide (outP (inP x)=x) && (decide (outP (inP y)=y) && decide (inP y*inP y=inP x*inP x*inP x+fp4)))=_
     rw[decide_eq_true h1,decide_eq_true h2];rfl
    rw[e]
    exact fn_sound qsD_ok Tryz.func57 r ⟨rfl,decide_eq_true h1,decide_eq_true h2,by decide,by decide,trivial⟩
   ·have r:=onC x y false
    rw[if_pos rfl,if_pos rfl] at r
    have e:onG ⟨x,y,false⟩=false:=by
     show (decide (outP (inP x)=x) && (decide (outP (inP y)=y) && decide (inP y*inP y=inP x*inP x*inP x+fp4)))=_
     rw[decide_eq_false h2,Bool.false_and,Bool.and_false]
    rw[e]
    exact (fn_sound qsD_ok Tryz.func57 r ⟨rfl,decide_eq_true h1,decide_eq_false h2,trivial⟩).conv (fun _ _ h=>h) fun y v hd=>lit_bool rfl hd
  ·have r:=onD x y false
   rw[if_pos rfl] at r
   have e:onG ⟨x,y,false⟩=false:=by
    show (decide (outP (inP x)=x) && (decide (outP (inP y)=y) && decide (inP y*inP y=inP x*inP x*inP x+fp4)))=_
    rw[decide_eq_false h1,Bool.false_and]
   rw[e]
   exact (fn_sound qsD_ok Tryz.func57 r ⟨rfl,decide_eq_false h1,trivial⟩).conv (fun _ _ h=>h) fun y v hd=>lit_bool rfl hd
def inGSpec:FnSpec
 | [.v (.a [.ob (.fp x),.ob (.fp y),.bool i])]=>some ([],.v (.a (ptIts (inG ⟨x,y,i⟩))),[])
 | _=>none
def qsE:Env:=qsD.set (addT qsD.fn 40 inGSpec)
theorem qsE_ok:EnvOk Tryz.prog qsE:=env_add qsD_ok 40 inGSpec (enters_of Tryz.func40 rfl rfl) fun args o r es h _=>by
 unfold inGSpec at h
 split at h
 ·cases h;exact inG_fnd _ _ _
 ·cases h
def outGSpec:FnSpec
 | [.v (.a [.ob (.p x),.ob (.p y),.ob (.p z)])]=>some ([],.v (.a (outG (x,y,z)).its),[])
 | _=>none
def qsF:Env:=qsE.set (addT qsE.fn 39 outGSpec)
theorem qsF_ok:EnvOk Tryz.prog qsF:=env_add qsE_ok 39 outGSpec (enters_of Tryz.func39 rfl rfl) fun args o r es h _=>by
 unfold outGSpec at h
 split at h
 ·cases h;exact outG_fnd _ _ _
 ·cases h
def onGSpec:FnSpec
 | [.v (.a [.ob (.fp x),.ob (.fp y),.bool i])]=>some ([],.v (.c (.bool (onG ⟨x,y,i⟩))),[])
 | _=>none
def qsG:Env:=qsF.set (addT qsF.fn 57 onGSpec)
theorem qsG_ok:EnvOk Tryz.prog qsG:=env_add qsF_ok 57 onGSpec (enters_of Tryz.func57 rfl rfl) fun args o r es h _=>by
 unfold onGSpec at h
 split at h
 ·cases h;exact onG_fnd _ _ _
 ·cases h
--@env qsG qsG_ok
theorem riR (x y:U6) (i:Bool):fnRes qsG Tryz.f21 3000 [.v (.a [.ob (.fp x),.ob (.fp y),.bool i])] [] [] []=(some ([],((.ci (.bool (onG (G1D.mk x y i)))),[]))):=by kernel_rfl
theorem geR  : fnRes qsG Tryz.f15 3000 [] [] [] []=(some ([(0≤(18103045581585958587:Int)),((18103045581585958587:Int)<(18446744073709551616:Int)),(0≤(7806400890582735599:Int)),((7806400890582735599:Int)<(18446744073709551616:Int)),(0≤(11623291730934869080:Int)),((11623291730934869080:Int)<(18446744073709551616:Int)),(0≤(14080658508445169925:Int)),((14080658508445169925:Int)<(18446744073709551616:Int)),(0≤(2780237799254240271:Int)),((2780237799254240271:Int)<(18446744073709551616:Int)),(0≤(1725392847304644500:Int)),((1725392847304644500:Int)<(18446744073709551616:Int)),(0≤(912580534683953121:Int)),((912580534683953121:Int)<(18446744073709551616:Int)),(0≤(15005087156090211044:Int)),((15005087156090211044:Int)<(18446744073709551616:Int)),(0≤(61670280795567085:Int)),((61670280795567085:Int)<(18446744073709551616:Int)),(0≤(18227722000993880822:Int)),((18227722000993880822:Int)<(18446744073709551616:Int)),(0≤(11573741888802228964:Int)),((11573741888802228964:Int)<(18446744073709551616:Int)),(0≤(627113611842199793:Int)),((627113611842199793:Int)<(18446744073709551616:Int))],((.v (.a [(.ob (.fp (Fin.ofNat B6 3685416753713387016781088315183077757961620795782546409894578378688607592378376318836054947676345821548104185464507))),(.ob (.fp (Fin.ofNat B6 1339506544944476473020471379941921221584933875938349620426543736416511423956333506472724655353366534992391756441569))),(.lit false)])),[]))):=by kernel_rfl
end

section

def genX:U6:=Fin.ofNat B6 3685416753713387016781088315183077757961620795782546409894578378688607592378376318836054947676345821548104185464507
def genY:U6:=Fin.ofNat B6 1339506544944476473020471379941921221584933875938349620426543736416511423956333506472724655353366534992391756441569
def genG:G1D:=⟨genX,genY,false⟩

theorem gen_fnd:FnD Tryz.prog 15 [] (.v (.a genG.its)) []:=
 (fn_sound qsG_ok Tryz.func15 geR (by simp [AllP])).conv (fun _ _ h=>h) fun y v hd=>lit_third hd
end

section

def rightSpec1:FnSpec
 | [.v (.a [.ob (.fp x),.ob (.fp y),.bool i])]=>some ([],.v (.c (.bool (onG ⟨x,y,i⟩))),[])
 | _=>none
def qtA:Env:=qsG.set (addT qsG.fn 21 rightSpec1)
theorem qtA_ok:EnvOk Tryz.prog qtA:=env_add qsG_ok 21 rightSpec1 (enters_of Tryz.func21 rfl rfl) fun args o r es h _=>by
 unfold rightSpec1 at h
 split at h
 ·cases h;exact fn_sound qsG_ok Tryz.func21 (riR _ _ _) trivial
 ·cases h
def genSpec1:FnSpec
 | []=>some ([],.v (.a genG.its),[])
 | _=>none
def qtC:Env:=qtA.set (addT qtA.fn 15 genSpec1)
theorem qtC_ok:EnvOk Tryz.prog qtC:=env_add qtA_ok 15 genSpec1 (enters_of Tryz.func15 rfl rfl) fun args o r es h _=>by
 unfold genSpec1 at h
 split at h
 ·cases h;exact gen_fnd
 ·cases h
def qtG:Env:=qtC
theorem qtG_ok:EnvOk Tryz.prog qtG:=qtC_ok
theorem neA (a b:U6) (i:Bool):fnRes qtG Tryz.f56 3000 [.v (.a [.ob (.fp a),.ob (.fp b),.bool i])] [true] [] []=(some ([((Bool.not (onG (G1D.mk a b i)))=true)],((.t [(.a [(.ob (.fp (0:U6))),(.ob (.fp (0:U6))),(.lit false)]),(.c (.int .i64 (30:Int)))]),[]))):=by kernel_rfl
theorem neB (a b:U6) (i:Bool):fnRes qtG Tryz.f56 3000 [.v (.a [.ob (.fp a),.ob (.fp b),.bool i])] [false] [] []=(some ([((Bool.not (onG (G1D.mk a b i)))=false)],((.t [(.a [(.ob (.fp (G1D.x (outG (jng (inG (G1D.mk a b i))))))),(.ob (.fp (G1D.y (outG (jng (inG (G1D.mk a b i))))))),(.bool (G1D.inf (outG (jng (inG (G1D.mk a b i))))))]),(.c (.int .i64 (0:Int)))]),[]))):=by kernel_rfl
end

section

def addG (a b:G1D):G1D:=outG (jpl (inG a) (inG b))
def negG (a:G1D):G1D:=outG (jng (inG a))
def neR (a:G1D):G1D×Int:=if onG a then (negG a,0) else (g10,30)

theorem lit_third_t {x:Ctx} {i j k:It} {b:Bool} {v:Value} (h:denS x (.t [.a [i,j,.lit b],.c k]) v):denS x (.t [.a [i,j,.bool b],.c k]) v:=by
 obtain ⟨vs,e,h1⟩:=h
 cases h1 with | cons d1 ds=>
 exact ⟨_,e,.cons (lit_third d1) ds⟩

theorem neg_fnd1 (a b:U6) (i:Bool):FnD Tryz.prog 56 [.v (.a [.ob (.fp a),.ob (.fp b),.bool i])] (.t [.a (neR ⟨a,b,i⟩).1.its,.c (.int .i64 (neR ⟨a,b,i⟩).2)]) []:=by
 by_cases h1:onG ⟨a,b,i⟩=true
 ·have e:neR ⟨a,b,i⟩=(negG ⟨a,b,i⟩,0):=by unfold neR;rw[h1];rfl
  rw[e]
  exact fn_sound qtG_ok Tryz.func56 (neB a b i) ⟨by rw[h1];rfl,trivial⟩
 ·have h1:onG ⟨a,b,i⟩=false:=Bool.eq_false_iff.2 h1
  have e:neR ⟨a,b,i⟩=(g10,30):=by unfold neR;rw[h1];rfl
  rw[e]
  exact (fn_sound qtG_ok Tryz.func56 (neA a b i) ⟨by rw[h1];rfl,trivial⟩).conv (fun _ _ h=>h) fun y v hd=>lit_third_t hd

end

section

theorem no2_p (x:Fp):x*x*x+fp4≠0:=by
 intro h
 have h:=neg_of_sum h
 rw[neg4] at h
 refine cube_ne _ (fun e=>?_) (fun e=>?_) x h
 ·have:=congrArg Fin.val e
  rw[pw_mpow _ 384 _ third_lt,neg4_val,one_val_p] at this
  exact neg4_pow this
 ·have:=congrArg Fin.val e
  rw[neg4_val] at this
  revert this
  decide +kernel

theorem cv1:Cv fp4:=⟨two_ne_p,no2_p⟩

/-- A point outside, as a point; and back. -/
def pG (a:G1D):Pt Fp:=if a.inf then none else some (inP a.x,inP a.y)
def gP:Pt Fp→G1D
 | none=>⟨0,0,true⟩
 | some p=>⟨outP p.1,outP p.2,false⟩

theorem pG_gP:∀P:Pt Fp,pG (gP P)=P
 | none=>rfl
 | some p=>by
  show some (inP (outP p.1),inP (outP p.2))=some p
  rw[in_out,in_out]

theorem onG_is {a:G1D} (h:onG a=true):gP (pG a)=a∧OnC fp4 (pG a):=by
 obtain ⟨x,y,i⟩:=a
 cases i with
 | true=>
  have h:(decide (x=0) && decide (y=0))=true:=h
  rw[Bool.and_eq_true,decide_eq_true_eq,decide_eq_true_eq] at h
  obtain ⟨rfl,rfl⟩:=h
  exact ⟨rfl,True.intro⟩
 | false=>
  have h:(decide (outP (inP x)=x) && (decide (outP (inP y)=y) && decide (inP y*inP y=inP x*inP x*inP x+fp4)))=true:=h
  rw[Bool.and_eq_true,Bool.and_eq_true,decide_eq_true_eq,decide_eq_true_eq,decide_eq_true_eq] at h
  obtain ⟨h1,h2,h3⟩:=h
  refine ⟨?_,h3⟩
  show (⟨outP (inP x),outP (inP y),false⟩:G1D)=⟨x,y,false⟩
  rw[h1,h2]

theorem onG_gP:∀{P:Pt Fp},OnC fp4 P→onG (gP P)=true
 | none,_=>by
  show (decide ((0:U6)=0) && decide ((0:U6)=0))=true
  rw[decide_eq_true rfl];rfl
 | some p,h=>by
  have h:p.2*p.2=p.1*p.1*p.1+fp4:=h
  show (decide (outP (inP (outP p.1))=outP p.1) && (decide (outP (inP (outP p.2))=outP p.2) && decide (inP (outP p.2)*inP (outP p.2)=inP (outP p.1)*inP (outP p.1)*inP (outP p.1)+fp4)))=true
  rw[in_out,in_out,decide_eq_true rfl,decide_eq_true rfl,decide_eq_true h]
  rfl

theorem one_sq:(1:Fp)*1=1:=by decide +kernel
theorem inG_jc (a:G1D):Jc (pG a) (inG a):=by
 obtain ⟨x,y,i⟩:=a
 cases i with
 | true=>exact (rfl:(0:Fp)=0)
 | false=>
  show Jc (some (inP x,inP y)) (inP x,inP y,fp1)
  rw[fp1_one]
  refine ⟨one_ne_p,?_,?_⟩
  ·show inP x=inP x*(1*1)
   rw[one_sq]
   exact (mul_one_g _).symm
  ·show inP y=inP y*(1*1*1)
   rw[one_sq,one_sq]
   exact (mul_one_g _).symm

theorem outG_jc {P:Pt Fp} {t:Fp×Fp×Fp} (h:Jc P t):outG t=gP P:=by
 rw[←jpt_of P t h]
 unfold outG jpt
 by_cases hz:t.2.2=0
 ·rw[if_pos hz,if_pos hz];rfl
 ·rw[if_neg hz,if_neg hz];rfl

theorem addG_is (a b:G1D):addG a b=gP (gadd (pG a) (pG b)):=outG_jc (jpl_ok two_ne_p _ _ _ _ (inG_jc a) (inG_jc b))
theorem negG_is (a:G1D):negG a=gP (gneg (pG a)):=outG_jc (jng_ok _ _ (inG_jc a))

theorem pG_add (a b:G1D):pG (addG a b)=gadd (pG a) (pG b):=by rw[addG_is,pG_gP]
theorem pG_neg (a:G1D):pG (negG a)=gneg (pG a):=by rw[negG_is,pG_gP]
theorem on_add {a b:G1D} (ha:onG a=true) (hb:onG b=true):onG (addG a b)=true:=by
 rw[addG_is]
 exact onG_gP (gadd_on cv1 _ _ (onG_is ha).2 (onG_is hb).2)
theorem on_neg {a:G1D} (ha:onG a=true):onG (negG a)=true:=by
 rw[negG_is]
 exact onG_gP (gneg_on _ (onG_is ha).2)
end

section

def qvA:Env:=qtG
theorem qvA_ok:EnvOk Tryz.prog qvA:=qtG_ok
def negSpec1:FnSpec
 | [.v (.a [.ob (.fp a),.ob (.fp b),.bool i])]=>some ([],.t [.a (neR ⟨a,b,i⟩).1.its,.c (.int .i64 (neR ⟨a,b,i⟩).2)],[])
 | _=>none
def qvF:Env:=qvA.set (addT qvA.fn 56 negSpec1)
theorem qvF_ok:EnvOk Tryz.prog qvF:=env_add qvA_ok 56 negSpec1 (enters_of Tryz.func56 rfl rfl) fun args o r es h _=>by
 unfold negSpec1 at h
 split at h
 ·cases h;exact neg_fnd1 _ _ _
 ·cases h
--@env qvF qvF_ok
end

section
section
variable {w0:World} {F0:Nat→Prop} {K:Kp} {ac:List Act} {Q:Exit→Act→World→Prop} {cX:Ctx} {aX:Act}

--@env qeJ qeJ_ok
def dg_k:List KI:=(run qeJ false 3000 ((fun (l:Nat) (k:U4)=>(⟨[.code (bodyOf Tryz.f121)],.normal,⟨argT [.v (.c (.val (.func (.yield l) #[] #[]))),.v (.c (.ptr 0 0))],one (.fl [.ob (.fr k)]),Tryz.f121.ntmps,16,[]⟩⟩:Cfg)) default default) []).cfg.k
theorem dg (l:Nat) (k:U4) (ho:AllP []):Sg Tryz.prog (⟨argT [.v (.c (.val (.func (.yield l) #[] #[]))),.v (.c (.ptr 0 0))],one (.fl [.ob (.fr k)]),Tryz.f121.ntmps,16,[]⟩) (mkSt 32 [0,1,3,4] [(.ci (.val (Value.func (Fn.yield l) (Array.mk ([]:List Value)) (Array.mk ([]:List Value))))),.pt 0 0,(.ci (.lit false)),.ii (63:Int)] [0] [(eF_ [.ob (.fr k)])] 48 [] []) .normal (dg_k) ([.code (bodyOf Tryz.f121)]):=fun hs hK=>
 run_at2 (unroll:=false) (n:=3000) (path:=[]) (o:=⟨_,_,_,_,_,_,_⟩) qeJ_ok (by kernel_rfl) (by kernel_rfl) ho hs hK
def dgS (l:Nat) (k:U4) (g:Bool) (i:Int):St:=mkSt 32 [0,1,3,4] [(.ci (.val (Value.func (Fn.yield l) (Array.mk ([]:List Value)) (Array.mk ([]:List Value))))),.pt 0 0,.v (.c (.bool g)),.v (.c (.int .i64 i))] [0] [(eF_ [.ob (.fr k)])] 48 [] []
def dgY_k:List KI:=(run qeJ false 3000 ((fun (l:Nat) (k:U4) (g:Bool) (i:Int)=>(⟨lpIn dg_k,.normal,dgS l k g i⟩:Cfg)) default default default default) [true,true,true]).cfg.k
section
variable (l:Nat) (k:U4) (g:Bool) (i:Int)
theorem dgY (ho:AllP [((decide (i ≥ (0:Int)))=true),((16:Int)≠(0:Int)),(0≤(wrap .i64 (Int.tdiv i (16:Int)))),((wrap .i64 (Int.tdiv i (16:Int)))<(4:Int)),((0+(((wrap .i64 (Int.tdiv i (16:Int)))).toNat*1))<(Ob.k (.fr k))),((16:Int)≠(0:Int)),(0≤(wrap .i64 ((4:Int)*(Int.tmod i (16:Int))))),(g=true)]):Sg Tryz.prog (dgS l k g i) (mkSt 32 [0,1,3,4,26,27,28] [(.ci (.val (Value.func (Fn.yield l) (Array.mk ([]:List Value)) (Array.mk ([]:List Value))))),.pt 0 0,(.ci (.lit true)),.ii i,(.ci (.lit true)),(.ci (.val (Value.func (Fn.yield l) (Array.mk ([]:List Value)) (Array.mk ([]:List Value))))),(.ii (wrap .i64 (bitsOp BinOp.and IntKind.u64 (Int.fdiv (limb (Ob.n (.fr k)) (0+(((wrap .i64 (Int.tdiv i (16:Int)))).toNat*1))) ((2:Int) ^ (Min.min ((wrap .i64 ((4:Int)*(Int.tmod i (16:Int))))).toNat 64))) (15:Int))))] [0] [(eF_ [.ob (.fr k)])] 416 [] []) .normal (dgY_k) (lpIn dg_k):=fun hs hK=>
 run_at2 (unroll:=false) (n:=3000) (path:=[true,true,true]) (o:=⟨_,_,_,_,_,_,_⟩) qeJ_ok (by kernel_rfl) (by kernel_rfl) ho hs hK
theorem dgZ (ho:AllP [((decide (i ≥ (0:Int)))=true),((16:Int)≠(0:Int)),(0≤(wrap .i64 (Int.tdiv i (16:Int)))),((wrap .i64 (Int.tdiv i (16:Int)))<(4:Int)),((0+(((wrap .i64 (Int.tdiv i (16:Int)))).toNat*1))<(Ob.k (.fr k))),((16:Int)≠(0:Int)),(0≤(wrap .i64 ((4:Int)*(Int.tmod i (16:Int))))),(g=false),((decide ((wrap .i64 (bitsOp BinOp.and IntKind.u64 (Int.fdiv (limb (Ob.n (.fr k)) (0+(((wrap .i64 (Int.tdiv i (16:Int)))).toNat*1))) ((2:Int) ^ (Min.min ((wrap .i64 ((4:Int)*(Int.tmod i (16:Int))))).toNat 64))) (15:Int))) > (0:Int)))=true)]):Sg Tryz.prog (dgS l k g i) (mkSt 32 [0,1,3,4,26,27,28] [(.ci (.val (Value.func (Fn.yield l) (Array.mk ([]:List Value)) (Array.mk ([]:List Value))))),.pt 0 0,(.ci (.bool (decide ((wrap .i64 (bitsOp BinOp.and IntKind.u64 (Int.fdiv (limb (Ob.n (.fr k)) (0+(((wrap .i64 (Int.tdiv i (16:Int)))).toNat*1))) ((2:Int) ^ (Min.min ((wrap .i64 ((4:Int)*(Int.tmod i (16:Int))))).toNat 64))) (15:Int))) > (0:Int))))),.ii i,(.ci (.lit true)),(.ci (.val (Value.func (Fn.yield l) (Array.mk ([]:List Value)) (Array.mk ([]:List Value))))),(.ii (wrap .i64 (bitsOp BinOp.and IntKind.u64 (Int.fdiv (limb (Ob.n (.fr k)) (0+(((wrap .i64 (Int.tdiv i (16:Int)))).toNat*1))) ((2:Int) ^ (Min.min ((wrap .i64 ((4:Int)*(Int.tmod i (16:Int))))).toNat 64))) (15:Int))))] [0] [(eF_ [.ob (.fr k)])] 416 [] []) .normal (dgY_k) (lpIn dg_k):=fun hs hK=>
 run_at2 (unroll:=false) (n:=3000) (path:=[true,false,true]) (o:=⟨_,_,_,_,_,_,_⟩) qeJ_ok (by kernel_rfl) (by kernel_rfl) ho hs hK
theorem dgN (ho:AllP [((decide (i ≥ (0:Int)))=true),((16:Int)≠(0:Int)),(0≤(wrap .i64 (Int.tdiv i (16:Int)))),((wrap .i64 (Int.tdiv i (16:Int)))<(4:Int)),((0+(((wrap .i64 (Int.tdiv i (16:Int)))).toNat*1))<(Ob.k (.fr k))),((16:Int)≠(0:Int)),(0≤(wrap .i64 ((4:Int)*(Int.tmod i (16:Int))))),(g=false),((decide ((wrap .i64 (bitsOp BinOp.and IntKind.u64 (Int.fdiv (limb (Ob.n (.fr k)) (0+(((wrap .i64 (Int.tdiv i (16:Int)))).toNat*1))) ((2:Int) ^ (Min.min ((wrap .i64 ((4:Int)*(Int.tmod i (16:Int))))).toNat 64))) (15:Int))) > (0:Int)))=false)]):Sg Tryz.prog (dgS l k g i) (mkSt 32 [0,1,3,4] [(.ci (.val (Value.func (Fn.yield l) (Array.mk ([]:List Value)) (Array.mk ([]:List Value))))),.pt 0 0,(.ci (.bool (decide ((wrap .i64 (bitsOp BinOp.and IntKind.u64 (Int.fdiv (limb (Ob.n (.fr k)) (0+(((wrap .i64 (Int.tdiv i (16:Int)))).toNat*1))) ((2:Int) ^ (Min.min ((wrap .i64 ((4:Int)*(Int.tmod i (16:Int))))).toNat 64))) (15:Int))) > (0:Int))))),(.ii (wrap .i64 (i-1)))] [0] [(eF_ [.ob (.fr k)])] 512 [] []) .normal (lpBk dg_k) (lpIn dg_k):=fun hs hK=>
 run_at2 (unroll:=false) (n:=3000) (path:=[true,false,false]) (o:=⟨_,_,_,_,_,_,_⟩) qeJ_ok (by kernel_rfl) (by kernel_rfl) ho hs hK
theorem dgX (ho:AllP [((decide (i ≥ (0:Int)))=false)]):Sg Tryz.prog (dgS l k g i) (mkSt 32 [] [] [0] [(eF_ [.ob (.fr k)])] 80 [] []) .normal ([]) (lpIn dg_k):=fun hs hK=>
 run_at2 (unroll:=false) (n:=3000) (path:=[false]) (o:=⟨_,_,_,_,_,_,_⟩) qeJ_ok (by kernel_rfl) (by kernel_rfl) ho hs hK
end
theorem dgB (l:Nat) (k:U4) (i d:Int) (ho:AllP []):Sg Tryz.prog (⟨setT (look .top [0,1,3,4,26,27,28] [(.ci (.val (.func (.yield l) #[] #[]))),.pt 0 0,(.ci (.bool true)),.ii i,(.ci (.lit true)),(.ci (.val (.func (.yield l) #[] #[]))),.ii d]) 29 (.ci (.lit true)),one (.fl [.ob (.fr k)]),32,400,[]⟩) (mkSt 32 [0,1,3,4] [(.ci (.val (Value.func (Fn.yield l) (Array.mk ([]:List Value)) (Array.mk ([]:List Value))))),.pt 0 0,(.ci (.bool true)),(.ii (wrap .i64 (i-1)))] [0] [(eF_ [.ob (.fr k)])] 480 [] []) .normal (lpBk dg_k) (opsNext dgY_k):=fun hs hK=>
 run_at2 (unroll:=false) (n:=3000) (path:=[]) (o:=⟨_,_,_,_,_,_,_⟩) qeJ_ok (by kernel_rfl) (by kernel_rfl) ho hs hK
end
end

section

def dgEnc (d:Nat):List Value:=[.int .i64 (d:Int)]
def dgVals (d:Nat):List SV:=[.v (.c (.int .i64 (d:Int)))]

theorem digits_iter {x:Ctx} {p:Nat} {k:U4} {M:List Nat→Nat→Option En} (hM:∀s,M s p=some (.fl [.ob (.fr k)])) :
  IterC Tryz.prog x 121 [(p,0)] dgEnc (dgT k.val 64) M:=by
 intro l J W hgrow hread hyield hJ
 have key:Wq Tryz.prog (bodyPost Tryz.prog Tryz.f121 fun e' W' => (∃v,e' = Ending.returned v)∧J (dgT k.val 64) W') [.code (bodyOf Tryz.f121)] [] .normal { tmps:=[Value.func (.yield l) #[] #[],.pointer (some ⟨x.β p,0,none⟩)].toArray++Array.replicate 30 undef,defers:=[] } W:=?_
 ·exact calls_of_wp (c:=bodyOf Tryz.f121) Tryz.func121 rfl ((wpIn_wide (n:=0)).1 key.wp)
 obtain ⟨y,rfl,hm,hcp⟩:=hread [] W hJ
 obtain ⟨hr,hβ⟩:=hcp (p,0) List.mem_cons_self
 have hr:y.k p = .real:=hr
 have hβ:y.β p=x.β p:=hβ
 have hargs:denSs (itCtx y p) [.v (.c (.val (.func (.yield l) #[] #[]))),.v (.c (.ptr 0 0))] [.func (.yield l) #[] #[],.pointer (some ⟨x.β p,0,none⟩)]:=
  .cons ⟨rfl,0,rfl,rfl⟩ (.cons ⟨rfl,0,rfl,by show _=[Value.pointer (some ⟨y.β p,0,none⟩)];rw[hβ]⟩ .nil)
 have hpure:∀y:Ctx,∀(cs:Array Value) ty,y.w.heap[y.β p]? = some (.cells cs ty (0,0))→denEn y (.fl [.ob (.fr k)]) cs.toList→denEn (itCtx y p) (.fl [.ob (.fr k)]) cs.toList:=fun y cs ty _ h=>pure_En rfl h
 have hs:=it_sim (nx:=16) (nt:=32) (a:={ tmps:=[Value.func (.yield l) #[] #[],.pointer (some ⟨x.β p,0,none⟩)].toArray++Array.replicate 30 undef,defers:=[] }) hm (hM []) hr (hpure y) rfl (by simp) (argT_den hargs 30)
 change Wq Tryz.prog _ _ _ _ _ (itCtx y p).w
 refine dg l k trivial hs fun ac cY aY hs1=>?_
 have hmb:Mem (itCtx y p) (one (.fl [.ob (.fr k)])):=it_mem hm (hM _) hr (hpure y)
 have hs2:=hs1.slots (svs' := [.v (.c (.val (.func (.yield l) #[] #[]))),.v (.c (.ptr 0 0)),.v (.c (.bool false)),.v (.c (.int .i64 63))]) ⟨fun _ h=>h,fun _ h=>h,fun _ h=>lit_bool rfl h,fun _ h=>h,trivial⟩
 let I:{ t:Nat // t≤64 } → List Act→Act→World→Prop:=fun t ac a w=>∃y z,z.w=w∧y.k p = .real∧y.β p=x.β p∧Mem y (M (dgT k.val t.1))∧J (dgT k.val t.1) y.w∧Mem (itCtx y p) (one (.fl [.ob (.fr k)]))∧Sim y.w y.F (kPin (itCtx y p)) ac (dgS l k (!(dgT k.val t.1).isEmpty) ((63:Int)-(t.1:Int))) z a
 refine loop_inv I (fun t=>64-t) (c:=lpC dg_k) (k:=lpR dg_k) (by kernel_rfl) (fun t ih ac b w hI=>?_) ⟨0,Nat.zero_le _⟩ ⟨y,cY,rfl,hr,hβ,hm,hJ,hmb,hs2.nx _⟩
 obtain ⟨t,ht⟩:=t
 obtain ⟨y,z,rfl,hr,hβ,hm,hJ,hmb,hs⟩:=hI
 simp only at hm hJ hs ih
 by_cases h:t<64
 ·obtain ⟨i,hi⟩:∃i:Nat,i=63-t:=⟨_,rfl⟩
  have ei:(63:Int)-(t:Int)=(i:Int):=by omega
  have hi64:i<64:=by omega
  rw[ei] at hs
  have hdig:=dig_expr k hi64
  have hpl:=dig_place hi64
  have ho1:decide ((i:Int) ≥ 0)=true:=decide_eq_true (by omega)
  have ho2:(0:Int)≤wrap IntKind.i64 (Int.tdiv (i:Int) 16):=by rw[hpl];omega
  have ho3:wrap IntKind.i64 (Int.tdiv (i:Int) 16)<4:=by rw[hpl];omega
  have ho4:0+(wrap IntKind.i64 (Int.tdiv (i:Int) 16)).toNat*1<Ob.k (Ob.fr k):=by rw[hpl];show _<4;omega
  have ho5:=dig_shift i
  have e4:wrap IntKind.i64 ((i:Int)-1)=(63:Int)-((t+1:Nat):Int):=by rw[wrap_id (by omega) (by omega)];omega
  obtain ⟨d,hd⟩:∃d,k.val / 16 ^ i % 16=d:=⟨_,rfl⟩
  rw[hd] at hdig
  have hd' : k.val / 16 ^ (63-t) % 16=d:=by rw[←hi];exact hd
  -- what is handed on
  have give:∀(ac:List Act) (cU:Ctx) (aU:Act),dgT k.val (t+1)=dgT k.val t++[d]→Sim y.w y.F (kPin (itCtx y p)) ac (mkSt 32 [0,1,3,4,26,27,28] [.v (.c (.val (.func (.yield l) #[] #[]))),.v (.c (.ptr 0 0)),.v (.c (.bool true)),.v (.c (.int .i64 (i:Int))),.v (.c (.lit true)),.v (.c (.val (.func (.yield l) #[] #[]))),.v (.c (.int .i64 (d:Int)))] [0] [some (.fl [.ob (.fr k)])] 416 [] []) cU aU →
    Wq Tryz.prog (bodyPost Tryz.prog Tryz.f121 fun e' W' => (∃v,e' = Ending.returned v)∧J (dgT k.val 64) W') dgY_k ac .normal aU cU.w:=by
   intro ac cU aU e3 hs6
   obtain ⟨hg,hk2,hβ2⟩:=it_back hmb rfl hs6 rfl
   have hJ2:=hgrow _ _ _ hJ hg
   obtain ⟨r,hr1⟩:=dgT_pre k.val (m:=64) (t:=t+1) h
   refine yield_at (R:=fun W' => J (dgT k.val (t+1)) W') (dst:=some 29) (f:=.tmp 27) (args:=[.tmp 28]) (by kernel_rfl) hs6 (l:=l) rfl (vs:=dgEnc d) ?_ ?_ fun W' hJ3=>?_
   ·have h21:=D_int (hs6.t 28)
    show [aU.tmps.getD 28 undef]=_
    rw[h21]
    rfl
   ·have:=hyield (dgT k.val t) d _ hJ2 ⟨r,by rw[hr1,e3,List.append_assoc];rfl⟩
    rw[←e3] at this
    exact this
   ·obtain ⟨y3,rfl,hm3,hc3⟩:=hread _ _ hJ3
    obtain ⟨hr3,hβ3⟩:=hc3 (p,0) List.mem_cons_self
    have hr3:y3.k p = .real:=hr3
    have hβ3:y3.β p=x.β p:=hβ3
    have hmb3:Mem (itCtx y3 p) (one (.fl [.ob (.fr k)])):=it_mem hm3 (hM _) hr3 (hpure y3)
    have hs7:=it_again (nx' := 400) (dst:=29) (b:=true) hs6 (by kernel_rfl) rfl hm3 (hM _) hr3 (hpure y3) (by rw[hβ2,hβ];exact hβ3.symm) (by decide)
    change Wq Tryz.prog _ _ _ _ _ (itCtx y3 p).w
    refine dgB l k _ _ trivial hs7 fun ac cT aT hs8=>?_
    rw[e4] at hs8
    have hne:(!(dgT k.val (t+1)).isEmpty)=true:=by rw[e3];simp
    refine ih ⟨t+1,by omega⟩ (by show 64-(t+1)<64-t;omega) ac aT _ ⟨y3,cT,rfl,hr3,hβ3,hm3,hJ3,hmb3,?_⟩
    show Sim _ _ _ _ (dgS l k (!(dgT k.val (t+1)).isEmpty) _) _ _
    rw[hne]
    exact hs8.nx _
  by_cases hg:(dgT k.val t).isEmpty=true
  ·rw[hg] at hs
   by_cases hz:d=0
   ·have e3:dgT k.val (t+1)=[]:=dgT_stay hg (by rw[hd',hz])
    refine dgN l k _ _ ⟨ho1,by decide,ho2,ho3,ho4,by decide,ho5,rfl,by rw[hdig,hz];rfl,trivial⟩ hs fun ac cT aT hs8=>?_
    rw[e4,hdig,hz] at hs8
    have e5:dgT k.val (t+1)=dgT k.val t:=by rw[e3,List.isEmpty_iff.1 hg]
    refine ih ⟨t+1,by omega⟩ (by show 64-(t+1)<64-t;omega) ac aT _ ⟨y,cT,rfl,hr,hβ,?_,?_,hmb,?_⟩
    ·show Mem y (M (dgT k.val (t+1)))
     rw[e5];exact hm
    ·show J (dgT k.val (t+1)) y.w
     rw[e5];exact hJ
    ·show Sim _ _ _ _ (dgS l k (!(dgT k.val (t+1)).isEmpty) _) _ _
     rw[e3]
     exact hs8.nx _
   ·have e3:dgT k.val (t+1)=dgT k.val t++[d]:=by
     rw[←hd']
     exact dgT_go fun hc=>hz (by rw[←hd'];exact hc.2)
    have hp0:decide ((d:Int) > 0)=true:=decide_eq_true (by omega)
    refine dgZ l k _ _ ⟨ho1,by decide,ho2,ho3,ho4,by decide,ho5,rfl,by rw[hdig];exact hp0,trivial⟩ hs fun ac cU aU hs6=>?_
    rw[hdig,hp0] at hs6
    exact give ac cU aU e3 (hs6.nx _)
  ·have hg:(dgT k.val t).isEmpty=false:=Bool.eq_false_iff.2 hg
   rw[hg] at hs
   have e3:dgT k.val (t+1)=dgT k.val t++[d]:=by
    rw[←hd']
    exact dgT_go fun hc=>by rw[hg] at hc;exact absurd hc.1 (by decide)
   refine dgY l k _ _ ⟨ho1,by decide,ho2,ho3,ho4,by decide,ho5,rfl,trivial⟩ hs fun ac cU aU hs6=>?_
   rw[hdig] at hs6
   have hs6' := hs6.slots (svs' := [.v (.c (.val (.func (.yield l) #[] #[]))),.v (.c (.ptr 0 0)),.v (.c (.bool true)),.v (.c (.int .i64 (i:Int))),.v (.c (.lit true)),.v (.c (.val (.func (.yield l) #[] #[]))),.v (.c (.int .i64 (d:Int)))])
    ⟨fun _ h=>h,fun _ h=>h,fun _ h=>lit_bool rfl h,fun _ h=>h,fun _ h=>h,fun _ h=>h,fun _ h=>h,trivial⟩
   exact give ac cU aU e3 (hs6'.nx _)
 ·have e5:t=64:=by omega
  subst e5
  refine dgX l k _ _ ⟨by decide,trivial⟩ hs fun ac cV aV hs4=>?_
  obtain ⟨hg,_,_⟩:=it_back hmb rfl hs4 rfl
  exact ⟨it_end qeJ_ok hs4 rfl rfl rfl (fun v=>⟨⟨v,rfl⟩,hgrow _ _ _ hJ hg⟩) (.inr rfl)⟩

end

section
section
variable {w0:World} {F0:Nat→Prop} {K:Kp} {ac:List Act} {Q:Exit→Act→World→Prop} {cX:Ctx} {aX:Act}

--@env qvF qvF_ok
def my_k:List KI:=(run qvF false 3000 ((fun (x y z:Fp) (k:U4)=>(⟨[.code (bodyOf Tryz.f41)],.normal,initSt Tryz.f41.ntmps [.v (.a [.ob (.p x),.ob (.p y),.ob (.p z)]),.v (.a [.ob (.fr k)])]⟩:Cfg)) default default default default) []).cfg.k
theorem my (x y z:Fp) (k:U4) (ho:AllP [(0≤(0:Int)),(0<(16:Int))]):Sg Tryz.prog (initSt Tryz.f41.ntmps [.v (.a [.ob (.p x),.ob (.p y),.ob (.p z)]),.v (.a [.ob (.fr k)])]) (mkSt 43 [2,3,4,5,6] [.pt 16 0,.pt 32 0,.pt 48 0,.pt 64 0,.ii (1:Int)] [16,32,48,64] [(eF_ [.ob (.p x),.ob (.p y),.ob (.p z)]),(eF_ [.ob (.fr k)]),(eF_ [(.ob (.p (0:Fp))),(.ob (.p (0:Fp))),(.ob (.p (0:Fp)))]),(eF_ [.ob (.p x),.ob (.p y),(.ob (.p (0:Fp))),(.ob (.p (0:Fp))),(.ob (.p (0:Fp))),(.ob (.p (0:Fp))),(.ob (.p (0:Fp))),(.ob (.p (0:Fp))),(.ob (.p (0:Fp))),(.ob (.p (0:Fp))),(.ob (.p (0:Fp))),(.ob (.p (0:Fp))),(.ob (.p (0:Fp))),(.ob (.p (0:Fp))),(.ob (.p (0:Fp))),(.ob (.p (0:Fp))),(.ob (.p (0:Fp))),(.ob (.p (0:Fp))),(.ob (.p (0:Fp))),(.ob (.p (0:Fp))),(.ob (.p (0:Fp))),(.ob (.p (0:Fp))),(.ob (.p (0:Fp))),(.ob (.p (0:Fp))),(.ob (.p (0:Fp))),(.ob (.p (0:Fp))),(.ob (.p (0:Fp))),(.ob (.p (0:Fp))),(.ob (.p (0:Fp))),(.ob (.p (0:Fp))),(.ob (.p (0:Fp))),(.ob (.p (0:Fp))),(.ob (.p (0:Fp))),(.ob (.p (0:Fp))),(.ob (.p (0:Fp))),(.ob (.p (0:Fp))),(.ob (.p (0:Fp))),(.ob (.p (0:Fp))),(.ob (.p (0:Fp))),(.ob (.p (0:Fp))),(.ob (.p (0:Fp))),(.ob (.p (0:Fp))),(.ob (.p (0:Fp))),(.ob (.p (0:Fp))),(.ob (.p (0:Fp))),(.ob (.p (0:Fp))),(.ob (.p (0:Fp))),(.ob (.p (0:Fp)))])] 208 [] []) .normal (my_k) ([.code (bodyOf Tryz.f41)]):=fun hs hK=>
 run_at2 (unroll:=false) (n:=3000) (path:=[]) (o:=⟨_,_,_,_,_,_,_⟩) qvF_ok (by kernel_rfl) (by kernel_rfl) ho hs hK
def myS (x y z:Fp) (k:U4) (L:List (Fp×Fp×Fp)) (i:Int):St:=mkSt 43 [2,3,4,5,6] [.pt 16 0,.pt 32 0,.pt 48 0,.pt 64 0,.v (.c (.int .i64 i))] [16,32,48,64] [(eF_ [.ob (.p x),.ob (.p y),.ob (.p z)]),(eF_ [.ob (.fr k)]),(eF_ [(.ob (.p (0:Fp))),(.ob (.p (0:Fp))),(.ob (.p (0:Fp)))]),some (.sq (.pt L))] 208 [] []
theorem myA (x y z:Fp) (k:U4) (L:List (Fp×Fp×Fp)) (i:Int) (ho:AllP [((decide (i<(16:Int)))=true),(0≤(wrap .i64 (i-1))),((wrap .i64 (i-1))<(16:Int)),(0=0),(((wrap .i64 (i-1))).toNat<L.length),(0≤i),(i<(16:Int)),(0=0),((i).toNat<L.length)]):Sg Tryz.prog (myS x y z k L i) (mkSt 43 [2,3,4,5,6] [.pt 16 0,.pt 32 0,.pt 48 0,.pt 64 0,(.ii (wrap .i64 (i+1)))] [16,32,48,64] [(eF_ [.ob (.p x),.ob (.p y),.ob (.p z)]),(eF_ [.ob (.fr k)]),(eF_ [(.ob (.p (0:Fp))),(.ob (.p (0:Fp))),(.ob (.p (0:Fp)))]),(eQ_ (Sq.pt (List.set L (i).toNat (jpl (List.getD L ((wrap .i64 (i-1))).toNat pt0) (x,(y,z))))))] 432 [] []) .normal (lpBk my_k) (lpIn my_k):=fun hs hK=>
 run_at2 (unroll:=false) (n:=3000) (path:=[true]) (o:=⟨_,_,_,_,_,_,_⟩) qvF_ok (by kernel_rfl) (by kernel_rfl) ho hs hK
def myB_k:List KI:=(run qvF false 3000 ((fun (x y z:Fp) (k:U4) (L:List (Fp×Fp×Fp)) (i:Int)=>(⟨lpIn my_k,.normal,myS x y z k L i⟩:Cfg)) default default default default default default) [false]).cfg.k
theorem myB (x y z:Fp) (k:U4) (L:List (Fp×Fp×Fp)) (i:Int) (ho:AllP [((decide (i<(16:Int)))=false),(0≤(0:Int)),(0<(16:Int)),(0=0),(0<L.length)]):Sg Tryz.prog (myS x y z k L i) (mkSt 43 [4,5,7,30] [.pt 48 0,.pt 64 0,.pt 272 0,(.ci (.clo 121 [(320,0)]))] [48,64,272,320] [(eF_ [(.ob (.p (0:Fp))),(.ob (.p (0:Fp))),(.ob (.p (0:Fp)))]),(eQ_ (Sq.pt L)),(eF_ [(.ob (.p (Prod.fst (List.getD L 0 pt0)))),(.ob (.p (Prod.fst (Prod.snd (List.getD L 0 pt0))))),(.ob (.p (Prod.snd (Prod.snd (List.getD L 0 pt0)))))]),(eF_ [.ob (.fr k)])] 384 [] []) .normal (myB_k) (lpIn my_k):=fun hs hK=>
 run_at2 (unroll:=false) (n:=3000) (path:=[false]) (o:=⟨_,_,_,_,_,_,_⟩) qvF_ok (by kernel_rfl) (by kernel_rfl) ho hs hK
def myR (k:U4) (L:List (Fp×Fp×Fp)) (o:Fp×Fp×Fp):St:=mkSt 43 [4,5,7,30] [.pt 48 0,.pt 64 0,.pt 272 0,(.ci (.clo 121 [(320,0)]))] [48,64,272,320] [(eF_ [(.ob (.p (0:Fp))),(.ob (.p (0:Fp))),(.ob (.p (0:Fp)))]),(eQ_ (Sq.pt L)),some (.fl [.ob (.p o.1),.ob (.p o.2.1),.ob (.p o.2.2)]),(eF_ [.ob (.fr k)])] 384 [] []
theorem mrA (k:U4) (L:List (Fp×Fp×Fp)) (o:Fp×Fp×Fp) (d:Int) {ρ:Option Nat} (ho:AllP []) (hs:Sim w0 F0 K ac (roundSt (myR k L o) [(31,.v (.c (.int .i64 d)))]) cX aX) (hK:∀cY aY,Sim w0 F0 K ac (mkSt 43 [4,5,7,8] [.pt 48 0,.pt 64 0,.pt 272 0,.ii d] [48,64,272,320] [(eF_ [(.ob (.p (0:Fp))),(.ob (.p (0:Fp))),(.ob (.p (0:Fp)))]),(eQ_ (Sq.pt L)),(eF_ [(.ob (.p (Prod.fst o))),(.ob (.p (Prod.fst (Prod.snd o)))),(.ob (.p (Prod.snd (Prod.snd o))))]),(eF_ [.ob (.fr k)])] 400 [[4,5,7,30]] [([.pt 48 0,.pt 64 0,.pt 272 0,(.ci (.clo 121 [(320,0)]))],43)]) cY aY→Wq Tryz.prog Q ([]) ac Exit.normal aY cY.w ρ):Wq Tryz.prog Q ([.code (rfA myB_k)]) ac .normal aX cX.w ρ :=
 run_atT (unroll:=false) (n:=3000) (path:=[]) (o:=⟨_,_,_,_,_,_,_⟩) qvF_ok (by kernel_rfl) (by kernel_rfl) ho (by kernel_rfl) (by kernel_rfl) hs hK
def mrB (k:U4) (L:List (Fp×Fp×Fp)) (o:Fp×Fp×Fp) (d:Int):St:=mkSt 43 [4,5,7,8] [.pt 48 0,.pt 64 0,.pt 272 0,.ii d] [48,64,272,320] [(eF_ [(.ob (.p (0:Fp))),(.ob (.p (0:Fp))),(.ob (.p (0:Fp)))]),(eQ_ (Sq.pt L)),some (.fl [.ob (.p o.1),.ob (.p o.2.1),.ob (.p o.2.2)]),(eF_ [.ob (.fr k)])] 400 [[4,5,7,30]] [([.pt 48 0,.pt 64 0,.pt 272 0,(.ci (.clo 121 [(320,0)]))],43)]
def mrC_k:List KI:=(run qvF false 3000 ((fun (k:U4) (L:List (Fp×Fp×Fp)) (o:Fp×Fp×Fp) (d:Int)=>(⟨[.code (rfB myB_k)],.normal,mrB k L o d⟩:Cfg)) default default default default) []).cfg.k
theorem mrC (k:U4) (L:List (Fp×Fp×Fp)) (o:Fp×Fp×Fp) (d:Int) {ρ:Option Nat} (ho:AllP []) (hs:Sim w0 F0 K ac (mrB k L o d) cX aX) (hK:∀cY aY,Sim w0 F0 K ac (mkSt 43 [4,5,7,8,32] [.pt 48 0,.pt 64 0,.pt 272 0,.ii d,.ii (0:Int)] [48,64,272,320] [(eF_ [(.ob (.p (0:Fp))),(.ob (.p (0:Fp))),(.ob (.p (0:Fp)))]),(eQ_ (Sq.pt L)),(eF_ [(.ob (.p (Prod.fst o))),(.ob (.p (Prod.fst (Prod.snd o)))),(.ob (.p (Prod.snd (Prod.snd o))))]),(eF_ [.ob (.fr k)])] 416 [[4,5,7,30]] [([.pt 48 0,.pt 64 0,.pt 272 0,(.ci (.clo 121 [(320,0)]))],43)]) cY aY→Wq Tryz.prog Q (mrC_k) ac Exit.normal aY cY.w ρ):Wq Tryz.prog Q ([.code (rfB myB_k)]) ac .normal aX cX.w ρ :=
 run_atT (unroll:=false) (n:=3000) (path:=[]) (o:=⟨_,_,_,_,_,_,_⟩) qvF_ok (by kernel_rfl) (by kernel_rfl) ho (by kernel_rfl) (by kernel_rfl) hs hK
def mrS (k:U4) (L:List (Fp×Fp×Fp)) (o:Fp×Fp×Fp) (d j:Int):St:=mkSt 43 [4,5,7,8,32] [.pt 48 0,.pt 64 0,.pt 272 0,.ii d,.v (.c (.int .i64 j))] [48,64,272,320] [(eF_ [(.ob (.p (0:Fp))),(.ob (.p (0:Fp))),(.ob (.p (0:Fp)))]),(eQ_ (Sq.pt L)),some (.fl [.ob (.p o.1),.ob (.p o.2.1),.ob (.p o.2.2)]),(eF_ [.ob (.fr k)])] 416 [[4,5,7,30]] [([.pt 48 0,.pt 64 0,.pt 272 0,(.ci (.clo 121 [(320,0)]))],43)]
theorem mrD (k:U4) (L:List (Fp×Fp×Fp)) (o:Fp×Fp×Fp) (d j:Int) {ρ:Option Nat} (ho:AllP [((decide (j<(4:Int)))=true)]) (hs:Sim w0 F0 K ac (mrS k L o d j) cX aX) (hK:∀cY aY,Sim w0 F0 K ac (mkSt 43 [4,5,7,8,32] [.pt 48 0,.pt 64 0,.pt 272 0,.ii d,(.ii (wrap .i64 (j+1)))] [48,64,272,320] [(eF_ [(.ob (.p (0:Fp))),(.ob (.p (0:Fp))),(.ob (.p (0:Fp)))]),(eQ_ (Sq.pt L)),(eF_ [(.ob (.p (Prod.fst (jtw o)))),(.ob (.p (Prod.fst (Prod.snd (jtw o))))),(.ob (.p (Prod.snd (Prod.snd (jtw o)))))]),(eF_ [.ob (.fr k)])] 512 [[4,5,7,30]] [([.pt 48 0,.pt 64 0,.pt 272 0,(.ci (.clo 121 [(320,0)]))],43)]) cY aY→Wq Tryz.prog Q (lpBk mrC_k) ac Exit.normal aY cY.w ρ):Wq Tryz.prog Q (lpIn mrC_k) ac .normal aX cX.w ρ :=
 run_atT (unroll:=false) (n:=3000) (path:=[true]) (o:=⟨_,_,_,_,_,_,_⟩) qvF_ok (by kernel_rfl) (by kernel_rfl) ho (by kernel_rfl) (by kernel_rfl) hs hK
theorem mrE (k:U4) (L:List (Fp×Fp×Fp)) (o:Fp×Fp×Fp) (d j:Int) {ρ:Option Nat} (ho:AllP [((decide (j<(4:Int)))=false),(0≤d),(d<(16:Int)),(0=0),((d).toNat<L.length)]) (hs:Sim w0 F0 K ac (mrS k L o d j) cX aX) (hK:∀cY aY,Sim w0 F0 K ac (mkSt 43 [4] [.pt 48 0] [48,64,272,320] [(eF_ [(.ob (.p (0:Fp))),(.ob (.p (0:Fp))),(.ob (.p (0:Fp)))]),(eQ_ (Sq.pt L)),(eF_ [(.ob (.p (Prod.fst (jpl o (List.getD L (d).toNat pt0))))),(.ob (.p (Prod.fst (Prod.snd (jpl o (List.getD L (d).toNat pt0)))))),(.ob (.p (Prod.snd (Prod.snd (jpl o (List.getD L (d).toNat pt0))))))]),(eF_ [.ob (.fr k)])] 528 [[4,5,7,30]] [([.pt 48 0,.pt 64 0,.pt 272 0,(.ci (.clo 121 [(320,0)]))],43)]) cY aY→Wq Tryz.prog Q ([]) ac Exit.normal aY cY.w ρ):Wq Tryz.prog Q (lpIn mrC_k) ac .normal aX cX.w ρ :=
 run_atT (unroll:=false) (n:=3000) (path:=[false]) (o:=⟨_,_,_,_,_,_,_⟩) qvF_ok (by kernel_rfl) (by kernel_rfl) ho (by kernel_rfl) (by kernel_rfl) hs hK
def mrF (k:U4) (L:List (Fp×Fp×Fp)) (o:Fp×Fp×Fp):St:=mkSt 43 [4] [.pt 48 0] [48,64,272,320] [(eF_ [(.ob (.p (0:Fp))),(.ob (.p (0:Fp))),(.ob (.p (0:Fp)))]),(eQ_ (Sq.pt L)),some (.fl [.ob (.p o.1),.ob (.p o.2.1),.ob (.p o.2.2)]),(eF_ [.ob (.fr k)])] 528 [[4,5,7,30]] [([.pt 48 0,.pt 64 0,.pt 272 0,(.ci (.clo 121 [(320,0)]))],43)]
theorem mrX (k:U4) (L:List (Fp×Fp×Fp)) (o:Fp×Fp×Fp) (ho:AllP []):Sg Tryz.prog (myR k L o) (mkSt 43 [4] [.pt 48 0] [48] [(eF_ [(.ob (.p (Prod.fst o))),(.ob (.p (Prod.fst (Prod.snd o)))),(.ob (.p (Prod.snd (Prod.snd o))))])] 416 [] []) .ret ([]) (rfR myB_k):=fun hs hK=>
 run_at2 (unroll:=false) (n:=3000) (path:=[]) (o:=⟨_,_,_,_,_,_,_⟩) qvF_ok (by kernel_rfl) (by kernel_rfl) ho hs hK
def mrZ (o:Fp×Fp×Fp):St:=mkSt 43 [4] [.pt 48 0] [48] [some (.fl [.ob (.p o.1),.ob (.p o.2.1),.ob (.p o.2.2)])] 416 [] []
theorem mrR_end (o:Fp×Fp×Fp):runEnd qvF Tryz.f41 false 3000 (⟨[],.ret,mrZ o⟩) [] [] []=(some ([],((.v (.a [(.ob (.p (Prod.fst o))),(.ob (.p (Prod.fst (Prod.snd o)))),(.ob (.p (Prod.snd (Prod.snd o))))])),[]))):=by kernel_rfl
end
end

section

theorem cat_flat {x:Ctx} (L:List (Fp×Fp×Fp)):∀(n i:Nat) (cs:List Value),catL x.D (flatPt L i n) cs→cs.length=n*18∧∀j,j<n→∃c,catL x.D (ptIts (L.getD (i+j) pt0)) c∧∀(q:Nat) (v:Value),c[q]? = some v→cs[j*18+q]? = some v
 | 0,i,cs,h=>by
  have h:cs=[]:=h
  subst h
  exact ⟨rfl,fun j hj=>absurd hj (Nat.not_lt_zero _)⟩
 | n+1,i,cs,h=>by
  obtain ⟨c1,r1,e1,h1,c2,r2,e2,h2,c3,r3,e3,h3,h4⟩:=h
  obtain ⟨hl,hj⟩:=cat_flat L n (i+1) r3 h4
  have l1:c1.length=6:=D_len h1
  have l2:c2.length=6:=D_len h2
  have l3:c3.length=6:=D_len h3
  subst e1 e2 e3
  refine ⟨by simp only[List.length_append];omega,fun j hjn=>?_⟩
  cases j with
  | zero=>
   refine ⟨c1++(c2++(c3++[])),⟨c1,_,rfl,h1,c2,_,rfl,h2,c3,_,rfl,h3,rfl⟩,fun q v hq=>?_⟩
   rw[List.append_nil] at hq
   have hlt:q<(c1++(c2++c3)).length:=by
    rcases Nat.lt_or_ge q (c1++(c2++c3)).length with h | h
    ·exact h
    ·rw[List.getElem?_eq_none h] at hq;cases hq
   rw[Nat.zero_mul,Nat.zero_add,←hq]
   have e:c1++(c2++(c3++r3))=(c1++(c2++c3))++r3:=by simp
   rw[e,List.getElem?_append_left hlt]
  | succ j=>
   obtain ⟨c,hc,hv⟩:=hj j (by omega)
   rw[show i+1+j=i+(j+1) from by omega] at hc
   refine ⟨c,hc,fun q v hq=>?_⟩
   have e:c1++(c2++(c3++r3))=(c1++(c2++c3))++r3:=by simp
   have hl18:(c1++(c2++c3)).length=18:=by simp only[List.length_append];omega
   rw[e,List.getElem?_append_right (by rw[hl18];omega),hl18,show (j+1)*18+q-18=j*18+q from by omega]
   exact hv q v hq

theorem tab_conv {x:Ctx} (L:List (Fp×Fp×Fp)) (h:L.length=16) (cs:List Value) (hc:denEn x (.fl (flatPt L 0 16)) cs):denEn x (.sq (.pt L)) cs:=by
 obtain ⟨hl,hj⟩:=cat_flat L 16 0 cs hc
 refine ⟨?_,fun i hi=>?_⟩
 ·show L.length*18≤cs.length
  rw[h,hl]
  exact Nat.le_refl _
 ·have hi:i<L.length:=hi
  rw[h] at hi
  obtain ⟨c,h1,h2⟩:=hj i hi
  rw[Nat.zero_add] at h1
  exact ⟨c,h1,h2⟩

def tab0 (x y:Fp):List (Fp×Fp×Fp):=(x,y,0)::List.replicate 15 pt0

theorem many_fnd (x y z:Fp) (k:U4):FnD Tryz.prog 41 [.v (.a [.ob (.p x),.ob (.p y),.ob (.p z)]),.v (.a [.ob (.fr k)])] (.v (.a (ptIts (jmn (x,y,z) (dgT k.val 64))))) []:=by
 refine fn_start_m (fn:=Tryz.f41) (c:=bodyOf Tryz.f41) Tryz.func41 rfl rfl fun x0 a0 hk hF hs=>?_
 refine my x y z k ⟨by decide,by decide,trivial⟩ hs fun ac cY aY hs1=>?_
 have hs2:=hs1.blocks (ens' := [some (.fl [.ob (.p x),.ob (.p y),.ob (.p z)]),some (.fl [.ob (.fr k)]),some (.fl [.ob (.p 0),.ob (.p 0),.ob (.p 0)]),some (.sq (.pt (tab0 x y)))])
  ⟨.inl rfl,.inl rfl,.inl rfl,.inr ⟨_,_,_,rfl,rfl,rfl,fun cs h=>tab_conv _ rfl cs h⟩,trivial⟩
 refine loop_rule (ι:={ p:Nat×List (Fp×Fp×Fp) // 1≤p.1∧p.1≤16∧p.2.length=16∧∀j,j<p.1→p.2.getD j pt0=jtab (x,y,z) j }) (fun p=>myS x y z k p.1.2 (p.1.1:Int)) (fun p=>16-p.1.1) (c:=lpC my_k) (k:=lpR my_k) (by kernel_rfl) (fun p ih ac cY aY hs=>?_)
  ⟨(1,tab0 x y),Nat.le_refl 1,by show (1:Nat)≤16;omega,rfl,fun j hj=>by
   have:j=0:=by have hj:j<1:=hj;omega
   subst this;rfl⟩ (hs2.nx _)
 obtain ⟨⟨i,L⟩,h1,h16,hL,htab⟩:=p
 simp only at ih hs h1 h16 hL htab
 by_cases hi:i<16
 ·have e1:wrap IntKind.i64 ((i:Int)-1)=((i-1:Nat):Int):=by rw[wrap_id (by omega) (by omega)];omega
  have e2:wrap IntKind.i64 ((i:Int)+1)=((i+1:Nat):Int):=by rw[wrap_id (by omega) (by omega)];omega
  refine myA x y z k L i ⟨decide_eq_true (by omega),by rw[e1];omega,by rw[e1];omega,rfl,by rw[e1,Int.toNat_natCast,hL];omega,by omega,by omega,rfl,by rw[Int.toNat_natCast,hL];exact hi,trivial⟩ hs fun ac cZ aZ hs3=>?_
  rw[e1,e2,Int.toNat_natCast,Int.toNat_natCast,htab (i-1) (by omega)] at hs3
  have e3:jpl (jtab (x,y,z) (i-1)) (x,y,z)=jtab (x,y,z) i:=by
   obtain ⟨m,rfl⟩:∃m,i=m+1:=⟨i-1,by omega⟩
   rfl
  rw[e3] at hs3
  refine ih ⟨(i+1,L.set i (jtab (x,y,z) i)),by show 1≤i+1;omega,hi,by show (L.set i _).length=16;rw[List.length_set];exact hL,fun j hj=>?_⟩ (by show 16-(i+1)<16-i;omega) ac cZ aZ (hs3.nx _)
  have hj:j<i+1:=hj
  show (L.set i (jtab (x,y,z) i)).getD j pt0=_
  by_cases e:j=i
  ·subst e
   simp [List.getD,hL,hi]
  ·have:(L.set i (jtab (x,y,z) i)).getD j pt0=L.getD j pt0:=by
    simp [List.getD,List.getElem?_set_ne (Ne.symm e)]
   rw[this]
   exact htab j (by omega)
 ·have:i=16:=by omega
  subst this
  refine myB x y z k L _ ⟨by decide,by decide,by decide,rfl,by rw[hL];decide,trivial⟩ hs fun ac cZ aZ hs3=>?_
  rw[htab 0 (by decide)] at hs3
  obtain ⟨e1,e2⟩:=isRf_eq (k:=myB_k) (by kernel_rfl)
  rw[e1]
  have eP:(rfP myB_k).toList=[31]:=by kernel_rfl
  have eG:rfG myB_k = .tmp 30:=by kernel_rfl
  refine range_rule (ps:=rfP myB_k) e2 hs3 (gf:=121) (caps:=[(320,0)]) (enters_of Tryz.func121 rfl rfl) (fun pre=>myR k L (pre.foldl (jst (x,y,z)) (jtab (x,y,z) 0))) (fun s=>by rw[eG];rfl) ⟨_,rfl⟩ (dgT k.val 64) dgVals dgEnc
   (fun y z=>.cons ⟨rfl,0,rfl⟩ .nil) (fun z=>by rw[←Array.length_toList,eP];rfl) (fun pre p hp=>?_) (digits_iter fun s=>rfl) (fun pre d=>mrB k L (pre.foldl (jst (x,y,z)) (jtab (x,y,z) 0)) d)
   (fun pre d=>mrF k L ((pre++[d]).foldl (jst (x,y,z)) (jtab (x,y,z) 0))) (fun pre d=>⟨_,rfl⟩) (fun pre d hd w1 F1 K1 as1 Q1 l y1 b hs4 hQ=>?_) (fun pre d hd w1 F1 K1 as1 Q1 l y1 b hs4 hQ=>?_) fun D y1 hs4 hD hFD hd=>?_
  ·rw[eP] at hp
   have h43:(myR k L (pre.foldl (jst (x,y,z)) (jtab (x,y,z) 0))).nt=43:=rfl
   rw[h43]
   simp only[List.mem_cons,List.not_mem_nil,or_false] at hp
   subst hp
   decide
  ·rw[eP] at hs4
   exact mrA k L _ d trivial hs4 fun cZ aZ hs5=>⟨hQ _ _ (hs5.nx _)⟩
  ·have hd16:d<16:=by
    obtain ⟨r,hr⟩:=hd
    exact dgT_lt (n:=k.val) 64 d (by rw[hr];simp)
   rw[List.foldl_append] at hQ
   generalize pre.foldl (jst (x,y,z)) (jtab (x,y,z) 0)=o at hs4 hQ
   have hst:List.foldl (jst (x,y,z)) o [d]=jpl (jtws 4 o) (L.getD d pt0):=by
    rw[htab d hd16]
    rfl
   rw[hst] at hQ
   refine mrC k L o d trivial hs4 fun cV aV hs5=>?_
   let I:{ j:Nat // j≤4 } → List Act→Act→World→Prop:=fun j ac a w=>ac=as1∧∃z,z.w=w∧Sim w1 F1 K1 as1 (mrS k L (jtws j.1 o) d (j.1:Int)) z a
   refine loop_inv (ρ:=some l) I (fun j=>4-j.1) (c:=lpC mrC_k) (k:=lpR mrC_k) (by kernel_rfl) (fun j ih ac aV w hI=>?_) ⟨0,Nat.zero_le _⟩ ⟨rfl,cV,rfl,hs5.nx _⟩
   obtain ⟨j,hj⟩:=j
   obtain ⟨rfl,cV,rfl,hs6⟩:=hI
   simp only at ih hs6
   by_cases hj4:j<4
   ·refine mrD k L _ d j ⟨decide_eq_true (by omega),trivial⟩ hs6 fun cU aU hs7=>?_
    rw[wrap_id (n:=(j:Int)+1) (by omega) (by omega)] at hs7
    exact ih ⟨j+1,hj4⟩ (by show 4-(j+1)<4-j;omega) _ aU _ ⟨rfl,cU,rfl,hs7.nx _⟩
   ·have:j=4:=by omega
    subst this
    refine mrE k L _ d _ ⟨by decide,by omega,by omega,rfl,by rw[Int.toNat_natCast,hL];exact hd16,trivial⟩ hs6 fun cU aU hs7=>?_
    rw[Int.toNat_natCast] at hs7
    exact ⟨hQ _ _ (hs7.nx _)⟩
  ·have hs5:=hs4.marked rfl rfl D
   show Wq _ _ _ _ _ _ _ _
   have ej:(dgT k.val 64).foldl (jst (x,y,z)) (jtab (x,y,z) 0)=jmn (x,y,z) (dgT k.val 64):=rfl
   rw[ej] at hs4 hs5
   generalize jmn (x,y,z) (dgT k.val 64)=o at hs4 hs5 ⊢
   refine mrX k L o trivial hs5 fun ac cV aV hs6=>⟨?_⟩
   have hs7:Sim y1.w y1.F (kOwn y1 kAll (markOf D)) ac (mrZ o) cV aV:=hs6
   exact fn_finish qvF_ok hk hF (mrR_end o) trivial (fun y v hd=>hd) hs4 hD hFD hd rfl hs7

end

section

/-- A point outside as often as a number says. -/
def mulG (a:G1D) (k:U4):G1D:=outG (jmn (inG a) (dgT k.val 64))
theorem mulG_is {a:G1D} (ha:onG a=true) (k:U4):mulG a k=gP (nmul (pG a) k.val):=by
 unfold mulG
 generalize hl:dgT k.val 64=l
 have h:=jmn_ok cv1 (onG_is ha).2 (inG_jc a) l
 have e:dgV l=k.val:=by rw[←hl];exact dgV_is k
 rw[e] at h
 exact outG_jc h
theorem pG_mul {a:G1D} (ha:onG a=true) (k:U4):pG (mulG a k)=nmul (pG a) k.val:=by rw[mulG_is ha,pG_gP]
theorem on_mul {a:G1D} (ha:onG a=true) (k:U4):onG (mulG a k)=true:=by
 rw[mulG_is ha]
 exact onG_gP (nmul_on cv1 (onG_is ha).2 _)

end

section

instance:Inhabited G1D:=⟨g10⟩
def manySpec1:FnSpec
 | [.v (.a [.ob (.p x),.ob (.p y),.ob (.p z)]),.v (.a [.ob (.fr k)])]=>some ([],.v (.a (ptIts (jmn (x,y,z) (dgT k.val 64)))),[])
 | _=>none
def qwA:Env:=qvF.set (addT qvF.fn 41 manySpec1)
theorem qwA_ok:EnvOk Tryz.prog qwA:=env_add qvF_ok 41 manySpec1 (enters_of Tryz.func41 rfl rfl) fun args o r es h _=>by
 unfold manySpec1 at h
 split at h
 ·cases h;exact many_fnd _ _ _ _
 ·cases h
--@env qwA qwA_ok
/-- What Mul tells. -/
def muR (a:G1D) (k:U4):G1D×Int:=if onG a then (mulG a k,0) else (g10,30)
theorem muR_on {a:G1D} (k:U4) (ha:onG a=true):muR a k=(mulG a k,0):=by unfold muR;rw[ha];rfl
theorem muR_off {a:G1D} (k:U4) (ha:onG a=false):muR a k=(g10,30):=by unfold muR;rw[ha];rfl
def qwC:Env:=qwA
theorem qwC_ok:EnvOk Tryz.prog qwC:=qwA_ok
end

section

def uaA:Env:=qwC.or S4.gK
theorem uaA_ok:EnvOk Tryz.prog uaA:=env_or qwC_ok S4.gK_ok
--@env uaA uaA_ok
theorem grA (a b:U6) (i:Bool):fnRes uaA Tryz.f23 3000 [.v (.a [.ob (.fp a),.ob (.fp b),.bool i])] [true] [] []=(some ([((onG (G1D.mk a b i))=true)],((.ci (.bool (decide ((Prod.snd (Prod.snd (jmn (inG (G1D.mk a b i)) (dgT 52435875175126190479447740508185965837690552500527637822603658699938581184513 64))))=(0:Fp))))),[]))):=by kernel_rfl
theorem grB (a b:U6) (i:Bool):fnRes uaA Tryz.f23 3000 [.v (.a [.ob (.fp a),.ob (.fp b),.bool i])] [false] [] []=(some ([((onG (G1D.mk a b i))=false)],((.ci (.lit false)),[]))):=by kernel_rfl
/-- Whether a point is of the group. -/
def grp (a:G1D):Bool:=onG a && decide ((jmn (inG a) (dgT 52435875175126190479447740508185965837690552500527637822603658699938581184513 64)).2.2=0)
theorem grp_fnd (a b:U6) (i:Bool):FnD Tryz.prog 23 [.v (.a [.ob (.fp a),.ob (.fp b),.bool i])] (.v (.c (.bool (grp ⟨a,b,i⟩)))) []:=by
 by_cases h1:onG ⟨a,b,i⟩=true
 ·have e:grp ⟨a,b,i⟩=decide ((jmn (inG ⟨a,b,i⟩) (dgT 52435875175126190479447740508185965837690552500527637822603658699938581184513 64)).2.2=0):=by unfold grp;rw[h1,Bool.true_and]
  rw[e]
  exact fn_sound uaA_ok Tryz.func23 (grA a b i) ⟨h1,trivial⟩
 ·have h1:onG ⟨a,b,i⟩=false:=Bool.eq_false_iff.2 h1
  have e:grp ⟨a,b,i⟩=false:=by unfold grp;rw[h1,Bool.false_and]
  rw[e]
  exact (fn_sound uaA_ok Tryz.func23 (grB a b i) ⟨h1,trivial⟩).conv (fun _ _ h=>h) fun y v hd=>lit_bool rfl hd
def grpSpec:FnSpec
 | [.v (.a [.ob (.fp a),.ob (.fp b),.bool i])]=>some ([],.v (.c (.bool (grp ⟨a,b,i⟩))),[])
 | _=>none
def uaB:Env:=uaA.set (addT uaA.fn 23 grpSpec)
theorem uaB_ok:EnvOk Tryz.prog uaB:=env_add uaA_ok 23 grpSpec (enters_of Tryz.func23 rfl rfl) fun args o r es h _=>by
 unfold grpSpec at h
 split at h
 ·cases h;exact grp_fnd _ _ _
 ·cases h
--@env uaB uaB_ok
end

section

abbrev F2:=Q2 pN
def f2I (x:F2):List It:=[.ob (.p x.1),.ob (.p x.2)]
section
variable {r:Nat} [NeZero r]
theorem kar_g (a b c d:Fin r):(a+b)*(c+d)-a*c-b*d=a*d+b*c:=by grind
end
--@env qeJ qeJ_ok
theorem t2A (a b c d:Fp):fnRes qeJ Tryz.f107 3000 [.v (.a [.ob (.p a),.ob (.p b)]),.v (.a [.ob (.p c),.ob (.p d)])] [] [] []=(some ([],((.v (.a [(.ob (.p ((a*c)-(b*d)))),(.ob (.p ((((a+b)*(c+d))-(a*c))-(b*d))))])),[]))):=by kernel_rfl
theorem p2A (a b c d:Fp):fnRes qeJ Tryz.f108 3000 [.v (.a [.ob (.p a),.ob (.p b)]),.v (.a [.ob (.p c),.ob (.p d)])] [] [] []=(some ([],((.v (.a [(.ob (.p (a+c))),(.ob (.p (b+d)))])),[]))):=by kernel_rfl
theorem m2A (a b c d:Fp):fnRes qeJ Tryz.f126 3000 [.v (.a [.ob (.p a),.ob (.p b)]),.v (.a [.ob (.p c),.ob (.p d)])] [] [] []=(some ([],((.v (.a [(.ob (.p (a-c))),(.ob (.p (b-d)))])),[]))):=by kernel_rfl
theorem n2A (a b:Fp):fnRes qeJ Tryz.f133 3000 [.v (.a [.ob (.p a),.ob (.p b)])] [] [] []=(some ([],((.v (.a [(.ob (.p ((0:Fp)-a))),(.ob (.p ((0:Fp)-b)))])),[]))):=by kernel_rfl
theorem z2A (a b:Fp):fnRes qeJ Tryz.f61 3000 [.v (.a [.ob (.p a),.ob (.p b)])] [] [] []=(some ([],((.ci (.bool (ite (true=true) (Bool.and (decide (a=(0:Fp))) (decide (b=(0:Fp)))) (Bool.not (Bool.and (decide (a=(0:Fp))) (decide (b=(0:Fp)))))))),[]))):=by kernel_rfl
theorem no2A (a b:Fp):fnRes qeJ Tryz.f141 3000 [.v (.a [.ob (.p a),.ob (.p b)])] [] [] []=(some ([],((.v (.a [(.ob (.p ((a*a)+(b*b))))])),[]))):=by kernel_rfl
theorem i2A (a b:U6):fnRes qeJ Tryz.f84 3000 [.v (.a [.ob (.fp a),.ob (.fp b)])] [] [] []=(some ([],((.v (.a [(.ob (.p (inP a))),(.ob (.p (inP b)))])),[]))):=by kernel_rfl
theorem o2A (a b:Fp):fnRes qeJ Tryz.f83 3000 [.v (.a [.ob (.p a),.ob (.p b)])] [] [] []=(some ([],((.v (.a [(.ob (.fp (outP a))),(.ob (.fp (outP b)))])),[]))):=by kernel_rfl
theorem times2_fnd (a b c d:Fp):FnD Tryz.prog 107 [.v (.a [.ob (.p a),.ob (.p b)]),.v (.a [.ob (.p c),.ob (.p d)])] (.v (.a (f2I ((a,b)*(c,d))))) []:=by
 have r:=t2A a b c d
 rw[kar_g] at r
 exact fn_sound qeJ_ok Tryz.func107 r trivial
theorem zero2_fnd (a b:Fp):FnD Tryz.prog 61 [.v (.a [.ob (.p a),.ob (.p b)])] (.v (.c (.bool (decide (((a,b):F2)=0))))) []:=by
 have r:=z2A a b
 rw[if_pos rfl] at r
 have e:decide (((a,b):F2)=0)=(decide (a=0) && decide (b=0)):=pair_dec a 0 b 0
 rw[e]
 exact fn_sound qeJ_ok Tryz.func61 r trivial
def inP2 (a b:U6):F2:=(inP a,inP b)
def times2Spec:FnSpec
 | [.v (.a [.ob (.p a),.ob (.p b)]),.v (.a [.ob (.p c),.ob (.p d)])]=>some ([],.v (.a (f2I ((a,b)*(c,d)))),[])
 | _=>none
def qxA:Env:=qeJ.set (addT qeJ.fn 107 times2Spec)
theorem qxA_ok:EnvOk Tryz.prog qxA:=env_add qeJ_ok 107 times2Spec (enters_of Tryz.func107 rfl rfl) fun args o r es h _=>by
 unfold times2Spec at h
 split at h
 ·cases h;exact times2_fnd _ _ _ _
 ·cases h
def plus2Spec:FnSpec
 | [.v (.a [.ob (.p a),.ob (.p b)]),.v (.a [.ob (.p c),.ob (.p d)])]=>some ([],.v (.a (f2I ((a,b)+(c,d)))),[])
 | _=>none
def qxB:Env:=qxA.set (addT qxA.fn 108 plus2Spec)
theorem qxB_ok:EnvOk Tryz.prog qxB:=env_add qxA_ok 108 plus2Spec (enters_of Tryz.func108 rfl rfl) fun args o r es h _=>by
 unfold plus2Spec at h
 split at h
 ·cases h;exact fn_sound qeJ_ok Tryz.func108 (p2A _ _ _ _) trivial
 ·cases h
def minus2Spec:FnSpec
 | [.v (.a [.ob (.p a),.ob (.p b)]),.v (.a [.ob (.p c),.ob (.p d)])]=>some ([],.v (.a (f2I ((a,b)-(c,d)))),[])
 | _=>none
def qxC:Env:=qxB.set (addT qxB.fn 126 minus2Spec)
theorem qxC_ok:EnvOk Tryz.prog qxC:=env_add qxB_ok 126 minus2Spec (enters_of Tryz.func126 rfl rfl) fun args o r es h _=>by
 unfold minus2Spec at h
 split at h
 ·cases h;exact fn_sound qeJ_ok Tryz.func126 (m2A _ _ _ _) trivial
 ·cases h
def neg2Spec:FnSpec
 | [.v (.a [.ob (.p a),.ob (.p b)])]=>some ([],.v (.a (f2I (0-(a,b)))),[])
 | _=>none
def qxD:Env:=qxC.set (addT qxC.fn 133 neg2Spec)
theorem qxD_ok:EnvOk Tryz.prog qxD:=env_add qxC_ok 133 neg2Spec (enters_of Tryz.func133 rfl rfl) fun args o r es h _=>by
 unfold neg2Spec at h
 split at h
 ·cases h;exact fn_sound qeJ_ok Tryz.func133 (n2A _ _) trivial
 ·cases h
def zero2Spec:FnSpec
 | [.v (.a [.ob (.p a),.ob (.p b)])]=>some ([],.v (.c (.bool (decide (((a,b):F2)=0)))),[])
 | _=>none
def qxE:Env:=qxD.set (addT qxD.fn 61 zero2Spec)
theorem qxE_ok:EnvOk Tryz.prog qxE:=env_add qxD_ok 61 zero2Spec (enters_of Tryz.func61 rfl rfl) fun args o r es h _=>by
 unfold zero2Spec at h
 split at h
 ·cases h;exact zero2_fnd _ _
 ·cases h
def norm2Spec:FnSpec
 | [.v (.a [.ob (.p a),.ob (.p b)])]=>some ([],.v (.a [.ob (.p (nQ2 (a,b)))]),[])
 | _=>none
def qxF:Env:=qxE.set (addT qxE.fn 141 norm2Spec)
theorem qxF_ok:EnvOk Tryz.prog qxF:=env_add qxE_ok 141 norm2Spec (enters_of Tryz.func141 rfl rfl) fun args o r es h _=>by
 unfold norm2Spec at h
 split at h
 ·cases h;exact fn_sound qeJ_ok Tryz.func141 (no2A _ _) trivial
 ·cases h
def in2Spec:FnSpec
 | [.v (.a [.ob (.fp a),.ob (.fp b)])]=>some ([],.v (.a (f2I (inP2 a b))),[])
 | _=>none
def qxG:Env:=qxF.set (addT qxF.fn 84 in2Spec)
theorem qxG_ok:EnvOk Tryz.prog qxG:=env_add qxF_ok 84 in2Spec (enters_of Tryz.func84 rfl rfl) fun args o r es h _=>by
 unfold in2Spec at h
 split at h
 ·cases h;exact fn_sound qeJ_ok Tryz.func84 (i2A _ _) trivial
 ·cases h
def out2Spec:FnSpec
 | [.v (.a [.ob (.p a),.ob (.p b)])]=>some ([],.v (.a [.ob (.fp (outP a)),.ob (.fp (outP b))]),[])
 | _=>none
def qxH:Env:=qxG.set (addT qxG.fn 83 out2Spec)
theorem qxH_ok:EnvOk Tryz.prog qxH:=env_add qxG_ok 83 out2Spec (enters_of Tryz.func83 rfl rfl) fun args o r es h _=>by
 unfold out2Spec at h
 split at h
 ·cases h;exact fn_sound qeJ_ok Tryz.func83 (o2A _ _) trivial
 ·cases h
--@env qxH qxH_ok
theorem v2A (a b:Fp):fnRes qxH Tryz.f134 3000 [.v (.a [.ob (.p a),.ob (.p b)])] [] [] []=(some ([],((.v (.a [(.ob (.p (a*(ivP (nQ2 (a,b)))))),(.ob (.p ((0:Fp)-(b*(ivP (nQ2 (a,b)))))))])),[]))):=by kernel_rfl
def inv2Spec:FnSpec
 | [.v (.a [.ob (.p a),.ob (.p b)])]=>some ([],.v (.a (f2I (ivQ2 ivP (a,b)))),[])
 | _=>none
def qxI:Env:=qxH.set (addT qxH.fn 134 inv2Spec)
theorem qxI_ok:EnvOk Tryz.prog qxI:=env_add qxH_ok 134 inv2Spec (enters_of Tryz.func134 rfl rfl) fun args o r es h _=>by
 unfold inv2Spec at h
 split at h
 ·cases h;exact fn_sound qxH_ok Tryz.func134 (v2A _ _) trivial
 ·cases h
theorem meth79_Times (v : Value) (w : World) : (method (Tryz.prog.types.size + Made.depth) 79 v "Times").run Tryz.prog w = .ok (107, v) w := by kernel_rfl
theorem meth79_Plus (v : Value) (w : World) : (method (Tryz.prog.types.size + Made.depth) 79 v "Plus").run Tryz.prog w = .ok (108, v) w := by kernel_rfl
theorem meth79_Minus (v : Value) (w : World) : (method (Tryz.prog.types.size + Made.depth) 79 v "Minus").run Tryz.prog w = .ok (126, v) w := by kernel_rfl
theorem meth79_IsZero (v : Value) (w : World) : (method (Tryz.prog.types.size + Made.depth) 79 v "IsZero").run Tryz.prog w = .ok (61, v) w := by kernel_rfl
theorem meth79_Negative (v : Value) (w : World) : (method (Tryz.prog.types.size + Made.depth) 79 v "Negative").run Tryz.prog w = .ok (133, v) w := by kernel_rfl
theorem meth79_Inverse (v : Value) (w : World) : (method (Tryz.prog.types.size + Made.depth) 79 v "Inverse").run Tryz.prog w = .ok (134, v) w := by kernel_rfl
def inv2T (T : Nat → Option (List (String × Nat))) (t : Nat) : Option (List (String × Nat)) := if t = 79 then some [("Times", 107), ("Plus", 108), ("Minus", 126), ("IsZero", 61), ("Negative", 133), ("Inverse", 134)] else T t
def qxJ:Env:={ qxI with inv:=inv2T qxI.inv }
theorem qxJ_ok:EnvOk Tryz.prog qxJ:=by
 refine ⟨qxI_ok.ty,qxI_ok.mixed,qxI_ok.fn,qxI_ok.mu,qxI_ok.inl,qxI_ok.ex,fun t l h=>?_⟩
 have h:inv2T qxI.inv t=some l:=h
 unfold inv2T at h
 split at h
 ·rename_i ht
  cases h
  subst ht
  refine ⟨by kernel_rfl,fun name g hg v args w=>?_⟩
  unfold lookM at hg
  split at hg
  ·rename_i hn
   cases hg
   subst hn
   simp only[callMethod,Sem.run_bind,run_program,Result.andThen_ok,meth79_Times]
  unfold lookM at hg
  split at hg
  ·rename_i hn
   cases hg
   subst hn
   simp only[callMethod,Sem.run_bind,run_program,Result.andThen_ok,meth79_Plus]
  unfold lookM at hg
  split at hg
  ·rename_i hn
   cases hg
   subst hn
   simp only[callMethod,Sem.run_bind,run_program,Result.andThen_ok,meth79_Minus]
  unfold lookM at hg
  split at hg
  ·rename_i hn
   cases hg
   subst hn
   simp only[callMethod,Sem.run_bind,run_program,Result.andThen_ok,meth79_IsZero]
  unfold lookM at hg
  split at hg
  ·rename_i hn
   cases hg
   subst hn
   simp only[callMethod,Sem.run_bind,run_program,Result.andThen_ok,meth79_Negative]
  unfold lookM at hg
  split at hg
  ·rename_i hn
   cases hg
   subst hn
   simp only[callMethod,Sem.run_bind,run_program,Result.andThen_ok,meth79_Inverse]
  cases hg
 ·exact qxI_ok.inv t l h
--@env qxJ qxJ_ok
theorem tw2A (a b c d e f:Fp):fnRes qxJ Tryz.f86 3000 [.v (.a [.ob (.p a),.ob (.p b),.ob (.p c),.ob (.p d),.ob (.p e),.ob (.p f)])] [true] [] []=(some ([((decide ((e,f)=(0:(Prod (Fin pN) (Fin pN)))))=true)],((.v (.a [.ob (.p a),.ob (.p b),.ob (.p c),.ob (.p d),.ob (.p e),.ob (.p f)])),[]))):=by kernel_rfl
theorem tw2B (a b c d e f:Fp):fnRes qxJ Tryz.f86 3000 [.v (.a [.ob (.p a),.ob (.p b),.ob (.p c),.ob (.p d),.ob (.p e),.ob (.p f)])] [false] [] []=(some ([((decide ((e,f)=(0:(Prod (Fin pN) (Fin pN)))))=false)],((.v (.a [(.ob (.p (Prod.fst (((((((a,b)*(a,b))+((a,b)*(a,b)))+((a,b)*(a,b)))*((((a,b)*(a,b))+((a,b)*(a,b)))+((a,b)*(a,b))))-((((((a,b)+((c,d)*(c,d)))*((a,b)+((c,d)*(c,d))))-((a,b)*(a,b)))-(((c,d)*(c,d))*((c,d)*(c,d))))+(((((a,b)+((c,d)*(c,d)))*((a,b)+((c,d)*(c,d))))-((a,b)*(a,b)))-(((c,d)*(c,d))*((c,d)*(c,d))))))-((((((a,b)+((c,d)*(c,d)))*((a,b)+((c,d)*(c,d))))-((a,b)*(a,b)))-(((c,d)*(c,d))*((c,d)*(c,d))))+(((((a,b)+((c,d)*(c,d)))*((a,b)+((c,d)*(c,d))))-((a,b)*(a,b)))-(((c,d)*(c,d))*((c,d)*(c,d))))))))),(.ob (.p (Prod.snd (((((((a,b)*(a,b))+((a,b)*(a,b)))+((a,b)*(a,b)))*((((a,b)*(a,b))+((a,b)*(a,b)))+((a,b)*(a,b))))-((((((a,b)+((c,d)*(c,d)))*((a,b)+((c,d)*(c,d))))-((a,b)*(a,b)))-(((c,d)*(c,d))*((c,d)*(c,d))))+(((((a,b)+((c,d)*(c,d)))*((a,b)+((c,d)*(c,d))))-((a,b)*(a,b)))-(((c,d)*(c,d))*((c,d)*(c,d))))))-((((((a,b)+((c,d)*(c,d)))*((a,b)+((c,d)*(c,d))))-((a,b)*(a,b)))-(((c,d)*(c,d))*((c,d)*(c,d))))+(((((a,b)+((c,d)*(c,d)))*((a,b)+((c,d)*(c,d))))-((a,b)*(a,b)))-(((c,d)*(c,d))*((c,d)*(c,d))))))))),(.ob (.p (Prod.fst ((((((a,b)*(a,b))+((a,b)*(a,b)))+((a,b)*(a,b)))*(((((((a,b)+((c,d)*(c,d)))*((a,b)+((c,d)*(c,d))))-((a,b)*(a,b)))-(((c,d)*(c,d))*((c,d)*(c,d))))+(((((a,b)+((c,d)*(c,d)))*((a,b)+((c,d)*(c,d))))-((a,b)*(a,b)))-(((c,d)*(c,d))*((c,d)*(c,d)))))-(((((((a,b)*(a,b))+((a,b)*(a,b)))+((a,b)*(a,b)))*((((a,b)*(a,b))+((a,b)*(a,b)))+((a,b)*(a,b))))-((((((a,b)+((c,d)*(c,d)))*((a,b)+((c,d)*(c,d))))-((a,b)*(a,b)))-(((c,d)*(c,d))*((c,d)*(c,d))))+(((((a,b)+((c,d)*(c,d)))*((a,b)+((c,d)*(c,d))))-((a,b)*(a,b)))-(((c,d)*(c,d))*((c,d)*(c,d))))))-((((((a,b)+((c,d)*(c,d)))*((a,b)+((c,d)*(c,d))))-((a,b)*(a,b)))-(((c,d)*(c,d))*((c,d)*(c,d))))+(((((a,b)+((c,d)*(c,d)))*((a,b)+((c,d)*(c,d))))-((a,b)*(a,b)))-(((c,d)*(c,d))*((c,d)*(c,d))))))))-((((((c,d)*(c,d))*((c,d)*(c,d)))+(((c,d)*(c,d))*((c,d)*(c,d))))+((((c,d)*(c,d))*((c,d)*(c,d)))+(((c,d)*(c,d))*((c,d)*(c,d)))))+(((((c,d)*(c,d))*((c,d)*(c,d)))+(((c,d)*(c,d))*((c,d)*(c,d))))+((((c,d)*(c,d))*((c,d)*(c,d)))+(((c,d)*(c,d))*((c,d)*(c,d)))))))))),(.ob (.p (Prod.snd ((((((a,b)*(a,b))+((a,b)*(a,b)))+((a,b)*(a,b)))*(((((((a,b)+((c,d)*(c,d)))*((a,b)+((c,d)*(c,d))))-((a,b)*(a,b)))-(((c,d)*(c,d))*((c,d)*(c,d))))+(((((a,b)+((c,d)*(c,d)))*((a,b)+((c,d)*(c,d))))-((a,b)*(a,b)))-(((c,d)*(c,d))*((c,d)*(c,d)))))-(((((((a,b)*(a,b))+((a,b)*(a,b)))+((a,b)*(a,b)))*((((a,b)*(a,b))+((a,b)*(a,b)))+((a,b)*(a,b))))-((((((a,b)+((c,d)*(c,d)))*((a,b)+((c,d)*(c,d))))-((a,b)*(a,b)))-(((c,d)*(c,d))*((c,d)*(c,d))))+(((((a,b)+((c,d)*(c,d)))*((a,b)+((c,d)*(c,d))))-((a,b)*(a,b)))-(((c,d)*(c,d))*((c,d)*(c,d))))))-((((((a,b)+((c,d)*(c,d)))*((a,b)+((c,d)*(c,d))))-((a,b)*(a,b)))-(((c,d)*(c,d))*((c,d)*(c,d))))+(((((a,b)+((c,d)*(c,d)))*((a,b)+((c,d)*(c,d))))-((a,b)*(a,b)))-(((c,d)*(c,d))*((c,d)*(c,d))))))))-((((((c,d)*(c,d))*((c,d)*(c,d)))+(((c,d)*(c,d))*((c,d)*(c,d))))+((((c,d)*(c,d))*((c,d)*(c,d)))+(((c,d)*(c,d))*((c,d)*(c,d)))))+(((((c,d)*(c,d))*((c,d)*(c,d)))+(((c,d)*(c,d))*((c,d)*(c,d))))+((((c,d)*(c,d))*((c,d)*(c,d)))+(((c,d)*(c,d))*((c,d)*(c,d)))))))))),(.ob (.p (Prod.fst (((c,d)*(e,f))+((c,d)*(e,f)))))),(.ob (.p (Prod.snd (((c,d)*(e,f))+((c,d)*(e,f))))))])),[]))):=by kernel_rfl
theorem ng2P (a b c d e f:Fp):fnRes qxJ Tryz.f166 3000 [.v (.a [.ob (.p a),.ob (.p b),.ob (.p c),.ob (.p d),.ob (.p e),.ob (.p f)])] [] [] []=(some ([],((.v (.a [.ob (.p a),.ob (.p b),(.ob (.p (Prod.fst ((0:F2)-(c,d))))),(.ob (.p (Prod.snd ((0:F2)-(c,d))))),.ob (.p e),.ob (.p f)])),[]))):=by kernel_rfl
end

section

theorem twice2_fnd (a b c d e f:Fp):FnD Tryz.prog 86 [.v (.a [.ob (.p a),.ob (.p b),.ob (.p c),.ob (.p d),.ob (.p e),.ob (.p f)])] (.v (.a (pt2Its (jtw (F:=F2) ((a,b),(c,d),(e,f)))))) []:=by
 by_cases h:((e,f):F2)=0
 ·have e0:jtw (F:=F2) ((a,b),(c,d),(e,f))=((a,b),(c,d),(e,f)):=if_pos h
  rw[e0]
  exact fn_sound qxJ_ok Tryz.func86 (tw2A a b c d e f) ⟨decide_eq_true h,trivial⟩
 ·unfold jtw
  rw[if_neg h]
  exact fn_sound qxJ_ok Tryz.func86 (tw2B a b c d e f) ⟨decide_eq_false h,trivial⟩
def tw2Spec:FnSpec
 | [.v (.a [.ob (.p a),.ob (.p b),.ob (.p c),.ob (.p d),.ob (.p e),.ob (.p f)])]=>some ([],.v (.a (pt2Its (jtw (F:=F2) ((a,b),(c,d),(e,f))))),[])
 | _=>none
def qyA:Env:=qxJ.set (addT qxJ.fn 86 tw2Spec)
theorem qyA_ok:EnvOk Tryz.prog qyA:=env_add qxJ_ok 86 tw2Spec (enters_of Tryz.func86 rfl rfl) fun args o r es h _=>by
 unfold tw2Spec at h
 split at h
 ·cases h;exact twice2_fnd _ _ _ _ _ _
 ·cases h
def ng2Spec:FnSpec
 | [.v (.a [.ob (.p a),.ob (.p b),.ob (.p c),.ob (.p d),.ob (.p e),.ob (.p f)])]=>some ([],.v (.a (pt2Its (jng (F:=F2) ((a,b),(c,d),(e,f))))),[])
 | _=>none
def qyB:Env:=qyA.set (addT qyA.fn 166 ng2Spec)
theorem qyB_ok:EnvOk Tryz.prog qyB:=env_add qyA_ok 166 ng2Spec (enters_of Tryz.func166 rfl rfl) fun args o r es h _=>by
 unfold ng2Spec at h
 split at h
 ·cases h;exact fn_sound qxJ_ok Tryz.func166 (ng2P _ _ _ _ _ _) trivial
 ·cases h
--@env qyB qyB_ok
theorem pq2A (a b c d e f a' b' c' d' e' f' : Fp):fnRes qyB Tryz.f85 3000 [.v (.a [.ob (.p a),.ob (.p b),.ob (.p c),.ob (.p d),.ob (.p e),.ob (.p f)]),.v (.a [.ob (.p a'),.ob (.p b'),.ob (.p c'),.ob (.p d'),.ob (.p e'),.ob (.p f')])] [true] [] []=(some ([((decide ((e,f)=(0:(Prod (Fin pN) (Fin pN)))))=true)],((.v (.a [(.ob (.p a')),(.ob (.p b')),(.ob (.p c')),(.ob (.p d')),(.ob (.p e')),(.ob (.p f'))])),[]))):=by kernel_rfl
theorem pq2B (a b c d e f a' b' c' d' e' f' : Fp):fnRes qyB Tryz.f85 3000 [.v (.a [.ob (.p a),.ob (.p b),.ob (.p c),.ob (.p d),.ob (.p e),.ob (.p f)]),.v (.a [.ob (.p a'),.ob (.p b'),.ob (.p c'),.ob (.p d'),.ob (.p e'),.ob (.p f')])] [false,true] [] []=(some ([((decide ((e,f)=(0:(Prod (Fin pN) (Fin pN)))))=false),((decide ((e',f')=(0:(Prod (Fin pN) (Fin pN)))))=true)],((.v (.a [.ob (.p a),.ob (.p b),.ob (.p c),.ob (.p d),.ob (.p e),.ob (.p f)])),[]))):=by kernel_rfl
theorem pq2C (a b c d e f a' b' c' d' e' f' : Fp):fnRes qyB Tryz.f85 3000 [.v (.a [.ob (.p a),.ob (.p b),.ob (.p c),.ob (.p d),.ob (.p e),.ob (.p f)]),.v (.a [.ob (.p a'),.ob (.p b'),.ob (.p c'),.ob (.p d'),.ob (.p e'),.ob (.p f')])] [false,false,true,true] [] []=(some ([((decide ((e,f)=(0:(Prod (Fin pN) (Fin pN)))))=false),((decide ((e',f')=(0:(Prod (Fin pN) (Fin pN)))))=false),((decide ((((a',b')*((e,f)*(e,f)))-((a,b)*((e',f')*(e',f'))))=(0:(Prod (Fin pN) (Fin pN)))))=true),((decide (((((c',d')*((e,f)*(e,f)))*(e,f))-(((c,d)*((e',f')*(e',f')))*(e',f')))=(0:(Prod (Fin pN) (Fin pN)))))=true)],((.v (.a [(.ob (.p (Prod.fst (Prod.fst (jtw ((a,b),((c,d),(e,f)))))))),(.ob (.p (Prod.snd (Prod.fst (jtw ((a,b),((c,d),(e,f)))))))),(.ob (.p (Prod.fst (Prod.fst (Prod.snd (jtw ((a,b),((c,d),(e,f))))))))),(.ob (.p (Prod.snd (Prod.fst (Prod.snd (jtw ((a,b),((c,d),(e,f))))))))),(.ob (.p (Prod.fst (Prod.snd (Prod.snd (jtw ((a,b),((c,d),(e,f))))))))),(.ob (.p (Prod.snd (Prod.snd (Prod.snd (jtw ((a,b),((c,d),(e,f)))))))))])),[]))):=by kernel_rfl
theorem pq2D (a b c d e f a' b' c' d' e' f' : Fp):fnRes qyB Tryz.f85 3000 [.v (.a [.ob (.p a),.ob (.p b),.ob (.p c),.ob (.p d),.ob (.p e),.ob (.p f)]),.v (.a [.ob (.p a'),.ob (.p b'),.ob (.p c'),.ob (.p d'),.ob (.p e'),.ob (.p f')])] [false,false,true,false] [] []=(some ([((decide ((e,f)=(0:(Prod (Fin pN) (Fin pN)))))=false),((decide ((e',f')=(0:(Prod (Fin pN) (Fin pN)))))=false),((decide ((((a',b')*((e,f)*(e,f)))-((a,b)*((e',f')*(e',f'))))=(0:(Prod (Fin pN) (Fin pN)))))=true),((decide (((((c',d')*((e,f)*(e,f)))*(e,f))-(((c,d)*((e',f')*(e',f')))*(e',f')))=(0:(Prod (Fin pN) (Fin pN)))))=false)],((.v (.a [.ob (.p a),.ob (.p b),.ob (.p c),.ob (.p d),(.ob (.p (0:Fp))),(.ob (.p (0:Fp)))])),[]))):=by kernel_rfl
theorem pq2E (a b c d e f a' b' c' d' e' f' : Fp):fnRes qyB Tryz.f85 3000 [.v (.a [.ob (.p a),.ob (.p b),.ob (.p c),.ob (.p d),.ob (.p e),.ob (.p f)]),.v (.a [.ob (.p a'),.ob (.p b'),.ob (.p c'),.ob (.p d'),.ob (.p e'),.ob (.p f')])] [false,false,false] [] []=(some ([((decide ((e,f)=(0:(Prod (Fin pN) (Fin pN)))))=false),((decide ((e',f')=(0:(Prod (Fin pN) (Fin pN)))))=false),((decide ((((a',b')*((e,f)*(e,f)))-((a,b)*((e',f')*(e',f'))))=(0:(Prod (Fin pN) (Fin pN)))))=false)],((.v (.a [(.ob (.p (Prod.fst ((((((((c',d')*((e,f)*(e,f)))*(e,f))-(((c,d)*((e',f')*(e',f')))*(e',f')))*((((c',d')*((e,f)*(e,f)))*(e,f))-(((c,d)*((e',f')*(e',f')))*(e',f'))))-(((((a',b')*((e,f)*(e,f)))-((a,b)*((e',f')*(e',f'))))*(((a',b')*((e,f)*(e,f)))-((a,b)*((e',f')*(e',f')))))*(((a',b')*((e,f)*(e,f)))-((a,b)*((e',f')*(e',f'))))))-(((a,b)*((e',f')*(e',f')))*((((a',b')*((e,f)*(e,f)))-((a,b)*((e',f')*(e',f'))))*(((a',b')*((e,f)*(e,f)))-((a,b)*((e',f')*(e',f')))))))-(((a,b)*((e',f')*(e',f')))*((((a',b')*((e,f)*(e,f)))-((a,b)*((e',f')*(e',f'))))*(((a',b')*((e,f)*(e,f)))-((a,b)*((e',f')*(e',f')))))))))),(.ob (.p (Prod.snd ((((((((c',d')*((e,f)*(e,f)))*(e,f))-(((c,d)*((e',f')*(e',f')))*(e',f')))*((((c',d')*((e,f)*(e,f)))*(e,f))-(((c,d)*((e',f')*(e',f')))*(e',f'))))-(((((a',b')*((e,f)*(e,f)))-((a,b)*((e',f')*(e',f'))))*(((a',b')*((e,f)*(e,f)))-((a,b)*((e',f')*(e',f')))))*(((a',b')*((e,f)*(e,f)))-((a,b)*((e',f')*(e',f'))))))-(((a,b)*((e',f')*(e',f')))*((((a',b')*((e,f)*(e,f)))-((a,b)*((e',f')*(e',f'))))*(((a',b')*((e,f)*(e,f)))-((a,b)*((e',f')*(e',f')))))))-(((a,b)*((e',f')*(e',f')))*((((a',b')*((e,f)*(e,f)))-((a,b)*((e',f')*(e',f'))))*(((a',b')*((e,f)*(e,f)))-((a,b)*((e',f')*(e',f')))))))))),(.ob (.p (Prod.fst ((((((c',d')*((e,f)*(e,f)))*(e,f))-(((c,d)*((e',f')*(e',f')))*(e',f')))*((((a,b)*((e',f')*(e',f')))*((((a',b')*((e,f)*(e,f)))-((a,b)*((e',f')*(e',f'))))*(((a',b')*((e,f)*(e,f)))-((a,b)*((e',f')*(e',f'))))))-((((((((c',d')*((e,f)*(e,f)))*(e,f))-(((c,d)*((e',f')*(e',f')))*(e',f')))*((((c',d')*((e,f)*(e,f)))*(e,f))-(((c,d)*((e',f')*(e',f')))*(e',f'))))-(((((a',b')*((e,f)*(e,f)))-((a,b)*((e',f')*(e',f'))))*(((a',b')*((e,f)*(e,f)))-((a,b)*((e',f')*(e',f')))))*(((a',b')*((e,f)*(e,f)))-((a,b)*((e',f')*(e',f'))))))-(((a,b)*((e',f')*(e',f')))*((((a',b')*((e,f)*(e,f)))-((a,b)*((e',f')*(e',f'))))*(((a',b')*((e,f)*(e,f)))-((a,b)*((e',f')*(e',f')))))))-(((a,b)*((e',f')*(e',f')))*((((a',b')*((e,f)*(e,f)))-((a,b)*((e',f')*(e',f'))))*(((a',b')*((e,f)*(e,f)))-((a,b)*((e',f')*(e',f')))))))))-((((c,d)*((e',f')*(e',f')))*(e',f'))*(((((a',b')*((e,f)*(e,f)))-((a,b)*((e',f')*(e',f'))))*(((a',b')*((e,f)*(e,f)))-((a,b)*((e',f')*(e',f')))))*(((a',b')*((e,f)*(e,f)))-((a,b)*((e',f')*(e',f')))))))))),(.ob (.p (Prod.snd ((((((c',d')*((e,f)*(e,f)))*(e,f))-(((c,d)*((e',f')*(e',f')))*(e',f')))*((((a,b)*((e',f')*(e',f')))*((((a',b')*((e,f)*(e,f)))-((a,b)*((e',f')*(e',f'))))*(((a',b')*((e,f)*(e,f)))-((a,b)*((e',f')*(e',f'))))))-((((((((c',d')*((e,f)*(e,f)))*(e,f))-(((c,d)*((e',f')*(e',f')))*(e',f')))*((((c',d')*((e,f)*(e,f)))*(e,f))-(((c,d)*((e',f')*(e',f')))*(e',f'))))-(((((a',b')*((e,f)*(e,f)))-((a,b)*((e',f')*(e',f'))))*(((a',b')*((e,f)*(e,f)))-((a,b)*((e',f')*(e',f')))))*(((a',b')*((e,f)*(e,f)))-((a,b)*((e',f')*(e',f'))))))-(((a,b)*((e',f')*(e',f')))*((((a',b')*((e,f)*(e,f)))-((a,b)*((e',f')*(e',f'))))*(((a',b')*((e,f)*(e,f)))-((a,b)*((e',f')*(e',f')))))))-(((a,b)*((e',f')*(e',f')))*((((a',b')*((e,f)*(e,f)))-((a,b)*((e',f')*(e',f'))))*(((a',b')*((e,f)*(e,f)))-((a,b)*((e',f')*(e',f')))))))))-((((c,d)*((e',f')*(e',f')))*(e',f'))*(((((a',b')*((e,f)*(e,f)))-((a,b)*((e',f')*(e',f'))))*(((a',b')*((e,f)*(e,f)))-((a,b)*((e',f')*(e',f')))))*(((a',b')*((e,f)*(e,f)))-((a,b)*((e',f')*(e',f')))))))))),(.ob (.p (Prod.fst (((((a',b')*((e,f)*(e,f)))-((a,b)*((e',f')*(e',f'))))*(e,f))*(e',f'))))),(.ob (.p (Prod.snd (((((a',b')*((e,f)*(e,f)))-((a,b)*((e',f')*(e',f'))))*(e,f))*(e',f')))))])),[]))):=by kernel_rfl
end

section

theorem plusPt2_fnd (a b c d e f a' b' c' d' e' f' : Fp):FnD Tryz.prog 85 [.v (.a [.ob (.p a),.ob (.p b),.ob (.p c),.ob (.p d),.ob (.p e),.ob (.p f)]),.v (.a [.ob (.p a'),.ob (.p b'),.ob (.p c'),.ob (.p d'),.ob (.p e'),.ob (.p f')])] (.v (.a (pt2Its (jpl (F:=F2) ((a,b),(c,d),(e,f)) ((a',b'),(c',d'),(e',f')))))) []:=by
 by_cases h:((e,f):F2)=0
 ·have e0:jpl (F:=F2) ((a,b),(c,d),(e,f)) ((a',b'),(c',d'),(e',f'))=((a',b'),(c',d'),(e',f')):=if_pos h
  rw[e0]
  exact fn_sound qyB_ok Tryz.func85 (pq2A a b c d e f a' b' c' d' e' f') ⟨decide_eq_true h,trivial⟩
 ·by_cases h2:((e',f'):F2)=0
  ·have e0:jpl (F:=F2) ((a,b),(c,d),(e,f)) ((a',b'),(c',d'),(e',f'))=((a,b),(c,d),(e,f)):=(if_neg h).trans (if_pos h2)
   rw[e0]
   exact fn_sound qyB_ok Tryz.func85 (pq2B a b c d e f a' b' c' d' e' f') ⟨decide_eq_false h,decide_eq_true h2,trivial⟩
  ·unfold jpl
   rw[if_neg h,if_neg h2]
   dsimp only
   by_cases h3:((a',b'):F2)*(((e,f):F2)*((e,f):F2))-((a,b):F2)*(((e',f'):F2)*((e',f'):F2))=0
   ·rw[if_pos h3]
    by_cases h4:((c',d'):F2)*(((e,f):F2)*((e,f):F2))*((e,f):F2)-((c,d):F2)*(((e',f'):F2)*((e',f'):F2))*((e',f'):F2)=0
    ·rw[if_pos h4]
     exact fn_sound qyB_ok Tryz.func85 (pq2C a b c d e f a' b' c' d' e' f') ⟨decide_eq_false h,decide_eq_false h2,decide_eq_true h3,decide_eq_true h4,trivial⟩
    ·rw[if_neg h4]
     exact fn_sound qyB_ok Tryz.func85 (pq2D a b c d e f a' b' c' d' e' f') ⟨decide_eq_false h,decide_eq_false h2,decide_eq_true h3,decide_eq_false h4,trivial⟩
   ·rw[if_neg h3]
    exact fn_sound qyB_ok Tryz.func85 (pq2E a b c d e f a' b' c' d' e' f') ⟨decide_eq_false h,decide_eq_false h2,decide_eq_false h3,trivial⟩

end

section

def pl2Spec:FnSpec
 | [.v (.a [.ob (.p a),.ob (.p b),.ob (.p c),.ob (.p d),.ob (.p e),.ob (.p f)]),.v (.a [.ob (.p a'),.ob (.p b'),.ob (.p c'),.ob (.p d'),.ob (.p e'),.ob (.p f')])]=>some ([],.v (.a (pt2Its (jpl (F:=F2) ((a,b),(c,d),(e,f)) ((a',b'),(c',d'),(e',f'))))),[])
 | _=>none
def qyC:Env:=qyB.set (addT qyB.fn 85 pl2Spec)
theorem qyC_ok:EnvOk Tryz.prog qyC:=env_add qyB_ok 85 pl2Spec (enters_of Tryz.func85 rfl rfl) fun args o r es h _=>by
 unfold pl2Spec at h
 split at h
 ·cases h;exact plusPt2_fnd _ _ _ _ _ _ _ _ _ _ _ _
 ·cases h
def inlAg (T:Nat→Option Func) (f:Nat):Option Func:=if f=82 then some Tryz.f82 else T f
def qyD:Env:={ qyC with inl:=inlAg qyC.inl }
theorem qyD_ok:EnvOk Tryz.prog qyD:=by
 refine ⟨qyC_ok.ty,qyC_ok.mixed,qyC_ok.fn,qyC_ok.mu,fun f fn h=>?_,qyC_ok.ex,qyC_ok.inv⟩
 have h:inlAg qyC.inl f=some fn:=h
 unfold inlAg at h
 split at h
 ·rename_i hf;cases h;subst hf;exact ⟨Tryz.func82,enters_of Tryz.func82 rfl rfl⟩
 exact qyC_ok.inl f fn h
--@env qyD qyD_ok
theorem ig2A (a b c d:U6) (i:Bool):fnRes qyD Tryz.f43 3000 [.v (.a [.ob (.fp a),.ob (.fp b),.ob (.fp c),.ob (.fp d),.bool i])] [true] [] []=(some ([(0≤(1:Int)),((1:Int)<(18446744073709551616:Int)),(i=true)],((.v (.a [(.ob (.p (Fin.ofNat pN 1))),(.ob (.p (0:Fp))),(.ob (.p (Fin.ofNat pN 1))),(.ob (.p (0:Fp))),(.ob (.p (0:Fp))),(.ob (.p (0:Fp)))])),[]))):=by kernel_rfl
theorem ig2B (a b c d:U6) (i:Bool):fnRes qyD Tryz.f43 3000 [.v (.a [.ob (.fp a),.ob (.fp b),.ob (.fp c),.ob (.fp d),.bool i])] [false] [] []=(some ([(0≤(1:Int)),((1:Int)<(18446744073709551616:Int)),(i=false)],((.v (.a [(.ob (.p (Prod.fst (inP2 a b)))),(.ob (.p (Prod.snd (inP2 a b)))),(.ob (.p (Prod.fst (inP2 c d)))),(.ob (.p (Prod.snd (inP2 c d)))),(.ob (.p (Fin.ofNat pN 1))),(.ob (.p (0:Fp)))])),[]))):=by kernel_rfl
theorem og2A (a b c d e f:Fp):fnRes qyD Tryz.f42 3000 [.v (.a [.ob (.p a),.ob (.p b),.ob (.p c),.ob (.p d),.ob (.p e),.ob (.p f)])] [true,true] [] []=(some ([((decide ((e,f)=(0:(Prod (Fin pN) (Fin pN)))))=true)],((.v (.a [(.ob (.fp (0:U6))),(.ob (.fp (0:U6))),(.ob (.fp (0:U6))),(.ob (.fp (0:U6))),(.lit true)])),[]))):=by kernel_rfl
theorem og2B (a b c d e f:Fp):fnRes qyD Tryz.f42 3000 [.v (.a [.ob (.p a),.ob (.p b),.ob (.p c),.ob (.p d),.ob (.p e),.ob (.p f)])] [false,false] [] []=(some ([((decide ((e,f)=(0:(Prod (Fin pN) (Fin pN)))))=false)],((.v (.a [(.ob (.fp (outP (Prod.fst ((a,b)*((ivQ2 ivP (e,f))*(ivQ2 ivP (e,f)))))))),(.ob (.fp (outP (Prod.snd ((a,b)*((ivQ2 ivP (e,f))*(ivQ2 ivP (e,f)))))))),(.ob (.fp (outP (Prod.fst (((c,d)*((ivQ2 ivP (e,f))*(ivQ2 ivP (e,f))))*(ivQ2 ivP (e,f))))))),(.ob (.fp (outP (Prod.snd (((c,d)*((ivQ2 ivP (e,f))*(ivQ2 ivP (e,f))))*(ivQ2 ivP (e,f))))))),(.lit false)])),[]))):=by kernel_rfl
theorem on2A (a b c d:U6) (i:Bool):fnRes qyD Tryz.f58 3000 [.v (.a [.ob (.fp a),.ob (.fp b),.ob (.fp c),.ob (.fp d),.bool i])] [true] [] []=(some ([(i=true)],((.ci (.bool (ite (true=true) (Bool.and (decide (a=(0:U6))) (Bool.and (decide (b=(0:U6))) (Bool.and (decide (c=(0:U6))) (Bool.and (decide (d=(0:U6))) (i == true))))) (Bool.not (Bool.and (decide (a=(0:U6))) (Bool.and (decide (b=(0:U6))) (Bool.and (decide (c=(0:U6))) (Bool.and (decide (d=(0:U6))) (i == true))))))))),[]))):=by kernel_rfl
theorem on2B (a b c d:U6) (i:Bool):fnRes qyD Tryz.f58 3000 [.v (.a [.ob (.fp a),.ob (.fp b),.ob (.fp c),.ob (.fp d),.bool i])] [false,true,true] [] []=(some ([(i=false),(0≤(4:Int)),((4:Int)<(18446744073709551616:Int)),(0≤(4:Int)),((4:Int)<(18446744073709551616:Int)),((ite (true=true) (Bool.and (decide ((outP (Prod.fst (inP2 a b)))=a)) (decide ((outP (Prod.snd (inP2 a b)))=b))) (Bool.not (Bool.and (decide ((outP (Prod.fst (inP2 a b)))=a)) (decide ((outP (Prod.snd (inP2 a b)))=b)))))=true),((ite (true=true) (Bool.and (decide ((outP (Prod.fst (inP2 c d)))=c)) (decide ((outP (Prod.snd (inP2 c d)))=d))) (Bool.not (Bool.and (decide ((outP (Prod.fst (inP2 c d)))=c)) (decide ((outP (Prod.snd (inP2 c d)))=d)))))=true)],((.ci (.bool (ite (true=true) (Bool.and (decide ((Prod.fst ((inP2 c d)*(inP2 c d)))=(Prod.fst ((((inP2 a b)*(inP2 a b))*(inP2 a b))+((Fin.ofNat pN 4),(Fin.ofNat pN 4)))))) (decide ((Prod.snd ((inP2 c d)*(inP2 c d)))=(Prod.snd ((((inP2 a b)*(inP2 a b))*(inP2 a b))+((Fin.ofNat pN 4),(Fin.ofNat pN 4))))))) (Bool.not (Bool.and (decide ((Prod.fst ((inP2 c d)*(inP2 c d)))=(Prod.fst ((((inP2 a b)*(inP2 a b))*(inP2 a b))+((Fin.ofNat pN 4),(Fin.ofNat pN 4)))))) (decide ((Prod.snd ((inP2 c d)*(inP2 c d)))=(Prod.snd ((((inP2 a b)*(inP2 a b))*(inP2 a b))+((Fin.ofNat pN 4),(Fin.ofNat pN 4))))))))))),[]))):=by kernel_rfl
theorem on2C (a b c d:U6) (i:Bool):fnRes qyD Tryz.f58 3000 [.v (.a [.ob (.fp a),.ob (.fp b),.ob (.fp c),.ob (.fp d),.bool i])] [false,true,false] [] []=(some ([(i=false),(0≤(4:Int)),((4:Int)<(18446744073709551616:Int)),(0≤(4:Int)),((4:Int)<(18446744073709551616:Int)),((ite (true=true) (Bool.and (decide ((outP (Prod.fst (inP2 a b)))=a)) (decide ((outP (Prod.snd (inP2 a b)))=b))) (Bool.not (Bool.and (decide ((outP (Prod.fst (inP2 a b)))=a)) (decide ((outP (Prod.snd (inP2 a b)))=b)))))=true),((ite (true=true) (Bool.and (decide ((outP (Prod.fst (inP2 c d)))=c)) (decide ((outP (Prod.snd (inP2 c d)))=d))) (Bool.not (Bool.and (decide ((outP (Prod.fst (inP2 c d)))=c)) (decide ((outP (Prod.snd (inP2 c d)))=d)))))=false)],((.ci (.lit false)),[]))):=by kernel_rfl
theorem on2D (a b c d:U6) (i:Bool):fnRes qyD Tryz.f58 3000 [.v (.a [.ob (.fp a),.ob (.fp b),.ob (.fp c),.ob (.fp d),.bool i])] [false,false,false] [] []=(some ([(i=false),(0≤(4:Int)),((4:Int)<(18446744073709551616:Int)),(0≤(4:Int)),((4:Int)<(18446744073709551616:Int)),((ite (true=true) (Bool.and (decide ((outP (Prod.fst (inP2 a b)))=a)) (decide ((outP (Prod.snd (inP2 a b)))=b))) (Bool.not (Bool.and (decide ((outP (Prod.fst (inP2 a b)))=a)) (decide ((outP (Prod.snd (inP2 a b)))=b)))))=false)],((.ci (.lit false)),[]))):=by kernel_rfl
end

section

def fq4:F2:=(fp4,fp4)
/-- Which points may be. -/
def onG2 (a:G2D):Bool:=
 if a.inf then decide (a.xa=0) && (decide (a.xb=0) && (decide (a.ya=0) && decide (a.yb=0)))
 else (decide (outP (inP a.xa)=a.xa) && decide (outP (inP a.xb)=a.xb)) && ((decide (outP (inP a.ya)=a.ya) && decide (outP (inP a.yb)=a.yb)) && decide (inP2 a.ya a.yb*inP2 a.ya a.yb=inP2 a.xa a.xb*inP2 a.xa a.xb*inP2 a.xa a.xb+fq4))
def inG2 (a:G2D):F2×F2×F2:=if a.inf then ((fp1,0),(fp1,0),(0,0)) else (inP2 a.xa a.xb,inP2 a.ya a.yb,(fp1,0))
def outG2 (t:F2×F2×F2):G2D:=
 if t.2.2=0 then ⟨0,0,0,0,true⟩ else
 ⟨outP (t.1*(ivQ2 ivP t.2.2*ivQ2 ivP t.2.2)).1,outP (t.1*(ivQ2 ivP t.2.2*ivQ2 ivP t.2.2)).2,outP (t.2.1*(ivQ2 ivP t.2.2*ivQ2 ivP t.2.2)*ivQ2 ivP t.2.2).1,outP (t.2.1*(ivQ2 ivP t.2.2*ivQ2 ivP t.2.2)*ivQ2 ivP t.2.2).2,false⟩
def addG2 (a b:G2D):G2D:=outG2 (jpl (inG2 a) (inG2 b))
def negG2 (a:G2D):G2D:=outG2 (jng (inG2 a))

theorem lit_fifth {x:Ctx} {i j k l:It} {b:Bool} {v:Value} (h:denS x (.v (.a [i,j,k,l,.lit b])) v):denS x (.v (.a [i,j,k,l,.bool b])) v:=by
 obtain ⟨cs,e,c1,r1,e1,h1,c2,r2,e2,h2,c3,r3,e3,h3,c4,r4,e4,h4,c5,r5,e5,⟨d,h5⟩,h6⟩:=h
 refine ⟨cs,e,c1,r1,e1,h1,c2,r2,e2,h2,c3,r3,e3,h3,c4,r4,e4,h4,c5,r5,e5,⟨d,?_⟩,h6⟩
 cases d<;>exact h5
theorem lit_fifth_t {x:Ctx} {i j k l m:It} {b:Bool} {v:Value} (h:denS x (.t [.a [i,j,k,l,.lit b],.c m]) v):denS x (.t [.a [i,j,k,l,.bool b],.c m]) v:=by
 obtain ⟨vs,e,h1⟩:=h
 cases h1 with | cons d1 ds=>
 exact ⟨_,e,.cons (lit_fifth d1) ds⟩

theorem inG2_fnd (a b c d:U6) (i:Bool):FnD Tryz.prog 43 [.v (.a [.ob (.fp a),.ob (.fp b),.ob (.fp c),.ob (.fp d),.bool i])] (.v (.a (pt2Its (inG2 ⟨a,b,c,d,i⟩)))) []:=by
 cases i with
 | true=>exact fn_sound qyD_ok Tryz.func43 (ig2A a b c d true) ⟨by decide,by decide,rfl,trivial⟩
 | false=>exact fn_sound qyD_ok Tryz.func43 (ig2B a b c d false) ⟨by decide,by decide,rfl,trivial⟩

theorem outG2_fnd (a b c d e f:Fp):FnD Tryz.prog 42 [.v (.a [.ob (.p a),.ob (.p b),.ob (.p c),.ob (.p d),.ob (.p e),.ob (.p f)])] (.v (.a (outG2 ((a,b),(c,d),(e,f))).its)) []:=by
 by_cases h:((e,f):F2)=0
 ·have e0:outG2 ((a,b),(c,d),(e,f))=⟨0,0,0,0,true⟩:=if_pos h
  rw[e0]
  exact (fn_sound qyD_ok Tryz.func42 (og2A a b c d e f) ⟨decide_eq_true h,trivial⟩).conv (fun _ _ h=>h) fun y v hd=>lit_fifth hd
 ·unfold outG2
  rw[if_neg h]
  exact (fn_sound qyD_ok Tryz.func42 (og2B a b c d e f) ⟨decide_eq_false h,trivial⟩).conv (fun _ _ h=>h) fun y v hd=>lit_fifth hd

theorem onG2_fin (a b c d:U6):onG2 ⟨a,b,c,d,false⟩=((decide (outP (inP a)=a) && decide (outP (inP b)=b)) && ((decide (outP (inP c)=c) && decide (outP (inP d)=d)) && decide (inP2 c d*inP2 c d=inP2 a b*inP2 a b*inP2 a b+fq4))):=if_neg (fun h=>Bool.noConfusion h)
theorem onG2_inf (a b c d:U6):onG2 ⟨a,b,c,d,true⟩=(decide (a=0) && (decide (b=0) && (decide (c=0) && (decide (d=0) && (true == true))))):=by
 show (decide (a=0) && (decide (b=0) && (decide (c=0) && decide (d=0))))=_
 simp

theorem onG2_fnd (a b c d:U6) (i:Bool):FnD Tryz.prog 58 [.v (.a [.ob (.fp a),.ob (.fp b),.ob (.fp c),.ob (.fp d),.bool i])] (.v (.c (.bool (onG2 ⟨a,b,c,d,i⟩)))) []:=by
 cases i with
 | true=>
  have r:=on2A a b c d true
  rw[if_pos rfl] at r
  rw[onG2_inf]
  exact fn_sound qyD_ok Tryz.func58 r ⟨rfl,trivial⟩
 | false=>
  rw[onG2_fin]
  cases h1:(decide (outP (inP a)=a) && decide (outP (inP b)=b)) with
  | true=>
   rw[Bool.true_and]
   cases h2:(decide (outP (inP c)=c) && decide (outP (inP d)=d)) with
   | true=>
    rw[Bool.true_and]
    have r:=on2B a b c d false
    rw[if_pos rfl,if_pos rfl,if_pos rfl] at r
    have e:decide (inP2 c d*inP2 c d=inP2 a b*inP2 a b*inP2 a b+fq4)=_:=pair_dec (inP2 c d*inP2 c d).1 (inP2 a b*inP2 a b*inP2 a b+fq4).1 (inP2 c d*inP2 c d).2 (inP2 a b*inP2 a b*inP2 a b+fq4).2
    rw[e]
    exact fn_sound qyD_ok Tryz.func58 r ⟨rfl,by decide,by decide,by decide,by decide,h1,h2,trivial⟩
   | false=>
    rw[Bool.false_and]
    have r:=on2C a b c d false
    rw[if_pos rfl,if_pos rfl] at r
    exact (fn_sound qyD_ok Tryz.func58 r ⟨rfl,by decide,by decide,by decide,by decide,h1,h2,trivial⟩).conv (fun _ _ h=>h) fun y v hd=>lit_bool rfl hd
  | false=>
   rw[Bool.false_and]
   have r:=on2D a b c d false
   rw[if_pos rfl] at r
   exact (fn_sound qyD_ok Tryz.func58 r ⟨rfl,by decide,by decide,by decide,by decide,h1,trivial⟩).conv (fun _ _ h=>h) fun y v hd=>lit_bool rfl hd

/-! Pairs outside. -/
def outP2 (x:F2):U6×U6:=(outP x.1,outP x.2)

section
variable {r:Nat} [NeZero r]
end
end

section

def inG2Spec:FnSpec
 | [.v (.a [.ob (.fp a),.ob (.fp b),.ob (.fp c),.ob (.fp d),.bool i])]=>some ([],.v (.a (pt2Its (inG2 ⟨a,b,c,d,i⟩))),[])
 | _=>none
def qzA:Env:=qyD.set (addT qyD.fn 43 inG2Spec)
theorem qzA_ok:EnvOk Tryz.prog qzA:=env_add qyD_ok 43 inG2Spec (enters_of Tryz.func43 rfl rfl) fun args o r es h _=>by
 unfold inG2Spec at h
 split at h
 ·cases h;exact inG2_fnd _ _ _ _ _
 ·cases h
def outG2Spec:FnSpec
 | [.v (.a [.ob (.p a),.ob (.p b),.ob (.p c),.ob (.p d),.ob (.p e),.ob (.p f)])]=>some ([],.v (.a (outG2 ((a,b),(c,d),(e,f))).its),[])
 | _=>none
def qzB:Env:=qzA.set (addT qzA.fn 42 outG2Spec)
theorem qzB_ok:EnvOk Tryz.prog qzB:=env_add qzA_ok 42 outG2Spec (enters_of Tryz.func42 rfl rfl) fun args o r es h _=>by
 unfold outG2Spec at h
 split at h
 ·cases h;exact outG2_fnd _ _ _ _ _ _
 ·cases h
def onG2Spec:FnSpec
 | [.v (.a [.ob (.fp a),.ob (.fp b),.ob (.fp c),.ob (.fp d),.bool i])]=>some ([],.v (.c (.bool (onG2 ⟨a,b,c,d,i⟩))),[])
 | _=>none
def qzH:Env:=qzB.set (addT qzB.fn 58 onG2Spec)
theorem qzH_ok:EnvOk Tryz.prog qzH:=env_add qzB_ok 58 onG2Spec (enters_of Tryz.func58 rfl rfl) fun args o r es h _=>by
 unfold onG2Spec at h
 split at h
 ·cases h;exact onG2_fnd _ _ _ _ _
 ·cases h
--@env qzH qzH_ok
theorem ri2R (a b c d:U6) (i:Bool):fnRes qzH Tryz.f22 3000 [.v (.a [.ob (.fp a),.ob (.fp b),.ob (.fp c),.ob (.fp d),.bool i])] [] [] []=(some ([],((.ci (.bool (onG2 (G2D.mk a b c d i)))),[]))):=by kernel_rfl
theorem ge2R  : fnRes qzH Tryz.f16 3000 [] [] [] []=(some ([(0≤(15312334153293348280:Int)),((15312334153293348280:Int)<(18446744073709551616:Int)),(0≤(841050694974028783:Int)),((841050694974028783:Int)<(18446744073709551616:Int)),(0≤(12993178926126977399:Int)),((12993178926126977399:Int)<(18446744073709551616:Int)),(0≤(14331714969349929730:Int)),((14331714969349929730:Int)<(18446744073709551616:Int)),(0≤(2740446039084699729:Int)),((2740446039084699729:Int)<(18446744073709551616:Int)),(0≤(165123225776229009:Int)),((165123225776229009:Int)<(18446744073709551616:Int)),(0≤(16549740192668593022:Int)),((16549740192668593022:Int)<(18446744073709551616:Int)),(0≤(3696594454104530263:Int)),((3696594454104530263:Int)<(18446744073709551616:Int)),(0≤(13103893525273989193:Int)),((13103893525273989193:Int)<(18446744073709551616:Int)),(0≤(6443473286224459290:Int)),((6443473286224459290:Int)<(18446744073709551616:Int)),(0≤(9055845637167730533:Int)),((9055845637167730533:Int)<(18446744073709551616:Int)),(0≤(1432192374203850592:Int)),((1432192374203850592:Int)<(18446744073709551616:Int)),(0≤(16254428414758889473:Int)),((16254428414758889473:Int)<(18446744073709551616:Int)),(0≤(10536956157198377609:Int)),((10536956157198377609:Int)<(18446744073709551616:Int)),(0≤(7873024875724591404:Int)),((7873024875724591404:Int)<(18446744073709551616:Int)),(0≤(12537348094477325223:Int)),((12537348094477325223:Int)<(18446744073709551616:Int)),(0≤(10144865889576432922:Int)),((10144865889576432922:Int)<(18446744073709551616:Int)),(0≤(929383263523139089:Int)),((929383263523139089:Int)<(18446744073709551616:Int)),(0≤(12297368366147926462:Int)),((12297368366147926462:Int)<(18446744073709551616:Int)),(0≤(4555124010822409633:Int)),((4555124010822409633:Int)<(18446744073709551616:Int)),(0≤(2771000935339432363:Int)),((2771000935339432363:Int)<(18446744073709551616:Int)),(0≤(14645187562128761775:Int)),((14645187562128761775:Int)<(18446744073709551616:Int)),(0≤(3651525051980876697:Int)),((3651525051980876697:Int)<(18446744073709551616:Int)),(0≤(434250606344352972:Int)),((434250606344352972:Int)<(18446744073709551616:Int))],((.v (.a [(.ob (.fp (Fin.ofNat B6 352701069587466618187139116011060144890029952792775240219908644239793785735715026873347600343865175952761926303160))),(.ob (.fp (Fin.ofNat B6 3059144344244213709971259814753781636986470325476647558659373206291635324768958432433509563104347017837885763365758))),(.ob (.fp (Fin.ofNat B6 1985150602287291935568054521177171638300868978215655730859378665066344726373823718423869104263333984641494340347905))),(.ob (.fp (Fin.ofNat B6 927553665492332455747201965776037880757740193453592970025027978793976877002675564980949289727957565575433344219582))),(.lit false)])),[]))):=by kernel_rfl
end

section

def genG2:G2D:=⟨Fin.ofNat B6 352701069587466618187139116011060144890029952792775240219908644239793785735715026873347600343865175952761926303160,Fin.ofNat B6 3059144344244213709971259814753781636986470325476647558659373206291635324768958432433509563104347017837885763365758,Fin.ofNat B6 1985150602287291935568054521177171638300868978215655730859378665066344726373823718423869104263333984641494340347905,Fin.ofNat B6 927553665492332455747201965776037880757740193453592970025027978793976877002675564980949289727957565575433344219582,false⟩

theorem gen2_fnd:FnD Tryz.prog 16 [] (.v (.a genG2.its)) []:=
 (fn_sound qzH_ok Tryz.func16 ge2R (by simp [AllP])).conv (fun _ _ h=>h) fun y v hd=>lit_fifth hd
end

section

def right2Spec:FnSpec
 | [.v (.a [.ob (.fp a),.ob (.fp b),.ob (.fp c),.ob (.fp d),.bool i])]=>some ([],.v (.c (.bool (onG2 ⟨a,b,c,d,i⟩))),[])
 | _=>none
def rtA:Env:=qzH.set (addT qzH.fn 22 right2Spec)
theorem rtA_ok:EnvOk Tryz.prog rtA:=env_add qzH_ok 22 right2Spec (enters_of Tryz.func22 rfl rfl) fun args o r es h _=>by
 unfold right2Spec at h
 split at h
 ·cases h;exact fn_sound qzH_ok Tryz.func22 (ri2R _ _ _ _ _) trivial
 ·cases h
def gen2Spec:FnSpec
 | []=>some ([],.v (.a genG2.its),[])
 | _=>none
def rtC:Env:=rtA.set (addT rtA.fn 16 gen2Spec)
theorem rtC_ok:EnvOk Tryz.prog rtC:=env_add rtA_ok 16 gen2Spec (enters_of Tryz.func16 rfl rfl) fun args o r es h _=>by
 unfold gen2Spec at h
 split at h
 ·cases h;exact gen2_fnd
 ·cases h
def rtG:Env:=rtC
theorem rtG_ok:EnvOk Tryz.prog rtG:=rtC_ok
end

section

theorem neg1_p:(-1:Fp)=Fin.ofNat pN (pN-1):=by decide +kernel
theorem neg1_val:(Fin.ofNat pN (pN-1)).val=pN-1:=by decide +kernel
theorem halves_p:pN-1=(pN-1) / 2+(pN-1) / 2:=by decide +kernel
theorem neg1_pow:mpow pN (pN-1) 384 ((pN-1) / 2)≠1:=by decide +kernel
theorem half_lt:(pN-1) / 2<2 ^ 384:=by decide +kernel
theorem neg1_ne:(0:Fp)*0 ≠ -1:=by decide +kernel
theorem no_root (t:Fp):t*t ≠ -1:=by
 intro h
 by_cases ht:t=0
 ·rw[ht] at h
  exact neg1_ne h
 ·have e:=two_pw t ((pN-1) / 2)
  rw[←halves_p,fermat_p t ht,h,neg1_p] at e
  have:=congrArg Fin.val e
  rw[pw_mpow _ 384 _ half_lt,neg1_val,one_val_p] at this
  exact neg1_pow this

theorem one_ne_2:(1:F2)≠0:=by decide +kernel
theorem two_ne_2:(1:F2)+1≠0:=by decide +kernel
theorem norm_b:nQ2 ((0:F2)-fq4)=Fin.ofNat pN 32:=by decide +kernel
theorem val32:(Fin.ofNat pN 32).val=32:=by decide +kernel
theorem pow32:mpow pN 32 384 ((pN-1) / 3)≠1:=by decide +kernel

theorem neg_of_sum2 {a b:F2} (h:a+b=0):a=0-b:=neg_of_sumR h
where neg_of_sumR {r:Nat} [NeZero r] {a b:Q2 r} (h:a+b=0):a=0-b:=by grind

theorem no2_q (x:F2):x*x*x+fq4≠0:=by
 intro h
 have h:=congrArg nQ2 (neg_of_sum2 h)
 rw[norm_b,nQ2_mul,nQ2_mul] at h
 refine cube_ne _ (fun e=>?_) (fun e=>?_) (nQ2 x) h
 ·have:=congrArg Fin.val e
  rw[pw_mpow _ 384 _ third_lt,val32,one_val_p] at this
  exact pow32 this
 ·have:=congrArg Fin.val e
  rw[val32] at this
  revert this
  decide +kernel

instance fldQ:Fld F2:=
  { (ringQ2:CRing (Q2 pN)) with
    inv:=ivQ2 ivP
    mul_inv:=ivQ2_mul ivP ivP_mul (nQ2_zero ivP ivP_mul no_root)
    one_ne:=one_ne_2 }

theorem cv2:Cv fq4:=⟨two_ne_2,no2_q⟩

/-- A point outside, as a point; and back. -/
def pG2 (a:G2D):Pt F2:=if a.inf then none else some (inP2 a.xa a.xb,inP2 a.ya a.yb)
def gP2:Pt F2→G2D
 | none=>⟨0,0,0,0,true⟩
 | some p=>⟨outP p.1.1,outP p.1.2,outP p.2.1,outP p.2.2,false⟩

theorem in_out2 (x:F2):inP2 (outP x.1) (outP x.2)=x:=by
 unfold inP2
 rw[in_out,in_out]

theorem pG_gP2:∀P:Pt F2,pG2 (gP2 P)=P
 | none=>rfl
 | some p=>by
  show some (inP2 (outP p.1.1) (outP p.1.2),inP2 (outP p.2.1) (outP p.2.2))=some p
  rw[in_out2,in_out2]

theorem onG2_is {a:G2D} (h:onG2 a=true):gP2 (pG2 a)=a∧OnC fq4 (pG2 a):=by
 obtain ⟨xa,xb,ya,yb,i⟩:=a
 cases i with
 | true=>
  have h:(decide (xa=0) && (decide (xb=0) && (decide (ya=0) && decide (yb=0))))=true:=h
  simp only[Bool.and_eq_true,decide_eq_true_eq] at h
  obtain ⟨rfl,rfl,rfl,rfl⟩:=h
  exact ⟨rfl,True.intro⟩
 | false=>
  have h:((decide (outP (inP xa)=xa) && decide (outP (inP xb)=xb)) && ((decide (outP (inP ya)=ya) && decide (outP (inP yb)=yb)) && decide (inP2 ya yb*inP2 ya yb=inP2 xa xb*inP2 xa xb*inP2 xa xb+fq4)))=true:=h
  simp only[Bool.and_eq_true,decide_eq_true_eq] at h
  obtain ⟨⟨h1,h2⟩,⟨h3,h4⟩,h5⟩:=h
  refine ⟨?_,h5⟩
  show (⟨outP (inP xa),outP (inP xb),outP (inP ya),outP (inP yb),false⟩:G2D)=⟨xa,xb,ya,yb,false⟩
  rw[h1,h2,h3,h4]

theorem onG2_gP:∀{P:Pt F2},OnC fq4 P→onG2 (gP2 P)=true
 | none,_=>by
  show (decide ((0:U6)=0) && (decide ((0:U6)=0) && (decide ((0:U6)=0) && decide ((0:U6)=0))))=true
  rw[decide_eq_true rfl];rfl
 | some p,h=>by
  have h:p.2*p.2=p.1*p.1*p.1+fq4:=h
  show ((decide (outP (inP (outP p.1.1))=outP p.1.1) && decide (outP (inP (outP p.1.2))=outP p.1.2)) && ((decide (outP (inP (outP p.2.1))=outP p.2.1) && decide (outP (inP (outP p.2.2))=outP p.2.2)) && decide (inP2 (outP p.2.1) (outP p.2.2)*inP2 (outP p.2.1) (outP p.2.2)=inP2 (outP p.1.1) (outP p.1.2)*inP2 (outP p.1.1) (outP p.1.2)*inP2 (outP p.1.1) (outP p.1.2)+fq4)))=true
  rw[in_out2,in_out2,in_out,in_out,in_out,in_out,decide_eq_true rfl,decide_eq_true rfl,decide_eq_true rfl,decide_eq_true rfl,decide_eq_true h]
  rfl

theorem one_sq2:(1:F2)*1=1:=by decide +kernel
theorem fq1_one:((fp1,0):F2)=1:=by decide +kernel
theorem mul_one_q {r:Nat} [NeZero r] (x:Q2 r):x*1=x:=by grind
theorem mul_one2 (x:F2):x*1=x:=mul_one_q x
theorem inG2_jc (a:G2D):Jc (pG2 a) (inG2 a):=by
 obtain ⟨xa,xb,ya,yb,i⟩:=a
 cases i with
 | true=>exact (rfl:(0:F2)=0)
 | false=>
  show Jc (some (inP2 xa xb,inP2 ya yb)) (inP2 xa xb,inP2 ya yb,(fp1,0))
  rw[fq1_one]
  refine ⟨one_ne_2,?_,?_⟩
  ·show inP2 xa xb=inP2 xa xb*(1*1)
   rw[one_sq2,mul_one2]
  ·show inP2 ya yb=inP2 ya yb*(1*1*1)
   rw[one_sq2,one_sq2,mul_one2]

theorem outG2_jc {P:Pt F2} {t:F2×F2×F2} (h:Jc P t):outG2 t=gP2 P:=by
 rw[←jpt_of P t h]
 unfold outG2 jpt
 by_cases hz:t.2.2=0
 ·rw[if_pos hz,if_pos hz];rfl
 ·rw[if_neg hz,if_neg hz];rfl

theorem addG2_is (a b:G2D):addG2 a b=gP2 (gadd (pG2 a) (pG2 b)):=outG2_jc (jpl_ok two_ne_2 _ _ _ _ (inG2_jc a) (inG2_jc b))
theorem negG2_is (a:G2D):negG2 a=gP2 (gneg (pG2 a)):=outG2_jc (jng_ok _ _ (inG2_jc a))
theorem pG2_add (a b:G2D):pG2 (addG2 a b)=gadd (pG2 a) (pG2 b):=by rw[addG2_is,pG_gP2]
theorem pG2_neg (a:G2D):pG2 (negG2 a)=gneg (pG2 a):=by rw[negG2_is,pG_gP2]
theorem on_add2 {a b:G2D} (ha:onG2 a=true) (hb:onG2 b=true):onG2 (addG2 a b)=true:=by
 rw[addG2_is]
 exact onG2_gP (gadd_on cv2 _ _ (onG2_is ha).2 (onG2_is hb).2)
theorem on_neg2 {a:G2D} (ha:onG2 a=true):onG2 (negG2 a)=true:=by
 rw[negG2_is]
 exact onG2_gP (gneg_on _ (onG2_is ha).2)
end

section

def rtL:Env:=rtG
theorem rtL_ok:EnvOk Tryz.prog rtL:=rtG_ok
def rtM:Env:=rtL
theorem rtM_ok:EnvOk Tryz.prog rtM:=rtL_ok
end

section
section
variable {w0:World} {F0:Nat→Prop} {K:Kp} {ac:List Act} {Q:Exit→Act→World→Prop} {cX:Ctx} {aX:Act}

--@env rtM rtM_ok
def ny_k:List KI:=(run rtM false 3000 ((fun (a b c d e f:Fp) (k:U4)=>(⟨[.code (bodyOf Tryz.f44)],.normal,initSt Tryz.f44.ntmps [.v (.a [.ob (.p a),.ob (.p b),.ob (.p c),.ob (.p d),.ob (.p e),.ob (.p f)]),.v (.a [.ob (.fr k)])]⟩:Cfg)) default default default default default default default) []).cfg.k
theorem ny (a b c d e f:Fp) (k:U4) (ho:AllP [(0≤(0:Int)),(0<(16:Int))]):Sg Tryz.prog (initSt Tryz.f44.ntmps [.v (.a [.ob (.p a),.ob (.p b),.ob (.p c),.ob (.p d),.ob (.p e),.ob (.p f)]),.v (.a [.ob (.fr k)])]) (mkSt 43 [2,3,4,5,6] [.pt 16 0,.pt 32 0,.pt 48 0,.pt 64 0,.ii (1:Int)] [16,32,48,64] [(eF_ [.ob (.p a),.ob (.p b),.ob (.p c),.ob (.p d),.ob (.p e),.ob (.p f)]),(eF_ [.ob (.fr k)]),(eF_ [(.ob (.p (0:Fp))),(.ob (.p (0:Fp))),(.ob (.p (0:Fp))),(.ob (.p (0:Fp))),(.ob (.p (0:Fp))),(.ob (.p (0:Fp)))]),(eF_ [.ob (.p a),.ob (.p b),.ob (.p c),.ob (.p d),(.ob (.p (0:Fp))),(.ob (.p (0:Fp))),(.ob (.p (0:Fp))),(.ob (.p (0:Fp))),(.ob (.p (0:Fp))),(.ob (.p (0:Fp))),(.ob (.p (0:Fp))),(.ob (.p (0:Fp))),(.ob (.p (0:Fp))),(.ob (.p (0:Fp))),(.ob (.p (0:Fp))),(.ob (.p (0:Fp))),(.ob (.p (0:Fp))),(.ob (.p (0:Fp))),(.ob (.p (0:Fp))),(.ob (.p (0:Fp))),(.ob (.p (0:Fp))),(.ob (.p (0:Fp))),(.ob (.p (0:Fp))),(.ob (.p (0:Fp))),(.ob (.p (0:Fp))),(.ob (.p (0:Fp))),(.ob (.p (0:Fp))),(.ob (.p (0:Fp))),(.ob (.p (0:Fp))),(.ob (.p (0:Fp))),(.ob (.p (0:Fp))),(.ob (.p (0:Fp))),(.ob (.p (0:Fp))),(.ob (.p (0:Fp))),(.ob (.p (0:Fp))),(.ob (.p (0:Fp))),(.ob (.p (0:Fp))),(.ob (.p (0:Fp))),(.ob (.p (0:Fp))),(.ob (.p (0:Fp))),(.ob (.p (0:Fp))),(.ob (.p (0:Fp))),(.ob (.p (0:Fp))),(.ob (.p (0:Fp))),(.ob (.p (0:Fp))),(.ob (.p (0:Fp))),(.ob (.p (0:Fp))),(.ob (.p (0:Fp))),(.ob (.p (0:Fp))),(.ob (.p (0:Fp))),(.ob (.p (0:Fp))),(.ob (.p (0:Fp))),(.ob (.p (0:Fp))),(.ob (.p (0:Fp))),(.ob (.p (0:Fp))),(.ob (.p (0:Fp))),(.ob (.p (0:Fp))),(.ob (.p (0:Fp))),(.ob (.p (0:Fp))),(.ob (.p (0:Fp))),(.ob (.p (0:Fp))),(.ob (.p (0:Fp))),(.ob (.p (0:Fp))),(.ob (.p (0:Fp))),(.ob (.p (0:Fp))),(.ob (.p (0:Fp))),(.ob (.p (0:Fp))),(.ob (.p (0:Fp))),(.ob (.p (0:Fp))),(.ob (.p (0:Fp))),(.ob (.p (0:Fp))),(.ob (.p (0:Fp))),(.ob (.p (0:Fp))),(.ob (.p (0:Fp))),(.ob (.p (0:Fp))),(.ob (.p (0:Fp))),(.ob (.p (0:Fp))),(.ob (.p (0:Fp))),(.ob (.p (0:Fp))),(.ob (.p (0:Fp))),(.ob (.p (0:Fp))),(.ob (.p (0:Fp))),(.ob (.p (0:Fp))),(.ob (.p (0:Fp))),(.ob (.p (0:Fp))),(.ob (.p (0:Fp))),(.ob (.p (0:Fp))),(.ob (.p (0:Fp))),(.ob (.p (0:Fp))),(.ob (.p (0:Fp))),(.ob (.p (0:Fp))),(.ob (.p (0:Fp))),(.ob (.p (0:Fp))),(.ob (.p (0:Fp))),(.ob (.p (0:Fp))),(.ob (.p (0:Fp)))])] 208 [] []) .normal (ny_k) ([.code (bodyOf Tryz.f44)]):=fun hs hK=>
 run_at2 (unroll:=false) (n:=3000) (path:=[]) (o:=⟨_,_,_,_,_,_,_⟩) rtM_ok (by kernel_rfl) (by kernel_rfl) ho hs hK
def nyS (a b c d e f:Fp) (k:U4) (L:List (F2×F2×F2)) (i:Int):St:=mkSt 43 [2,3,4,5,6] [.pt 16 0,.pt 32 0,.pt 48 0,.pt 64 0,.v (.c (.int .i64 i))] [16,32,48,64] [(eF_ [.ob (.p a),.ob (.p b),.ob (.p c),.ob (.p d),.ob (.p e),.ob (.p f)]),(eF_ [.ob (.fr k)]),(eF_ [(.ob (.p (0:Fp))),(.ob (.p (0:Fp))),(.ob (.p (0:Fp))),(.ob (.p (0:Fp))),(.ob (.p (0:Fp))),(.ob (.p (0:Fp)))]),some (.sq (.pt2 L))] 208 [] []
theorem nyA (a b c d e f:Fp) (k:U4) (L:List (F2×F2×F2)) (i:Int) (ho:AllP [((decide (i<(16:Int)))=true),(0≤(wrap .i64 (i-1))),((wrap .i64 (i-1))<(16:Int)),(0=0),(((wrap .i64 (i-1))).toNat<L.length),(0≤i),(i<(16:Int)),(0=0),((i).toNat<L.length)]):Sg Tryz.prog (nyS a b c d e f k L i) (mkSt 43 [2,3,4,5,6] [.pt 16 0,.pt 32 0,.pt 48 0,.pt 64 0,(.ii (wrap .i64 (i+1)))] [16,32,48,64] [(eF_ [.ob (.p a),.ob (.p b),.ob (.p c),.ob (.p d),.ob (.p e),.ob (.p f)]),(eF_ [.ob (.fr k)]),(eF_ [(.ob (.p (0:Fp))),(.ob (.p (0:Fp))),(.ob (.p (0:Fp))),(.ob (.p (0:Fp))),(.ob (.p (0:Fp))),(.ob (.p (0:Fp)))]),(eQ_ (Sq.pt2 (List.set L (i).toNat (jpl (List.getD L ((wrap .i64 (i-1))).toNat pt20) ((a,b),((c,d),(e,f)))))))] 432 [] []) .normal (lpBk ny_k) (lpIn ny_k):=fun hs hK=>
 run_at2 (unroll:=false) (n:=3000) (path:=[true]) (o:=⟨_,_,_,_,_,_,_⟩) rtM_ok (by kernel_rfl) (by kernel_rfl) ho hs hK
def nyB_k:List KI:=(run rtM false 3000 ((fun (a b c d e f:Fp) (k:U4) (L:List (F2×F2×F2)) (i:Int)=>(⟨lpIn ny_k,.normal,nyS a b c d e f k L i⟩:Cfg)) default default default default default default default default default) [false]).cfg.k
theorem nyB (a b c d e f:Fp) (k:U4) (L:List (F2×F2×F2)) (i:Int) (ho:AllP [((decide (i<(16:Int)))=false),(0≤(0:Int)),(0<(16:Int)),(0=0),(0<L.length)]):Sg Tryz.prog (nyS a b c d e f k L i) (mkSt 43 [4,5,7,30] [.pt 48 0,.pt 64 0,.pt 272 0,(.ci (.clo 121 [(320,0)]))] [48,64,272,320] [(eF_ [(.ob (.p (0:Fp))),(.ob (.p (0:Fp))),(.ob (.p (0:Fp))),(.ob (.p (0:Fp))),(.ob (.p (0:Fp))),(.ob (.p (0:Fp)))]),(eQ_ (Sq.pt2 L)),(eF_ [(.ob (.p (Prod.fst (Prod.fst (List.getD L 0 pt20))))),(.ob (.p (Prod.snd (Prod.fst (List.getD L 0 pt20))))),(.ob (.p (Prod.fst (Prod.fst (Prod.snd (List.getD L 0 pt20)))))),(.ob (.p (Prod.snd (Prod.fst (Prod.snd (List.getD L 0 pt20)))))),(.ob (.p (Prod.fst (Prod.snd (Prod.snd (List.getD L 0 pt20)))))),(.ob (.p (Prod.snd (Prod.snd (Prod.snd (List.getD L 0 pt20))))))]),(eF_ [.ob (.fr k)])] 384 [] []) .normal (nyB_k) (lpIn ny_k):=fun hs hK=>
 run_at2 (unroll:=false) (n:=3000) (path:=[false]) (o:=⟨_,_,_,_,_,_,_⟩) rtM_ok (by kernel_rfl) (by kernel_rfl) ho hs hK
def nyR (k:U4) (L:List (F2×F2×F2)) (o:F2×F2×F2):St:=mkSt 43 [4,5,7,30] [.pt 48 0,.pt 64 0,.pt 272 0,(.ci (.clo 121 [(320,0)]))] [48,64,272,320] [(eF_ [(.ob (.p (0:Fp))),(.ob (.p (0:Fp))),(.ob (.p (0:Fp))),(.ob (.p (0:Fp))),(.ob (.p (0:Fp))),(.ob (.p (0:Fp)))]),(eQ_ (Sq.pt2 L)),some (.fl [.ob (.p o.1.1),.ob (.p o.1.2),.ob (.p o.2.1.1),.ob (.p o.2.1.2),.ob (.p o.2.2.1),.ob (.p o.2.2.2)]),(eF_ [.ob (.fr k)])] 384 [] []
theorem nrA (k:U4) (L:List (F2×F2×F2)) (o:F2×F2×F2) (d:Int) {ρ:Option Nat} (ho:AllP []) (hs:Sim w0 F0 K ac (roundSt (nyR k L o) [(31,.v (.c (.int .i64 d)))]) cX aX) (hK:∀cY aY,Sim w0 F0 K ac (mkSt 43 [4,5,7,8] [.pt 48 0,.pt 64 0,.pt 272 0,.ii d] [48,64,272,320] [(eF_ [(.ob (.p (0:Fp))),(.ob (.p (0:Fp))),(.ob (.p (0:Fp))),(.ob (.p (0:Fp))),(.ob (.p (0:Fp))),(.ob (.p (0:Fp)))]),(eQ_ (Sq.pt2 L)),(eF_ [(.ob (.p (Prod.fst (Prod.fst o)))),(.ob (.p (Prod.snd (Prod.fst o)))),(.ob (.p (Prod.fst (Prod.fst (Prod.snd o))))),(.ob (.p (Prod.snd (Prod.fst (Prod.snd o))))),(.ob (.p (Prod.fst (Prod.snd (Prod.snd o))))),(.ob (.p (Prod.snd (Prod.snd (Prod.snd o)))))]),(eF_ [.ob (.fr k)])] 400 [[4,5,7,30]] [([.pt 48 0,.pt 64 0,.pt 272 0,(.ci (.clo 121 [(320,0)]))],43)]) cY aY→Wq Tryz.prog Q ([]) ac Exit.normal aY cY.w ρ):Wq Tryz.prog Q ([.code (rfA nyB_k)]) ac .normal aX cX.w ρ :=
 run_atT (unroll:=false) (n:=3000) (path:=[]) (o:=⟨_,_,_,_,_,_,_⟩) rtM_ok (by kernel_rfl) (by kernel_rfl) ho (by kernel_rfl) (by kernel_rfl) hs hK
def nrB (k:U4) (L:List (F2×F2×F2)) (o:F2×F2×F2) (d:Int):St:=mkSt 43 [4,5,7,8] [.pt 48 0,.pt 64 0,.pt 272 0,.ii d] [48,64,272,320] [(eF_ [(.ob (.p (0:Fp))),(.ob (.p (0:Fp))),(.ob (.p (0:Fp))),(.ob (.p (0:Fp))),(.ob (.p (0:Fp))),(.ob (.p (0:Fp)))]),(eQ_ (Sq.pt2 L)),some (.fl [.ob (.p o.1.1),.ob (.p o.1.2),.ob (.p o.2.1.1),.ob (.p o.2.1.2),.ob (.p o.2.2.1),.ob (.p o.2.2.2)]),(eF_ [.ob (.fr k)])] 400 [[4,5,7,30]] [([.pt 48 0,.pt 64 0,.pt 272 0,(.ci (.clo 121 [(320,0)]))],43)]
def nrC_k:List KI:=(run rtM false 3000 ((fun (k:U4) (L:List (F2×F2×F2)) (o:F2×F2×F2) (d:Int)=>(⟨[.code (rfB nyB_k)],.normal,nrB k L o d⟩:Cfg)) default default default default) []).cfg.k
theorem nrC (k:U4) (L:List (F2×F2×F2)) (o:F2×F2×F2) (d:Int) {ρ:Option Nat} (ho:AllP []) (hs:Sim w0 F0 K ac (nrB k L o d) cX aX) (hK:∀cY aY,Sim w0 F0 K ac (mkSt 43 [4,5,7,8,32] [.pt 48 0,.pt 64 0,.pt 272 0,.ii d,.ii (0:Int)] [48,64,272,320] [(eF_ [(.ob (.p (0:Fp))),(.ob (.p (0:Fp))),(.ob (.p (0:Fp))),(.ob (.p (0:Fp))),(.ob (.p (0:Fp))),(.ob (.p (0:Fp)))]),(eQ_ (Sq.pt2 L)),(eF_ [(.ob (.p (Prod.fst (Prod.fst o)))),(.ob (.p (Prod.snd (Prod.fst o)))),(.ob (.p (Prod.fst (Prod.fst (Prod.snd o))))),(.ob (.p (Prod.snd (Prod.fst (Prod.snd o))))),(.ob (.p (Prod.fst (Prod.snd (Prod.snd o))))),(.ob (.p (Prod.snd (Prod.snd (Prod.snd o)))))]),(eF_ [.ob (.fr k)])] 416 [[4,5,7,30]] [([.pt 48 0,.pt 64 0,.pt 272 0,(.ci (.clo 121 [(320,0)]))],43)]) cY aY→Wq Tryz.prog Q (nrC_k) ac Exit.normal aY cY.w ρ):Wq Tryz.prog Q ([.code (rfB nyB_k)]) ac .normal aX cX.w ρ :=
 run_atT (unroll:=false) (n:=3000) (path:=[]) (o:=⟨_,_,_,_,_,_,_⟩) rtM_ok (by kernel_rfl) (by kernel_rfl) ho (by kernel_rfl) (by kernel_rfl) hs hK
def nrS (k:U4) (L:List (F2×F2×F2)) (o:F2×F2×F2) (d j:Int):St:=mkSt 43 [4,5,7,8,32] [.pt 48 0,.pt 64 0,.pt 272 0,.ii d,.v (.c (.int .i64 j))] [48,64,272,320] [(eF_ [(.ob (.p (0:Fp))),(.ob (.p (0:Fp))),(.ob (.p (0:Fp))),(.ob (.p (0:Fp))),(.ob (.p (0:Fp))),(.ob (.p (0:Fp)))]),(eQ_ (Sq.pt2 L)),some (.fl [.ob (.p o.1.1),.ob (.p o.1.2),.ob (.p o.2.1.1),.ob (.p o.2.1.2),.ob (.p o.2.2.1),.ob (.p o.2.2.2)]),(eF_ [.ob (.fr k)])] 416 [[4,5,7,30]] [([.pt 48 0,.pt 64 0,.pt 272 0,(.ci (.clo 121 [(320,0)]))],43)]
theorem nrD (k:U4) (L:List (F2×F2×F2)) (o:F2×F2×F2) (d j:Int) {ρ:Option Nat} (ho:AllP [((decide (j<(4:Int)))=true)]) (hs:Sim w0 F0 K ac (nrS k L o d j) cX aX) (hK:∀cY aY,Sim w0 F0 K ac (mkSt 43 [4,5,7,8,32] [.pt 48 0,.pt 64 0,.pt 272 0,.ii d,(.ii (wrap .i64 (j+1)))] [48,64,272,320] [(eF_ [(.ob (.p (0:Fp))),(.ob (.p (0:Fp))),(.ob (.p (0:Fp))),(.ob (.p (0:Fp))),(.ob (.p (0:Fp))),(.ob (.p (0:Fp)))]),(eQ_ (Sq.pt2 L)),(eF_ [(.ob (.p (Prod.fst (Prod.fst (jtw o))))),(.ob (.p (Prod.snd (Prod.fst (jtw o))))),(.ob (.p (Prod.fst (Prod.fst (Prod.snd (jtw o)))))),(.ob (.p (Prod.snd (Prod.fst (Prod.snd (jtw o)))))),(.ob (.p (Prod.fst (Prod.snd (Prod.snd (jtw o)))))),(.ob (.p (Prod.snd (Prod.snd (Prod.snd (jtw o))))))]),(eF_ [.ob (.fr k)])] 512 [[4,5,7,30]] [([.pt 48 0,.pt 64 0,.pt 272 0,(.ci (.clo 121 [(320,0)]))],43)]) cY aY→Wq Tryz.prog Q (lpBk nrC_k) ac Exit.normal aY cY.w ρ):Wq Tryz.prog Q (lpIn nrC_k) ac .normal aX cX.w ρ :=
 run_atT (unroll:=false) (n:=3000) (path:=[true]) (o:=⟨_,_,_,_,_,_,_⟩) rtM_ok (by kernel_rfl) (by kernel_rfl) ho (by kernel_rfl) (by kernel_rfl) hs hK
theorem nrE (k:U4) (L:List (F2×F2×F2)) (o:F2×F2×F2) (d j:Int) {ρ:Option Nat} (ho:AllP [((decide (j<(4:Int)))=false),(0≤d),(d<(16:Int)),(0=0),((d).toNat<L.length)]) (hs:Sim w0 F0 K ac (nrS k L o d j) cX aX) (hK:∀cY aY,Sim w0 F0 K ac (mkSt 43 [4] [.pt 48 0] [48,64,272,320] [(eF_ [(.ob (.p (0:Fp))),(.ob (.p (0:Fp))),(.ob (.p (0:Fp))),(.ob (.p (0:Fp))),(.ob (.p (0:Fp))),(.ob (.p (0:Fp)))]),(eQ_ (Sq.pt2 L)),(eF_ [(.ob (.p (Prod.fst (Prod.fst (jpl o (List.getD L (d).toNat pt20)))))),(.ob (.p (Prod.snd (Prod.fst (jpl o (List.getD L (d).toNat pt20)))))),(.ob (.p (Prod.fst (Prod.fst (Prod.snd (jpl o (List.getD L (d).toNat pt20))))))),(.ob (.p (Prod.snd (Prod.fst (Prod.snd (jpl o (List.getD L (d).toNat pt20))))))),(.ob (.p (Prod.fst (Prod.snd (Prod.snd (jpl o (List.getD L (d).toNat pt20))))))),(.ob (.p (Prod.snd (Prod.snd (Prod.snd (jpl o (List.getD L (d).toNat pt20)))))))]),(eF_ [.ob (.fr k)])] 528 [[4,5,7,30]] [([.pt 48 0,.pt 64 0,.pt 272 0,(.ci (.clo 121 [(320,0)]))],43)]) cY aY→Wq Tryz.prog Q ([]) ac Exit.normal aY cY.w ρ):Wq Tryz.prog Q (lpIn nrC_k) ac .normal aX cX.w ρ :=
 run_atT (unroll:=false) (n:=3000) (path:=[false]) (o:=⟨_,_,_,_,_,_,_⟩) rtM_ok (by kernel_rfl) (by kernel_rfl) ho (by kernel_rfl) (by kernel_rfl) hs hK
def nrF (k:U4) (L:List (F2×F2×F2)) (o:F2×F2×F2):St:=mkSt 43 [4] [.pt 48 0] [48,64,272,320] [(eF_ [(.ob (.p (0:Fp))),(.ob (.p (0:Fp))),(.ob (.p (0:Fp))),(.ob (.p (0:Fp))),(.ob (.p (0:Fp))),(.ob (.p (0:Fp)))]),(eQ_ (Sq.pt2 L)),some (.fl [.ob (.p o.1.1),.ob (.p o.1.2),.ob (.p o.2.1.1),.ob (.p o.2.1.2),.ob (.p o.2.2.1),.ob (.p o.2.2.2)]),(eF_ [.ob (.fr k)])] 528 [[4,5,7,30]] [([.pt 48 0,.pt 64 0,.pt 272 0,(.ci (.clo 121 [(320,0)]))],43)]
theorem nrX (k:U4) (L:List (F2×F2×F2)) (o:F2×F2×F2) (ho:AllP []):Sg Tryz.prog (nyR k L o) (mkSt 43 [4] [.pt 48 0] [48] [(eF_ [(.ob (.p (Prod.fst (Prod.fst o)))),(.ob (.p (Prod.snd (Prod.fst o)))),(.ob (.p (Prod.fst (Prod.fst (Prod.snd o))))),(.ob (.p (Prod.snd (Prod.fst (Prod.snd o))))),(.ob (.p (Prod.fst (Prod.snd (Prod.snd o))))),(.ob (.p (Prod.snd (Prod.snd (Prod.snd o)))))])] 416 [] []) .ret ([]) (rfR nyB_k):=fun hs hK=>
 run_at2 (unroll:=false) (n:=3000) (path:=[]) (o:=⟨_,_,_,_,_,_,_⟩) rtM_ok (by kernel_rfl) (by kernel_rfl) ho hs hK
def nrZ (o:F2×F2×F2):St:=mkSt 43 [4] [.pt 48 0] [48] [some (.fl [.ob (.p o.1.1),.ob (.p o.1.2),.ob (.p o.2.1.1),.ob (.p o.2.1.2),.ob (.p o.2.2.1),.ob (.p o.2.2.2)])] 416 [] []
theorem nrR_end (o:F2×F2×F2):runEnd rtM Tryz.f44 false 3000 (⟨[],.ret,nrZ o⟩) [] [] []=(some ([],((.v (.a [(.ob (.p (Prod.fst (Prod.fst o)))),(.ob (.p (Prod.snd (Prod.fst o)))),(.ob (.p (Prod.fst (Prod.fst (Prod.snd o))))),(.ob (.p (Prod.snd (Prod.fst (Prod.snd o))))),(.ob (.p (Prod.fst (Prod.snd (Prod.snd o))))),(.ob (.p (Prod.snd (Prod.snd (Prod.snd o)))))])),[]))):=by kernel_rfl
end
end

section

/-- Sixteen points of the second curve, one behind the other. -/
def flatPt2 (l:List (F2×F2×F2)):Nat→Nat→List It
 | _,0=>[]
 | i,n+1=>.ob (.p (l.getD i pt20).1.1) :: .ob (.p (l.getD i pt20).1.2) :: .ob (.p (l.getD i pt20).2.1.1) :: .ob (.p (l.getD i pt20).2.1.2) :: .ob (.p (l.getD i pt20).2.2.1) :: .ob (.p (l.getD i pt20).2.2.2)::flatPt2 l (i+1) n

theorem cat_flat2 {x:Ctx} (L:List (F2×F2×F2)):∀(n i:Nat) (cs:List Value),catL x.D (flatPt2 L i n) cs→cs.length=n*36∧∀j,j<n→∃c,catL x.D (pt2Its (L.getD (i+j) pt20)) c∧∀(q:Nat) (v:Value),c[q]? = some v→cs[j*36+q]? = some v
 | 0,i,cs,h=>by
  have h:cs=[]:=h
  subst h
  exact ⟨rfl,fun j hj=>absurd hj (Nat.not_lt_zero _)⟩
 | n+1,i,cs,h=>by
  obtain ⟨c1,r1,e1,h1,c2,r2,e2,h2,c3,r3,e3,h3,c4,r4,e4,h4,c5,r5,e5,h5,c6,r6,e6,h6,h7⟩:=h
  obtain ⟨hl,hj⟩:=cat_flat2 L n (i+1) r6 h7
  have l1:c1.length=6:=D_len h1
  have l2:c2.length=6:=D_len h2
  have l3:c3.length=6:=D_len h3
  have l4:c4.length=6:=D_len h4
  have l5:c5.length=6:=D_len h5
  have l6:c6.length=6:=D_len h6
  subst e1 e2 e3 e4 e5 e6
  refine ⟨by simp only[List.length_append];omega,fun j hjn=>?_⟩
  have e:c1++(c2++(c3++(c4++(c5++(c6++r6)))))=(c1++(c2++(c3++(c4++(c5++c6)))))++r6:=by simp
  have hl36:(c1++(c2++(c3++(c4++(c5++c6))))).length=36:=by simp only[List.length_append];omega
  cases j with
  | zero=>
   refine ⟨c1++(c2++(c3++(c4++(c5++(c6++[]))))),⟨c1,_,rfl,h1,c2,_,rfl,h2,c3,_,rfl,h3,c4,_,rfl,h4,c5,_,rfl,h5,c6,_,rfl,h6,rfl⟩,fun q v hq=>?_⟩
   rw[List.append_nil] at hq
   have hlt:q<(c1++(c2++(c3++(c4++(c5++c6))))).length:=by
    rcases Nat.lt_or_ge q (c1++(c2++(c3++(c4++(c5++c6))))).length with h | h
    ·exact h
    ·rw[List.getElem?_eq_none h] at hq;cases hq
   rw[Nat.zero_mul,Nat.zero_add,←hq,e,List.getElem?_append_left hlt]
  | succ j=>
   obtain ⟨c,hc,hv⟩:=hj j (by omega)
   rw[show i+1+j=i+(j+1) from by omega] at hc
   refine ⟨c,hc,fun q v hq=>?_⟩
   rw[e,List.getElem?_append_right (by rw[hl36];omega),hl36,show (j+1)*36+q-36=j*36+q from by omega]
   exact hv q v hq

theorem tab_conv2 {x:Ctx} (L:List (F2×F2×F2)) (h:L.length=16) (cs:List Value) (hc:denEn x (.fl (flatPt2 L 0 16)) cs):denEn x (.sq (.pt2 L)) cs:=by
 obtain ⟨hl,hj⟩:=cat_flat2 L 16 0 cs hc
 refine ⟨?_,fun i hi=>?_⟩
 ·show L.length*36≤cs.length
  rw[h,hl]
  exact Nat.le_refl _
 ·have hi:i<L.length:=hi
  rw[h] at hi
  obtain ⟨c,h1,h2⟩:=hj i hi
  rw[Nat.zero_add] at h1
  exact ⟨c,h1,h2⟩

def tab02 (x y:F2):List (F2×F2×F2):=(x,y,0)::List.replicate 15 pt20

theorem many2_fnd (a b c d e f:Fp) (k:U4):FnD Tryz.prog 44 [.v (.a [.ob (.p a),.ob (.p b),.ob (.p c),.ob (.p d),.ob (.p e),.ob (.p f)]),.v (.a [.ob (.fr k)])] (.v (.a (pt2Its (jmn (F:=F2) ((a,b),(c,d),(e,f)) (dgT k.val 64))))) []:=by
 generalize hpa:(((a,b),(c,d),(e,f)):F2×F2×F2)=pa
 refine fn_start_m (fn:=Tryz.f44) (c:=bodyOf Tryz.f44) Tryz.func44 rfl rfl fun x0 a0 hk hF hs=>?_
 refine ny a b c d e f k ⟨by decide,by decide,trivial⟩ hs fun ac cY aY hs1=>?_
 have hs2:=hs1.blocks (ens' := [some (.fl [.ob (.p a),.ob (.p b),.ob (.p c),.ob (.p d),.ob (.p e),.ob (.p f)]),some (.fl [.ob (.fr k)]),some (.fl [.ob (.p 0),.ob (.p 0),.ob (.p 0),.ob (.p 0),.ob (.p 0),.ob (.p 0)]),some (.sq (.pt2 (tab02 (a,b) (c,d))))])
  ⟨.inl rfl,.inl rfl,.inl rfl,.inr ⟨_,_,_,rfl,rfl,rfl,fun cs h=>tab_conv2 _ rfl cs h⟩,trivial⟩
 refine loop_rule (ι:={ p:Nat×List (F2×F2×F2) // 1≤p.1∧p.1≤16∧p.2.length=16∧∀j,j<p.1→p.2.getD j pt20=jtab pa j }) (fun p=>nyS a b c d e f k p.1.2 (p.1.1:Int)) (fun p=>16-p.1.1) (c:=lpC ny_k) (k:=lpR ny_k) (by kernel_rfl) (fun p ih ac cY aY hs=>?_)
  ⟨(1,tab02 (a,b) (c,d)),Nat.le_refl 1,by show (1:Nat)≤16;omega,rfl,fun j hj=>by
   have:j=0:=by have hj:j<1:=hj;omega
   subst this;rw[←hpa];rfl⟩ (hs2.nx _)
 obtain ⟨⟨i,L⟩,h1,h16,hL,htab⟩:=p
 simp only at ih hs h1 h16 hL htab
 by_cases hi:i<16
 ·have e1:wrap IntKind.i64 ((i:Int)-1)=((i-1:Nat):Int):=by rw[wrap_id (by omega) (by omega)];omega
  have e2:wrap IntKind.i64 ((i:Int)+1)=((i+1:Nat):Int):=by rw[wrap_id (by omega) (by omega)];omega
  refine nyA a b c d e f k L i ⟨decide_eq_true (by omega),by rw[e1];omega,by rw[e1];omega,rfl,by rw[e1,Int.toNat_natCast,hL];omega,by omega,by omega,rfl,by rw[Int.toNat_natCast,hL];exact hi,trivial⟩ hs fun ac cZ aZ hs3=>?_
  rw[e1,e2,Int.toNat_natCast,Int.toNat_natCast,htab (i-1) (by omega),hpa] at hs3
  have e3:jpl (jtab pa (i-1)) pa=jtab pa i:=by
   obtain ⟨m,rfl⟩:∃m,i=m+1:=⟨i-1,by omega⟩
   rfl
  rw[e3] at hs3
  refine ih ⟨(i+1,L.set i (jtab pa i)),by show 1≤i+1;omega,hi,by show (L.set i _).length=16;rw[List.length_set];exact hL,fun j hj=>?_⟩ (by show 16-(i+1)<16-i;omega) ac cZ aZ (hs3.nx _)
  have hj:j<i+1:=hj
  show (L.set i (jtab pa i)).getD j pt20=_
  by_cases e:j=i
  ·subst e
   simp [List.getD,hL,hi]
  ·have:(L.set i (jtab pa i)).getD j pt20=L.getD j pt20:=by
    simp [List.getD,List.getElem?_set_ne (Ne.symm e)]
   rw[this]
   exact htab j (by omega)
 ·have:i=16:=by omega
  subst this
  refine nyB a b c d e f k L _ ⟨by decide,by decide,by decide,rfl,by rw[hL];decide,trivial⟩ hs fun ac cZ aZ hs3=>?_
  rw[htab 0 (by decide)] at hs3
  obtain ⟨e1,e2⟩:=isRf_eq (k:=nyB_k) (by kernel_rfl)
  rw[e1]
  have eP:(rfP nyB_k).toList=[31]:=by kernel_rfl
  have eG:rfG nyB_k = .tmp 30:=by kernel_rfl
  refine range_rule (ps:=rfP nyB_k) e2 hs3 (gf:=121) (caps:=[(320,0)]) (enters_of Tryz.func121 rfl rfl) (fun pre=>nyR k L (pre.foldl (jst pa) (jtab pa 0))) (fun s=>by rw[eG];rfl) ⟨_,rfl⟩ (dgT k.val 64) dgVals dgEnc
   (fun y z=>.cons ⟨rfl,0,rfl⟩ .nil) (fun z=>by rw[←Array.length_toList,eP];rfl) (fun pre p hp=>?_) (digits_iter fun s=>rfl) (fun pre d=>nrB k L (pre.foldl (jst pa) (jtab pa 0)) d)
   (fun pre d=>nrF k L ((pre++[d]).foldl (jst pa) (jtab pa 0))) (fun pre d=>⟨_,rfl⟩) (fun pre d hd w1 F1 K1 as1 Q1 l y1 b hs4 hQ=>?_) (fun pre d hd w1 F1 K1 as1 Q1 l y1 b hs4 hQ=>?_) fun D y1 hs4 hD hFD hd=>?_
  ·rw[eP] at hp
   have h43:(nyR k L (pre.foldl (jst pa) (jtab pa 0))).nt=43:=rfl
   rw[h43]
   simp only[List.mem_cons,List.not_mem_nil,or_false] at hp
   subst hp
   decide
  ·rw[eP] at hs4
   exact nrA k L _ d trivial hs4 fun cZ aZ hs5=>⟨hQ _ _ (hs5.nx _)⟩
  ·have hd16:d<16:=by
    obtain ⟨r,hr⟩:=hd
    exact dgT_lt (n:=k.val) 64 d (by rw[hr];simp)
   rw[List.foldl_append] at hQ
   generalize pre.foldl (jst pa) (jtab pa 0)=o at hs4 hQ
   have hst:List.foldl (jst pa) o [d]=jpl (jtws 4 o) (L.getD d pt20):=by
    rw[htab d hd16,List.foldl_cons,List.foldl_nil]
    exact jst_tws pa o d
   rw[hst] at hQ
   refine nrC k L o d trivial hs4 fun cV aV hs5=>?_
   let I:{ j:Nat // j≤4 } → List Act→Act→World→Prop:=fun j ac a w=>ac=as1∧∃z,z.w=w∧Sim w1 F1 K1 as1 (nrS k L (jtws j.1 o) d (j.1:Int)) z a
   refine loop_inv (ρ:=some l) I (fun j=>4-j.1) (c:=lpC nrC_k) (k:=lpR nrC_k) (by kernel_rfl) (fun j ih ac aV w hI=>?_) ⟨0,Nat.zero_le _⟩ ⟨rfl,cV,rfl,hs5.nx _⟩
   obtain ⟨j,hj⟩:=j
   obtain ⟨rfl,cV,rfl,hs6⟩:=hI
   simp only at ih hs6
   by_cases hj4:j<4
   ·have ej:jtw (jtws j o)=jtws (j+1) o:=(jtws_succ j o).symm
    generalize jtws j o=o1 at hs6 ej
    refine nrD k L _ d j ⟨decide_eq_true (by omega),trivial⟩ hs6 fun cU aU hs7=>?_
    rw[wrap_id (n:=(j:Int)+1) (by omega) (by omega),ej] at hs7
    exact ih ⟨j+1,hj4⟩ (by show 4-(j+1)<4-j;omega) _ aU _ ⟨rfl,cU,rfl,hs7.nx _⟩
   ·have:j=4:=by omega
    subst this
    refine nrE k L _ d _ ⟨by decide,by omega,by omega,rfl,by rw[Int.toNat_natCast,hL];exact hd16,trivial⟩ hs6 fun cU aU hs7=>?_
    rw[Int.toNat_natCast] at hs7
    generalize jpl (jtws 4 o) (L.getD d pt20)=q at hQ hs7
    exact ⟨hQ _ _ (hs7.nx _)⟩
  ·have hs5:=hs4.marked rfl rfl D
   show Wq _ _ _ _ _ _ _ _
   have ej:(dgT k.val 64).foldl (jst pa) (jtab pa 0)=jmn pa (dgT k.val 64):=rfl
   rw[ej] at hs4 hs5
   generalize jmn pa (dgT k.val 64)=o at hs4 hs5 ⊢
   refine nrX k L o trivial hs5 fun ac cV aV hs6=>⟨?_⟩
   have hs7:Sim y1.w y1.F (kOwn y1 kAll (markOf D)) ac (nrZ o) cV aV:=hs6
   exact fn_finish rtM_ok hk hF (nrR_end o) trivial (fun y v hd=>hd) hs4 hD hFD hd rfl hs7

end

section

/-- A point outside as often as a number says. -/
def mulG2 (a:G2D) (k:U4):G2D:=outG2 (jmn (inG2 a) (dgT k.val 64))
theorem mulG2_is {a:G2D} (ha:onG2 a=true) (k:U4):mulG2 a k=gP2 (nmul (pG2 a) k.val):=by
 unfold mulG2
 generalize hl:dgT k.val 64=l
 have h:=jmn_ok cv2 (onG2_is ha).2 (inG2_jc a) l
 have e:dgV l=k.val:=by rw[←hl];exact dgV_is k
 rw[e] at h
 exact outG2_jc h
theorem pG2_mul {a:G2D} (ha:onG2 a=true) (k:U4):pG2 (mulG2 a k)=nmul (pG2 a) k.val:=by rw[mulG2_is ha,pG_gP2]
theorem on_mul2 {a:G2D} (ha:onG2 a=true) (k:U4):onG2 (mulG2 a k)=true:=by
 rw[mulG2_is ha]
 exact onG2_gP (nmul_on cv2 (onG2_is ha).2 _)


def many2Spec1:FnSpec
 | [.v (.a [.ob (.p a),.ob (.p b),.ob (.p c),.ob (.p d),.ob (.p e),.ob (.p f)]),.v (.a [.ob (.fr k)])]=>some ([],.v (.a (pt2Its (jmn (F:=F2) ((a,b),(c,d),(e,f)) (dgT k.val 64)))),[])
 | _=>none
def ruA:Env:=rtM.set (addT rtM.fn 44 many2Spec1)
theorem ruA_ok:EnvOk Tryz.prog ruA:=env_add rtM_ok 44 many2Spec1 (enters_of Tryz.func44 rfl rfl) fun args o r es h _=>by
 unfold many2Spec1 at h
 split at h
 ·cases h;exact many2_fnd _ _ _ _ _ _ _
 ·cases h
--@env ruA ruA_ok
/-- What Mul tells. -/
def muR2 (a:G2D) (k:U4):G2D×Int:=if onG2 a then (mulG2 a k,0) else (g20,30)
theorem muR2_on {a:G2D} (k:U4) (ha:onG2 a=true):muR2 a k=(mulG2 a k,0):=by unfold muR2;rw[ha];rfl
theorem muR2_off {a:G2D} (k:U4) (ha:onG2 a=false):muR2 a k=(g20,30):=by unfold muR2;rw[ha];rfl
def ruC:Env:=ruA
theorem ruC_ok:EnvOk Tryz.prog ruC:=ruA_ok
end

section

def ubA:Env:=ruC.or S4.gK
theorem ubA_ok:EnvOk Tryz.prog ubA:=env_or ruC_ok S4.gK_ok
--@env ubA ubA_ok
theorem gtA (a b c d:U6) (i:Bool):fnRes ubA Tryz.f24 3000 [.v (.a [.ob (.fp a),.ob (.fp b),.ob (.fp c),.ob (.fp d),.bool i])] [true] [] []=(some ([((onG2 (G2D.mk a b c d i))=true)],((.ci (.bool (decide ((Prod.snd (Prod.snd (jmn (inG2 (G2D.mk a b c d i)) (dgT 52435875175126190479447740508185965837690552500527637822603658699938581184513 64))))=(0:(Prod (Fin pN) (Fin pN))))))),[]))):=by kernel_rfl
theorem gtB (a b c d:U6) (i:Bool):fnRes ubA Tryz.f24 3000 [.v (.a [.ob (.fp a),.ob (.fp b),.ob (.fp c),.ob (.fp d),.bool i])] [false] [] []=(some ([((onG2 (G2D.mk a b c d i))=false)],((.ci (.lit false)),[]))):=by kernel_rfl
/-- Whether a point is of the group. -/
def grp2 (a:G2D):Bool:=onG2 a && decide ((jmn (inG2 a) (dgT 52435875175126190479447740508185965837690552500527637822603658699938581184513 64)).2.2=0)
theorem grp2_fnd (a b c d:U6) (i:Bool):FnD Tryz.prog 24 [.v (.a [.ob (.fp a),.ob (.fp b),.ob (.fp c),.ob (.fp d),.bool i])] (.v (.c (.bool (grp2 ⟨a,b,c,d,i⟩)))) []:=by
 by_cases h1:onG2 ⟨a,b,c,d,i⟩=true
 ·have e:grp2 ⟨a,b,c,d,i⟩=decide ((jmn (inG2 ⟨a,b,c,d,i⟩) (dgT 52435875175126190479447740508185965837690552500527637822603658699938581184513 64)).2.2=0):=by unfold grp2;rw[h1,Bool.true_and]
  rw[e]
  exact fn_sound ubA_ok Tryz.func24 (gtA a b c d i) ⟨h1,trivial⟩
 ·have h1:onG2 ⟨a,b,c,d,i⟩=false:=Bool.eq_false_iff.2 h1
  have e:grp2 ⟨a,b,c,d,i⟩=false:=by unfold grp2;rw[h1,Bool.false_and]
  rw[e]
  exact (fn_sound ubA_ok Tryz.func24 (gtB a b c d i) ⟨h1,trivial⟩).conv (fun _ _ h=>h) fun y v hd=>lit_bool rfl hd
def grp2Spec:FnSpec
 | [.v (.a [.ob (.fp a),.ob (.fp b),.ob (.fp c),.ob (.fp d),.bool i])]=>some ([],.v (.c (.bool (grp2 ⟨a,b,c,d,i⟩))),[])
 | _=>none
def ubB:Env:=ubA.set (addT ubA.fn 24 grp2Spec)
theorem ubB_ok:EnvOk Tryz.prog ubB:=env_add ubA_ok 24 grp2Spec (enters_of Tryz.func24 rfl rfl) fun args o r es h _=>by
 unfold grp2Spec at h
 split at h
 ·cases h;exact grp2_fnd _ _ _ _ _
 ·cases h
--@env ubB ubB_ok
end

section

/-- u and 1, whose cube root v is; v, whose square root w is. -/
instance nrsF2:Nrs F2:=⟨(1,1)⟩
abbrev F6:=E3 F2
instance nrsF6:Nrs F6:=⟨⟨0,1,0⟩⟩
abbrev F12:=E2 F6
def f6I (x:F6):List It:=[.ob (.p x.a.1),.ob (.p x.a.2),.ob (.p x.b.1),.ob (.p x.b.2),.ob (.p x.c.1),.ob (.p x.c.2)]
def f12I (x:F12):List It:=[.ob (.p x.a.a.1),.ob (.p x.a.a.2),.ob (.p x.a.b.1),.ob (.p x.a.b.2),.ob (.p x.a.c.1),.ob (.p x.a.c.2),.ob (.p x.b.a.1),.ob (.p x.b.a.2),.ob (.p x.b.b.1),.ob (.p x.b.b.2),.ob (.p x.b.c.1),.ob (.p x.b.c.2)]
def shf (x:F2):F2:=(x.1-x.2,x.1+x.2)
def cj2 (x:F2):F2:=(x.1,0-x.2)
def scl (x:F2) (n:Fp):F2:=(x.1*n,x.2*n)
section
variable {r:Nat} [NeZero r]
theorem shf_g (x:Q2 r):((x.1-x.2,x.1+x.2):Q2 r)=(1,1)*x:=q2_ext (by show x.1-x.2=1*x.1-1*x.2;grind) (by show x.1+x.2=1*x.2+1*x.1;grind)
end
section
variable {R:Type} [CRing R] [Nrs R]
def karE3 (x y:E3 R):E3 R:=⟨x.a*y.a+Nrs.xi*((x.b+x.c)*(y.b+y.c)-x.b*y.b-x.c*y.c),(x.a+x.b)*(y.a+y.b)-x.a*y.a-x.b*y.b+Nrs.xi*(x.c*y.c),(x.a+x.c)*(y.a+y.c)-x.a*y.a-x.c*y.c+x.b*y.b⟩
theorem karE3_is (x y:E3 R):karE3 x y=x*y:=by
 refine E3.ext' ?_ ?_ ?_
 ·show x.a*y.a+Nrs.xi*((x.b+x.c)*(y.b+y.c)-x.b*y.b-x.c*y.c)=x.a*y.a+Nrs.xi*(x.b*y.c+x.c*y.b);grind
 ·show (x.a+x.b)*(y.a+y.b)-x.a*y.a-x.b*y.b+Nrs.xi*(x.c*y.c)=x.a*y.b+x.b*y.a+Nrs.xi*(x.c*y.c);grind
 ·show (x.a+x.c)*(y.a+y.c)-x.a*y.a-x.c*y.c+x.b*y.b=x.a*y.c+x.b*y.b+x.c*y.a;grind
def karE2 (x y:E2 R):E2 R:=⟨x.a*y.a+Nrs.xi*(x.b*y.b),(x.a+x.b)*(y.a+y.b)-x.a*y.a-x.b*y.b⟩
theorem karE2_is (x y:E2 R):karE2 x y=x*y:=by
 refine E2.ext' ?_ ?_
 ·show x.a*y.a+Nrs.xi*(x.b*y.b)=x.a*y.a+Nrs.xi*(x.b*y.b);rfl
 ·show (x.a+x.b)*(y.a+y.b)-x.a*y.a-x.b*y.b=x.a*y.b+x.b*y.a;grind
theorem shfE3 (x:E3 R):(⟨Nrs.xi*x.c,x.a,x.b⟩:E3 R)=(⟨0,1,0⟩:E3 R)*x:=by
 refine E3.ext' ?_ ?_ ?_
 ·show Nrs.xi*x.c=0*x.a+Nrs.xi*(1*x.c+0*x.b);grind
 ·show x.a=0*x.b+1*x.a+Nrs.xi*(0*x.c);grind
 ·show x.b=0*x.c+1*x.b+0*x.a;grind
end
def cjp (x:F12):F12:=⟨x.a,0-x.b⟩
def ivp (x:F12):F12:=⟨x.a*invE3 (x.a*x.a-Nrs.xi*(x.b*x.b)),0-x.b*invE3 (x.a*x.a-Nrs.xi*(x.b*x.b))⟩
def uxA:Env:=uaB.or ubB
theorem uxA_ok:EnvOk Tryz.prog uxA:=env_or uaB_ok ubB_ok
--@env uxA uxA_ok
theorem conj2xR (x0 x1:Fp):fnRes uxA Tryz.f115 3000 [.v (.a [.ob (.p x0),.ob (.p x1)])] [] [] []=some ([],.v (.a (f2I (cj2 ((x0,x1):F2)))),[]):=by kernel_rfl
def conj2xSpec:FnSpec
 | [.v (.a [.ob (.p x0),.ob (.p x1)])]=>some ([],.v (.a (f2I (cj2 ((x0,x1):F2)))),[])
 | _=>none
def uxB:Env:=uxA.set (addT uxA.fn 115 conj2xSpec)
theorem uxB_ok:EnvOk Tryz.prog uxB:=env_add uxA_ok 115 conj2xSpec (enters_of Tryz.func115 rfl rfl) fun args o r es h _=>by
 unfold conj2xSpec at h
 split at h
 ·cases h;exact fn_sound uxA_ok Tryz.func115 (conj2xR _ _) trivial
 ·cases h
theorem scal2xR (x0 x1:Fp) (y0:Fp):fnRes uxA Tryz.f137 3000 [.v (.a [.ob (.p x0),.ob (.p x1)]),.v (.a [.ob (.p y0)])] [] [] []=some ([],.v (.a (f2I (scl ((x0,x1):F2) y0))),[]):=by kernel_rfl
def scal2xSpec:FnSpec
 | [.v (.a [.ob (.p x0),.ob (.p x1)]),.v (.a [.ob (.p y0)])]=>some ([],.v (.a (f2I (scl ((x0,x1):F2) y0))),[])
 | _=>none
def uxC:Env:=uxB.set (addT uxB.fn 137 scal2xSpec)
theorem uxC_ok:EnvOk Tryz.prog uxC:=env_add uxB_ok 137 scal2xSpec (enters_of Tryz.func137 rfl rfl) fun args o r es h _=>by
 unfold scal2xSpec at h
 split at h
 ·cases h;exact fn_sound uxA_ok Tryz.func137 (scal2xR _ _ _) trivial
 ·cases h
theorem shif2xR (x0 x1:Fp):fnRes uxA Tryz.f127 3000 [.v (.a [.ob (.p x0),.ob (.p x1)])] [] [] []=some ([],.v (.a (f2I (shf ((x0,x1):F2)))),[]):=by kernel_rfl
theorem shif2xE (x:F2):(shf x:F2)=Nrs.xi*x:=
 shf_g x
theorem shif2x_fnd (x0 x1:Fp):FnD Tryz.prog 127 [.v (.a [.ob (.p x0),.ob (.p x1)])] (.v (.a (f2I (Nrs.xi*((x0,x1):F2))))) []:=by
 have r:=shif2xR x0 x1
 rw[shif2xE] at r
 exact fn_sound uxA_ok Tryz.func127 r trivial
def shif2xSpec:FnSpec
 | [.v (.a [.ob (.p x0),.ob (.p x1)])]=>some ([],.v (.a (f2I (Nrs.xi*((x0,x1):F2)))),[])
 | _=>none
def uxD:Env:=uxC.set (addT uxC.fn 127 shif2xSpec)
theorem uxD_ok:EnvOk Tryz.prog uxD:=env_add uxC_ok 127 shif2xSpec (enters_of Tryz.func127 rfl rfl) fun args o r es h _=>by
 unfold shif2xSpec at h
 split at h
 ·cases h;exact shif2x_fnd _ _
 ·cases h
--@env uxD uxD_ok
theorem plus6xR (x0 x1 x2 x3 x4 x5:Fp) (y0 y1 y2 y3 y4 y5:Fp):fnRes uxD Tryz.f95 3000 [.v (.a [.ob (.p x0),.ob (.p x1),.ob (.p x2),.ob (.p x3),.ob (.p x4),.ob (.p x5)]),.v (.a [.ob (.p y0),.ob (.p y1),.ob (.p y2),.ob (.p y3),.ob (.p y4),.ob (.p y5)])] [] [] []=some ([],.v (.a (f6I ((⟨(x0,x1),(x2,x3),(x4,x5)⟩:F6)+(⟨(y0,y1),(y2,y3),(y4,y5)⟩:F6)))),[]):=by kernel_rfl
def plus6xSpec:FnSpec
 | [.v (.a [.ob (.p x0),.ob (.p x1),.ob (.p x2),.ob (.p x3),.ob (.p x4),.ob (.p x5)]),.v (.a [.ob (.p y0),.ob (.p y1),.ob (.p y2),.ob (.p y3),.ob (.p y4),.ob (.p y5)])]=>some ([],.v (.a (f6I ((⟨(x0,x1),(x2,x3),(x4,x5)⟩:F6)+(⟨(y0,y1),(y2,y3),(y4,y5)⟩:F6)))),[])
 | _=>none
def uxE:Env:=uxD.set (addT uxD.fn 95 plus6xSpec)
theorem uxE_ok:EnvOk Tryz.prog uxE:=env_add uxD_ok 95 plus6xSpec (enters_of Tryz.func95 rfl rfl) fun args o r es h _=>by
 unfold plus6xSpec at h
 split at h
 ·cases h;exact fn_sound uxD_ok Tryz.func95 (plus6xR _ _ _ _ _ _ _ _ _ _ _ _) trivial
 ·cases h
theorem minus6xR (x0 x1 x2 x3 x4 x5:Fp) (y0 y1 y2 y3 y4 y5:Fp):fnRes uxD Tryz.f97 3000 [.v (.a [.ob (.p x0),.ob (.p x1),.ob (.p x2),.ob (.p x3),.ob (.p x4),.ob (.p x5)]),.v (.a [.ob (.p y0),.ob (.p y1),.ob (.p y2),.ob (.p y3),.ob (.p y4),.ob (.p y5)])] [] [] []=some ([],.v (.a (f6I ((⟨(x0,x1),(x2,x3),(x4,x5)⟩:F6)-(⟨(y0,y1),(y2,y3),(y4,y5)⟩:F6)))),[]):=by kernel_rfl
def minus6xSpec:FnSpec
 | [.v (.a [.ob (.p x0),.ob (.p x1),.ob (.p x2),.ob (.p x3),.ob (.p x4),.ob (.p x5)]),.v (.a [.ob (.p y0),.ob (.p y1),.ob (.p y2),.ob (.p y3),.ob (.p y4),.ob (.p y5)])]=>some ([],.v (.a (f6I ((⟨(x0,x1),(x2,x3),(x4,x5)⟩:F6)-(⟨(y0,y1),(y2,y3),(y4,y5)⟩:F6)))),[])
 | _=>none
def uxF:Env:=uxE.set (addT uxE.fn 97 minus6xSpec)
theorem uxF_ok:EnvOk Tryz.prog uxF:=env_add uxE_ok 97 minus6xSpec (enters_of Tryz.func97 rfl rfl) fun args o r es h _=>by
 unfold minus6xSpec at h
 split at h
 ·cases h;exact fn_sound uxD_ok Tryz.func97 (minus6xR _ _ _ _ _ _ _ _ _ _ _ _) trivial
 ·cases h
theorem neg6xR (x0 x1 x2 x3 x4 x5:Fp):fnRes uxD Tryz.f113 3000 [.v (.a [.ob (.p x0),.ob (.p x1),.ob (.p x2),.ob (.p x3),.ob (.p x4),.ob (.p x5)])] [] [] []=some ([],.v (.a (f6I (0-(⟨(x0,x1),(x2,x3),(x4,x5)⟩:F6)))),[]):=by kernel_rfl
def neg6xSpec:FnSpec
 | [.v (.a [.ob (.p x0),.ob (.p x1),.ob (.p x2),.ob (.p x3),.ob (.p x4),.ob (.p x5)])]=>some ([],.v (.a (f6I (0-(⟨(x0,x1),(x2,x3),(x4,x5)⟩:F6)))),[])
 | _=>none
def uxG:Env:=uxF.set (addT uxF.fn 113 neg6xSpec)
theorem uxG_ok:EnvOk Tryz.prog uxG:=env_add uxF_ok 113 neg6xSpec (enters_of Tryz.func113 rfl rfl) fun args o r es h _=>by
 unfold neg6xSpec at h
 split at h
 ·cases h;exact fn_sound uxD_ok Tryz.func113 (neg6xR _ _ _ _ _ _) trivial
 ·cases h
theorem times6xR (x0 x1 x2 x3 x4 x5:Fp) (y0 y1 y2 y3 y4 y5:Fp):fnRes uxD Tryz.f94 3000 [.v (.a [.ob (.p x0),.ob (.p x1),.ob (.p x2),.ob (.p x3),.ob (.p x4),.ob (.p x5)]),.v (.a [.ob (.p y0),.ob (.p y1),.ob (.p y2),.ob (.p y3),.ob (.p y4),.ob (.p y5)])] [] [] []=some ([],.v (.a (f6I (karE3 (⟨(x0,x1),(x2,x3),(x4,x5)⟩:F6) (⟨(y0,y1),(y2,y3),(y4,y5)⟩:F6)))),[]):=by kernel_rfl
theorem times6xE (x:F6) (y:F6):(karE3 x y:F6)=x*y:=
 karE3_is x y
theorem times6x_fnd (x0 x1 x2 x3 x4 x5:Fp) (y0 y1 y2 y3 y4 y5:Fp):FnD Tryz.prog 94 [.v (.a [.ob (.p x0),.ob (.p x1),.ob (.p x2),.ob (.p x3),.ob (.p x4),.ob (.p x5)]),.v (.a [.ob (.p y0),.ob (.p y1),.ob (.p y2),.ob (.p y3),.ob (.p y4),.ob (.p y5)])] (.v (.a (f6I ((⟨(x0,x1),(x2,x3),(x4,x5)⟩:F6)*(⟨(y0,y1),(y2,y3),(y4,y5)⟩:F6))))) []:=by
 have r:=times6xR x0 x1 x2 x3 x4 x5 y0 y1 y2 y3 y4 y5
 rw[times6xE] at r
 exact fn_sound uxD_ok Tryz.func94 r trivial
def times6xSpec:FnSpec
 | [.v (.a [.ob (.p x0),.ob (.p x1),.ob (.p x2),.ob (.p x3),.ob (.p x4),.ob (.p x5)]),.v (.a [.ob (.p y0),.ob (.p y1),.ob (.p y2),.ob (.p y3),.ob (.p y4),.ob (.p y5)])]=>some ([],.v (.a (f6I ((⟨(x0,x1),(x2,x3),(x4,x5)⟩:F6)*(⟨(y0,y1),(y2,y3),(y4,y5)⟩:F6)))),[])
 | _=>none
def uxH:Env:=uxG.set (addT uxG.fn 94 times6xSpec)
theorem uxH_ok:EnvOk Tryz.prog uxH:=env_add uxG_ok 94 times6xSpec (enters_of Tryz.func94 rfl rfl) fun args o r es h _=>by
 unfold times6xSpec at h
 split at h
 ·cases h;exact times6x_fnd _ _ _ _ _ _ _ _ _ _ _ _
 ·cases h
theorem shif6xR (x0 x1 x2 x3 x4 x5:Fp):fnRes uxD Tryz.f96 3000 [.v (.a [.ob (.p x0),.ob (.p x1),.ob (.p x2),.ob (.p x3),.ob (.p x4),.ob (.p x5)])] [] [] []=some ([],.v (.a (f6I (⟨Nrs.xi*(⟨(x0,x1),(x2,x3),(x4,x5)⟩:F6).c,(⟨(x0,x1),(x2,x3),(x4,x5)⟩:F6).a,(⟨(x0,x1),(x2,x3),(x4,x5)⟩:F6).b⟩))),[]):=by kernel_rfl
theorem shif6xE (x:F6):(⟨Nrs.xi*x.c,x.a,x.b⟩:F6)=Nrs.xi*x:=
 shfE3 x
theorem shif6x_fnd (x0 x1 x2 x3 x4 x5:Fp):FnD Tryz.prog 96 [.v (.a [.ob (.p x0),.ob (.p x1),.ob (.p x2),.ob (.p x3),.ob (.p x4),.ob (.p x5)])] (.v (.a (f6I (Nrs.xi*(⟨(x0,x1),(x2,x3),(x4,x5)⟩:F6))))) []:=by
 have r:=shif6xR x0 x1 x2 x3 x4 x5
 rw[shif6xE] at r
 exact fn_sound uxD_ok Tryz.func96 r trivial
def shif6xSpec:FnSpec
 | [.v (.a [.ob (.p x0),.ob (.p x1),.ob (.p x2),.ob (.p x3),.ob (.p x4),.ob (.p x5)])]=>some ([],.v (.a (f6I (Nrs.xi*(⟨(x0,x1),(x2,x3),(x4,x5)⟩:F6)))),[])
 | _=>none
def uxI:Env:=uxH.set (addT uxH.fn 96 shif6xSpec)
theorem uxI_ok:EnvOk Tryz.prog uxI:=env_add uxH_ok 96 shif6xSpec (enters_of Tryz.func96 rfl rfl) fun args o r es h _=>by
 unfold shif6xSpec at h
 split at h
 ·cases h;exact shif6x_fnd _ _ _ _ _ _
 ·cases h
theorem inv6xR (x0 x1 x2 x3 x4 x5:Fp):fnRes uxD Tryz.f114 3000 [.v (.a [.ob (.p x0),.ob (.p x1),.ob (.p x2),.ob (.p x3),.ob (.p x4),.ob (.p x5)])] [] [] []=some ([],.v (.a (f6I (invE3 (⟨(x0,x1),(x2,x3),(x4,x5)⟩:F6)))),[]):=by kernel_rfl
def inv6xSpec:FnSpec
 | [.v (.a [.ob (.p x0),.ob (.p x1),.ob (.p x2),.ob (.p x3),.ob (.p x4),.ob (.p x5)])]=>some ([],.v (.a (f6I (invE3 (⟨(x0,x1),(x2,x3),(x4,x5)⟩:F6)))),[])
 | _=>none
def uxJ:Env:=uxI.set (addT uxI.fn 114 inv6xSpec)
theorem uxJ_ok:EnvOk Tryz.prog uxJ:=env_add uxI_ok 114 inv6xSpec (enters_of Tryz.func114 rfl rfl) fun args o r es h _=>by
 unfold inv6xSpec at h
 split at h
 ·cases h;exact fn_sound uxD_ok Tryz.func114 (inv6xR _ _ _ _ _ _) trivial
 ·cases h
--@env uxJ uxJ_ok
theorem times12xR (x0 x1 x2 x3 x4 x5 x6 x7 x8 x9 x10 x11:Fp) (y0 y1 y2 y3 y4 y5 y6 y7 y8 y9 y10 y11:Fp):fnRes uxJ Tryz.f52 3000 [.v (.a [.ob (.p x0),.ob (.p x1),.ob (.p x2),.ob (.p x3),.ob (.p x4),.ob (.p x5),.ob (.p x6),.ob (.p x7),.ob (.p x8),.ob (.p x9),.ob (.p x10),.ob (.p x11)]),.v (.a [.ob (.p y0),.ob (.p y1),.ob (.p y2),.ob (.p y3),.ob (.p y4),.ob (.p y5),.ob (.p y6),.ob (.p y7),.ob (.p y8),.ob (.p y9),.ob (.p y10),.ob (.p y11)])] [] [] []=some ([],.v (.a (f12I (karE2 (⟨⟨(x0,x1),(x2,x3),(x4,x5)⟩,⟨(x6,x7),(x8,x9),(x10,x11)⟩⟩:F12) (⟨⟨(y0,y1),(y2,y3),(y4,y5)⟩,⟨(y6,y7),(y8,y9),(y10,y11)⟩⟩:F12)))),[]):=by kernel_rfl
theorem times12xE (x:F12) (y:F12):(karE2 x y:F12)=x*y:=
 karE2_is x y
theorem times12x_fnd (x0 x1 x2 x3 x4 x5 x6 x7 x8 x9 x10 x11:Fp) (y0 y1 y2 y3 y4 y5 y6 y7 y8 y9 y10 y11:Fp):FnD Tryz.prog 52 [.v (.a [.ob (.p x0),.ob (.p x1),.ob (.p x2),.ob (.p x3),.ob (.p x4),.ob (.p x5),.ob (.p x6),.ob (.p x7),.ob (.p x8),.ob (.p x9),.ob (.p x10),.ob (.p x11)]),.v (.a [.ob (.p y0),.ob (.p y1),.ob (.p y2),.ob (.p y3),.ob (.p y4),.ob (.p y5),.ob (.p y6),.ob (.p y7),.ob (.p y8),.ob (.p y9),.ob (.p y10),.ob (.p y11)])] (.v (.a (f12I ((⟨⟨(x0,x1),(x2,x3),(x4,x5)⟩,⟨(x6,x7),(x8,x9),(x10,x11)⟩⟩:F12)*(⟨⟨(y0,y1),(y2,y3),(y4,y5)⟩,⟨(y6,y7),(y8,y9),(y10,y11)⟩⟩:F12))))) []:=by
 have r:=times12xR x0 x1 x2 x3 x4 x5 x6 x7 x8 x9 x10 x11 y0 y1 y2 y3 y4 y5 y6 y7 y8 y9 y10 y11
 rw[times12xE] at r
 exact fn_sound uxJ_ok Tryz.func52 r trivial
def times12xSpec:FnSpec
 | [.v (.a [.ob (.p x0),.ob (.p x1),.ob (.p x2),.ob (.p x3),.ob (.p x4),.ob (.p x5),.ob (.p x6),.ob (.p x7),.ob (.p x8),.ob (.p x9),.ob (.p x10),.ob (.p x11)]),.v (.a [.ob (.p y0),.ob (.p y1),.ob (.p y2),.ob (.p y3),.ob (.p y4),.ob (.p y5),.ob (.p y6),.ob (.p y7),.ob (.p y8),.ob (.p y9),.ob (.p y10),.ob (.p y11)])]=>some ([],.v (.a (f12I ((⟨⟨(x0,x1),(x2,x3),(x4,x5)⟩,⟨(x6,x7),(x8,x9),(x10,x11)⟩⟩:F12)*(⟨⟨(y0,y1),(y2,y3),(y4,y5)⟩,⟨(y6,y7),(y8,y9),(y10,y11)⟩⟩:F12)))),[])
 | _=>none
def uxK:Env:=uxJ.set (addT uxJ.fn 52 times12xSpec)
theorem uxK_ok:EnvOk Tryz.prog uxK:=env_add uxJ_ok 52 times12xSpec (enters_of Tryz.func52 rfl rfl) fun args o r es h _=>by
 unfold times12xSpec at h
 split at h
 ·cases h;exact times12x_fnd _ _ _ _ _ _ _ _ _ _ _ _ _ _ _ _ _ _ _ _ _ _ _ _
 ·cases h
theorem conj12xR (x0 x1 x2 x3 x4 x5 x6 x7 x8 x9 x10 x11:Fp):fnRes uxJ Tryz.f69 3000 [.v (.a [.ob (.p x0),.ob (.p x1),.ob (.p x2),.ob (.p x3),.ob (.p x4),.ob (.p x5),.ob (.p x6),.ob (.p x7),.ob (.p x8),.ob (.p x9),.ob (.p x10),.ob (.p x11)])] [] [] []=some ([],.v (.a (f12I (cjp (⟨⟨(x0,x1),(x2,x3),(x4,x5)⟩,⟨(x6,x7),(x8,x9),(x10,x11)⟩⟩:F12)))),[]):=by kernel_rfl
def conj12xSpec:FnSpec
 | [.v (.a [.ob (.p x0),.ob (.p x1),.ob (.p x2),.ob (.p x3),.ob (.p x4),.ob (.p x5),.ob (.p x6),.ob (.p x7),.ob (.p x8),.ob (.p x9),.ob (.p x10),.ob (.p x11)])]=>some ([],.v (.a (f12I (cjp (⟨⟨(x0,x1),(x2,x3),(x4,x5)⟩,⟨(x6,x7),(x8,x9),(x10,x11)⟩⟩:F12)))),[])
 | _=>none
def uxL:Env:=uxK.set (addT uxK.fn 69 conj12xSpec)
theorem uxL_ok:EnvOk Tryz.prog uxL:=env_add uxK_ok 69 conj12xSpec (enters_of Tryz.func69 rfl rfl) fun args o r es h _=>by
 unfold conj12xSpec at h
 split at h
 ·cases h;exact fn_sound uxJ_ok Tryz.func69 (conj12xR _ _ _ _ _ _ _ _ _ _ _ _) trivial
 ·cases h
theorem inv12xR (x0 x1 x2 x3 x4 x5 x6 x7 x8 x9 x10 x11:Fp):fnRes uxJ Tryz.f70 3000 [.v (.a [.ob (.p x0),.ob (.p x1),.ob (.p x2),.ob (.p x3),.ob (.p x4),.ob (.p x5),.ob (.p x6),.ob (.p x7),.ob (.p x8),.ob (.p x9),.ob (.p x10),.ob (.p x11)])] [] [] []=some ([],.v (.a (f12I (ivp (⟨⟨(x0,x1),(x2,x3),(x4,x5)⟩,⟨(x6,x7),(x8,x9),(x10,x11)⟩⟩:F12)))),[]):=by kernel_rfl
def inv12xSpec:FnSpec
 | [.v (.a [.ob (.p x0),.ob (.p x1),.ob (.p x2),.ob (.p x3),.ob (.p x4),.ob (.p x5),.ob (.p x6),.ob (.p x7),.ob (.p x8),.ob (.p x9),.ob (.p x10),.ob (.p x11)])]=>some ([],.v (.a (f12I (ivp (⟨⟨(x0,x1),(x2,x3),(x4,x5)⟩,⟨(x6,x7),(x8,x9),(x10,x11)⟩⟩:F12)))),[])
 | _=>none
def uxM:Env:=uxL.set (addT uxL.fn 70 inv12xSpec)
theorem uxM_ok:EnvOk Tryz.prog uxM:=env_add uxL_ok 70 inv12xSpec (enters_of Tryz.func70 rfl rfl) fun args o r es h _=>by
 unfold inv12xSpec at h
 split at h
 ·cases h;exact fn_sound uxJ_ok Tryz.func70 (inv12xR _ _ _ _ _ _ _ _ _ _ _ _) trivial
 ·cases h
end

section

def turL:List Int:=[1,0,0,0,0,0,0,0,0,0,0,0,10162220747404304312,17761815663483519293,8873291758750579140,1141103941765652303,13993175198059990303,1802798568193066599,3240210268673559283,2895069921743240898,17009126888523054175,6098234018649060207,9865672654120263608,71000049454473266,0,0,0,0,0,0,10087218740379822764,4653388206581612541,9907120269317136283,12253596935368579796,17006226088849104517,1873798617647539865,14416168624775744521,17178867732698629620,8644499054833844677,5204293836692734814,7508032112903159806,481619096434065419,14416168624775744521,17178867732698629620,8644499054833844677,5204293836692734814,7508032112903159806,481619096434065419,10087218740379822765,4653388206581612541,9907120269317136283,12253596935368579796,17006226088849104517,1873798617647539865,0,0,0,0,0,0,11175958356102185238,14283797810955388722,10082116240020342118,17552803891753226222,16089103532492447813,410619046979592152,2226472659975678357,6373087774271371469,15800302407253291197,8133278142371037904,7769744319687806097,1463179570667947713]
def turOb (k:Int):List Prop:=(turL.flatMap fun n=>[0≤n,n<18446744073709551616])++[0≤k,k<6]
theorem allP_lims (e:List Prop) (he:AllP e):∀l:List Int,(l.all fun n=>decide (0≤n) && decide (n<18446744073709551616))=true→AllP ((l.flatMap fun n:Int=>[0≤n,n<18446744073709551616])++e)
 | [],_=>he
 | n::l,h=>by
  simp only[List.all_cons,Bool.and_eq_true,decide_eq_true_eq] at h
  exact ⟨h.1.1,h.1.2,allP_lims e he l h.2⟩
theorem turOk (k:Int) (h1:1≤k) (h2:k≤5):AllP (turOb k):=allP_lims [0≤k,k<6] ⟨by omega,by omega,trivial⟩ turL (by decide)
/-- u and 1, to the power of i (p - 1) / 6. -/
def tur (i:Int):F2:=
 if i=1 then (Fin.ofNat pN 3850754370037169011952147076051364057158807420970682438676050522613628423219637725072182697113062777891589506424760,Fin.ofNat pN 151655185184498381465642749684540099398075398968325446656007613510403227271200139370504932015952886146304766135027) else
 if i=2 then (Fin.ofNat pN 0,Fin.ofNat pN 4002409555221667392624310435006688643935503118305586438271171395842971157480381377015405980053539358417135540939436) else
 if i=3 then (Fin.ofNat pN 1028732146235106349975324479215795277384839936929757896155643118032610843298655225875571310552543014690878354869257,Fin.ofNat pN 1028732146235106349975324479215795277384839936929757896155643118032610843298655225875571310552543014690878354869257) else
 if i=4 then (Fin.ofNat pN 4002409555221667392624310435006688643935503118305586438271171395842971157480381377015405980053539358417135540939437,Fin.ofNat pN 0) else
 if i=5 then (Fin.ofNat pN 877076961050607968509681729531255177986764537961432449499635504522207616027455086505066378536590128544573588734230,Fin.ofNat pN 3125332594171059424908108096204648978570118281977575435832422631601824034463382777937621250592425535493320683825557) else 1
abbrev V6:=E3 (U6×U6)
abbrev V12:=E2 V6
def v6I (x:V6):List It:=[.ob (.fp x.a.1),.ob (.fp x.a.2),.ob (.fp x.b.1),.ob (.fp x.b.2),.ob (.fp x.c.1),.ob (.fp x.c.2)]
def v12I (x:V12):List It:=[.ob (.fp x.a.a.1),.ob (.fp x.a.a.2),.ob (.fp x.a.b.1),.ob (.fp x.a.b.2),.ob (.fp x.a.c.1),.ob (.fp x.a.c.2),.ob (.fp x.b.a.1),.ob (.fp x.b.a.2),.ob (.fp x.b.b.1),.ob (.fp x.b.b.2),.ob (.fp x.b.c.1),.ob (.fp x.b.c.2)]
def out6 (x:F6):V6:=⟨outP2 x.a,outP2 x.b,outP2 x.c⟩
def in6 (x:V6):F6:=⟨inP2 x.a.1 x.a.2,inP2 x.b.1 x.b.2,inP2 x.c.1 x.c.2⟩
def out12 (x:F12):V12:=⟨out6 x.a,out6 x.b⟩
def in12 (x:V12):F12:=⟨in6 x.a,in6 x.b⟩
/-- The power of p. -/
def frb (x:F12):F12:=⟨⟨cj2 x.a.a,cj2 x.a.b*tur 2,cj2 x.a.c*tur 4⟩,⟨cj2 x.b.a*tur 1,cj2 x.b.b*tur 3,cj2 x.b.c*tur 5⟩⟩
def lin (a b c:F2):F12:=⟨⟨a,b,0⟩,⟨0,c,0⟩⟩
/-- The line that touches; the line through two. -/
def tch (t:F2×F2×F2) (x y:Fp):F12:=
 lin ((t.1*t.1+t.1*t.1+t.1*t.1)*t.1-t.2.1*t.2.1-t.2.1*t.2.1) (0-scl ((t.1*t.1+t.1*t.1+t.1*t.1)*(t.2.2*t.2.2)) x) (scl (t.2.1*(t.2.2*t.2.2)*t.2.2+t.2.1*(t.2.2*t.2.2)*t.2.2) y)
def thh (t q:F2×F2×F2):F2:=(q.1*(t.2.2*t.2.2)-t.1)*t.2.2
def thr2D (t q:F2×F2×F2):F2:=q.2.1*(t.2.2*t.2.2)*t.2.2-t.2.1
def thg (t q:F2×F2×F2) (x y:Fp):F12:=lin (thr2D t q*q.1-q.2.1*thh t q) (0-scl (thr2D t q) x) (scl (thh t q) y)
--@env uxM uxM_ok
theorem one12R:fnRes uxM Tryz.f51 3000 [] [] [] []=some ([0≤(1:Int),(1:Int)<18446744073709551616],.v (.a (f12I 1)),[]):=by kernel_rfl
def one12Spec:FnSpec
 | []=>some ([],.v (.a (f12I 1)),[])
 | _=>none
def uxN:Env:=uxM.set (addT uxM.fn 51 one12Spec)
theorem uxN_ok:EnvOk Tryz.prog uxN:=env_add uxM_ok 51 one12Spec (enters_of Tryz.func51 rfl rfl) fun args o r es h _=>by
 unfold one12Spec at h
 split at h
 ·cases h;exact fn_sound uxM_ok Tryz.func51 one12R ⟨by decide,by decide,trivial⟩
 ·cases h
theorem turn1R:fnRes uxM Tryz.f116 3000 [.v (.c (.int .i64 1))] [] [] []=some (turOb 1,.v (.a (f2I (tur 1))),[]):=by kernel_rfl
theorem turn2R:fnRes uxM Tryz.f116 3000 [.v (.c (.int .i64 2))] [] [] []=some (turOb 2,.v (.a (f2I (tur 2))),[]):=by kernel_rfl
theorem turn3R:fnRes uxM Tryz.f116 3000 [.v (.c (.int .i64 3))] [] [] []=some (turOb 3,.v (.a (f2I (tur 3))),[]):=by kernel_rfl
theorem turn4R:fnRes uxM Tryz.f116 3000 [.v (.c (.int .i64 4))] [] [] []=some (turOb 4,.v (.a (f2I (tur 4))),[]):=by kernel_rfl
theorem turn5R:fnRes uxM Tryz.f116 3000 [.v (.c (.int .i64 5))] [] [] []=some (turOb 5,.v (.a (f2I (tur 5))),[]):=by kernel_rfl
theorem turn_fnd (i:Int) (h1:1≤i) (h2:i≤5):FnD Tryz.prog 116 [.v (.c (.int .i64 i))] (.v (.a (f2I (tur i)))) []:=by
 rcases (by omega:i=1∨i=2∨i=3∨i=4∨i=5) with rfl | rfl | rfl | rfl | rfl
 ·exact fn_sound uxM_ok Tryz.func116 turn1R (turOk _ h1 h2)
 ·exact fn_sound uxM_ok Tryz.func116 turn2R (turOk _ h1 h2)
 ·exact fn_sound uxM_ok Tryz.func116 turn3R (turOk _ h1 h2)
 ·exact fn_sound uxM_ok Tryz.func116 turn4R (turOk _ h1 h2)
 ·exact fn_sound uxM_ok Tryz.func116 turn5R (turOk _ h1 h2)
def turnSpec:FnSpec
 | [.v (.c (.int .i64 i))]=>some ([1≤i,i≤5],.v (.a (f2I (tur i))),[])
 | _=>none
def uxO:Env:=uxN.set (addT uxN.fn 116 turnSpec)
theorem uxO_ok:EnvOk Tryz.prog uxO:=env_add uxN_ok 116 turnSpec (enters_of Tryz.func116 rfl rfl) fun args o r es h ho=>by
 unfold turnSpec at h
 split at h
 ·cases h;exact turn_fnd _ ho.1 ho.2.1
 ·cases h
theorem out6xR (x0 x1 x2 x3 x4 x5:Fp):fnRes uxM Tryz.f74 3000 [.v (.a [.ob (.p x0),.ob (.p x1),.ob (.p x2),.ob (.p x3),.ob (.p x4),.ob (.p x5)])] [] [] []=some ([],.v (.a (v6I (out6 (⟨(x0,x1),(x2,x3),(x4,x5)⟩:F6)))),[]):=by kernel_rfl
def out6xSpec:FnSpec
 | [.v (.a [.ob (.p x0),.ob (.p x1),.ob (.p x2),.ob (.p x3),.ob (.p x4),.ob (.p x5)])]=>some ([],.v (.a (v6I (out6 (⟨(x0,x1),(x2,x3),(x4,x5)⟩:F6)))),[])
 | _=>none
def uxP:Env:=uxO.set (addT uxO.fn 74 out6xSpec)
theorem uxP_ok:EnvOk Tryz.prog uxP:=env_add uxO_ok 74 out6xSpec (enters_of Tryz.func74 rfl rfl) fun args o r es h _=>by
 unfold out6xSpec at h
 split at h
 ·cases h;exact fn_sound uxM_ok Tryz.func74 (out6xR _ _ _ _ _ _) trivial
 ·cases h
theorem in6xR (x0 x1 x2 x3 x4 x5:U6):fnRes uxM Tryz.f122 3000 [.v (.a [.ob (.fp x0),.ob (.fp x1),.ob (.fp x2),.ob (.fp x3),.ob (.fp x4),.ob (.fp x5)])] [] [] []=some ([],.v (.a (f6I (in6 (⟨(x0,x1),(x2,x3),(x4,x5)⟩:V6)))),[]):=by kernel_rfl
def in6xSpec:FnSpec
 | [.v (.a [.ob (.fp x0),.ob (.fp x1),.ob (.fp x2),.ob (.fp x3),.ob (.fp x4),.ob (.fp x5)])]=>some ([],.v (.a (f6I (in6 (⟨(x0,x1),(x2,x3),(x4,x5)⟩:V6)))),[])
 | _=>none
def uxQ:Env:=uxP.set (addT uxP.fn 122 in6xSpec)
theorem uxQ_ok:EnvOk Tryz.prog uxQ:=env_add uxP_ok 122 in6xSpec (enters_of Tryz.func122 rfl rfl) fun args o r es h _=>by
 unfold in6xSpec at h
 split at h
 ·cases h;exact fn_sound uxM_ok Tryz.func122 (in6xR _ _ _ _ _ _) trivial
 ·cases h
theorem linexR (x0 x1:Fp) (y0 y1:Fp) (z0 z1:Fp):fnRes uxM Tryz.f136 3000 [.v (.a [.ob (.p x0),.ob (.p x1)]),.v (.a [.ob (.p y0),.ob (.p y1)]),.v (.a [.ob (.p z0),.ob (.p z1)])] [] [] []=some ([],.v (.a (f12I (lin ((x0,x1):F2) ((y0,y1):F2) ((z0,z1):F2)))),[]):=by kernel_rfl
def linexSpec:FnSpec
 | [.v (.a [.ob (.p x0),.ob (.p x1)]),.v (.a [.ob (.p y0),.ob (.p y1)]),.v (.a [.ob (.p z0),.ob (.p z1)])]=>some ([],.v (.a (f12I (lin ((x0,x1):F2) ((y0,y1):F2) ((z0,z1):F2)))),[])
 | _=>none
def uxR:Env:=uxQ.set (addT uxQ.fn 136 linexSpec)
theorem uxR_ok:EnvOk Tryz.prog uxR:=env_add uxQ_ok 136 linexSpec (enters_of Tryz.func136 rfl rfl) fun args o r es h _=>by
 unfold linexSpec at h
 split at h
 ·cases h;exact fn_sound uxM_ok Tryz.func136 (linexR _ _ _ _ _ _) trivial
 ·cases h
--@env uxR uxR_ok
theorem out12xR (x0 x1 x2 x3 x4 x5 x6 x7 x8 x9 x10 x11:Fp):fnRes uxR Tryz.f37 3000 [.v (.a [.ob (.p x0),.ob (.p x1),.ob (.p x2),.ob (.p x3),.ob (.p x4),.ob (.p x5),.ob (.p x6),.ob (.p x7),.ob (.p x8),.ob (.p x9),.ob (.p x10),.ob (.p x11)])] [] [] []=some ([],.v (.a (v12I (out12 (⟨⟨(x0,x1),(x2,x3),(x4,x5)⟩,⟨(x6,x7),(x8,x9),(x10,x11)⟩⟩:F12)))),[]):=by kernel_rfl
def out12xSpec:FnSpec
 | [.v (.a [.ob (.p x0),.ob (.p x1),.ob (.p x2),.ob (.p x3),.ob (.p x4),.ob (.p x5),.ob (.p x6),.ob (.p x7),.ob (.p x8),.ob (.p x9),.ob (.p x10),.ob (.p x11)])]=>some ([],.v (.a (v12I (out12 (⟨⟨(x0,x1),(x2,x3),(x4,x5)⟩,⟨(x6,x7),(x8,x9),(x10,x11)⟩⟩:F12)))),[])
 | _=>none
def uxS:Env:=uxR.set (addT uxR.fn 37 out12xSpec)
theorem uxS_ok:EnvOk Tryz.prog uxS:=env_add uxR_ok 37 out12xSpec (enters_of Tryz.func37 rfl rfl) fun args o r es h _=>by
 unfold out12xSpec at h
 split at h
 ·cases h;exact fn_sound uxR_ok Tryz.func37 (out12xR _ _ _ _ _ _ _ _ _ _ _ _) trivial
 ·cases h
theorem in12xR (x0 x1 x2 x3 x4 x5 x6 x7 x8 x9 x10 x11:U6):fnRes uxR Tryz.f87 3000 [.v (.a [.ob (.fp x0),.ob (.fp x1),.ob (.fp x2),.ob (.fp x3),.ob (.fp x4),.ob (.fp x5),.ob (.fp x6),.ob (.fp x7),.ob (.fp x8),.ob (.fp x9),.ob (.fp x10),.ob (.fp x11)])] [] [] []=some ([],.v (.a (f12I (in12 (⟨⟨(x0,x1),(x2,x3),(x4,x5)⟩,⟨(x6,x7),(x8,x9),(x10,x11)⟩⟩:V12)))),[]):=by kernel_rfl
def in12xSpec:FnSpec
 | [.v (.a [.ob (.fp x0),.ob (.fp x1),.ob (.fp x2),.ob (.fp x3),.ob (.fp x4),.ob (.fp x5),.ob (.fp x6),.ob (.fp x7),.ob (.fp x8),.ob (.fp x9),.ob (.fp x10),.ob (.fp x11)])]=>some ([],.v (.a (f12I (in12 (⟨⟨(x0,x1),(x2,x3),(x4,x5)⟩,⟨(x6,x7),(x8,x9),(x10,x11)⟩⟩:V12)))),[])
 | _=>none
def uxT:Env:=uxS.set (addT uxS.fn 87 in12xSpec)
theorem uxT_ok:EnvOk Tryz.prog uxT:=env_add uxS_ok 87 in12xSpec (enters_of Tryz.func87 rfl rfl) fun args o r es h _=>by
 unfold in12xSpec at h
 split at h
 ·cases h;exact fn_sound uxR_ok Tryz.func87 (in12xR _ _ _ _ _ _ _ _ _ _ _ _) trivial
 ·cases h
theorem frobxR (x0 x1 x2 x3 x4 x5 x6 x7 x8 x9 x10 x11:Fp):fnRes uxR Tryz.f71 3000 [.v (.a [.ob (.p x0),.ob (.p x1),.ob (.p x2),.ob (.p x3),.ob (.p x4),.ob (.p x5),.ob (.p x6),.ob (.p x7),.ob (.p x8),.ob (.p x9),.ob (.p x10),.ob (.p x11)])] [] [] []=some ([1≤(2:Int),(2:Int)≤5,1≤(4:Int),(4:Int)≤5,1≤(1:Int),(1:Int)≤5,1≤(3:Int),(3:Int)≤5,1≤(5:Int),(5:Int)≤5],.v (.a (f12I (frb (⟨⟨(x0,x1),(x2,x3),(x4,x5)⟩,⟨(x6,x7),(x8,x9),(x10,x11)⟩⟩:F12)))),[]):=by kernel_rfl
def frobxSpec:FnSpec
 | [.v (.a [.ob (.p x0),.ob (.p x1),.ob (.p x2),.ob (.p x3),.ob (.p x4),.ob (.p x5),.ob (.p x6),.ob (.p x7),.ob (.p x8),.ob (.p x9),.ob (.p x10),.ob (.p x11)])]=>some ([],.v (.a (f12I (frb (⟨⟨(x0,x1),(x2,x3),(x4,x5)⟩,⟨(x6,x7),(x8,x9),(x10,x11)⟩⟩:F12)))),[])
 | _=>none
def uxU:Env:=uxT.set (addT uxT.fn 71 frobxSpec)
theorem uxU_ok:EnvOk Tryz.prog uxU:=env_add uxT_ok 71 frobxSpec (enters_of Tryz.func71 rfl rfl) fun args o r es h _=>by
 unfold frobxSpec at h
 split at h
 ·cases h;exact fn_sound uxR_ok Tryz.func71 (frobxR _ _ _ _ _ _ _ _ _ _ _ _) ⟨by decide,by decide,by decide,by decide,by decide,by decide,by decide,by decide,by decide,by decide,trivial⟩
 ·cases h
theorem touchxR (x0 x1 x2 x3 x4 x5:Fp) (y0:Fp) (z0:Fp):fnRes uxR Tryz.f118 3000 [.v (.a [.ob (.p x0),.ob (.p x1),.ob (.p x2),.ob (.p x3),.ob (.p x4),.ob (.p x5)]),.v (.a [.ob (.p y0)]),.v (.a [.ob (.p z0)])] [] [] []=some ([],.v (.a (f12I (tch ((x0,x1),(x2,x3),(x4,x5)) y0 z0))),[]):=by kernel_rfl
def touchxSpec:FnSpec
 | [.v (.a [.ob (.p x0),.ob (.p x1),.ob (.p x2),.ob (.p x3),.ob (.p x4),.ob (.p x5)]),.v (.a [.ob (.p y0)]),.v (.a [.ob (.p z0)])]=>some ([],.v (.a (f12I (tch ((x0,x1),(x2,x3),(x4,x5)) y0 z0))),[])
 | _=>none
def uxV:Env:=uxU.set (addT uxU.fn 118 touchxSpec)
theorem uxV_ok:EnvOk Tryz.prog uxV:=env_add uxU_ok 118 touchxSpec (enters_of Tryz.func118 rfl rfl) fun args o r es h _=>by
 unfold touchxSpec at h
 split at h
 ·cases h;exact fn_sound uxR_ok Tryz.func118 (touchxR _ _ _ _ _ _ _ _) trivial
 ·cases h
theorem thruxR (x0 x1 x2 x3 x4 x5:Fp) (y0 y1 y2 y3 y4 y5:Fp) (z0:Fp) (w0:Fp):fnRes uxR Tryz.f119 3000 [.v (.a [.ob (.p x0),.ob (.p x1),.ob (.p x2),.ob (.p x3),.ob (.p x4),.ob (.p x5)]),.v (.a [.ob (.p y0),.ob (.p y1),.ob (.p y2),.ob (.p y3),.ob (.p y4),.ob (.p y5)]),.v (.a [.ob (.p z0)]),.v (.a [.ob (.p w0)])] [] [] []=some ([],.v (.a (f12I (thg ((x0,x1),(x2,x3),(x4,x5)) ((y0,y1),(y2,y3),(y4,y5)) z0 w0))),[]):=by kernel_rfl
def thruxSpec:FnSpec
 | [.v (.a [.ob (.p x0),.ob (.p x1),.ob (.p x2),.ob (.p x3),.ob (.p x4),.ob (.p x5)]),.v (.a [.ob (.p y0),.ob (.p y1),.ob (.p y2),.ob (.p y3),.ob (.p y4),.ob (.p y5)]),.v (.a [.ob (.p z0)]),.v (.a [.ob (.p w0)])]=>some ([],.v (.a (f12I (thg ((x0,x1),(x2,x3),(x4,x5)) ((y0,y1),(y2,y3),(y4,y5)) z0 w0))),[])
 | _=>none
def uxW:Env:=uxV.set (addT uxV.fn 119 thruxSpec)
theorem uxW_ok:EnvOk Tryz.prog uxW:=env_add uxV_ok 119 thruxSpec (enters_of Tryz.func119 rfl rfl) fun args o r es h _=>by
 unfold thruxSpec at h
 split at h
 ·cases h;exact fn_sound uxR_ok Tryz.func119 (thruxR _ _ _ _ _ _ _ _ _ _ _ _ _ _) trivial
 ·cases h
end

section
section
variable {w0:World} {F0:Nat→Prop} {K:Kp} {ac:List Act} {Q:Exit→Act→World→Prop} {cX:Ctx} {aX:Act}

instance inhF12:Inhabited F12:=⟨1⟩
theorem meth83_Times (v : Value) (w : World) : (method (Tryz.prog.types.size + Made.depth) 83 v "Times").run Tryz.prog w = .ok (52, v) w := by kernel_rfl
def inv12T (T : Nat → Option (List (String × Nat))) (t : Nat) : Option (List (String × Nat)) := if t = 83 then some [("Times", 52)] else T t
def uyA:Env:={ uxW with inv:=inv12T uxW.inv }
theorem uyA_ok:EnvOk Tryz.prog uyA:=by
 refine ⟨uxW_ok.ty,uxW_ok.mixed,uxW_ok.fn,uxW_ok.mu,uxW_ok.inl,uxW_ok.ex,fun t l h=>?_⟩
 have h:inv12T uxW.inv t=some l:=h
 unfold inv12T at h
 split at h
 ·rename_i ht
  cases h
  subst ht
  refine ⟨by kernel_rfl,fun name g hg v args w=>?_⟩
  unfold lookM at hg
  split at hg
  ·rename_i hn
   cases hg
   subst hn
   simp only[callMethod,Sem.run_bind,run_program,Result.andThen_ok,meth83_Times]
  cases hg
 ·exact uxW_ok.inv t l h
--@env uyA uyA_ok
def pq_k:List KI:=(run uyA false 3000 ((fun (a u:F12) (e:List Int)=>(⟨[.code (bodyOf Tryz.f117)],.normal,initSt Tryz.f117.ntmps [.v (.a (f12I a)),.v (.a (f12I u)),.v (.c (.sl (.u64 e)))]⟩:Cfg)) default default default) []).cfg.k
theorem pq (a u:F12) (e:List Int) (ho:AllP []):Sg Tryz.prog (initSt Tryz.f117.ntmps [.v (.a (f12I a)),.v (.a (f12I u)),.v (.c (.sl (.u64 e)))]) (mkSt 23 [3,6,7,11] [.pt 16 0,.pt 48 0,.pt 80 0,(.ci (.clo 123 [(128,0)]))] [16,48,80,128] [(eF_ (f12I a)),(eF_ [(.ob (.p (0:Fp))),(.ob (.p (0:Fp))),(.ob (.p (0:Fp))),(.ob (.p (0:Fp))),(.ob (.p (0:Fp))),(.ob (.p (0:Fp))),(.ob (.p (0:Fp))),(.ob (.p (0:Fp))),(.ob (.p (0:Fp))),(.ob (.p (0:Fp))),(.ob (.p (0:Fp))),(.ob (.p (0:Fp)))]),(eF_ (f12I u)),(eF_ [.sl (.u64 e)])] 192 [] []) .normal (pq_k) ([.code (bodyOf Tryz.f117)]):=fun hs hK=>
 run_at2 (unroll:=false) (n:=3000) (path:=[]) (o:=⟨_,_,_,_,_,_,_⟩) uyA_ok (by kernel_rfl) (by kernel_rfl) ho hs hK
def pqS (a:F12) (e:List Int) (o:F12):St:=mkSt 23 [3,6,7,11] [.pt 16 0,.pt 48 0,.pt 80 0,(.ci (.clo 123 [(128,0)]))] [16,48,80,128] [(eF_ (f12I a)),(eF_ [(.ob (.p (0:Fp))),(.ob (.p (0:Fp))),(.ob (.p (0:Fp))),(.ob (.p (0:Fp))),(.ob (.p (0:Fp))),(.ob (.p (0:Fp))),(.ob (.p (0:Fp))),(.ob (.p (0:Fp))),(.ob (.p (0:Fp))),(.ob (.p (0:Fp))),(.ob (.p (0:Fp))),(.ob (.p (0:Fp)))]),some (.fl (f12I o)),(eF_ [.sl (.u64 e)])] 192 [] []
theorem pqA (a:F12) (e:List Int) (o:F12) (z:Bool) {ρ:Option Nat} (ho:AllP []) (hs:Sim w0 F0 K ac (roundSt (pqS a e o) [(12,.v (.c (.bool z)))]) cX aX) (hK:∀cY aY,Sim w0 F0 K ac (mkSt 23 [3,6,7,8] [.pt 16 0,.pt 48 0,.pt 80 0,(.ci (.bool z))] [16,48,80,128] [(eF_ (f12I a)),(eF_ [(.ob (.p (0:Fp))),(.ob (.p (0:Fp))),(.ob (.p (0:Fp))),(.ob (.p (0:Fp))),(.ob (.p (0:Fp))),(.ob (.p (0:Fp))),(.ob (.p (0:Fp))),(.ob (.p (0:Fp))),(.ob (.p (0:Fp))),(.ob (.p (0:Fp))),(.ob (.p (0:Fp))),(.ob (.p (0:Fp)))]),(eF_ (f12I o)),(eF_ [.sl (.u64 e)])] 208 [[3,6,7,11]] [([.pt 16 0,.pt 48 0,.pt 80 0,(.ci (.clo 123 [(128,0)]))],23)]) cY aY→Wq Tryz.prog Q ([]) ac Exit.normal aY cY.w ρ):Wq Tryz.prog Q ([.code (rfA pq_k)]) ac .normal aX cX.w ρ :=
 run_atT (unroll:=false) (n:=3000) (path:=[]) (o:=⟨_,_,_,_,_,_,_⟩) uyA_ok (by kernel_rfl) (by kernel_rfl) ho (by kernel_rfl) (by kernel_rfl) hs hK
def pqB (a:F12) (e:List Int) (o:F12) (z:Bool):St:=mkSt 23 [3,6,7,8] [.pt 16 0,.pt 48 0,.pt 80 0,(.ci (.bool z))] [16,48,80,128] [(eF_ (f12I a)),(eF_ [(.ob (.p (0:Fp))),(.ob (.p (0:Fp))),(.ob (.p (0:Fp))),(.ob (.p (0:Fp))),(.ob (.p (0:Fp))),(.ob (.p (0:Fp))),(.ob (.p (0:Fp))),(.ob (.p (0:Fp))),(.ob (.p (0:Fp))),(.ob (.p (0:Fp))),(.ob (.p (0:Fp))),(.ob (.p (0:Fp)))]),some (.fl (f12I o)),(eF_ [.sl (.u64 e)])] 208 [[3,6,7,11]] [([.pt 16 0,.pt 48 0,.pt 80 0,(.ci (.clo 123 [(128,0)]))],23)]
theorem pqC (a:F12) (e:List Int) (o:F12) (z:Bool) {ρ:Option Nat} (ho:AllP [(z=true)]) (hs:Sim w0 F0 K ac (pqB a e o z) cX aX) (hK:∀cY aY,Sim w0 F0 K ac (mkSt 23 [6] [.pt 48 0] [16,48,80,128] [(eF_ (f12I a)),(eF_ [(.ob (.p (0:Fp))),(.ob (.p (0:Fp))),(.ob (.p (0:Fp))),(.ob (.p (0:Fp))),(.ob (.p (0:Fp))),(.ob (.p (0:Fp))),(.ob (.p (0:Fp))),(.ob (.p (0:Fp))),(.ob (.p (0:Fp))),(.ob (.p (0:Fp))),(.ob (.p (0:Fp))),(.ob (.p (0:Fp)))]),(eF_ (f12I ((o*o)*(E2.mk (E3.mk ((Prod.fst (E3.a (E2.a a))),(Prod.snd (E3.a (E2.a a)))) ((Prod.fst (E3.b (E2.a a))),(Prod.snd (E3.b (E2.a a)))) ((Prod.fst (E3.c (E2.a a))),(Prod.snd (E3.c (E2.a a))))) (E3.mk ((Prod.fst (E3.a (E2.b a))),(Prod.snd (E3.a (E2.b a)))) ((Prod.fst (E3.b (E2.b a))),(Prod.snd (E3.b (E2.b a)))) ((Prod.fst (E3.c (E2.b a))),(Prod.snd (E3.c (E2.b a))))))))),(eF_ [.sl (.u64 e)])] 384 [[3,6,7,11]] [([.pt 16 0,.pt 48 0,.pt 80 0,(.ci (.clo 123 [(128,0)]))],23)]) cY aY→Wq Tryz.prog Q ([]) ac Exit.normal aY cY.w ρ):Wq Tryz.prog Q ([.code (rfB pq_k)]) ac .normal aX cX.w ρ :=
 run_atT (unroll:=false) (n:=3000) (path:=[true]) (o:=⟨_,_,_,_,_,_,_⟩) uyA_ok (by kernel_rfl) (by kernel_rfl) ho (by kernel_rfl) (by kernel_rfl) hs hK
theorem pqD (a:F12) (e:List Int) (o:F12) (z:Bool) {ρ:Option Nat} (ho:AllP [(z=false)]) (hs:Sim w0 F0 K ac (pqB a e o z) cX aX) (hK:∀cY aY,Sim w0 F0 K ac (mkSt 23 [6] [.pt 48 0] [16,48,80,128] [(eF_ (f12I a)),(eF_ [(.ob (.p (0:Fp))),(.ob (.p (0:Fp))),(.ob (.p (0:Fp))),(.ob (.p (0:Fp))),(.ob (.p (0:Fp))),(.ob (.p (0:Fp))),(.ob (.p (0:Fp))),(.ob (.p (0:Fp))),(.ob (.p (0:Fp))),(.ob (.p (0:Fp))),(.ob (.p (0:Fp))),(.ob (.p (0:Fp)))]),(eF_ (f12I (o*o))),(eF_ [.sl (.u64 e)])] 304 [[3,6,7,11]] [([.pt 16 0,.pt 48 0,.pt 80 0,(.ci (.clo 123 [(128,0)]))],23)]) cY aY→Wq Tryz.prog Q ([]) ac Exit.normal aY cY.w ρ):Wq Tryz.prog Q ([.code (rfB pq_k)]) ac .normal aX cX.w ρ :=
 run_atT (unroll:=false) (n:=3000) (path:=[false]) (o:=⟨_,_,_,_,_,_,_⟩) uyA_ok (by kernel_rfl) (by kernel_rfl) ho (by kernel_rfl) (by kernel_rfl) hs hK
theorem pqX (a:F12) (e:List Int) (o:F12) (ho:AllP []):Sg Tryz.prog (pqS a e o) (mkSt 23 [6] [.pt 48 0] [48] [(eF_ (f12I o))] 224 [] []) .ret ([]) (rfR pq_k):=fun hs hK=>
 run_at2 (unroll:=false) (n:=3000) (path:=[]) (o:=⟨_,_,_,_,_,_,_⟩) uyA_ok (by kernel_rfl) (by kernel_rfl) ho hs hK
def pqE (a:F12) (e:List Int) (o:F12):St:=mkSt 23 [6] [.pt 48 0] [16,48,80,128] [(eF_ (f12I a)),(eF_ [(.ob (.p (0:Fp))),(.ob (.p (0:Fp))),(.ob (.p (0:Fp))),(.ob (.p (0:Fp))),(.ob (.p (0:Fp))),(.ob (.p (0:Fp))),(.ob (.p (0:Fp))),(.ob (.p (0:Fp))),(.ob (.p (0:Fp))),(.ob (.p (0:Fp))),(.ob (.p (0:Fp))),(.ob (.p (0:Fp)))]),some (.fl (f12I o)),(eF_ [.sl (.u64 e)])] 384 [[3,6,7,11]] [([.pt 16 0,.pt 48 0,.pt 80 0,(.ci (.clo 123 [(128,0)]))],23)]
def pqZ (o:F12):St:=mkSt 23 [6] [.pt 48 0] [48] [some (.fl (f12I o))] 224 [] []
theorem pqR_end (o:F12):runEnd uyA Tryz.f117 false 3000 (⟨[],.ret,pqZ o⟩) [] [] []=(some ([],((.v (.a (f12I o))),[]))):=by kernel_rfl
end
end

section

section
variable {G:Type} [CRing G]
theorem gpow_add (g:G) (m:Nat):∀n,gpow g (m+n)=gpow g m*gpow g n
 | 0=>by show gpow g m=gpow g m*1;grind
 | n+1=>by
  show gpow g (m+n)*g=gpow g m*(gpow g n*g)
  rw[gpow_add g m n];grind
theorem gpow_bit (g:G) (l:List Bool) (z:Bool):gpow g (pv (l++[z]))=if z=true then gpow g (pv l)*gpow g (pv l)*g else gpow g (pv l)*gpow g (pv l):=by
 rw[pv_snoc,Nat.two_mul]
 cases z with
 | true=>
  rw[if_pos rfl,←gpow_add]
  rfl
 | false=>
  rw[if_neg (by decide),←gpow_add]
  rfl
end

theorem power12_fnd (a:F12) (e:List Int) (hl:e.length≤16) (hlim:lims e) :
  FnD Tryz.prog 117 [.v (.a (f12I a)),.v (.a (f12I 1)),.v (.c (.sl (.u64 e)))] (.v (.a (f12I (gpow a (numL e))))) []:=by
 refine fn_start_m (fn:=Tryz.f117) (c:=bodyOf Tryz.f117) Tryz.func117 rfl rfl fun x b hk hF hs=>?_
 refine pq a 1 e trivial hs fun ac cY aY hs1=>?_
 obtain ⟨e1,e2⟩:=isRf_eq (k:=pq_k) (by kernel_rfl)
 rw[e1]
 have eP:(rfP pq_k).toList=[12]:=by kernel_rfl
 have eG:rfG pq_k = .tmp 11:=by kernel_rfl
 refine range_rule (ps:=rfP pq_k) e2 hs1 (gf:=123) (caps:=[(128,0)]) (enters_of Tryz.func123 rfl rfl) (fun pre=>pqS a e (gpow a (pv pre))) (fun s=>by rw[eG];rfl) ⟨_,rfl⟩ (btL (numL e) (bitsC e e.length) (bitsC e e.length)) btVals btEnc
  (fun y z=>.cons ⟨rfl,0,rfl⟩ .nil) (fun z=>by rw[←Array.length_toList,eP];rfl) (fun pre p hp=>?_) (bits_iter hl hlim fun s=>rfl) (fun pre z=>pqB a e (gpow a (pv pre)) z)
  (fun pre z=>pqE a e (gpow a (pv (pre++[z])))) (fun pre z=>⟨_,rfl⟩) (fun pre z hz w1 F1 K1 as1 Q1 l y b hs2 hQ=>?_) (fun pre z hz w1 F1 K1 as1 Q1 l y b hs2 hQ=>?_) fun D y hs2 hD hFD hd=>?_
 ·rw[eP] at hp
  have h23:(pqS a e (gpow a (pv pre))).nt=23:=rfl
  rw[h23]
  simp only[List.mem_cons,List.not_mem_nil,or_false] at hp
  subst hp
  decide
 ·rw[eP] at hs2
  exact pqA a e _ z trivial hs2 fun cZ aZ hs3=>⟨hQ _ _ (hs3.nx _)⟩
 ·rw[gpow_bit] at hQ
  cases z with
  | true=>exact pqC a e _ true ⟨rfl,trivial⟩ hs2 fun cZ aZ hs3=>⟨hQ _ _ (hs3.nx _)⟩
  | false=>exact pqD a e _ false ⟨rfl,trivial⟩ hs2 fun cZ aZ hs3=>⟨hQ _ _ (hs3.nx _)⟩
 ·have hs3:=hs2.marked rfl rfl D
  have hN:numL e<2 ^ bitsC e e.length:=by
   have:=numL_lt hlim e.length (Nat.le_refl _)
   rwa [List.take_length] at this
  rw[pv_bits hN _ (Nat.le_refl _),Nat.sub_self,Nat.pow_zero,Nat.div_one] at hs2 hs3
  generalize gpow a (numL e)=o at hs2 hs3 ⊢
  refine pqX a e o trivial hs3 fun ac cV aV hs6=>⟨?_⟩
  have hs7:Sim y.w y.F (kOwn y kAll (markOf D)) ac (pqZ o) cV aV:=hs6
  exact fn_finish uyA_ok hk hF (pqR_end o) trivial (fun y v hd=>hd) hs2 hD hFD hd rfl hs7

end

section
section
variable {w0:World} {F0:Nat→Prop} {K:Kp} {ac:List Act} {Q:Exit→Act→World→Prop} {cX:Ctx} {aX:Act}

theorem power12_fnd2 (a u:F12) (e:List Int) (hu:u=1) (hl:e.length≤16) (hlim:lims e) :
  FnD Tryz.prog 117 [.v (.a (f12I a)),.v (.a (f12I u)),.v (.c (.sl (.u64 e)))] (.v (.a (f12I (gpow a (numL e))))) []:=by
 subst hu
 exact power12_fnd a e hl hlim
theorem power12_fnd3 (x0 x1 x2 x3 x4 x5 x6 x7 x8 x9 x10 x11 y0 y1 y2 y3 y4 y5 y6 y7 y8 y9 y10 y11:Fp) (e:List Int) (hu:(⟨⟨(y0,y1),(y2,y3),(y4,y5)⟩,⟨(y6,y7),(y8,y9),(y10,y11)⟩⟩:F12)=1) (hl:e.length≤16) (hlim:lims e) :
  FnD Tryz.prog 117 [.v (.a [.ob (.p x0),.ob (.p x1),.ob (.p x2),.ob (.p x3),.ob (.p x4),.ob (.p x5),.ob (.p x6),.ob (.p x7),.ob (.p x8),.ob (.p x9),.ob (.p x10),.ob (.p x11)]),.v (.a [.ob (.p y0),.ob (.p y1),.ob (.p y2),.ob (.p y3),.ob (.p y4),.ob (.p y5),.ob (.p y6),.ob (.p y7),.ob (.p y8),.ob (.p y9),.ob (.p y10),.ob (.p y11)]),.v (.c (.sl (.u64 e)))] (.v (.a (f12I (gpow (⟨⟨(x0,x1),(x2,x3),(x4,x5)⟩,⟨(x6,x7),(x8,x9),(x10,x11)⟩⟩:F12) (numL e))))) []:=power12_fnd2 (⟨⟨(x0,x1),(x2,x3),(x4,x5)⟩,⟨(x6,x7),(x8,x9),(x10,x11)⟩⟩:F12) (⟨⟨(y0,y1),(y2,y3),(y4,y5)⟩,⟨(y6,y7),(y8,y9),(y10,y11)⟩⟩:F12) e hu hl hlim
def power12Spec:FnSpec
 | [.v (.a [.ob (.p x0),.ob (.p x1),.ob (.p x2),.ob (.p x3),.ob (.p x4),.ob (.p x5),.ob (.p x6),.ob (.p x7),.ob (.p x8),.ob (.p x9),.ob (.p x10),.ob (.p x11)]),.v (.a [.ob (.p y0),.ob (.p y1),.ob (.p y2),.ob (.p y3),.ob (.p y4),.ob (.p y5),.ob (.p y6),.ob (.p y7),.ob (.p y8),.ob (.p y9),.ob (.p y10),.ob (.p y11)]),.v (.c (.sl (.u64 e)))]=>some ([(⟨⟨(y0,y1),(y2,y3),(y4,y5)⟩,⟨(y6,y7),(y8,y9),(y10,y11)⟩⟩:F12)=1,e.length≤16,lims e],.v (.a (f12I (gpow (⟨⟨(x0,x1),(x2,x3),(x4,x5)⟩,⟨(x6,x7),(x8,x9),(x10,x11)⟩⟩:F12) (numL e)))),[])
 | _=>none
def uyB:Env:=uyA.set (addT uyA.fn 117 power12Spec)
theorem uyB_ok:EnvOk Tryz.prog uyB:=env_add uyA_ok 117 power12Spec (enters_of Tryz.func117 rfl rfl) fun args o r es h ho=>by
 unfold power12Spec at h
 split at h
 ·cases h;exact power12_fnd3 _ _ _ _ _ _ _ _ _ _ _ _ _ _ _ _ _ _ _ _ _ _ _ _ _ ho.1 ho.2.1 ho.2.2.1
 ·cases h
--@env uyB uyB_ok
theorem pow45R (a:F12) (n:Int):fnRes uyB Tryz.f72 3000 [.v (.a (f12I a)),.v (.c (.int .u64 n))] [] [] []=(some ([(0=0),(1=1),(1=1),((1:F12)=(1:(E2 F6))),(1≤16),(lims [n])],((.v (.a (f12I (gpow a (numL [n]))))),[]))):=by kernel_rfl
theorem gpi_ex:∃f:F12→Int→F12,∀x n,f x n=gpow x n.toNat:=⟨fun x n=>gpow x n.toNat,fun _ _=>rfl⟩
/-- A power with a number, that the kernel does not work out. -/
def gpi:F12→Int→F12:=Classical.choose gpi_ex
theorem gpi_is (x:F12) (n:Int):gpi x n=gpow x n.toNat:=Classical.choose_spec gpi_ex x n
theorem numL_one (n:Int):numL [n]=n.toNat:=by
 show n.toNat+18446744073709551616*0=_
 omega
theorem pow45_fnd (x0 x1 x2 x3 x4 x5 x6 x7 x8 x9 x10 x11:Fp) (n:Int) (h0:0≤n) (h1:n<18446744073709551616):FnD Tryz.prog 72 [.v (.a [.ob (.p x0),.ob (.p x1),.ob (.p x2),.ob (.p x3),.ob (.p x4),.ob (.p x5),.ob (.p x6),.ob (.p x7),.ob (.p x8),.ob (.p x9),.ob (.p x10),.ob (.p x11)]),.v (.c (.int .u64 n))] (.v (.a (f12I (gpi (⟨⟨(x0,x1),(x2,x3),(x4,x5)⟩,⟨(x6,x7),(x8,x9),(x10,x11)⟩⟩:F12) n)))) []:=by
 have r:=pow45R (⟨⟨(x0,x1),(x2,x3),(x4,x5)⟩,⟨(x6,x7),(x8,x9),(x10,x11)⟩⟩:F12) n
 rw[numL_one,←gpi_is] at r
 refine fn_sound uyB_ok Tryz.func72 r ⟨rfl,rfl,rfl,rfl,by decide,fun x hx=>?_,trivial⟩
 simp only[List.mem_cons,List.not_mem_nil,or_false] at hx
 subst hx
 exact ⟨h0,h1⟩
def pow45Spec:FnSpec
 | [.v (.a [.ob (.p x0),.ob (.p x1),.ob (.p x2),.ob (.p x3),.ob (.p x4),.ob (.p x5),.ob (.p x6),.ob (.p x7),.ob (.p x8),.ob (.p x9),.ob (.p x10),.ob (.p x11)]),.v (.c (.int .u64 n))]=>some ([0≤n,n<18446744073709551616],.v (.a (f12I (gpi (⟨⟨(x0,x1),(x2,x3),(x4,x5)⟩,⟨(x6,x7),(x8,x9),(x10,x11)⟩⟩:F12) n))),[])
 | _=>none
def uyC:Env:=uyB.set (addT uyB.fn 72 pow45Spec)
theorem uyC_ok:EnvOk Tryz.prog uyC:=env_add uyB_ok 72 pow45Spec (enters_of Tryz.func72 rfl rfl) fun args o r es h ho=>by
 unfold pow45Spec at h
 split at h
 ·cases h;exact pow45_fnd _ _ _ _ _ _ _ _ _ _ _ _ _ ho.1 ho.2.1
 ·cases h
--@env uyC uyC_ok
def fiA_k:List KI:=(run uyC false 7 ((fun (f:F12)=>(⟨[.code (bodyOf Tryz.f35)],.normal,initSt Tryz.f35.ntmps [.v (.a (f12I f))]⟩:Cfg)) default) []).cfg.k
section
variable (f:F12)
theorem fiA (ho:AllP []):Sg Tryz.prog (initSt Tryz.f35.ntmps [.v (.a (f12I f))]) (mkSt 37 [1,2] [.pt 16 0,.pt 32 0] [16,32] [(eF_ (f12I ((cjp f)*(ivp f)))),(eF_ [(.ob (.p (0:Fp))),(.ob (.p (0:Fp))),(.ob (.p (0:Fp))),(.ob (.p (0:Fp))),(.ob (.p (0:Fp))),(.ob (.p (0:Fp))),(.ob (.p (0:Fp))),(.ob (.p (0:Fp))),(.ob (.p (0:Fp))),(.ob (.p (0:Fp))),(.ob (.p (0:Fp))),(.ob (.p (0:Fp)))])] 144 [] []) .normal (fiA_k) ([.code (bodyOf Tryz.f35)]):=fun hs hK=>
 run_at2 (unroll:=false) (n:=7) (path:=[]) (o:=⟨_,_,_,_,_,_,_⟩) uyC_ok (by kernel_rfl) (by kernel_rfl) ho hs hK
def fiS (f:F12):St:=mkSt 37 [1,2] [.pt 16 0,.pt 32 0] [16,32] [some (.fl (f12I f)),(eF_ [(.ob (.p (0:Fp))),(.ob (.p (0:Fp))),(.ob (.p (0:Fp))),(.ob (.p (0:Fp))),(.ob (.p (0:Fp))),(.ob (.p (0:Fp))),(.ob (.p (0:Fp))),(.ob (.p (0:Fp))),(.ob (.p (0:Fp))),(.ob (.p (0:Fp))),(.ob (.p (0:Fp))),(.ob (.p (0:Fp)))])] 144 [] []
def fiB_k:List KI:=(run uyC false 2 ((fun (f:F12)=>(⟨fiA_k,.normal,fiS f⟩:Cfg)) default) []).cfg.k
theorem fiB (ho:AllP []):Sg Tryz.prog (fiS f) (mkSt 37 [1,2] [.pt 16 0,.pt 32 0] [16,32] [(eF_ (f12I ((frb (frb f))*f))),(eF_ [(.ob (.p (0:Fp))),(.ob (.p (0:Fp))),(.ob (.p (0:Fp))),(.ob (.p (0:Fp))),(.ob (.p (0:Fp))),(.ob (.p (0:Fp))),(.ob (.p (0:Fp))),(.ob (.p (0:Fp))),(.ob (.p (0:Fp))),(.ob (.p (0:Fp))),(.ob (.p (0:Fp))),(.ob (.p (0:Fp)))])] 240 [] []) .normal (fiB_k) (fiA_k):=fun hs hK=>
 run_at2 (unroll:=false) (n:=2) (path:=[]) (o:=⟨_,_,_,_,_,_,_⟩) uyC_ok (by kernel_rfl) (by kernel_rfl) ho hs hK
def fiC_k:List KI:=(run uyC false 8 ((fun (f:F12)=>(⟨fiB_k,.normal,fiS f⟩:Cfg)) default) []).cfg.k
theorem fiC (ho:AllP [(0≤(15132376222941642753:Int)),((15132376222941642753:Int)<(18446744073709551616:Int)),(0≤(5044125407647214251:Int)),((5044125407647214251:Int)<(18446744073709551616:Int))]):Sg Tryz.prog (fiS f) (mkSt 37 [1,2,3] [.pt 16 0,.pt 32 0,.pt 192 0] [16,32,192] [(eF_ (f12I f)),(eF_ [(.ob (.p (0:Fp))),(.ob (.p (0:Fp))),(.ob (.p (0:Fp))),(.ob (.p (0:Fp))),(.ob (.p (0:Fp))),(.ob (.p (0:Fp))),(.ob (.p (0:Fp))),(.ob (.p (0:Fp))),(.ob (.p (0:Fp))),(.ob (.p (0:Fp))),(.ob (.p (0:Fp))),(.ob (.p (0:Fp)))]),(eF_ (f12I (gpi (gpi f (15132376222941642753:Int)) (5044125407647214251:Int))))] 224 [] []) .normal (fiC_k) (fiB_k):=fun hs hK=>
 run_at2 (unroll:=false) (n:=8) (path:=[]) (o:=⟨_,_,_,_,_,_,_⟩) uyC_ok (by kernel_rfl) (by kernel_rfl) ho hs hK
def fiT (f g:F12):St:=mkSt 37 [1,2,3] [.pt 16 0,.pt 32 0,.pt 192 0] [16,32,192] [some (.fl (f12I f)),(eF_ [(.ob (.p (0:Fp))),(.ob (.p (0:Fp))),(.ob (.p (0:Fp))),(.ob (.p (0:Fp))),(.ob (.p (0:Fp))),(.ob (.p (0:Fp))),(.ob (.p (0:Fp))),(.ob (.p (0:Fp))),(.ob (.p (0:Fp))),(.ob (.p (0:Fp))),(.ob (.p (0:Fp))),(.ob (.p (0:Fp)))]),some (.fl (f12I g))] 224 [] []
def fiD_k:List KI:=(run uyC false 2 ((fun (f g:F12)=>(⟨fiC_k,.normal,fiT f g⟩:Cfg)) default default) []).cfg.k
end
section
variable (f g:F12)
theorem fiD (ho:AllP [(0≤(15132376222941642752:Int)),((15132376222941642752:Int)<(18446744073709551616:Int))]):Sg Tryz.prog (fiT f g) (mkSt 37 [1,2,3] [.pt 16 0,.pt 32 0,.pt 192 0] [16,32,192] [(eF_ (f12I f)),(eF_ [(.ob (.p (0:Fp))),(.ob (.p (0:Fp))),(.ob (.p (0:Fp))),(.ob (.p (0:Fp))),(.ob (.p (0:Fp))),(.ob (.p (0:Fp))),(.ob (.p (0:Fp))),(.ob (.p (0:Fp))),(.ob (.p (0:Fp))),(.ob (.p (0:Fp))),(.ob (.p (0:Fp))),(.ob (.p (0:Fp)))]),(eF_ (f12I ((cjp (gpi g (15132376222941642752:Int)))*(frb g))))] 336 [] []) .normal (fiD_k) (fiC_k):=fun hs hK=>
 run_at2 (unroll:=false) (n:=2) (path:=[]) (o:=⟨_,_,_,_,_,_,_⟩) uyC_ok (by kernel_rfl) (by kernel_rfl) ho hs hK
def fiE_k:List KI:=(run uyC false 8 ((fun (f g:F12)=>(⟨fiD_k,.normal,fiT f g⟩:Cfg)) default default) []).cfg.k
theorem fiE (ho:AllP [(0≤(15132376222941642752:Int)),((15132376222941642752:Int)<(18446744073709551616:Int)),(0≤(15132376222941642752:Int)),((15132376222941642752:Int)<(18446744073709551616:Int))]):Sg Tryz.prog (fiT f g) (mkSt 37 [1,2,3,4] [.pt 16 0,.pt 32 0,.pt 192 0,.pt 272 0] [16,32,192,272] [(eF_ (f12I f)),(eF_ [(.ob (.p (0:Fp))),(.ob (.p (0:Fp))),(.ob (.p (0:Fp))),(.ob (.p (0:Fp))),(.ob (.p (0:Fp))),(.ob (.p (0:Fp))),(.ob (.p (0:Fp))),(.ob (.p (0:Fp))),(.ob (.p (0:Fp))),(.ob (.p (0:Fp))),(.ob (.p (0:Fp))),(.ob (.p (0:Fp)))]),(eF_ (f12I g)),(eF_ (f12I (gpi (gpi g (15132376222941642752:Int)) (15132376222941642752:Int))))] 304 [] []) .normal (fiE_k) (fiD_k):=fun hs hK=>
 run_at2 (unroll:=false) (n:=8) (path:=[]) (o:=⟨_,_,_,_,_,_,_⟩) uyC_ok (by kernel_rfl) (by kernel_rfl) ho hs hK
def fiU (f g h:F12):St:=mkSt 37 [1,2,3,4] [.pt 16 0,.pt 32 0,.pt 192 0,.pt 272 0] [16,32,192,272] [some (.fl (f12I f)),(eF_ [(.ob (.p (0:Fp))),(.ob (.p (0:Fp))),(.ob (.p (0:Fp))),(.ob (.p (0:Fp))),(.ob (.p (0:Fp))),(.ob (.p (0:Fp))),(.ob (.p (0:Fp))),(.ob (.p (0:Fp))),(.ob (.p (0:Fp))),(.ob (.p (0:Fp))),(.ob (.p (0:Fp))),(.ob (.p (0:Fp)))]),some (.fl (f12I g)),some (.fl (f12I h))] 304 [] []
end
theorem fiF_end (f g h:F12):runEnd uyC Tryz.f35 false 3000 (⟨fiE_k,.normal,fiU f g h⟩) [] [] []=(some ([],((.v (.a (f12I (((h*(frb (frb g)))*(cjp g))*f)))),[]))):=by kernel_rfl

end
end

section

/-- The last exponent: the powers of p^6 - 1 and of p p + 1; what is left. -/
def finA (f:F12):F12:=frb (frb (cjp f*ivp f))*(cjp f*ivp f)
def finG (f:F12):F12:=gpi (gpi f 15132376222941642753) 5044125407647214251
def finK (g:F12):F12:=cjp (gpi g 15132376222941642752)*frb g
def finH (k:F12):F12:=gpi (gpi k 15132376222941642752) 15132376222941642752
def finB (f:F12):F12:=finH (finK (finG f))*frb (frb (finK (finG f)))*cjp (finK (finG f))*f
def fin12 (f:F12):F12:=finB (finA f)
theorem finish_fnd (f:F12):FnD Tryz.prog 35 [.v (.a (f12I f))] (.v (.a (f12I (fin12 f)))) []:=by
 refine fn_start (fn:=Tryz.f35) (c:=bodyOf Tryz.f35) Tryz.func35 rfl rfl fun x a hk hF hs=>?_
 refine fiA f trivial hs fun ac cY aY hs1=>?_
 refine fiB (cjp f*ivp f) trivial (hs1.nx _) fun ac cY aY hs2=>?_
 refine fiC (finA f) ⟨by decide,by decide,by decide,by decide,trivial⟩ (hs2.nx _) fun ac cY aY hs3=>?_
 refine fiD (finA f) (finG (finA f)) ⟨by decide,by decide,trivial⟩ (hs3.nx _) fun ac cY aY hs4=>?_
 refine fiE (finA f) (finK (finG (finA f))) ⟨by decide,by decide,by decide,by decide,trivial⟩ (hs4.nx _) fun ac cY aY hs5=>?_
 exact run_end2 uyC_ok hk hF (fiF_end (finA f) (finK (finG (finA f))) (finH (finK (finG (finA f))))) trivial (fun y v hd=>hd) (hs5.nx _)
end

section
section
variable {w0:World} {F0:Nat→Prop} {K:Kp} {ac:List Act} {Q:Exit→Act→World→Prop} {cX:Ctx} {aX:Act}

--@env uyC uyC_ok
def mi_k:List KI:=(run uyC false 3000 ((fun (x y a b c d:U6) (i j:Bool)=>(⟨[.code (bodyOf Tryz.f73)],.normal,initSt Tryz.f73.ntmps [.v (.a [.ob (.fp x),.ob (.fp y),.bool i]),.v (.a [.ob (.fp a),.ob (.fp b),.ob (.fp c),.ob (.fp d),.bool j])]⟩:Cfg)) default default default default default default default default) []).cfg.k
theorem mi (x y a b c d:U6) (i j:Bool) (ho:AllP []):Sg Tryz.prog (initSt Tryz.f73.ntmps [.v (.a [.ob (.fp x),.ob (.fp y),.bool i]),.v (.a [.ob (.fp a),.ob (.fp b),.ob (.fp c),.ob (.fp d),.bool j])]) (mkSt 49 [4,5,6,7,8,9,10,23] [.pt 48 0,.pt 160 0,.pt 176 0,.pt 256 0,.pt 320 0,.pt 336 0,.pt 384 0,(.ci (.clo 123 [(432,0)]))] [48,160,176,256,320,336,384,416,432] [(eF_ [(.ob (.p (0:Fp))),(.ob (.p (0:Fp))),(.ob (.p (0:Fp))),(.ob (.p (0:Fp))),(.ob (.p (0:Fp))),(.ob (.p (0:Fp))),(.ob (.p (0:Fp))),(.ob (.p (0:Fp))),(.ob (.p (0:Fp))),(.ob (.p (0:Fp))),(.ob (.p (0:Fp))),(.ob (.p (0:Fp)))]),(eF_ [(.ob (.p (inP x)))]),(eF_ [(.ob (.p (inP y)))]),(eF_ [(.ob (.p (Prod.fst (Prod.fst (inG2 (G2D.mk a b c d j)))))),(.ob (.p (Prod.snd (Prod.fst (inG2 (G2D.mk a b c d j)))))),(.ob (.p (Prod.fst (Prod.fst (Prod.snd (inG2 (G2D.mk a b c d j))))))),(.ob (.p (Prod.snd (Prod.fst (Prod.snd (inG2 (G2D.mk a b c d j))))))),(.ob (.p (Prod.fst (Prod.snd (Prod.snd (inG2 (G2D.mk a b c d j))))))),(.ob (.p (Prod.snd (Prod.snd (Prod.snd (inG2 (G2D.mk a b c d j)))))))]),(eF_ [(.ob (.p (Prod.fst (Prod.fst (inG2 (G2D.mk a b c d j)))))),(.ob (.p (Prod.snd (Prod.fst (inG2 (G2D.mk a b c d j)))))),(.ob (.p (Prod.fst (Prod.fst (Prod.snd (inG2 (G2D.mk a b c d j))))))),(.ob (.p (Prod.snd (Prod.fst (Prod.snd (inG2 (G2D.mk a b c d j))))))),(.ob (.p (Prod.fst (Prod.snd (Prod.snd (inG2 (G2D.mk a b c d j))))))),(.ob (.p (Prod.snd (Prod.snd (Prod.snd (inG2 (G2D.mk a b c d j)))))))]),(eF_ (f12I (1:F12))),(eF_ [(.lit true)]),(eQ_ (.u64 [(15132376222941642752:Int)])),(eF_ [(.slc 416 0 1 1)])] 496 [] []) .normal (mi_k) ([.code (bodyOf Tryz.f73)]):=fun hs hK=>
 run_at2 (unroll:=false) (n:=3000) (path:=[]) (o:=⟨_,_,_,_,_,_,_⟩) uyC_ok (by kernel_rfl) (by kernel_rfl) ho hs hK
def miS (x y:Fp) (q t:F2×F2×F2) (f:F12) (fb:Bool):St:=mkSt 49 [4,5,6,7,8,9,10,23] [.pt 48 0,.pt 160 0,.pt 176 0,.pt 256 0,.pt 320 0,.pt 336 0,.pt 384 0,(.ci (.clo 123 [(432,0)]))] [48,160,176,256,320,336,384,416,432] [(eF_ [(.ob (.p (0:Fp))),(.ob (.p (0:Fp))),(.ob (.p (0:Fp))),(.ob (.p (0:Fp))),(.ob (.p (0:Fp))),(.ob (.p (0:Fp))),(.ob (.p (0:Fp))),(.ob (.p (0:Fp))),(.ob (.p (0:Fp))),(.ob (.p (0:Fp))),(.ob (.p (0:Fp))),(.ob (.p (0:Fp)))]),some (.fl [.ob (.p x)]),some (.fl [.ob (.p y)]),some (.fl (pt2Its q)),some (.fl (pt2Its t)),some (.fl (f12I f)),some (.fl [.lit fb]),(eQ_ (.u64 [(15132376222941642752:Int)])),(eF_ [(.slc 416 0 1 1)])] 496 [] []
theorem miA (x y:Fp) (q t:F2×F2×F2) (f:F12) (fb z:Bool) {ρ:Option Nat} (ho:AllP []) (hs:Sim w0 F0 K ac (roundSt (miS x y q t f fb) [(24,.v (.c (.bool z)))]) cX aX) (hK:∀cY aY,Sim w0 F0 K ac (mkSt 49 [4,5,6,7,8,9,10,11] [.pt 48 0,.pt 160 0,.pt 176 0,.pt 256 0,.pt 320 0,.pt 336 0,.pt 384 0,(.ci (.bool z))] [48,160,176,256,320,336,384,416,432] [(eF_ [(.ob (.p (0:Fp))),(.ob (.p (0:Fp))),(.ob (.p (0:Fp))),(.ob (.p (0:Fp))),(.ob (.p (0:Fp))),(.ob (.p (0:Fp))),(.ob (.p (0:Fp))),(.ob (.p (0:Fp))),(.ob (.p (0:Fp))),(.ob (.p (0:Fp))),(.ob (.p (0:Fp))),(.ob (.p (0:Fp)))]),(eF_ [.ob (.p x)]),(eF_ [.ob (.p y)]),(eF_ [(.ob (.p (Prod.fst (Prod.fst q)))),(.ob (.p (Prod.snd (Prod.fst q)))),(.ob (.p (Prod.fst (Prod.fst (Prod.snd q))))),(.ob (.p (Prod.snd (Prod.fst (Prod.snd q))))),(.ob (.p (Prod.fst (Prod.snd (Prod.snd q))))),(.ob (.p (Prod.snd (Prod.snd (Prod.snd q)))))]),(eF_ [(.ob (.p (Prod.fst (Prod.fst t)))),(.ob (.p (Prod.snd (Prod.fst t)))),(.ob (.p (Prod.fst (Prod.fst (Prod.snd t))))),(.ob (.p (Prod.snd (Prod.fst (Prod.snd t))))),(.ob (.p (Prod.fst (Prod.snd (Prod.snd t))))),(.ob (.p (Prod.snd (Prod.snd (Prod.snd t)))))]),(eF_ (f12I f)),(eF_ [(.lit fb)]),(eQ_ (.u64 [(15132376222941642752:Int)])),(eF_ [(.slc 416 0 1 1)])] 512 [[4,5,6,7,8,9,10,23]] [([.pt 48 0,.pt 160 0,.pt 176 0,.pt 256 0,.pt 320 0,.pt 336 0,.pt 384 0,(.ci (.clo 123 [(432,0)]))],49)]) cY aY→Wq Tryz.prog Q ([]) ac Exit.normal aY cY.w ρ):Wq Tryz.prog Q ([.code (rfA mi_k)]) ac .normal aX cX.w ρ :=
 run_atT (unroll:=false) (n:=3000) (path:=[]) (o:=⟨_,_,_,_,_,_,_⟩) uyC_ok (by kernel_rfl) (by kernel_rfl) ho (by kernel_rfl) (by kernel_rfl) hs hK
def miB (x y:Fp) (q t:F2×F2×F2) (f:F12) (fb z:Bool):St:=mkSt 49 [4,5,6,7,8,9,10,11] [.pt 48 0,.pt 160 0,.pt 176 0,.pt 256 0,.pt 320 0,.pt 336 0,.pt 384 0,(.ci (.bool z))] [48,160,176,256,320,336,384,416,432] [(eF_ [(.ob (.p (0:Fp))),(.ob (.p (0:Fp))),(.ob (.p (0:Fp))),(.ob (.p (0:Fp))),(.ob (.p (0:Fp))),(.ob (.p (0:Fp))),(.ob (.p (0:Fp))),(.ob (.p (0:Fp))),(.ob (.p (0:Fp))),(.ob (.p (0:Fp))),(.ob (.p (0:Fp))),(.ob (.p (0:Fp)))]),some (.fl [.ob (.p x)]),some (.fl [.ob (.p y)]),some (.fl (pt2Its q)),some (.fl (pt2Its t)),some (.fl (f12I f)),some (.fl [.lit fb]),(eQ_ (.u64 [(15132376222941642752:Int)])),(eF_ [(.slc 416 0 1 1)])] 512 [[4,5,6,7,8,9,10,23]] [([.pt 48 0,.pt 160 0,.pt 176 0,.pt 256 0,.pt 320 0,.pt 336 0,.pt 384 0,(.ci (.clo 123 [(432,0)]))],49)]
theorem miF (x y:Fp) (q t:F2×F2×F2) (f:F12) (z:Bool) {ρ:Option Nat} (ho:AllP []) (hs:Sim w0 F0 K ac (miB x y q t f true z) cX aX) (hK:∀cY aY,Sim w0 F0 K ac (mkSt 49 [4] [.pt 48 0] [48,160,176,256,320,336,384,416,432] [(eF_ [(.ob (.p (0:Fp))),(.ob (.p (0:Fp))),(.ob (.p (0:Fp))),(.ob (.p (0:Fp))),(.ob (.p (0:Fp))),(.ob (.p (0:Fp))),(.ob (.p (0:Fp))),(.ob (.p (0:Fp))),(.ob (.p (0:Fp))),(.ob (.p (0:Fp))),(.ob (.p (0:Fp))),(.ob (.p (0:Fp)))]),(eF_ [.ob (.p x)]),(eF_ [.ob (.p y)]),(eF_ [(.ob (.p (Prod.fst (Prod.fst q)))),(.ob (.p (Prod.snd (Prod.fst q)))),(.ob (.p (Prod.fst (Prod.fst (Prod.snd q))))),(.ob (.p (Prod.snd (Prod.fst (Prod.snd q))))),(.ob (.p (Prod.fst (Prod.snd (Prod.snd q))))),(.ob (.p (Prod.snd (Prod.snd (Prod.snd q)))))]),(eF_ [(.ob (.p (Prod.fst (Prod.fst t)))),(.ob (.p (Prod.snd (Prod.fst t)))),(.ob (.p (Prod.fst (Prod.fst (Prod.snd t))))),(.ob (.p (Prod.snd (Prod.fst (Prod.snd t))))),(.ob (.p (Prod.fst (Prod.snd (Prod.snd t))))),(.ob (.p (Prod.snd (Prod.snd (Prod.snd t)))))]),(eF_ (f12I f)),(eF_ [(.lit false)]),(eQ_ (.u64 [(15132376222941642752:Int)])),(eF_ [(.slc 416 0 1 1)])] 544 [[4,5,6,7,8,9,10,23]] [([.pt 48 0,.pt 160 0,.pt 176 0,.pt 256 0,.pt 320 0,.pt 336 0,.pt 384 0,(.ci (.clo 123 [(432,0)]))],49)]) cY aY→Wq Tryz.prog Q ([]) ac Exit.normal aY cY.w ρ):Wq Tryz.prog Q ([.code (rfB mi_k)]) ac .normal aX cX.w ρ :=
 run_atT (unroll:=false) (n:=3000) (path:=[]) (o:=⟨_,_,_,_,_,_,_⟩) uyC_ok (by kernel_rfl) (by kernel_rfl) ho (by kernel_rfl) (by kernel_rfl) hs hK
theorem miT (x y:Fp) (q t:F2×F2×F2) (f:F12) (z:Bool) {ρ:Option Nat} (ho:AllP [(z=true)]) (hs:Sim w0 F0 K ac (miB x y q t f false z) cX aX) (hK:∀cY aY,Sim w0 F0 K ac (mkSt 49 [4] [.pt 48 0] [48,160,176,256,320,336,384,416,432] [(eF_ [(.ob (.p (0:Fp))),(.ob (.p (0:Fp))),(.ob (.p (0:Fp))),(.ob (.p (0:Fp))),(.ob (.p (0:Fp))),(.ob (.p (0:Fp))),(.ob (.p (0:Fp))),(.ob (.p (0:Fp))),(.ob (.p (0:Fp))),(.ob (.p (0:Fp))),(.ob (.p (0:Fp))),(.ob (.p (0:Fp)))]),(eF_ [.ob (.p x)]),(eF_ [.ob (.p y)]),(eF_ [(.ob (.p (Prod.fst (Prod.fst q)))),(.ob (.p (Prod.snd (Prod.fst q)))),(.ob (.p (Prod.fst (Prod.fst (Prod.snd q))))),(.ob (.p (Prod.snd (Prod.fst (Prod.snd q))))),(.ob (.p (Prod.fst (Prod.snd (Prod.snd q))))),(.ob (.p (Prod.snd (Prod.snd (Prod.snd q)))))]),(eF_ [(.ob (.p (Prod.fst (Prod.fst (jpl (jtw t) q))))),(.ob (.p (Prod.snd (Prod.fst (jpl (jtw t) q))))),(.ob (.p (Prod.fst (Prod.fst (Prod.snd (jpl (jtw t) q)))))),(.ob (.p (Prod.snd (Prod.fst (Prod.snd (jpl (jtw t) q)))))),(.ob (.p (Prod.fst (Prod.snd (Prod.snd (jpl (jtw t) q)))))),(.ob (.p (Prod.snd (Prod.snd (Prod.snd (jpl (jtw t) q))))))]),(eF_ (f12I (((f*f)*(tch t x y))*(thg (jtw t) q x y)))),(eF_ [(.lit false)]),(eQ_ (.u64 [(15132376222941642752:Int)])),(eF_ [(.slc 416 0 1 1)])] 928 [[4,5,6,7,8,9,10,23]] [([.pt 48 0,.pt 160 0,.pt 176 0,.pt 256 0,.pt 320 0,.pt 336 0,.pt 384 0,(.ci (.clo 123 [(432,0)]))],49)]) cY aY→Wq Tryz.prog Q ([]) ac Exit.normal aY cY.w ρ):Wq Tryz.prog Q ([.code (rfB mi_k)]) ac .normal aX cX.w ρ :=
 run_atT (unroll:=false) (n:=3000) (path:=[true]) (o:=⟨_,_,_,_,_,_,_⟩) uyC_ok (by kernel_rfl) (by kernel_rfl) ho (by kernel_rfl) (by kernel_rfl) hs hK
theorem miN (x y:Fp) (q t:F2×F2×F2) (f:F12) (z:Bool) {ρ:Option Nat} (ho:AllP [(z=false)]) (hs:Sim w0 F0 K ac (miB x y q t f false z) cX aX) (hK:∀cY aY,Sim w0 F0 K ac (mkSt 49 [4] [.pt 48 0] [48,160,176,256,320,336,384,416,432] [(eF_ [(.ob (.p (0:Fp))),(.ob (.p (0:Fp))),(.ob (.p (0:Fp))),(.ob (.p (0:Fp))),(.ob (.p (0:Fp))),(.ob (.p (0:Fp))),(.ob (.p (0:Fp))),(.ob (.p (0:Fp))),(.ob (.p (0:Fp))),(.ob (.p (0:Fp))),(.ob (.p (0:Fp))),(.ob (.p (0:Fp)))]),(eF_ [.ob (.p x)]),(eF_ [.ob (.p y)]),(eF_ [(.ob (.p (Prod.fst (Prod.fst q)))),(.ob (.p (Prod.snd (Prod.fst q)))),(.ob (.p (Prod.fst (Prod.fst (Prod.snd q))))),(.ob (.p (Prod.snd (Prod.fst (Prod.snd q))))),(.ob (.p (Prod.fst (Prod.snd (Prod.snd q))))),(.ob (.p (Prod.snd (Prod.snd (Prod.snd q)))))]),(eF_ [(.ob (.p (Prod.fst (Prod.fst (jtw t))))),(.ob (.p (Prod.snd (Prod.fst (jtw t))))),(.ob (.p (Prod.fst (Prod.fst (Prod.snd (jtw t)))))),(.ob (.p (Prod.snd (Prod.fst (Prod.snd (jtw t)))))),(.ob (.p (Prod.fst (Prod.snd (Prod.snd (jtw t)))))),(.ob (.p (Prod.snd (Prod.snd (Prod.snd (jtw t))))))]),(eF_ (f12I ((f*f)*(tch t x y)))),(eF_ [(.lit false)]),(eQ_ (.u64 [(15132376222941642752:Int)])),(eF_ [(.slc 416 0 1 1)])] 736 [[4,5,6,7,8,9,10,23]] [([.pt 48 0,.pt 160 0,.pt 176 0,.pt 256 0,.pt 320 0,.pt 336 0,.pt 384 0,(.ci (.clo 123 [(432,0)]))],49)]) cY aY→Wq Tryz.prog Q ([]) ac Exit.normal aY cY.w ρ):Wq Tryz.prog Q ([.code (rfB mi_k)]) ac .normal aX cX.w ρ :=
 run_atT (unroll:=false) (n:=3000) (path:=[false]) (o:=⟨_,_,_,_,_,_,_⟩) uyC_ok (by kernel_rfl) (by kernel_rfl) ho (by kernel_rfl) (by kernel_rfl) hs hK
theorem miX (x y:Fp) (q t:F2×F2×F2) (f:F12) (fb:Bool) (ho:AllP []):Sg Tryz.prog (miS x y q t f fb) (mkSt 49 [4] [.pt 48 0] [48] [(eF_ (f12I (cjp f)))] 544 [] []) .ret ([]) (rfR mi_k):=fun hs hK=>
 run_at2 (unroll:=false) (n:=3000) (path:=[]) (o:=⟨_,_,_,_,_,_,_⟩) uyC_ok (by kernel_rfl) (by kernel_rfl) ho hs hK
def miE (x y:Fp) (q t:F2×F2×F2) (f:F12) (fb z:Bool):St:=mkSt 49 [4] [.pt 48 0] [48,160,176,256,320,336,384,416,432] [(eF_ [(.ob (.p (0:Fp))),(.ob (.p (0:Fp))),(.ob (.p (0:Fp))),(.ob (.p (0:Fp))),(.ob (.p (0:Fp))),(.ob (.p (0:Fp))),(.ob (.p (0:Fp))),(.ob (.p (0:Fp))),(.ob (.p (0:Fp))),(.ob (.p (0:Fp))),(.ob (.p (0:Fp))),(.ob (.p (0:Fp)))]),some (.fl [.ob (.p x)]),some (.fl [.ob (.p y)]),some (.fl (pt2Its q)),some (.fl (pt2Its t)),some (.fl (f12I f)),some (.fl [.lit fb]),(eQ_ (.u64 [(15132376222941642752:Int)])),(eF_ [(.slc 416 0 1 1)])] 928 [[4,5,6,7,8,9,10,23]] [([.pt 48 0,.pt 160 0,.pt 176 0,.pt 256 0,.pt 320 0,.pt 336 0,.pt 384 0,(.ci (.clo 123 [(432,0)]))],49)]
def miZ (f:F12):St:=mkSt 49 [4] [.pt 48 0] [48] [some (.fl (f12I f))] 544 [] []
theorem miR_end (f:F12):runEnd uyC Tryz.f73 false 3000 (⟨[],.ret,miZ f⟩) [] [] []=(some ([],((.v (.a (f12I f))),[]))):=by kernel_rfl
end
end

end
end Go.Proofs.YtefimjofjjdndaaGreat
