/- Parts of a proof, one behind the other: WPz, PPz, WPy, WSa, WSb, PSb, WSc, PSc, PSd, WSd, WSe, PSe, PSf, WSg, PSg, WSh, PSq, PSh. No conditions. -/
import Derived.Shelf.Strconv.Itoa0
import Derived.Test.YtobdghmmbddfnaaCsP
open Go.IntKind (wrap)
namespace Go.Proofs.Ytobdghmmbddfnaa
noncomputable section
section
section
variable {w0:World} {F0:Nat→Prop} {K:Kp} {ac:List Act} {Q:Exit→Act→World→Prop} {cX:Ctx} {aX:Act}
open Go.Shelf

def renL:Ren:=⟨fun n=>if n=129 then 114 else 0,fun t=>if t=46 then 108 else if t=53 then 34 else t,fun g=>g⟩
theorem laysL:Lays.n129 Try.prog renL:=
  { mixed:=by kernel_rfl
    f129:=by kernel_rfl
    t3:=by kernel_rfl
    a3:=fun _=>by kernel_rfl
    z3:=fun _=>by kernel_rfl
    v3:=fun _=>by kernel_rfl
    t4:=by kernel_rfl
    a4:=fun _=>by kernel_rfl
    z4:=fun _=>by kernel_rfl
    v4:=fun _=>by kernel_rfl
    t5:=by kernel_rfl
    a5:=fun _=>by kernel_rfl
    z5:=fun _=>by kernel_rfl
    v5:=fun _=>by kernel_rfl
    t9:=by kernel_rfl
    a9:=fun _=>by kernel_rfl
    z9:=fun _=>by kernel_rfl
    v9:=fun _=>by kernel_rfl
    t46:=by kernel_rfl
    a46:=fun _=>by kernel_rfl
    z46:=fun _=>by kernel_rfl
    v46:=fun _=>by kernel_rfl
    t53:=by kernel_rfl
    a53:=fun _=>by kernel_rfl
    z53:=fun _=>by kernel_rfl
    v53:=fun _=>by kernel_rfl }
theorem len64_fnd (n:Int) (h0:0≤n) (h1:n<18446744073709551616):FnD Try.prog 114 [.v (.c (.int .u64 n))] (.v (.c (.int .i64 (Lib.bitLen n.toNat:Nat)))) []:=
 fnd_same fun x vs hd=>by
  cases hd with | cons d1 hd=>
  cases hd
  rw[D_int d1]
  exact ⟨_,Any.bits_Len64 laysL n x.w h0 (by omega),⟨rfl,0,rfl⟩⟩
def lenSpec:FnSpec
 | [.v (.c (.int .u64 n))]=>some ([0≤n,n<18446744073709551616],.v (.c (.int .i64 (Lib.bitLen n.toNat:Nat))),[])
 | _=>none
def dvP1:Env:=iD.set (addT iD.fn 114 lenSpec)
theorem dvP1_ok:EnvOk Try.prog dvP1:=env_add iD_ok 114 lenSpec (enters_of Try.func114 rfl rfl) fun args o r es h ho=>by
 unfold lenSpec at h
 split at h
 ·cases h;exact len64_fnd _ ho.1 ho.2.1
 ·cases h
--@env dvP1 dvP1_ok
theorem ct (l:List Int):fnRes dvP1 Try.f113 3000 [.v (.c (.sl (.u64 l)))] [] [] []=(some ([(0≤(ite ((16:Int)<(l.length:Int)) (16:Int) (l.length:Int))),((ite ((16:Int)<(l.length:Int)) (16:Int) (l.length:Int))≤(ite ((16:Int)<(l.length:Int)) (16:Int) (l.length:Int))),((ite ((16:Int)<(l.length:Int)) (16:Int) (l.length:Int))≤(l.length:Int))],((.ci (.sl (.u64 (List.take ((ite ((16:Int)<(l.length:Int)) (16:Int) (l.length:Int))).toNat (List.drop 0 l))))),[]))):=by kernel_rfl

theorem cut_fnd (l:List Int) (hl:l.length≤16):FnD Try.prog 113 [.v (.c (.sl (.u64 l)))] (.v (.c (.sl (.u64 l)))) []:=by
 have r:=ct l
 have e:(if (16:Int)<((l.length:Nat):Int) then (16:Int) else ((l.length:Nat):Int))=((l.length:Nat):Int):=if_neg (by omega)
 rw[e,Int.toNat_natCast,List.drop_zero,List.take_length] at r
 exact fn_sound dvP1_ok Try.func113 r ⟨by omega,Int.le_refl _,Int.le_refl _,trivial⟩
def cutSpec:FnSpec
 | [.v (.c (.sl (.u64 l)))]=>some ([l.length≤16],.v (.c (.sl (.u64 l))),[])
 | _=>none
def dvP2:Env:=dvP1.set (addT dvP1.fn 113 cutSpec)
theorem dvP2_ok:EnvOk Try.prog dvP2:=env_add dvP1_ok 113 cutSpec (enters_of Try.func113 rfl rfl) fun args o r es h ho=>by
 unfold cutSpec at h
 split at h
 ·cases h;exact cut_fnd _ ho.1
 ·cases h
--@env dvP2 dvP2_ok
def nbIn_k:List KI:=(run dvP2 false 3000 ((fun (l:List Int)=>(⟨[.code (bodyOf Try.f112)],.normal,initSt Try.f112.ntmps [.v (.c (.sl (.u64 l)))]⟩:Cfg)) default) []).cfg.k
theorem nbIn (l:List Int) (ho:AllP [(l.length≤16)]):Sg Try.prog (initSt Try.f112.ntmps [.v (.c (.sl (.u64 l)))]) (mkSt 26 [0,3] [(.ci (.sl (.u64 l))),(.ii (wrap .i64 ((l.length:Int)-1)))] [] [] 144 [] []) .normal (nbIn_k) ([.code (bodyOf Try.f112)]):=fun hs hK=>
 run_at2 (unroll:=false) (n:=3000) (path:=[]) (o:=⟨_,_,_,_,_,_,_⟩) dvP2_ok (by kernel_rfl) (by kernel_rfl) ho hs hK
def nbS (l:List Int) (i:Int):St:=mkSt 26 [0,3] [(.ci (.sl (.u64 l))),.v (.c (.int .i64 i))] [] [] 144 [] []
theorem nbN (l:List Int) (i:Int) (ho:AllP [((decide (i ≥ (0:Int)))=true),(0≤i),(i<(l.length:Int)),(((l.getD i.toNat 0) != (0:Int))=false)]):Sg Try.prog (nbS l i) (mkSt 26 [0,3] [(.ci (.sl (.u64 l))),(.ii (wrap .i64 (i-1)))] [] [] 304 [] []) .normal (lpBk nbIn_k) (lpIn nbIn_k):=fun hs hK=>
 run_at2 (unroll:=false) (n:=3000) (path:=[true,false]) (o:=⟨_,_,_,_,_,_,_⟩) dvP2_ok (by kernel_rfl) (by kernel_rfl) ho hs hK
theorem nbY_end (l:List Int) (i:Int):runEnd dvP2 Try.f112 false 3000 (⟨lpIn nbIn_k,.normal,nbS l i⟩) [true,true] [] []=(some ([((decide (i ≥ (0:Int)))=true),(0≤i),(i<(l.length:Int)),(((l.getD i.toNat 0) != (0:Int))=true),(0≤i),(i<(l.length:Int)),(0≤(l.getD i.toNat 0)),((l.getD i.toNat 0)<(18446744073709551616:Int))],((.ii (wrap .i64 ((wrap .i64 ((64:Int)*i))+(((Lib.bitLen ((l.getD i.toNat 0)).toNat):Nat):Int)))),[]))):=by kernel_rfl
theorem nbX_end (l:List Int) (i:Int):runEnd dvP2 Try.f112 false 3000 (⟨lpIn nbIn_k,.normal,nbS l i⟩) [false] [] []=(some ([((decide (i ≥ (0:Int)))=false)],((.ii (0:Int)),[]))):=by kernel_rfl
theorem bits_fnd (l:List Int) (hl:l.length≤16) (hlim:lims l):FnD Try.prog 112 [.v (.c (.sl (.u64 l)))] (.v (.c (.int .i64 (bitsC l l.length:Nat)))) []:=by
 refine fn_start (fn:=Try.f112) (c:=bodyOf Try.f112) Try.func112 rfl rfl fun x a hk hF hs=>?_
 refine nbIn l ⟨hl,trivial⟩ hs fun ac cY aY hs1=>?_
 rw[wrap_id (by omega) (by omega)] at hs1
 refine loop_rule (ι:={ n:Nat // n≤l.length∧bitsC l n=bitsC l l.length }) (fun n=>nbS l ((n.1:Int)-1)) (fun n=>n.1) (c:=lpC nbIn_k) (k:=lpR nbIn_k) (by kernel_rfl) (fun n ih ac cY aY hs=>?_) ⟨l.length,Nat.le_refl _,rfl⟩ (hs1.nx _)
 obtain ⟨n,hn,he⟩:=n
 simp only at ih hs
 cases n with
 | zero=>
  rw[←he]
  exact run_end2 dvP2_ok hk hF (nbX_end l _) ⟨by simp,trivial⟩ (fun y v hd=>hd) hs
 | succ n=>
  have e1:((n+1:Nat):Int)-1=(n:Int):=by omega
  rw[e1] at hs
  have hg:=lims_get hlim n
  by_cases h0:l.getD n 0=0
  ·refine nbN l _ ⟨by simp,by omega,by omega,by rw[Int.toNat_natCast,h0];rfl,trivial⟩ hs fun ac cZ aZ hs2=>?_
   rw[wrap_id (by omega) (by omega)] at hs2
   refine ih ⟨n,by omega,?_⟩ (Nat.lt_succ_self n) ac cZ aZ (hs2.nx _)
   rw[←he]
   show _=if l.getD n 0≠0 then _ else bitsC l n
   rw[if_neg (by simpa using h0)]
  ·have r:=nbY_end l (n:Int)
   have hb:bitsC l l.length=64*n+Lib.bitLen (l.getD n 0).toNat:=by
    rw[←he]
    show (if l.getD n 0≠0 then _ else bitsC l n)=_
    rw[if_pos h0]
   have hle:=bitLen_le (l.getD n 0).toNat
   rw[Int.toNat_natCast] at r
   have e2:wrap IntKind.i64 (wrap IntKind.i64 ((64:Int)*(n:Int))+((Lib.bitLen (l.getD n 0).toNat:Nat):Int))=((bitsC l l.length:Nat):Int):=by
    rw[hb]
    generalize Lib.bitLen (l.getD n 0).toNat=B at *
    rw[wrap_id (n:=(64:Int)*(n:Int)) (by omega) (by omega),wrap_id (by omega) (by omega)]
    omega
   rw[e2] at r
   have hne:(l.getD n 0 != (0:Int))=true:=by simpa using h0
   exact run_end2 dvP2_ok hk hF r ⟨by simp,by omega,by omega,hne,by omega,by omega,hg.1,hg.2,trivial⟩ (fun y v hd=>hd) hs
def bitsSpec:FnSpec
 | [.v (.c (.sl (.u64 l)))]=>some ([l.length≤16,lims l],.v (.c (.int .i64 (bitsC l l.length:Nat))),[])
 | _=>none
def dvP3:Env:=dvP2.set (addT dvP2.fn 112 bitsSpec)
theorem dvP3_ok:EnvOk Try.prog dvP3:=env_add dvP2_ok 112 bitsSpec (enters_of Try.func112 rfl rfl) fun args o r es h ho=>by
 unfold bitsSpec at h
 split at h
 ·cases h;exact bits_fnd _ ho.1 ho.2.1
 ·cases h
def inlDv (T:Nat→Option Func) (f:Nat):Option Func:=if f=110 then some Try.f110 else T f
def dvP:Env:={ dvP3 with inl:=inlDv dvP3.inl }
theorem dvP_ok:EnvOk Try.prog dvP:=by
 refine ⟨dvP3_ok.ty,dvP3_ok.mixed,dvP3_ok.fn,dvP3_ok.mu,fun f fn h=>?_,dvP3_ok.ex,dvP3_ok.inv⟩
 have h:inlDv dvP3.inl f=some fn:=h
 unfold inlDv at h
 split at h
 ·rename_i hf;cases h;subst hf;exact ⟨Try.func110,enters_of Try.func110 rfl rfl⟩
 exact dvP3_ok.inl f fn h
--@env dvP dvP_ok
def bt_k:List KI:=(run dvP false 3000 ((fun (l:Nat) (v:Value)=>(⟨[.code (bodyOf Try.f111)],.normal,⟨argT [.v (.c (.val (.func (.yield l) #[] #[]))),.v (.c (.ptr 0 0))],one (.fl [.val v]),Try.f111.ntmps,16,[]⟩⟩:Cfg)) default default) []).cfg.k
theorem bt (l:Nat) (v:Value) (ho:AllP []):Sg Try.prog (⟨argT [.v (.c (.val (.func (.yield l) #[] #[]))),.v (.c (.ptr 0 0))],one (.fl [.val v]),Try.f111.ntmps,16,[]⟩) (mkSt 24 [0,1,4] [(.ci (.val (Value.func (Fn.yield l) (Array.mk ([]:List Value)) (Array.mk ([]:List Value))))),.pt 0 0,(.ci (.val v))] [0] [(eF [(.val v)])] 32 [] []) .normal (bt_k) ([.code (bodyOf Try.f111)]):=fun hs hK=>
 run_at2 (unroll:=false) (n:=3000) (path:=[]) (o:=⟨_,_,_,_,_,_,_⟩) dvP_ok (by kernel_rfl) (by kernel_rfl) ho hs hK
def btA (l:Nat) (v:Value) (e:List Int):St:=mkSt 24 [0,1,4] [(.ci (.val (Value.func (Fn.yield l) (Array.mk ([]:List Value)) (Array.mk ([]:List Value))))),.pt 0 0,.v (.c (.sl (.u64 e)))] [0] [(eF [(.val v)])] 32 [] []
def bu_k:List KI:=(run dvP false 3000 ((fun (l:Nat) (v:Value) (e:List Int)=>(⟨bt_k,.normal,btA l v e⟩:Cfg)) default default default) []).cfg.k
theorem bu (l:Nat) (v:Value) (e:List Int) (ho:AllP [(e.length≤16),(lims e)]):Sg Try.prog (btA l v e) (mkSt 24 [0,1,3] [(.ci (.val (Value.func (Fn.yield l) (Array.mk ([]:List Value)) (Array.mk ([]:List Value))))),.pt 0 0,(.ii (wrap .i64 ((((bitsC e e.length):Nat):Int)-1)))] [0] [(eF [(.val v)])] 80 [] []) .normal (bu_k) (bt_k):=fun hs hK=>
 run_at2 (unroll:=false) (n:=3000) (path:=[]) (o:=⟨_,_,_,_,_,_,_⟩) dvP_ok (by kernel_rfl) (by kernel_rfl) ho hs hK
def buS (l:Nat) (v:Value) (i:Int):St:=mkSt 24 [0,1,3] [(.ci (.val (Value.func (Fn.yield l) (Array.mk ([]:List Value)) (Array.mk ([]:List Value))))),.pt 0 0,.v (.c (.int .i64 i))] [0] [(eF [(.val v)])] 80 [] []
def bv_k:List KI:=(run dvP false 3000 ((fun (l:Nat) (v:Value) (i:Int)=>(⟨lpIn bu_k,.normal,buS l v i⟩:Cfg)) default default default) [true]).cfg.k
theorem bv (l:Nat) (v:Value) (i:Int) (ho:AllP [((decide (i ≥ (0:Int)))=true),((64:Int)≠(0:Int))]):Sg Try.prog (buS l v i) (mkSt 24 [0,1,3,11,12,14] [(.ci (.val (Value.func (Fn.yield l) (Array.mk ([]:List Value)) (Array.mk ([]:List Value))))),.pt 0 0,.ii i,(.ci (.val (Value.func (Fn.yield l) (Array.mk ([]:List Value)) (Array.mk ([]:List Value))))),(.ci (.val v)),(.ii (wrap .i64 (Int.tdiv i (64:Int))))] [0] [(eF [(.val v)])] 176 [] []) .normal (bv_k) (lpIn bu_k):=fun hs hK=>
 run_at2 (unroll:=false) (n:=3000) (path:=[true]) (o:=⟨_,_,_,_,_,_,_⟩) dvP_ok (by kernel_rfl) (by kernel_rfl) ho hs hK
def bvA (l:Nat) (v:Value) (e:List Int) (i:Int):St:=mkSt 24 [0,1,3,11,12,14] [(.ci (.val (Value.func (Fn.yield l) (Array.mk ([]:List Value)) (Array.mk ([]:List Value))))),.pt 0 0,.ii i,(.ci (.val (Value.func (Fn.yield l) (Array.mk ([]:List Value)) (Array.mk ([]:List Value))))),.v (.c (.sl (.u64 e))),(.ii (wrap .i64 (Int.tdiv i (64:Int))))] [0] [(eF [(.val v)])] 176 [] []
def bw_k:List KI:=(run dvP false 3000 ((fun (l:Nat) (v:Value) (e:List Int) (i:Int)=>(⟨bv_k,.normal,bvA l v e i⟩:Cfg)) default default default default) []).cfg.k
theorem bw (l:Nat) (v:Value) (e:List Int) (i:Int) (ho:AllP [(0≤(wrap .i64 (Int.tdiv i (64:Int)))),((wrap .i64 (Int.tdiv i (64:Int)))<(e.length:Int)),((64:Int)≠(0:Int)),(0≤(Int.tmod i (64:Int)))]):Sg Try.prog (bvA l v e i) (mkSt 24 [0,1,3,11,21] [(.ci (.val (Value.func (Fn.yield l) (Array.mk ([]:List Value)) (Array.mk ([]:List Value))))),.pt 0 0,.ii i,(.ci (.val (Value.func (Fn.yield l) (Array.mk ([]:List Value)) (Array.mk ([]:List Value))))),(.ci (.bool ((bitsOp BinOp.and IntKind.u64 (Int.fdiv (List.getD e ((wrap .i64 (Int.tdiv i (64:Int)))).toNat 0) ((2:Int) ^ (Min.min ((Int.tmod i (64:Int))).toNat 64))) (1:Int)) == (1:Int))))] [0] [(eF [(.val v)])] 288 [] []) .normal (bw_k) (bv_k):=fun hs hK=>
 run_at2 (unroll:=false) (n:=3000) (path:=[]) (o:=⟨_,_,_,_,_,_,_⟩) dvP_ok (by kernel_rfl) (by kernel_rfl) ho hs hK
theorem bX (l:Nat) (v:Value) (i:Int) (ho:AllP [((decide (i ≥ (0:Int)))=false)]):Sg Try.prog (buS l v i) (mkSt 24 [] [] [0] [(eF [(.val v)])] 112 [] []) .normal ([]) (lpIn bu_k):=fun hs hK=>
 run_at2 (unroll:=false) (n:=3000) (path:=[false]) (o:=⟨_,_,_,_,_,_,_⟩) dvP_ok (by kernel_rfl) (by kernel_rfl) ho hs hK
theorem bB (l:Nat) (v:Value) (i:Int) (b:Bool) (ho:AllP []):Sg Try.prog (⟨setT (look .top [0,1,3,11,21] [(.ci (.val (.func (.yield l) #[] #[]))),.v (.c (.ptr 0 0)),.v (.c (.int .i64 i)),(.ci (.val (.func (.yield l) #[] #[]))),.v (.c (.bool b))]) 22 (.ci (.lit true)),one (.fl [.val v]),24,400,[]⟩) (mkSt 24 [0,1,3] [(.ci (.val (Value.func (Fn.yield l) (Array.mk ([]:List Value)) (Array.mk ([]:List Value))))),.pt 0 0,(.ii (wrap .i64 (i-1)))] [0] [(eF [(.val v)])] 464 [] []) .normal (lpBk bu_k) (opsNext bw_k):=fun hs hK=>
 run_at2 (unroll:=false) (n:=3000) (path:=[]) (o:=⟨_,_,_,_,_,_,_⟩) dvP_ok (by kernel_rfl) (by kernel_rfl) ho hs hK

theorem meth71 (v : Value) (w : World) : (method (Try.prog.types.size + Made.depth) 71 v "Times").run Try.prog w = .ok (30, v) w := by kernel_rfl
def dvQ : Env := { dvP with inv := fun t => if t = 71 then some [("Times", 30)] else none }
theorem dvQ_ok:EnvOk Try.prog dvQ:=by
  refine ⟨dvP_ok.ty,dvP_ok.mixed,dvP_ok.fn,dvP_ok.mu,dvP_ok.inl,dvP_ok.ex,fun t l h=>?_⟩
  have h : (if t = 71 then some [("Times", 30)] else none) = some l := h
  split at h
  · rename_i ht
    cases h
    subst ht
    refine ⟨by kernel_rfl,fun name g hg v args w=>?_⟩
    unfold lookM at hg
    split at hg
    · rename_i hn
      cases hg
      subst hn
      simp only[callMethod,Sem.run_bind,run_program,Result.andThen_ok,meth71]
    · cases hg
  · cases h
--@env dvQ dvQ_ok
def qp_k:List KI:=(run dvQ false 3000 ((fun (a:Fr) (e:List Int)=>(⟨[.code (bodyOf Try.f108)],.normal,initSt Try.f108.ntmps [.v (.a [.ob (.s a)]),.v (.a [.ob (.s 1)]),.v (.c (.sl (.u64 e)))]⟩:Cfg)) default default) []).cfg.k
theorem qp (a:Fr) (e:List Int) (ho:AllP []):Sg Try.prog (initSt Try.f108.ntmps [.v (.a [.ob (.s a)]),.v (.a [.ob (.s 1)]),.v (.c (.sl (.u64 e)))]) (mkSt 23 [3,6,7,11] [.pt 16 0,.pt 48 0,.pt 80 0,(.ci (.clo 111 [(128,0)]))] [16,48,80,128] [(eF [.ob (.s a)]),(eF [(.ob (.s (0:Fr)))]),(eF [(.ob (.s (1:Fr)))]),(eF [.sl (.u64 e)])] 192 [] []) .normal (qp_k) ([.code (bodyOf Try.f108)]):=fun hs hK=>
 run_at2 (unroll:=false) (n:=3000) (path:=[]) (o:=⟨_,_,_,_,_,_,_⟩) dvQ_ok (by kernel_rfl) (by kernel_rfl) ho hs hK
def qpS (a:Fr) (e:List Int) (o:Fr):St:=mkSt 23 [3,6,7,11] [.pt 16 0,.pt 48 0,.pt 80 0,(.ci (.clo 111 [(128,0)]))] [16,48,80,128] [(eF [.ob (.s a)]),(eF [(.ob (.s (0:Fr)))]),some (.fl [.ob (.s o)]),(eF [.sl (.u64 e)])] 192 [] []
theorem qpA (a:Fr) (e:List Int) (o:Fr) (z:Bool) {ρ:Option Nat} (ho:AllP []) (hs:Sim w0 F0 K ac (roundSt (qpS a e o) [(12,.v (.c (.bool z)))]) cX aX) (hK:∀cY aY,Sim w0 F0 K ac (mkSt 23 [3,6,7,8] [.pt 16 0,.pt 48 0,.pt 80 0,(.ci (.bool z))] [16,48,80,128] [(eF [.ob (.s a)]),(eF [(.ob (.s (0:Fr)))]),(eF [.ob (.s o)]),(eF [.sl (.u64 e)])] 208 [[3,6,7,11]] [([.pt 16 0,.pt 48 0,.pt 80 0,(.ci (.clo 111 [(128,0)]))],23)]) cY aY→Wq Try.prog Q ([]) ac Exit.normal aY cY.w ρ):Wq Try.prog Q ([.code (rfA qp_k)]) ac .normal aX cX.w ρ :=
 run_atT (unroll:=false) (n:=3000) (path:=[]) (o:=⟨_,_,_,_,_,_,_⟩) dvQ_ok (by kernel_rfl) (by kernel_rfl) ho (by kernel_rfl) (by kernel_rfl) hs hK
def qpB (a:Fr) (e:List Int) (o:Fr) (z:Bool):St:=mkSt 23 [3,6,7,8] [.pt 16 0,.pt 48 0,.pt 80 0,(.ci (.bool z))] [16,48,80,128] [(eF [.ob (.s a)]),(eF [(.ob (.s (0:Fr)))]),some (.fl [.ob (.s o)]),(eF [.sl (.u64 e)])] 208 [[3,6,7,11]] [([.pt 16 0,.pt 48 0,.pt 80 0,(.ci (.clo 111 [(128,0)]))],23)]
theorem qpC (a:Fr) (e:List Int) (o:Fr) (z:Bool) {ρ:Option Nat} (ho:AllP [(z=true)]) (hs:Sim w0 F0 K ac (qpB a e o z) cX aX) (hK:∀cY aY,Sim w0 F0 K ac (mkSt 23 [6] [.pt 48 0] [16,48,80,128] [(eF [.ob (.s a)]),(eF [(.ob (.s (0:Fr)))]),(eF [(.ob (.s ((o*o)*a)))]),(eF [.sl (.u64 e)])] 384 [[3,6,7,11]] [([.pt 16 0,.pt 48 0,.pt 80 0,(.ci (.clo 111 [(128,0)]))],23)]) cY aY→Wq Try.prog Q ([]) ac Exit.normal aY cY.w ρ):Wq Try.prog Q ([.code (rfB qp_k)]) ac .normal aX cX.w ρ :=
 run_atT (unroll:=false) (n:=3000) (path:=[true]) (o:=⟨_,_,_,_,_,_,_⟩) dvQ_ok (by kernel_rfl) (by kernel_rfl) ho (by kernel_rfl) (by kernel_rfl) hs hK
theorem qpD (a:Fr) (e:List Int) (o:Fr) (z:Bool) {ρ:Option Nat} (ho:AllP [(z=false)]) (hs:Sim w0 F0 K ac (qpB a e o z) cX aX) (hK:∀cY aY,Sim w0 F0 K ac (mkSt 23 [6] [.pt 48 0] [16,48,80,128] [(eF [.ob (.s a)]),(eF [(.ob (.s (0:Fr)))]),(eF [(.ob (.s (o*o)))]),(eF [.sl (.u64 e)])] 304 [[3,6,7,11]] [([.pt 16 0,.pt 48 0,.pt 80 0,(.ci (.clo 111 [(128,0)]))],23)]) cY aY→Wq Try.prog Q ([]) ac Exit.normal aY cY.w ρ):Wq Try.prog Q ([.code (rfB qp_k)]) ac .normal aX cX.w ρ :=
 run_atT (unroll:=false) (n:=3000) (path:=[false]) (o:=⟨_,_,_,_,_,_,_⟩) dvQ_ok (by kernel_rfl) (by kernel_rfl) ho (by kernel_rfl) (by kernel_rfl) hs hK
theorem qpX (a:Fr) (e:List Int) (o:Fr) (ho:AllP []):Sg Try.prog (qpS a e o) (mkSt 23 [6] [.pt 48 0] [48] [(eF [.ob (.s o)])] 224 [] []) .ret ([]) (rfR qp_k):=fun hs hK=>
 run_at2 (unroll:=false) (n:=3000) (path:=[]) (o:=⟨_,_,_,_,_,_,_⟩) dvQ_ok (by kernel_rfl) (by kernel_rfl) ho hs hK
def qpE (a:Fr) (e:List Int) (o:Fr):St:=mkSt 23 [6] [.pt 48 0] [16,48,80,128] [(eF [.ob (.s a)]),(eF [(.ob (.s (0:Fr)))]),some (.fl [.ob (.s o)]),(eF [.sl (.u64 e)])] 384 [[3,6,7,11]] [([.pt 16 0,.pt 48 0,.pt 80 0,(.ci (.clo 111 [(128,0)]))],23)]
def qpZ (o:Fr):St:=mkSt 23 [6] [.pt 48 0] [48] [some (.fl [.ob (.s o)])] 224 [] []
theorem qpR_end (o:Fr):runEnd dvQ Try.f108 false 3000 (⟨[],.ret,qpZ o⟩) [] [] []=(some ([],((.v (.a [.ob (.s o)])),[]))):=by kernel_rfl
end
end

section

theorem and1 {m:Nat}:bitsOp BinOp.and IntKind.u64 (m:Int) (1:Int)=((m % 2:Nat):Int):=by
 show wrap IntKind.u64 ((BitVec.ofInt 64 (m:Int) &&& BitVec.ofInt 64 ((1:Nat):Int)).toNat:Int)=_
 rw[BitVec.ofInt_natCast,BitVec.ofInt_natCast,BitVec.toNat_and,BitVec.toNat_ofNat,BitVec.toNat_ofNat]
 have e:1 % 2 ^ 64=2 ^ 1-1:=by decide
 rw[e,Nat.and_two_pow_sub_one_eq_mod,wrap_u64]
 omega

theorem bit_expr {e:List Int} (h:lims e) {i:Nat} (hi:i<1024):(bitsOp BinOp.and IntKind.u64 (Int.fdiv (List.getD e (wrap IntKind.i64 (Int.tdiv (i:Int) (64:Int))).toNat (0:Int)) ((2:Int) ^ (Min.min (Int.tmod (i:Int) (64:Int)).toNat 64))) (1:Int) == (1:Int))=decide (numL e / 2 ^ i % 2=1):=by
 have e1:Int.tdiv (i:Int) (64:Int)=((i / 64:Nat):Int):=Int.tdiv_eq_ediv_of_nonneg (by omega)
 have e2:Int.tmod (i:Int) (64:Int)=((i % 64:Nat):Int):=Int.tmod_eq_emod_of_nonneg (by omega)
 have e3:Min.min (((i % 64:Nat):Int)).toNat 64=i % 64:=by omega
 have hg:=lims_get h (i / 64)
 rw[e1,wrap_id (by omega) (by omega),Int.toNat_natCast,e2,e3,numL_bit h i]
 obtain ⟨g,hg2⟩:=Int.eq_ofNat_of_zero_le hg.1
 have hp:((2:Int) ^ (i % 64))=((2 ^ (i % 64):Nat):Int):=by simp
 rw[hg2,hp,Int.fdiv_eq_ediv_of_nonneg _ (Int.natCast_nonneg _),←Int.natCast_ediv,and1,Int.toNat_natCast]
 generalize g / 2 ^ (i % 64)=m
 by_cases hm:m % 2=1
 ·rw[hm];rfl
 ·have:m % 2=0:=by omega
  rw[this];rfl

def btEnc (z:Bool):List Value:=[.bool z]

theorem bits_iter {x:Ctx} {p:Nat} {e:List Int} {M:List Bool→Nat→Option En} (hl:e.length≤16) (hlim:lims e) (hM:∀s,M s p=some (.fl [.sl (.u64 e)])) :
  IterC Try.prog x 111 [(p,0)] btEnc (btL (numL e) (bitsC e e.length) (bitsC e e.length)) M:=by
 intro l J W hgrow hread hyield hJ
 have hcl:=bitsC_le e e.length
 generalize hc:bitsC e e.length=c at *
 generalize hN:numL e=N at *
 have key:Wq Try.prog (bodyPost Try.prog Try.f111 fun e' W' => (∃v,e' = Ending.returned v)∧J (btL N c c) W') [.code (bodyOf Try.f111)] [] .normal { tmps:=[Value.func (.yield l) #[] #[],.pointer (some ⟨x.β p,0,none⟩)].toArray++Array.replicate 22 undef,defers:=[] } W:=?_
 ·exact calls_of_wp (c:=bodyOf Try.f111) Try.func111 rfl ((wpIn_wide (n:=0)).1 key.wp)
 obtain ⟨y,rfl,hm,hcp⟩:=hread [] W hJ
 obtain ⟨hr,hβ⟩:=hcp (p,0) List.mem_cons_self
 have hr:y.k p = .real:=hr
 have hβ:y.β p=x.β p:=hβ
 have hargs:denSs (itCtx y p) [.v (.c (.val (.func (.yield l) #[] #[]))),.v (.c (.ptr 0 0))] [.func (.yield l) #[] #[],.pointer (some ⟨x.β p,0,none⟩)]:=
  .cons ⟨rfl,0,rfl,rfl⟩ (.cons ⟨rfl,0,rfl,by show _=[Value.pointer (some ⟨y.β p,0,none⟩)];rw[hβ]⟩ .nil)
 obtain ⟨v,hv,hbox⟩:=box_sl hm (hM []) hr
 have hs:=it_sim (nx:=16) (nt:=24) (a:={ tmps:=[Value.func (.yield l) #[] #[],.pointer (some ⟨x.β p,0,none⟩)].toArray++Array.replicate 22 undef,defers:=[] }) hm (hM []) hr hbox rfl (by simp) (argT_den hargs 22)
 change Wq Try.prog _ _ _ _ _ (itCtx y p).w
 refine bt l v trivial hs fun ac cY aY hs1=>?_
 have hmb:Mem (itCtx y p) (one (.fl [.val v])):=it_mem hm (hM _) hr hbox
 obtain ⟨hg1,_,_⟩:=it_back hmb rfl hs1 rfl
 have hsl:cY.D (.sl (.u64 e)) [v]:=data_grow hg1 (fun b hb=>hs1.base.f0 b hb) hm.fw rfl hv
 have hs2:=hs1.slots (svs' := [.v (.c (.val (.func (.yield l) #[] #[]))),.v (.c (.ptr 0 0)),.v (.c (.sl (.u64 e)))]) ⟨fun _ h=>h,fun _ h=>h,conv_val rfl hsl,trivial⟩
 refine bu l v e ⟨hl,hlim,trivial⟩ hs2 fun ac cZ aZ hs3=>?_
 rw[hc,wrap_id (by omega) (by omega)] at hs3
 let I:{ t:Nat // t≤c } → List Act→Act→World→Prop:=fun t ac a w=>∃y z v,z.w=w∧y.k p = .real∧y.β p=x.β p∧Mem y (M (btL N c t.1))∧J (btL N c t.1) y.w∧y.D (.sl (.u64 e)) [v]∧Mem (itCtx y p) (one (.fl [.val v]))∧Sim y.w y.F (kPin (itCtx y p)) ac (buS l v ((c:Int)-1-(t.1:Int))) z a
 refine loop_inv I (fun t=>c-t.1) (c:=lpC bu_k) (k:=lpR bu_k) (by kernel_rfl) (fun t ih ac b w hI=>?_) ⟨0,Nat.zero_le _⟩ ⟨y,cZ,v,rfl,hr,hβ,hm,hJ,hv,hmb,by
   show Sim _ _ _ _ (buS l v ((c:Int)-1-((0:Nat):Int))) _ _
   rw[show (c:Int)-1-((0:Nat):Int)=(c:Int)-1 from by omega]
   exact hs3.nx _⟩
 obtain ⟨t,ht⟩:=t
 obtain ⟨y,z,v,rfl,hr,hβ,hm,hJ,hv,hmb,hs⟩:=hI
 simp only at hm hJ hs ih
 by_cases h:t<c
 ·obtain ⟨i,hi⟩:∃i:Nat,i=c-1-t:=⟨_,rfl⟩
  have ei:(c:Int)-1-(t:Int)=(i:Int):=by omega
  rw[ei] at hs
  refine bv l v _ ⟨by simp,by decide,trivial⟩ hs fun ac cV aV hs4=>?_
  obtain ⟨hg4,_,_⟩:=it_back hmb rfl hs4 rfl
  have hsl4:cV.D (.sl (.u64 e)) [v]:=data_grow hg4 (fun b hb=>hs4.base.f0 b hb) hm.fw rfl hv
  have hs5:=hs4.slots (svs' := [.v (.c (.val (.func (.yield l) #[] #[]))),.v (.c (.ptr 0 0)),.v (.c (.int .i64 (i:Int))),.v (.c (.val (.func (.yield l) #[] #[]))),.v (.c (.sl (.u64 e))),.v (.c (.int .i64 (wrap IntKind.i64 (Int.tdiv (i:Int) (64:Int)))))])
   ⟨fun _ h=>h,fun _ h=>h,fun _ h=>h,fun _ h=>h,conv_val rfl hsl4,fun _ h=>h,trivial⟩
  have e1:Int.tdiv (i:Int) (64:Int)=((i / 64:Nat):Int):=Int.tdiv_eq_ediv_of_nonneg (by omega)
  have e2:Int.tmod (i:Int) (64:Int)=((i % 64:Nat):Int):=Int.tmod_eq_emod_of_nonneg (by omega)
  refine bw l v e _ ⟨by rw[e1,wrap_id (by omega) (by omega)];omega,by rw[e1,wrap_id (by omega) (by omega)];omega,by decide,by rw[e2];omega,trivial⟩ hs5 fun ac cU aU hs6=>?_
  rw[bit_expr hlim (by omega:i<1024),hN] at hs6
  obtain ⟨hg,hk2,hβ2⟩:=it_back hmb rfl hs6 rfl
  have hJ2:=hgrow _ _ _ hJ hg
  have e3:btL N c (t+1)=btL N c t++[decide (N / 2 ^ i % 2=1)]:=by rw[btL_succ,hi]
  obtain ⟨r,hr1⟩:=btL_pre N c (n:=c) (t:=t+1) h
  refine yield_at (R:=fun W' => J (btL N c (t+1)) W') (dst:=some 22) (f:=.tmp 11) (args:=[.tmp 21]) (by kernel_rfl) hs6 (l:=l) rfl (vs:=btEnc (decide (N / 2 ^ i % 2=1))) ?_ ?_ fun W' hJ3=>?_
  ·have h21:=D_bool (hs6.t 21)
   show [aU.tmps.getD 21 undef]=_
   rw[h21]
   rfl
  ·have:=hyield (btL N c t) (decide (N / 2 ^ i % 2=1)) _ hJ2 ⟨r,by rw[hr1,e3,List.append_assoc];rfl⟩
   rw[←e3] at this
   exact this
  ·obtain ⟨y3,rfl,hm3,hc3⟩:=hread _ _ hJ3
   obtain ⟨hr3,hβ3⟩:=hc3 (p,0) List.mem_cons_self
   have hr3:y3.k p = .real:=hr3
   have hβ3:y3.β p=x.β p:=hβ3
   obtain ⟨v3,hv3,hbox3⟩:=box_sl hm3 (hM _) hr3
   have hmb3:Mem (itCtx y3 p) (one (.fl [.val v3])):=it_mem hm3 (hM _) hr3 hbox3
   have hs7:=it_again (nx' := 400) (dst:=22) (b:=true) hs6 (by kernel_rfl) rfl hm3 (hM _) hr3 hbox3 (by rw[hβ2,hβ];exact hβ3.symm) (by decide)
   change Wq Try.prog _ _ _ _ _ (itCtx y3 p).w
   refine bB l v3 _ _ trivial hs7 fun ac cT aT hs8=>?_
   have e4:wrap IntKind.i64 ((i:Int)-1)=(c:Int)-1-((t+1:Nat):Int):=by rw[wrap_id (by omega) (by omega)];omega
   rw[e4] at hs8
   exact ih ⟨t+1,by omega⟩ (by show c-(t+1)<c-t;omega) ac aT _ ⟨y3,cT,v3,rfl,hr3,hβ3,hm3,hJ3,hv3,hmb3,hs8.nx _⟩
 ·have e5:t=c:=by omega
  subst e5
  refine bX l v _ ⟨by simp;omega,trivial⟩ hs fun ac cV aV hs4=>?_
  obtain ⟨hg,_,_⟩:=it_back hmb rfl hs4 rfl
  exact ⟨it_end dvP_ok hs4 rfl rfl rfl (fun v=>⟨⟨v,rfl⟩,hgrow _ _ _ hJ hg⟩) (.inr rfl)⟩

def btVals (z:Bool):List SV:=[.v (.c (.bool z))]

theorem powN_bit (a:Fr) (l:List Bool) (z:Bool):powN a (pv (l++[z]))=if z=true then powN a (pv l)*powN a (pv l)*a else powN a (pv l)*powN a (pv l):=by
 rw[pv_snoc,Nat.two_mul]
 cases z with
 | true=>
  rw[if_pos rfl,←powN_add]
  rfl
 | false=>
  rw[if_neg (by decide),←powN_add]
  rfl

theorem power_fnd (a:Fr) (e:List Int) (hl:e.length≤16) (hlim:lims e) :
  FnD Try.prog 108 [.v (.a [.ob (.s a)]),.v (.a [.ob (.s 1)]),.v (.c (.sl (.u64 e)))] (.v (.a [.ob (.s (powN a (numL e)))])) []:=by
 refine fn_start_m (fn:=Try.f108) (c:=bodyOf Try.f108) Try.func108 rfl rfl fun x b hk hF hs=>?_
 refine qp a e trivial hs fun ac cY aY hs1=>?_
 obtain ⟨e1,e2⟩:=isRf_eq (k:=qp_k) (by kernel_rfl)
 rw[e1]
 have eP:(rfP qp_k).toList=[12]:=by kernel_rfl
 have eG:rfG qp_k = .tmp 11:=by kernel_rfl
 refine range_rule (ps:=rfP qp_k) e2 hs1 (gf:=111) (caps:=[(128,0)]) (enters_of Try.func111 rfl rfl) (fun pre=>qpS a e (powN a (pv pre))) (fun s=>by rw[eG];rfl) ⟨_,rfl⟩ (btL (numL e) (bitsC e e.length) (bitsC e e.length)) btVals btEnc
  (fun y z=>.cons ⟨rfl,0,rfl⟩ .nil) (fun z=>by rw[←Array.length_toList,eP];rfl) (fun pre p hp=>?_) (bits_iter hl hlim fun s=>rfl) (fun pre z=>qpB a e (powN a (pv pre)) z)
  (fun pre z=>qpE a e (powN a (pv (pre++[z])))) (fun pre z=>⟨_,rfl⟩) (fun pre z hz w1 F1 K1 as1 Q1 l y b hs2 hQ=>?_) (fun pre z hz w1 F1 K1 as1 Q1 l y b hs2 hQ=>?_) fun D y hs2 hD hFD hd=>?_
 ·rw[eP] at hp
  have h23:(qpS a e (powN a (pv pre))).nt=23:=rfl
  rw[h23]
  simp only[List.mem_cons,List.not_mem_nil,or_false] at hp
  subst hp
  decide
 ·rw[eP] at hs2
  exact qpA a e _ z trivial hs2 fun cZ aZ hs3=>⟨hQ _ _ (hs3.nx _)⟩
 ·rw[powN_bit] at hQ
  cases z with
  | true=>exact qpC a e _ true ⟨rfl,trivial⟩ hs2 fun cZ aZ hs3=>⟨hQ _ _ (hs3.nx _)⟩
  | false=>exact qpD a e _ false ⟨rfl,trivial⟩ hs2 fun cZ aZ hs3=>⟨hQ _ _ (hs3.nx _)⟩
 ·have hs3:=hs2.marked rfl rfl D
  have hN:numL e<2 ^ bitsC e e.length:=by
   have:=numL_lt hlim e.length (Nat.le_refl _)
   rwa [List.take_length] at this
  rw[pv_bits hN _ (Nat.le_refl _),Nat.sub_self,Nat.pow_zero,Nat.div_one] at hs2 hs3
  generalize powN a (numL e)=o at hs2 hs3 ⊢
  refine qpX a e o trivial hs3 fun ac cV aV hs6=>⟨?_⟩
  have hs7:Sim y.w y.F (kOwn y kAll (markOf D)) ac (qpZ o) cV aV:=hs6
  exact fn_finish dvQ_ok hk hF (qpR_end o) trivial (fun y v hd=>hd) hs2 hD hFD hd rfl hs7

end

section

theorem power_fnd2 (a u:Fr) (e:List Int) (hu:u=1) (hl:e.length≤16) (hlim:lims e) :
  FnD Try.prog 108 [.v (.a [.ob (.s a)]),.v (.a [.ob (.s u)]),.v (.c (.sl (.u64 e)))] (.v (.a [.ob (.s (powN a (numL e)))])) []:=by
 subst hu
 exact power_fnd a e hl hlim
def power108:FnSpec
 | [.v (.a [.ob (.s a)]),.v (.a [.ob (.s u)]),.v (.c (.sl (.u64 e)))]=>some ([u=1,e.length≤16,lims e],.v (.a [.ob (.s (powN a (numL e)))]),[])
 | _=>none
def dvR1:Env:=dvQ.set (addT dvQ.fn 108 power108)
theorem dvR1_ok:EnvOk Try.prog dvR1:=env_add dvQ_ok 108 power108 (enters_of Try.func108 rfl rfl) fun args o r es h ho=>by
 unfold power108 at h
 split at h
 ·cases h;exact power_fnd2 _ _ _ ho.1 ho.2.1 ho.2.2.1
 ·cases h
--@env dvR1 dvR1_ok
theorem inv0 (a:Fr):fnRes dvR1 Try.f104 3000 [.v (.a [.ob (.s a)])] [] [] []=(some ([(0≤(0:Int)),(0<(4:Int)),(0<4),(0≤(0:Int)),(0<(4:Int)),((1:Int)=(1:Int)),((1:Fr)=(1:Fr)),(4≤16),(lims [(18446744069414584319:Int),(6034159408538082302:Int),(3691218898639771653:Int),(8353516859464449352:Int)])],((.v (.a [(.ob (.s (powN a 52435875175126190479447740508185965837690552500527637822603658699938581184511)))])),[]))):=by kernel_rfl
theorem rN_2:52435875175126190479447740508185965837690552500527637822603658699938581184511=rN-2:=by decide +kernel
theorem inv_fnd (a:Fr):FnD Try.prog 104 [.v (.a [.ob (.s a)])] (.v (.a [.ob (.s (powN a (rN-2)))])) []:=by
 have r:=inv0 a
 rw[rN_2] at r
 refine fn_sound dvR1_ok Try.func104 r ⟨by decide,by decide,by decide,by decide,by decide,by decide,rfl,by decide,?_,trivial⟩
 intro x hx
 simp only[List.mem_cons,List.not_mem_nil,or_false] at hx
 rcases hx with rfl | rfl | rfl | rfl<;>decide
def inv104Spec:FnSpec
 | [.v (.a [.ob (.s a)])]=>some ([],.v (.a [.ob (.s (powN a (rN-2)))]),[])
 | _=>none
def dvR2:Env:=dvR1.set (addT dvR1.fn 104 inv104Spec)
theorem dvR2_ok:EnvOk Try.prog dvR2:=env_add dvR1_ok 104 inv104Spec (enters_of Try.func104 rfl rfl) fun args o r es h _=>by
 unfold inv104Spec at h
 split at h
 ·cases h;exact inv_fnd _
 ·cases h
--@env dvR2 dvR2_ok
theorem q86 (x:U4):fnRes dvR2 Try.f86 3000 [.v (.a [.ob (.fr x)])] [] [] []=(some ([],((.v (.a [(.ob (.fr (outF (powN (inF x) 52435875175126190479447740508185965837690552500527637822603658699938581184511))))])),[]))):=by kernel_rfl
theorem inv86_fnd (x:U4):FnD Try.prog 86 [.v (.a [.ob (.fr x)])] (.v (.a [.ob (.fr (outF (powN (inF x) (rN-2))))])) []:=by
 have r:=q86 x
 rw[rN_2] at r
 exact fn_sound dvR2_ok Try.func86 r trivial
end

section
section
variable {w0:World} {F0:Nat→Prop} {K:Kp} {ac:List Act} {Q:Exit→Act→World→Prop} {cX:Ctx} {aX:Act}

def comp9Spec:FnSpec
 | [.v (.c (.sl (.op l)))]=>some ([],compSV (compR l),[])
 | _=>none
def sA1:Env:=dvR2.set (addT dvR2.fn 9 comp9Spec)
theorem sA1_ok:EnvOk Try.prog sA1:=env_add dvR2_ok 9 comp9Spec (enters_of Try.func9 rfl rfl) fun args o r es h _=>by
 unfold comp9Spec at h
 split at h
 ·cases h;exact comp_fnd _
 ·cases h
def inv86Spec:FnSpec
 | [.v (.a [.ob (.fr a)])]=>some ([],.v (.a [.ob (.fr (outF (powN (inF a) (rN-2))))]),[])
 | _=>none
def sA2:Env:=sA1.set (addT sA1.fn 86 inv86Spec)
theorem sA2_ok:EnvOk Try.prog sA2:=env_add sA1_ok 86 inv86Spec (enters_of Try.func86 rfl rfl) fun args o r es h _=>by
 unfold inv86Spec at h
 split at h
 ·cases h;exact inv86_fnd _
 ·cases h
def sA:Env:={ sA2 with inl:=addI (addI (addI (addI sA2.inl 59 Try.f59) 84 Try.f84) 90 Try.f90) 60 Try.f60 }
theorem sA_ok:EnvOk Try.prog sA:=⟨sA2_ok.ty,sA2_ok.mixed,sA2_ok.fn,sA2_ok.mu,inl_add (inl_add (inl_add (inl_add sA2_ok.inl Try.func59 (enters_of Try.func59 rfl rfl)) Try.func84 (enters_of Try.func84 rfl rfl)) Try.func90 (enters_of Try.func90 rfl rfl)) Try.func60 (enters_of Try.func60 rfl rfl),sA2_ok.ex,sA2_ok.inv⟩
--@env sA sA_ok
theorem slE (l:List OpD) (I:List U4):fnRes sA Try.f13 3000 [.v (.c (.sl (.op l))),.v (.c (.sl (.fr I)))] [true] [] []=(some ([(((Prod.fst (Prod.snd (compR l))) != (0:Int))=true)],((.t [(.c (.val (Value.slice Option.none 0 0))),(.c (.int .i64 (Prod.fst (Prod.snd (compR l))))),(.c (.int .i64 (Prod.snd (Prod.snd (compR l)))))]),[]))):=by kernel_rfl
def slA_k:List KI:=(run sA false 3000 ((fun (l:List OpD) (I:List U4)=>(⟨[.code (bodyOf Try.f13)],.normal,initSt Try.f13.ntmps [.v (.c (.sl (.op l))),.v (.c (.sl (.fr I)))]⟩:Cfg)) default default) [false]).cfg.k
theorem slA (l:List OpD) (I:List U4) (ho:AllP [(((Prod.fst (Prod.snd (compR l))) != (0:Int))=false)]):Sg Try.prog (initSt Try.f13.ntmps [.v (.c (.sl (.op l))),.v (.c (.sl (.fr I)))]) (mkSt 73 [0,1,10,26,27,28] [(.ci (.sl (.op l))),(.ci (.sl (.fr I))),.ii (0:Int),(.ci (.sl (.op l))),(.ii (l.length:Int)),.ii (0:Int)] [] [] 320 [] []) .normal (slA_k) ([.code (bodyOf Try.f13)]):=fun hs hK=>
 run_at2 (unroll:=false) (n:=3000) (path:=[false]) (o:=⟨_,_,_,_,_,_,_⟩) sA_ok (by kernel_rfl) (by kernel_rfl) ho hs hK
def slS (l:List OpD) (I:List U4) (n i:Int):St:=mkSt 73 [0,1,10,26,27,28] [(.ci (.sl (.op l))),(.ci (.sl (.fr I))),.v (.c (.int .i64 n)),(.ci (.sl (.op l))),(.ii (l.length:Int)),.v (.c (.int .i64 i))] [] [] 320 [] []
section
variable (l:List OpD) (I:List U4) (n i:Int)
theorem slB (ho:AllP [((decide (i<(l.length:Int)))=true),(0≤i),(i<(l.length:Int)),(((OpD.tag (List.getD l (i).toNat op0)) == (1:Int))=true)]):Sg Try.prog (slS l I n i) (mkSt 73 [0,1,10,26,27,28] [(.ci (.sl (.op l))),(.ci (.sl (.fr I))),(.ii (wrap .i64 (n+1))),(.ci (.sl (.op l))),(.ii (l.length:Int)),(.ii (wrap .i64 (i+1)))] [] [] 528 [] []) .normal (lpBk slA_k) (lpIn slA_k):=fun hs hK=>
 run_at2 (unroll:=false) (n:=3000) (path:=[true,true]) (o:=⟨_,_,_,_,_,_,_⟩) sA_ok (by kernel_rfl) (by kernel_rfl) ho hs hK
theorem slC (ho:AllP [((decide (i<(l.length:Int)))=true),(0≤i),(i<(l.length:Int)),(((OpD.tag (List.getD l (i).toNat op0)) == (1:Int))=false)]):Sg Try.prog (slS l I n i) (mkSt 73 [0,1,10,26,27,28] [(.ci (.sl (.op l))),(.ci (.sl (.fr I))),.ii n,(.ci (.sl (.op l))),(.ii (l.length:Int)),(.ii (wrap .i64 (i+1)))] [] [] 480 [] []) .normal (lpBk slA_k) (lpIn slA_k):=fun hs hK=>
 run_at2 (unroll:=false) (n:=3000) (path:=[true,false]) (o:=⟨_,_,_,_,_,_,_⟩) sA_ok (by kernel_rfl) (by kernel_rfl) ho hs hK
end
theorem slL_end (l:List OpD) (I:List U4) (n i:Int):runEnd sA Try.f13 false 3000 (⟨lpIn slA_k,.normal,slS l I n i⟩) [false,true] [] []=(some ([((decide (i<(l.length:Int)))=false),((n != (I.length:Int))=true)],((.t [(.c (.val (Value.slice Option.none 0 0))),(.c (.int .i64 (3:Int))),(.c (.int .i64 (0:Int)))]),[]))):=by kernel_rfl
def slD_k:List KI:=(run sA false 3000 ((fun (l:List OpD) (I:List U4) (n i:Int)=>(⟨lpIn slA_k,.normal,slS l I n i⟩:Cfg)) default default default default) [false,false]).cfg.k
theorem slD (l:List OpD) (I:List U4) (n i:Int) (ho:AllP [((decide (i<(l.length:Int)))=false),((n != (I.length:Int))=false)]):Sg Try.prog (slS l I n i) (mkSt 73 [13,47,48,49] [.pt 464 0,(.ci (.sl (.op l))),(.ii (l.length:Int)),.ii (0:Int)] [432,464] [(eF [(.val (Value.slice Option.none 0 0)),.sl (.fr I),(.lit false)]),(eF [(.val (Value.slice Option.none 0 0)),(.int .i64 (0:Int)),(.ptr 432 0)])] 544 [] []) .normal (slD_k) (lpIn slA_k):=fun hs hK=>
 run_at2 (unroll:=false) (n:=3000) (path:=[false,false]) (o:=⟨_,_,_,_,_,_,_⟩) sA_ok (by kernel_rfl) (by kernel_rfl) ho hs hK
end
end

section
section
variable {w0:World} {F0:Nat→Prop} {K:Kp} {ac:List Act} {Q:Exit→Act→World→Prop} {cX:Ctx} {aX:Act}

def soS (l:List OpD) (G:List GateD) (V J:List U4) (i:Int):St:=mkSt 73 [13,47,48,49] [.v (.c (.ptr 464 0)),.v (.c (.sl (.op l))),.v (.c (.int .i64 (l.length:Int))),.v (.c (.int .i64 i))] [32,64,432,464] [some (.sq (.gate G)),some (.sq (.fr V)),some (.fl [.slc 64 0 V.length 4,.sl (.fr J),.bool false]),some (.fl [.slc 32 0 G.length 23,.int .i64 (V.length:Int),.ptr 432 0])] 544 [] []
--@env sA sA_ok
def soB_k:List KI:=(run sA false 18 ((fun (l:List OpD) (G:List GateD) (V J:List U4) (i:Int)=>(⟨lpIn slD_k,.normal,soS l G V J i⟩:Cfg)) default default default default default) [true]).cfg.k
theorem soB (l:List OpD) (G:List GateD) (V J:List U4) (i:Int) (ho:AllP [((decide (i<(l.length:Int)))=true),(0≤i),(i<(l.length:Int))]):Sg Try.prog (soS l G V J i) (mkSt 73 [13,14,15,47,48,49] [.pt 464 0,.ii i,.pt 608 0,(.ci (.sl (.op l))),(.ii (l.length:Int)),.ii i] [32,64,432,464,608] [(eQ (.gate G)),(eQ (.fr V)),(eF [(.slc 64 0 V.length 4),.sl (.fr J),(.bool false)]),(eF [(.slc 32 0 G.length 23),(.int .i64 (V.length:Int)),(.ptr 432 0)]),(eF [(.int .i64 (OpD.tag (List.getD l (i).toNat op0))),(.int .i64 (OpD.a (List.getD l (i).toNat op0))),(.int .i64 (OpD.b (List.getD l (i).toNat op0))),(.int .i64 (OpD.c (List.getD l (i).toNat op0))),(.int .i64 (OpD.n (List.getD l (i).toNat op0))),(.ob (.fr (OpD.k (List.getD l (i).toNat op0)))),(.sl (.fr (OpD.ks (List.getD l (i).toNat op0)))),(.sl (.int (OpD.vars (List.getD l (i).toNat op0))))])] 656 [] []) .normal (soB_k) (lpIn slD_k):=fun hs hK=>
 run_at2 (unroll:=false) (n:=18) (path:=[true]) (o:=⟨_,_,_,_,_,_,_⟩) sA_ok (by kernel_rfl) (by kernel_rfl) ho hs hK
theorem soX_end (l:List OpD) (G:List GateD) (V J:List U4) (i:Int):runEnd sA Try.f13 false 3000 (⟨lpIn slD_k,.normal,soS l G V J i⟩) [false] [] [64]=(some ([((decide (i<(l.length:Int)))=false),(V.length=V.length)],((.t [(.c (.sl (.fr V))),(.c (.int .i64 (0:Int))),(.c (.int .i64 (0:Int)))]),[]))):=by kernel_rfl
def soO (l:List OpD) (G:List GateD) (V J:List U4) (i:Int) (t:Int) (a b c m:Int) (k:U4) (ks:List U4) (vs:List Int):St:=mkSt 73 [13,14,15,47,48,49] [.pt 464 0,.ii i,.pt 608 0,(.ci (.sl (.op l))),(.ii (l.length:Int)),.ii i] [32,64,432,464,608] [(eQ (.gate G)),(eQ (.fr V)),(eF [(.slc 64 0 V.length 4),.sl (.fr J),(.bool false)]),(eF [(.slc 32 0 G.length 23),(.int .i64 (V.length:Int)),(.ptr 432 0)]),some (.fl [.int .i64 t,.int .i64 a,.int .i64 b,.int .i64 c,.int .i64 m,.ob (.fr k),.sl (.fr ks),.sl (.int vs)])] 656 [] []
section
variable (l:List OpD) (G:List GateD) (V J:List U4) (i:Int) (a b c m:Int) (k:U4) (ks:List U4) (vs:List Int)
theorem so1 (ho:AllP [(((1:Int)==1)=true),(0≤(0:Int)),(0<(J.length:Int)),(0≤(1:Int)),((1:Int)≤(J.length:Int)),(((V.length+1)*32)≤140737488355328),((V.length+1)≤maxLen),(V.length=V.length),(1=1),(false=false)]):Sg Try.prog (soO l G V J i 1 a b c m k ks vs) (mkSt 73 [13,47,48,49] [.pt 464 0,(.ci (.sl (.op l))),(.ii (l.length:Int)),(.ii (wrap .i64 (i+1)))] [32,64,432,464] [(eQ (.gate G)),(eQ (.fr (V++[(outF (inF (J.getD 0 0)))]))),(eF [(.slc 64 0 (V.length+1) 4),(.sl (.fr (List.take (J.length-1) (List.drop 1 J)))),(.bool false)]),(eF [(.slc 32 0 G.length 23),(.int .i64 (wrap .i64 ((V.length:Int)+1))),(.ptr 432 0)])] 1968 [] []) .normal (lpBk slD_k) (soB_k):=fun hs hK=>
 run_at2 (unroll:=false) (n:=3000) (path:=[true,false]) (o:=⟨_,_,_,_,_,_,_⟩) sA_ok (by kernel_rfl) (by kernel_rfl) ho hs hK
theorem so2 (ho:AllP [(((2:Int)==1)=false),(((2:Int)==3)=false),(((2:Int)==4)=false),(((2:Int)==5)=false),(((2:Int)==6)=false),(((2:Int)==7)=false),(((2:Int)==8)=false),(((2:Int)==9)=false),(((2:Int)==10)=false),(((2:Int)==11)=false),(false=false)]):Sg Try.prog (soO l G V J i 2 a b c m k ks vs) (mkSt 73 [13,47,48,49] [.pt 464 0,(.ci (.sl (.op l))),(.ii (l.length:Int)),(.ii (wrap .i64 (i+1)))] [32,64,432,464] [(eQ (.gate G)),(eQ (.fr V)),(eF [(.slc 64 0 V.length 4),.sl (.fr J),(.bool false)]),(eF [(.slc 32 0 G.length 23),(.int .i64 (V.length:Int)),(.ptr 432 0)])] 1200 [] []) .normal (lpBk slD_k) (soB_k):=fun hs hK=>
 run_at2 (unroll:=false) (n:=3000) (path:=[false,false,false,false,false,false,false,false,false,false,false]) (o:=⟨_,_,_,_,_,_,_⟩) sA_ok (by kernel_rfl) (by kernel_rfl) ho hs hK
theorem so3 (ho:AllP [(((3:Int)==1)=false),(((3:Int)==3)=true),(((V.length+1)*32)≤140737488355328),((V.length+1)≤maxLen),(V.length=V.length),(1=1),((decide ((G.length:Int)≤(4096:Int)))=true),(((G.length+1)*184)≤140737488355328),((G.length+1)≤maxLen),(G.length=G.length),(1=1),(false=false)]):Sg Try.prog (soO l G V J i 3 a b c m k ks vs) (mkSt 73 [13,47,48,49] [.pt 464 0,(.ci (.sl (.op l))),(.ii (l.length:Int)),(.ii (wrap .i64 (i+1)))] [32,64,432,464] [(eQ (.gate (G++[(GateD.mk 0 oneU 0 0 (outF ((0:Fr)-(inF k))) (wrap .i64 ((wrap .i64 ((V.length:Int)+1))-1)) (-1) (-1))]))),(eQ (.fr (V++[(outF (inF k))]))),(eF [(.slc 64 0 (V.length+1) 4),.sl (.fr J),(.bool false)]),(eF [(.slc 32 0 (G.length+1) 23),(.int .i64 (wrap .i64 ((V.length:Int)+1))),(.ptr 432 0)])] 2208 [] []) .normal (lpBk slD_k) (soB_k):=fun hs hK=>
 run_at2 (unroll:=false) (n:=3000) (path:=[false,true,true,false]) (o:=⟨_,_,_,_,_,_,_⟩) sA_ok (by kernel_rfl) (by kernel_rfl) ho hs hK
theorem so4 (ho:AllP [(((4:Int)==1)=false),(((4:Int)==3)=false),(((4:Int)==4)=true),(0≤a),(a<(V.length:Int)),(0=0),((a).toNat<V.length),(0≤b),(b<(V.length:Int)),(0=0),((b).toNat<V.length),(((V.length+1)*32)≤140737488355328),((V.length+1)≤maxLen),(V.length=V.length),(1=1),((decide ((G.length:Int)≤(4096:Int)))=true),(((G.length+1)*184)≤140737488355328),((G.length+1)≤maxLen),(G.length=G.length),(1=1),(false=false)]):Sg Try.prog (soO l G V J i 4 a b c m k ks vs) (mkSt 73 [13,47,48,49] [.pt 464 0,(.ci (.sl (.op l))),(.ii (l.length:Int)),(.ii (wrap .i64 (i+1)))] [32,64,432,464] [(eQ (.gate (G++[(GateD.mk 0 (outF (inF oneU)) (outF (inF oneU)) mO (0:U4) a b (wrap .i64 ((wrap .i64 ((V.length:Int)+1))-1)))]))),(eQ (.fr (V++[(outF ((inF (outF ((inF oneU)*(inF (V.getD a.toNat 0)))))+(inF (outF ((inF oneU)*(inF (V.getD b.toNat 0)))))))]))),(eF [(.slc 64 0 (V.length+1) 4),.sl (.fr J),(.bool false)]),(eF [(.slc 32 0 (G.length+1) 23),(.int .i64 (wrap .i64 ((V.length:Int)+1))),(.ptr 432 0)])] 2784 [] []) .normal (lpBk slD_k) (soB_k):=fun hs hK=>
 run_at2 (unroll:=false) (n:=3000) (path:=[false,false,true,true,false]) (o:=⟨_,_,_,_,_,_,_⟩) sA_ok (by kernel_rfl) (by kernel_rfl) ho hs hK
theorem so5 (ho:AllP [(((5:Int)==1)=false),(((5:Int)==3)=false),(((5:Int)==4)=false),(((5:Int)==5)=true),(0≤a),(a<(V.length:Int)),(0=0),((a).toNat<V.length),(0≤b),(b<(V.length:Int)),(0=0),((b).toNat<V.length),(((V.length+1)*32)≤140737488355328),((V.length+1)≤maxLen),(V.length=V.length),(1=1),((decide ((G.length:Int)≤(4096:Int)))=true),(((G.length+1)*184)≤140737488355328),((G.length+1)≤maxLen),(G.length=G.length),(1=1),(false=false)]):Sg Try.prog (soO l G V J i 5 a b c m k ks vs) (mkSt 73 [13,47,48,49] [.pt 464 0,(.ci (.sl (.op l))),(.ii (l.length:Int)),(.ii (wrap .i64 (i+1)))] [32,64,432,464] [(eQ (.gate (G++[(GateD.mk oneU 0 0 mO 0 a b (wrap .i64 ((wrap .i64 ((V.length:Int)+1))-1)))]))),(eQ (.fr (V++[(outF ((inF (V.getD a.toNat 0))*(inF (V.getD b.toNat 0))))]))),(eF [(.slc 64 0 (V.length+1) 4),.sl (.fr J),(.bool false)]),(eF [(.slc 32 0 (G.length+1) 23),(.int .i64 (wrap .i64 ((V.length:Int)+1))),(.ptr 432 0)])] 2624 [] []) .normal (lpBk slD_k) (soB_k):=fun hs hK=>
 run_at2 (unroll:=false) (n:=3000) (path:=[false,false,false,true,true,false]) (o:=⟨_,_,_,_,_,_,_⟩) sA_ok (by kernel_rfl) (by kernel_rfl) ho hs hK
theorem so6 (ho:AllP [(((6:Int)==1)=false),(((6:Int)==3)=false),(((6:Int)==4)=false),(((6:Int)==5)=false),(((6:Int)==6)=true),(((vs.length:Int) == (1:Int))=true),(0≤(0:Int)),(0<(ks.length:Int)),(0≤(0:Int)),(0<(vs.length:Int)),(0≤(vs.getD 0 0)),((vs.getD 0 0)<(V.length:Int)),(0=0),(((vs.getD 0 0)).toNat<V.length),(((V.length+1)*32)≤140737488355328),((V.length+1)≤maxLen),(V.length=V.length),(1=1),((decide ((G.length:Int)≤(4096:Int)))=true),(((G.length+1)*184)≤140737488355328),((G.length+1)≤maxLen),(G.length=G.length),(1=1),(false=false)]):Sg Try.prog (soO l G V J i 6 a b c m k ks vs) (mkSt 73 [13,47,48,49] [.pt 464 0,(.ci (.sl (.op l))),(.ii (l.length:Int)),(.ii (wrap .i64 (i+1)))] [32,64,432,464] [(eQ (.gate (G++[(GateD.mk 0 (outF (inF (ks.getD 0 0))) (0:U4) mO (0:U4) (vs.getD 0 0) (-1) (wrap .i64 ((wrap .i64 ((V.length:Int)+1))-1)))]))),(eQ (.fr (V++[(outF ((inF (ks.getD 0 0))*(inF (List.getD V ((vs.getD 0 0)).toNat 0))))]))),(eF [(.slc 64 0 (V.length+1) 4),.sl (.fr J),(.bool false)]),(eF [(.slc 32 0 (G.length+1) 23),(.int .i64 (wrap .i64 ((V.length:Int)+1))),(.ptr 432 0)])] 2704 [] []) .normal (lpBk slD_k) (soB_k):=fun hs hK=>
 run_at2 (unroll:=false) (n:=3000) (path:=[false,false,false,false,true,true,true,false]) (o:=⟨_,_,_,_,_,_,_⟩) sA_ok (by kernel_rfl) (by kernel_rfl) ho hs hK
theorem so7z (ho:AllP [(((7:Int)==1)=false),(((7:Int)==3)=false),(((7:Int)==4)=false),(((7:Int)==5)=false),(((7:Int)==6)=false),(((7:Int)==7)=true),((decide ((G.length:Int)≤(4096:Int)))=true),(((G.length+1)*184)≤140737488355328),((G.length+1)≤maxLen),(G.length=G.length),(1=1),(0≤a),(a<(V.length:Int)),(0=0),((a).toNat<V.length),((ite (true=true) (decide ((V.getD a.toNat 0)=(0:U4))) (Bool.not (decide ((V.getD a.toNat 0)=(0:U4)))))=true),(false=false)]):Sg Try.prog (soO l G V J i 7 a b c m k ks vs) (mkSt 73 [13,47,48,49] [.pt 464 0,(.ci (.sl (.op l))),(.ii (l.length:Int)),(.ii (wrap .i64 (i+1)))] [32,64,432,464] [(eQ (.gate (G++[(GateD.mk oneU mO 0 0 0 a a (-1))]))),(eQ (.fr V)),(eF [(.slc 64 0 V.length 4),.sl (.fr J),(.bool false)]),(eF [(.slc 32 0 (G.length+1) 23),(.int .i64 (V.length:Int)),(.ptr 432 0)])] 2144 [] []) .normal (lpBk slD_k) (soB_k):=fun hs hK=>
 run_at2 (unroll:=false) (n:=3000) (path:=[false,false,false,false,false,true,true,true,true,false]) (o:=⟨_,_,_,_,_,_,_⟩) sA_ok (by kernel_rfl) (by kernel_rfl) ho hs hK
theorem so7o (ho:AllP [(((7:Int)==1)=false),(((7:Int)==3)=false),(((7:Int)==4)=false),(((7:Int)==5)=false),(((7:Int)==6)=false),(((7:Int)==7)=true),((decide ((G.length:Int)≤(4096:Int)))=true),(((G.length+1)*184)≤140737488355328),((G.length+1)≤maxLen),(G.length=G.length),(1=1),(0≤a),(a<(V.length:Int)),(0=0),((a).toNat<V.length),((ite (true=true) (decide ((V.getD a.toNat 0)=(0:U4))) (Bool.not (decide ((V.getD a.toNat 0)=(0:U4)))))=false),(0≤a),(a<(V.length:Int)),(0=0),((a).toNat<V.length),((Bool.not (ite (true=true) (decide ((V.getD a.toNat 0)=oneU)) (Bool.not (decide ((V.getD a.toNat 0)=oneU)))))=false),(false=false)]):Sg Try.prog (soO l G V J i 7 a b c m k ks vs) (mkSt 73 [13,47,48,49] [.pt 464 0,(.ci (.sl (.op l))),(.ii (l.length:Int)),(.ii (wrap .i64 (i+1)))] [32,64,432,464] [(eQ (.gate (G++[(GateD.mk oneU mO 0 0 0 a a (-1))]))),(eQ (.fr V)),(eF [(.slc 64 0 V.length 4),.sl (.fr J),(.bool false)]),(eF [(.slc 32 0 (G.length+1) 23),(.int .i64 (V.length:Int)),(.ptr 432 0)])] 2144 [] []) .normal (lpBk slD_k) (soB_k):=fun hs hK=>
 run_at2 (unroll:=false) (n:=3000) (path:=[false,false,false,false,false,true,true,true,false,false,false]) (o:=⟨_,_,_,_,_,_,_⟩) sA_ok (by kernel_rfl) (by kernel_rfl) ho hs hK
end
theorem so7w_end (l:List OpD) (G:List GateD) (V J:List U4) (i:Int) (a b c m:Int) (k:U4) (ks:List U4) (vs:List Int):runEnd sA Try.f13 false 3000 (⟨soB_k,.normal,soO l G V J i 7 a b c m k ks vs⟩) [false,false,false,false,false,true,true,true,false,true] [] []=(some ([(((7:Int)==1)=false),(((7:Int)==3)=false),(((7:Int)==4)=false),(((7:Int)==5)=false),(((7:Int)==6)=false),(((7:Int)==7)=true),((decide ((G.length:Int)≤(4096:Int)))=true),(((G.length+1)*184)≤140737488355328),((G.length+1)≤maxLen),(G.length=G.length),(1=1),(0≤a),(a<(V.length:Int)),(0=0),((a).toNat<V.length),((ite (true=true) (decide ((V.getD a.toNat 0)=(0:U4))) (Bool.not (decide ((V.getD a.toNat 0)=(0:U4)))))=false),(0≤a),(a<(V.length:Int)),(0=0),((a).toNat<V.length),((Bool.not (ite (true=true) (decide ((V.getD a.toNat 0)=oneU)) (Bool.not (decide ((V.getD a.toNat 0)=oneU)))))=true)],((.t [(.c (.val (Value.slice Option.none 0 0))),(.c (.int .i64 (70:Int))),(.c (.int .i64 i))]),[]))):=by kernel_rfl
section
variable (l:List OpD) (G:List GateD) (V J:List U4) (i:Int) (a b c m:Int) (k:U4) (ks:List U4) (vs:List Int)
theorem so9 (ho:AllP [(((9:Int)==1)=false),(((9:Int)==3)=false),(((9:Int)==4)=false),(((9:Int)==5)=false),(((9:Int)==6)=false),(((9:Int)==7)=false),(((9:Int)==8)=false),(((9:Int)==9)=true),(0≤a),(a<(V.length:Int)),(0=0),((a).toNat<V.length),(((V.length+1)*32)≤140737488355328),((V.length+1)≤maxLen),(V.length=V.length),(1=1),(0≤a),(a<(((V.length+1):Nat):Int)),(0=0),((a).toNat<(V++[(outF (powN (inF (V.getD a.toNat 0)) 52435875175126190479447740508185965837690552500527637822603658699938581184511))]).length),(0≤(wrap .i64 ((wrap .i64 ((V.length:Int)+1))-1))),((wrap .i64 ((wrap .i64 ((V.length:Int)+1))-1))<(((V.length+1):Nat):Int)),(0=0),(((wrap .i64 ((wrap .i64 ((V.length:Int)+1))-1))).toNat<(V++[(outF (powN (inF (V.getD a.toNat 0)) 52435875175126190479447740508185965837690552500527637822603658699938581184511))]).length),((((V++[(outF (powN (inF (V.getD a.toNat 0)) 52435875175126190479447740508185965837690552500527637822603658699938581184511))]).length+1)*32)≤140737488355328),(((V++[(outF (powN (inF (V.getD a.toNat 0)) 52435875175126190479447740508185965837690552500527637822603658699938581184511))]).length+1)≤maxLen),((V.length+1)=(V++[(outF (powN (inF (V.getD a.toNat 0)) 52435875175126190479447740508185965837690552500527637822603658699938581184511))]).length),(1=1),((decide ((G.length:Int)≤(4096:Int)))=true),(((G.length+1)*184)≤140737488355328),((G.length+1)≤maxLen),(G.length=G.length),(1=1),(0≤(wrap .i64 ((wrap .i64 ((wrap .i64 ((V.length:Int)+1))+1))-1))),((wrap .i64 ((wrap .i64 ((wrap .i64 ((V.length:Int)+1))+1))-1))<((((V++[(outF (powN (inF (V.getD a.toNat 0)) 52435875175126190479447740508185965837690552500527637822603658699938581184511))]).length+1):Nat):Int)),(0=0),(((wrap .i64 ((wrap .i64 ((wrap .i64 ((V.length:Int)+1))+1))-1))).toNat<((V++[(outF (powN (inF (V.getD a.toNat 0)) 52435875175126190479447740508185965837690552500527637822603658699938581184511))])++[(outF ((inF (List.getD (V++[(outF (powN (inF (V.getD a.toNat 0)) 52435875175126190479447740508185965837690552500527637822603658699938581184511))]) (a).toNat 0))*(inF (List.getD (V++[(outF (powN (inF (V.getD a.toNat 0)) 52435875175126190479447740508185965837690552500527637822603658699938581184511))]) ((wrap .i64 ((wrap .i64 ((V.length:Int)+1))-1))).toNat 0))))]).length),(((((V++[(outF (powN (inF (V.getD a.toNat 0)) 52435875175126190479447740508185965837690552500527637822603658699938581184511))])++[(outF ((inF (List.getD (V++[(outF (powN (inF (V.getD a.toNat 0)) 52435875175126190479447740508185965837690552500527637822603658699938581184511))]) (a).toNat 0))*(inF (List.getD (V++[(outF (powN (inF (V.getD a.toNat 0)) 52435875175126190479447740508185965837690552500527637822603658699938581184511))]) ((wrap .i64 ((wrap .i64 ((V.length:Int)+1))-1))).toNat 0))))]).length+1)*32)≤140737488355328),((((V++[(outF (powN (inF (V.getD a.toNat 0)) 52435875175126190479447740508185965837690552500527637822603658699938581184511))])++[(outF ((inF (List.getD (V++[(outF (powN (inF (V.getD a.toNat 0)) 52435875175126190479447740508185965837690552500527637822603658699938581184511))]) (a).toNat 0))*(inF (List.getD (V++[(outF (powN (inF (V.getD a.toNat 0)) 52435875175126190479447740508185965837690552500527637822603658699938581184511))]) ((wrap .i64 ((wrap .i64 ((V.length:Int)+1))-1))).toNat 0))))]).length+1)≤maxLen),(((V++[(outF (powN (inF (V.getD a.toNat 0)) 52435875175126190479447740508185965837690552500527637822603658699938581184511))]).length+1)=((V++[(outF (powN (inF (V.getD a.toNat 0)) 52435875175126190479447740508185965837690552500527637822603658699938581184511))])++[(outF ((inF (List.getD (V++[(outF (powN (inF (V.getD a.toNat 0)) 52435875175126190479447740508185965837690552500527637822603658699938581184511))]) (a).toNat 0))*(inF (List.getD (V++[(outF (powN (inF (V.getD a.toNat 0)) 52435875175126190479447740508185965837690552500527637822603658699938581184511))]) ((wrap .i64 ((wrap .i64 ((V.length:Int)+1))-1))).toNat 0))))]).length),(1=1),((decide ((((G.length+1):Nat):Int)≤(4096:Int)))=true),((((G++[(GateD.mk oneU 0 0 mO 0 a (wrap .i64 ((wrap .i64 ((V.length:Int)+1))-1)) (wrap .i64 ((wrap .i64 ((wrap .i64 ((V.length:Int)+1))+1))-1)))]).length+1)*184)≤140737488355328),(((G++[(GateD.mk oneU 0 0 mO 0 a (wrap .i64 ((wrap .i64 ((V.length:Int)+1))-1)) (wrap .i64 ((wrap .i64 ((wrap .i64 ((V.length:Int)+1))+1))-1)))]).length+1)≤maxLen),((G.length+1)=(G++[(GateD.mk oneU 0 0 mO 0 a (wrap .i64 ((wrap .i64 ((V.length:Int)+1))-1)) (wrap .i64 ((wrap .i64 ((wrap .i64 ((V.length:Int)+1))+1))-1)))]).length),(1=1),((decide (((((G++[(GateD.mk oneU 0 0 mO 0 a (wrap .i64 ((wrap .i64 ((V.length:Int)+1))-1)) (wrap .i64 ((wrap .i64 ((wrap .i64 ((V.length:Int)+1))+1))-1)))]).length+1):Nat):Int)≤(4096:Int)))=true),(((((G++[(GateD.mk oneU 0 0 mO 0 a (wrap .i64 ((wrap .i64 ((V.length:Int)+1))-1)) (wrap .i64 ((wrap .i64 ((wrap .i64 ((V.length:Int)+1))+1))-1)))])++[(GateD.mk 0 mO 0 mO oneU (wrap .i64 ((wrap .i64 ((wrap .i64 ((V.length:Int)+1))+1))-1)) (-1) (wrap .i64 ((wrap .i64 ((wrap .i64 ((wrap .i64 ((V.length:Int)+1))+1))+1))-1)))]).length+1)*184)≤140737488355328),((((G++[(GateD.mk oneU 0 0 mO 0 a (wrap .i64 ((wrap .i64 ((V.length:Int)+1))-1)) (wrap .i64 ((wrap .i64 ((wrap .i64 ((V.length:Int)+1))+1))-1)))])++[(GateD.mk 0 mO 0 mO oneU (wrap .i64 ((wrap .i64 ((wrap .i64 ((V.length:Int)+1))+1))-1)) (-1) (wrap .i64 ((wrap .i64 ((wrap .i64 ((wrap .i64 ((V.length:Int)+1))+1))+1))-1)))]).length+1)≤maxLen),(((G++[(GateD.mk oneU 0 0 mO 0 a (wrap .i64 ((wrap .i64 ((V.length:Int)+1))-1)) (wrap .i64 ((wrap .i64 ((wrap .i64 ((V.length:Int)+1))+1))-1)))]).length+1)=((G++[(GateD.mk oneU 0 0 mO 0 a (wrap .i64 ((wrap .i64 ((V.length:Int)+1))-1)) (wrap .i64 ((wrap .i64 ((wrap .i64 ((V.length:Int)+1))+1))-1)))])++[(GateD.mk 0 mO 0 mO oneU (wrap .i64 ((wrap .i64 ((wrap .i64 ((V.length:Int)+1))+1))-1)) (-1) (wrap .i64 ((wrap .i64 ((wrap .i64 ((wrap .i64 ((V.length:Int)+1))+1))+1))-1)))]).length),(1=1),(false=false)]) (hs:Sim w0 F0 K ac (soO l G V J i 9 a b c m k ks vs) cX aX) (hK:∀ac cY aY,Sim w0 F0 K ac (mkSt 73 [13,47,48,49] [.pt 464 0,(.ci (.sl (.op l))),(.ii (l.length:Int)),(.ii (wrap .i64 (i+1)))] [32,64,432,464] [(eQ (.gate (((G++[(GateD.mk oneU 0 0 mO 0 a (wrap .i64 ((wrap .i64 ((V.length:Int)+1))-1)) (wrap .i64 ((wrap .i64 ((wrap .i64 ((V.length:Int)+1))+1))-1)))])++[(GateD.mk 0 mO 0 mO oneU (wrap .i64 ((wrap .i64 ((wrap .i64 ((V.length:Int)+1))+1))-1)) (-1) (wrap .i64 ((wrap .i64 ((wrap .i64 ((wrap .i64 ((V.length:Int)+1))+1))+1))-1)))])++[(GateD.mk oneU 0 0 0 0 a (wrap .i64 ((wrap .i64 ((wrap .i64 ((wrap .i64 ((V.length:Int)+1))+1))+1))-1)) (-1))]))),(eQ (.fr (((V++[(outF (powN (inF (V.getD a.toNat 0)) 52435875175126190479447740508185965837690552500527637822603658699938581184511))])++[(outF ((inF (List.getD (V++[(outF (powN (inF (V.getD a.toNat 0)) 52435875175126190479447740508185965837690552500527637822603658699938581184511))]) (a).toNat 0))*(inF (List.getD (V++[(outF (powN (inF (V.getD a.toNat 0)) 52435875175126190479447740508185965837690552500527637822603658699938581184511))]) ((wrap .i64 ((wrap .i64 ((V.length:Int)+1))-1))).toNat 0))))])++[(outF ((inF oneU)-(inF (List.getD ((V++[(outF (powN (inF (V.getD a.toNat 0)) 52435875175126190479447740508185965837690552500527637822603658699938581184511))])++[(outF ((inF (List.getD (V++[(outF (powN (inF (V.getD a.toNat 0)) 52435875175126190479447740508185965837690552500527637822603658699938581184511))]) (a).toNat 0))*(inF (List.getD (V++[(outF (powN (inF (V.getD a.toNat 0)) 52435875175126190479447740508185965837690552500527637822603658699938581184511))]) ((wrap .i64 ((wrap .i64 ((V.length:Int)+1))-1))).toNat 0))))]) ((wrap .i64 ((wrap .i64 ((wrap .i64 ((V.length:Int)+1))+1))-1))).toNat 0))))]))),(eF [(.slc 64 0 (((V++[(outF (powN (inF (V.getD a.toNat 0)) 52435875175126190479447740508185965837690552500527637822603658699938581184511))])++[(outF ((inF (List.getD (V++[(outF (powN (inF (V.getD a.toNat 0)) 52435875175126190479447740508185965837690552500527637822603658699938581184511))]) (a).toNat 0))*(inF (List.getD (V++[(outF (powN (inF (V.getD a.toNat 0)) 52435875175126190479447740508185965837690552500527637822603658699938581184511))]) ((wrap .i64 ((wrap .i64 ((V.length:Int)+1))-1))).toNat 0))))]).length+1) 4),.sl (.fr J),(.bool false)]),(eF [(.slc 32 0 (((G++[(GateD.mk oneU 0 0 mO 0 a (wrap .i64 ((wrap .i64 ((V.length:Int)+1))-1)) (wrap .i64 ((wrap .i64 ((wrap .i64 ((V.length:Int)+1))+1))-1)))])++[(GateD.mk 0 mO 0 mO oneU (wrap .i64 ((wrap .i64 ((wrap .i64 ((V.length:Int)+1))+1))-1)) (-1) (wrap .i64 ((wrap .i64 ((wrap .i64 ((wrap .i64 ((V.length:Int)+1))+1))+1))-1)))]).length+1) 23),(.int .i64 (wrap .i64 ((wrap .i64 ((wrap .i64 ((V.length:Int)+1))+1))+1))),(.ptr 432 0)])] 5488 [] []) cY aY→Wq Try.prog Q (lpBk slD_k) ac Exit.normal aY cY.w):Wq Try.prog Q (soB_k) ac .normal aX cX.w:=
 run_at2 (unroll:=false) (n:=3000) (path:=[false,false,false,false,false,false,false,true,true,true,true,false]) (o:=⟨_,_,_,_,_,_,_⟩) sA_ok (by kernel_rfl) (by kernel_rfl) ho hs hK
theorem so11 (ho:AllP [(((11:Int)==1)=false),(((11:Int)==3)=false),(((11:Int)==4)=false),(((11:Int)==5)=false),(((11:Int)==6)=false),(((11:Int)==7)=false),(((11:Int)==8)=false),(((11:Int)==9)=false),(((11:Int)==10)=false),(((11:Int)==11)=true),((decide ((G.length:Int)≤(4096:Int)))=true),(((G.length+1)*184)≤140737488355328),((G.length+1)≤maxLen),(G.length=G.length),(1=1),(0≤a),(a<(V.length:Int)),(0=0),((a).toNat<V.length),(0≤b),(b<(V.length:Int)),(0=0),((b).toNat<V.length),((Bool.not (ite (true=true) (decide ((V.getD a.toNat 0)=(V.getD b.toNat 0))) (Bool.not (decide ((V.getD a.toNat 0)=(V.getD b.toNat 0))))))=false),(false=false)]):Sg Try.prog (soO l G V J i 11 a b c m k ks vs) (mkSt 73 [13,47,48,49] [.pt 464 0,(.ci (.sl (.op l))),(.ii (l.length:Int)),(.ii (wrap .i64 (i+1)))] [32,64,432,464] [(eQ (.gate (G++[(GateD.mk 0 oneU mO 0 0 a b (-1))]))),(eQ (.fr V)),(eF [(.slc 64 0 V.length 4),.sl (.fr J),(.bool false)]),(eF [(.slc 32 0 (G.length+1) 23),(.int .i64 (V.length:Int)),(.ptr 432 0)])] 2224 [] []) .normal (lpBk slD_k) (soB_k):=fun hs hK=>
 run_at2 (unroll:=false) (n:=3000) (path:=[false,false,false,false,false,false,false,false,false,true,true,true,false,false]) (o:=⟨_,_,_,_,_,_,_⟩) sA_ok (by kernel_rfl) (by kernel_rfl) ho hs hK
end
theorem so11w_end (l:List OpD) (G:List GateD) (V J:List U4) (i:Int) (a b c m:Int) (k:U4) (ks:List U4) (vs:List Int):runEnd sA Try.f13 false 3000 (⟨soB_k,.normal,soO l G V J i 11 a b c m k ks vs⟩) [false,false,false,false,false,false,false,false,false,true,true,true,true] [] []=(some ([(((11:Int)==1)=false),(((11:Int)==3)=false),(((11:Int)==4)=false),(((11:Int)==5)=false),(((11:Int)==6)=false),(((11:Int)==7)=false),(((11:Int)==8)=false),(((11:Int)==9)=false),(((11:Int)==10)=false),(((11:Int)==11)=true),((decide ((G.length:Int)≤(4096:Int)))=true),(((G.length+1)*184)≤140737488355328),((G.length+1)≤maxLen),(G.length=G.length),(1=1),(0≤a),(a<(V.length:Int)),(0=0),((a).toNat<V.length),(0≤b),(b<(V.length:Int)),(0=0),((b).toNat<V.length),((Bool.not (ite (true=true) (decide ((V.getD a.toNat 0)=(V.getD b.toNat 0))) (Bool.not (decide ((V.getD a.toNat 0)=(V.getD b.toNat 0))))))=true)],((.t [(.c (.val (Value.slice Option.none 0 0))),(.c (.int .i64 (70:Int))),(.c (.int .i64 i))]),[]))):=by kernel_rfl
end
end

set_option linter.unusedSimpArgs false
set_option linter.unusedVariables false
section

section
variable {l:List OpD} {G:List GateD} {W:List Fr} {J:List U4} {x:Fr} {i a b c m:Int} {k:U4} {ks:List U4} {vs:List Int} {w0:World} {F0:Nat→Prop} {K:Kp} {ac:List Act} {Q:Exit→Act→World→Prop} {cX:Ctx} {aX:Act}

theorem toS {G1 G2:List GateD} {V1 V2 J1 J2:List U4} {gl vl nx:Nat} {n i1 i2:Int} (hs:Sim w0 F0 K ac (mkSt 73 [13,47,48,49] [.v (.c (.ptr 464 0)),.v (.c (.sl (.op l))),.v (.c (.int .i64 (l.length:Int))),.v (.c (.int .i64 i1))] [32,64,432,464] [some (.sq (.gate G1)),some (.sq (.fr V1)),some (.fl [.slc 64 0 vl 4,.sl (.fr J1),.bool false]),some (.fl [.slc 32 0 gl 23,.int .i64 n,.ptr 432 0])] nx [] []) cX aX)
  (hG:G1=G2) (hV:V1=V2) (hJ:J1=J2) (h1:gl=G2.length) (h2:vl=V2.length) (h3:n=(V2.length:Int)) (hi:i1=i2):Sim w0 F0 K ac (soS l G2 V2 J2 i2) cX aX:=by
 subst hG hV hJ h1 h2 h3 hi
 exact hs.nx _
/-- What is told of an operation that is not met. -/
def errSV (i:Int):SV:=.t [.c (.val (.slice none 0 0)),.c (.int .i64 70),.c (.int .i64 i)]
theorem vlen1 (W:List Fr) (y:Fr):((W++[y]).map outF).length=W.length+1:=by simp
theorem getW {W:List Fr} {q:Int}:inF ((W.map outF).getD q.toNat 0)=vF W q:=by rw[getV,in_out]
theorem glen1 (G:List GateD) (g:GateD):(G++[g]).length=G.length+1:=by simp
theorem slT1 (h1:W.length≤600000) (h2:G.length≤4096) (h3:0≤i) (h4:i≤1000) (hj:0<J.length) (hs:Sim w0 F0 K ac (soO l G (W.map outF) J i 1 a b c m k ks vs) cX aX) 
  (hK:∀ac cY aY,Sim w0 F0 K ac (soS l (G++gatesOf (W.length:Int) 1 a b c m k ks vs) ((W++valsOf W (inX J) 1 a b c m k ks vs).map outF) (nextJ J) (i+1)) cY aY→Wq Try.prog Q (lpBk slD_k) ac .normal aY cY.w):Wq Try.prog Q soB_k ac .normal aX cX.w:=by
 have w1:wrap IntKind.i64 ((W.length:Int)+1)=(W.length:Int)+1:=wrap_id (by omega) (by omega)
 have w2:wrap IntKind.i64 ((W.length:Int)+1-1)=(W.length:Int):=by rw[wrap_id (by omega) (by omega)];omega
 have wi:wrap IntKind.i64 (i+1)=i+1:=wrap_id (by omega) (by omega)
 have ev:valsOf W (inX J) 1 a b c m k ks vs=[inF (J.getD 0 0)]:=congrArg (fun y=>[y]) (if_pos hj)
 rw[ev,show gatesOf (W.length:Int) 1 a b c m k ks vs=[] from rfl,show nextJ J=(J.drop 1).take (J.length-1) from if_pos hj] at hK
 refine so1 l G (W.map outF) J i a b c m k ks vs (by simp only[AllP,maxLen,decide_eq_true_eq,decide_eq_false_iff_not,List.length_append,List.length_cons,List.length_nil,List.length_map,beq_iff_eq,bne_iff_ne,bne_eq_false_iff_eq,beq_eq_false_iff_ne,Int.toNat_natCast,getV,eq_self_iff_true,if_true,outF_is1,outF_zero,outF_same,Bool.not_eq_true',Bool.not_eq_false',w1,w2];and_intros<;>first | rfl | exact True.intro | omega | assumption) hs fun ac cU aU hs2=>hK _ _ _ ?_
 exact toS hs2 (by rw[List.append_nil]) (by rw[mapA]) (rfl) (by rw[List.append_nil]) (by rw[List.length_map,vlen1]) (by rw[List.length_map,w1,vlen1];omega) wi

theorem slT2 (h1:W.length≤600000) (h2:G.length≤4096) (h3:0≤i) (h4:i≤1000) (hs:Sim w0 F0 K ac (soO l G (W.map outF) J i 2 a b c m k ks vs) cX aX) 
  (hK:∀ac cY aY,Sim w0 F0 K ac (soS l (G++gatesOf (W.length:Int) 2 a b c m k ks vs) ((W++valsOf W x 2 a b c m k ks vs).map outF) (J) (i+1)) cY aY→Wq Try.prog Q (lpBk slD_k) ac .normal aY cY.w):Wq Try.prog Q soB_k ac .normal aX cX.w:=by
 have w1:wrap IntKind.i64 ((W.length:Int)+1)=(W.length:Int)+1:=wrap_id (by omega) (by omega)
 have w2:wrap IntKind.i64 ((W.length:Int)+1-1)=(W.length:Int):=by rw[wrap_id (by omega) (by omega)];omega
 have wi:wrap IntKind.i64 (i+1)=i+1:=wrap_id (by omega) (by omega)
 rw[show gatesOf (W.length:Int) 2 a b c m k ks vs=[] from rfl,show valsOf W x 2 a b c m k ks vs=[] from rfl] at hK
 refine so2 l G (W.map outF) J i a b c m k ks vs (by simp only[AllP,maxLen,decide_eq_true_eq,decide_eq_false_iff_not,List.length_append,List.length_cons,List.length_nil,List.length_map,beq_iff_eq,bne_iff_ne,bne_eq_false_iff_eq,beq_eq_false_iff_ne,Int.toNat_natCast,getV,eq_self_iff_true,if_true,outF_is1,outF_zero,outF_same,Bool.not_eq_true',Bool.not_eq_false',w1,w2];and_intros<;>first | rfl | exact True.intro | omega | assumption) hs fun ac cU aU hs2=>hK _ _ _ ?_
 exact toS hs2 (by rw[List.append_nil]) (by rw[List.append_nil]) (rfl) (by rw[List.append_nil]) (by rw[List.append_nil]) (by rw[List.append_nil]) wi

theorem slT3 (h1:W.length≤600000) (h2:G.length≤4096) (h3:0≤i) (h4:i≤1000) (hs:Sim w0 F0 K ac (soO l G (W.map outF) J i 3 a b c m k ks vs) cX aX) 
  (hK:∀ac cY aY,Sim w0 F0 K ac (soS l (G++gatesOf (W.length:Int) 3 a b c m k ks vs) ((W++valsOf W x 3 a b c m k ks vs).map outF) (J) (i+1)) cY aY→Wq Try.prog Q (lpBk slD_k) ac .normal aY cY.w):Wq Try.prog Q soB_k ac .normal aX cX.w:=by
 have w1:wrap IntKind.i64 ((W.length:Int)+1)=(W.length:Int)+1:=wrap_id (by omega) (by omega)
 have w2:wrap IntKind.i64 ((W.length:Int)+1-1)=(W.length:Int):=by rw[wrap_id (by omega) (by omega)];omega
 have wi:wrap IntKind.i64 (i+1)=i+1:=wrap_id (by omega) (by omega)
 rw[show gatesOf (W.length:Int) 3 a b c m k ks vs=[constG k (W.length:Int)] from rfl,show valsOf W x 3 a b c m k ks vs=[inF k] from rfl] at hK
 refine so3 l G (W.map outF) J i a b c m k ks vs (by simp only[AllP,maxLen,decide_eq_true_eq,decide_eq_false_iff_not,List.length_append,List.length_cons,List.length_nil,List.length_map,beq_iff_eq,bne_iff_ne,bne_eq_false_iff_eq,beq_eq_false_iff_ne,Int.toNat_natCast,getV,eq_self_iff_true,if_true,outF_is1,outF_zero,outF_same,Bool.not_eq_true',Bool.not_eq_false',w1,w2];and_intros<;>first | rfl | exact True.intro | omega | assumption) hs fun ac cU aU hs2=>hK _ _ _ ?_
 exact toS hs2 (by rw[List.length_map,w1,w2];rfl) (by rw[mapA]) (rfl) (by rw[glen1]) (by rw[List.length_map,vlen1]) (by rw[List.length_map,w1,vlen1];omega) wi

theorem slT4 (h1:W.length≤600000) (h2:G.length≤4096) (h3:0≤i) (h4:i≤1000) (ia:0≤a∧a<(W.length:Int)) (ib:0≤b∧b<(W.length:Int)) (hs:Sim w0 F0 K ac (soO l G (W.map outF) J i 4 a b c m k ks vs) cX aX) 
  (hK:∀ac cY aY,Sim w0 F0 K ac (soS l (G++gatesOf (W.length:Int) 4 a b c m k ks vs) ((W++valsOf W x 4 a b c m k ks vs).map outF) (J) (i+1)) cY aY→Wq Try.prog Q (lpBk slD_k) ac .normal aY cY.w):Wq Try.prog Q soB_k ac .normal aX cX.w:=by
 have w1:wrap IntKind.i64 ((W.length:Int)+1)=(W.length:Int)+1:=wrap_id (by omega) (by omega)
 have w2:wrap IntKind.i64 ((W.length:Int)+1-1)=(W.length:Int):=by rw[wrap_id (by omega) (by omega)];omega
 have wi:wrap IntKind.i64 (i+1)=i+1:=wrap_id (by omega) (by omega)
 rw[show gatesOf (W.length:Int) 4 a b c m k ks vs=[sumG oneU a oneU b (W.length:Int)] from rfl,show valsOf W x 4 a b c m k ks vs=[vF W a+vF W b] from rfl] at hK
 refine so4 l G (W.map outF) J i a b c m k ks vs (by simp only[AllP,maxLen,decide_eq_true_eq,decide_eq_false_iff_not,List.length_append,List.length_cons,List.length_nil,List.length_map,beq_iff_eq,bne_iff_ne,bne_eq_false_iff_eq,beq_eq_false_iff_ne,Int.toNat_natCast,getV,eq_self_iff_true,if_true,outF_is1,outF_zero,outF_same,Bool.not_eq_true',Bool.not_eq_false',w1,w2];and_intros<;>first | rfl | exact True.intro | omega | assumption) hs fun ac cU aU hs2=>hK _ _ _ ?_
 exact toS hs2 (by rw[List.length_map,w1,w2];rfl) (by rw[getW,getW,in_out,in_out,oneU_in,one_mul_g,one_mul_g,mapA]) (rfl) (by rw[glen1]) (by rw[List.length_map,vlen1]) (by rw[List.length_map,w1,vlen1];omega) wi

theorem slT5 (h1:W.length≤600000) (h2:G.length≤4096) (h3:0≤i) (h4:i≤1000) (ia:0≤a∧a<(W.length:Int)) (ib:0≤b∧b<(W.length:Int)) (hs:Sim w0 F0 K ac (soO l G (W.map outF) J i 5 a b c m k ks vs) cX aX) 
  (hK:∀ac cY aY,Sim w0 F0 K ac (soS l (G++gatesOf (W.length:Int) 5 a b c m k ks vs) ((W++valsOf W x 5 a b c m k ks vs).map outF) (J) (i+1)) cY aY→Wq Try.prog Q (lpBk slD_k) ac .normal aY cY.w):Wq Try.prog Q soB_k ac .normal aX cX.w:=by
 have w1:wrap IntKind.i64 ((W.length:Int)+1)=(W.length:Int)+1:=wrap_id (by omega) (by omega)
 have w2:wrap IntKind.i64 ((W.length:Int)+1-1)=(W.length:Int):=by rw[wrap_id (by omega) (by omega)];omega
 have wi:wrap IntKind.i64 (i+1)=i+1:=wrap_id (by omega) (by omega)
 rw[show gatesOf (W.length:Int) 5 a b c m k ks vs=[prodG a b (W.length:Int)] from rfl,show valsOf W x 5 a b c m k ks vs=[vF W a*vF W b] from rfl] at hK
 refine so5 l G (W.map outF) J i a b c m k ks vs (by simp only[AllP,maxLen,decide_eq_true_eq,decide_eq_false_iff_not,List.length_append,List.length_cons,List.length_nil,List.length_map,beq_iff_eq,bne_iff_ne,bne_eq_false_iff_eq,beq_eq_false_iff_ne,Int.toNat_natCast,getV,eq_self_iff_true,if_true,outF_is1,outF_zero,outF_same,Bool.not_eq_true',Bool.not_eq_false',w1,w2];and_intros<;>first | rfl | exact True.intro | omega | assumption) hs fun ac cU aU hs2=>hK _ _ _ ?_
 exact toS hs2 (by rw[List.length_map,w1,w2];rfl) (by rw[getW,getW,mapA]) (rfl) (by rw[glen1]) (by rw[List.length_map,vlen1]) (by rw[List.length_map,w1,vlen1];omega) wi

theorem slT7 (h1:W.length≤600000) (h2:G.length≤4096) (h3:0≤i) (h4:i≤1000) (ia:0≤a∧a<(W.length:Int)) (hs:Sim w0 F0 K ac (soO l G (W.map outF) J i 7 a b c m k ks vs) cX aX) (hE:wrongOf W 7 a b m=true→∀(cfg:List KI) (σ:St) (path:List Bool) (ob:List Prop),runEnd sA Try.f13 false 3000 ⟨cfg,.normal,σ⟩ path [] []=some (ob,errSV i,[])→AllP ob→∀ac cY aY,Sim w0 F0 K ac σ cY aY→Wq Try.prog Q cfg ac .normal aY cY.w) 
  (hK:wrongOf W 7 a b m=false→∀ac cY aY,Sim w0 F0 K ac (soS l (G++gatesOf (W.length:Int) 7 a b c m k ks vs) ((W++valsOf W x 7 a b c m k ks vs).map outF) (J) (i+1)) cY aY→Wq Try.prog Q (lpBk slD_k) ac .normal aY cY.w):Wq Try.prog Q soB_k ac .normal aX cX.w:=by
 have w1:wrap IntKind.i64 ((W.length:Int)+1)=(W.length:Int)+1:=wrap_id (by omega) (by omega)
 have w2:wrap IntKind.i64 ((W.length:Int)+1-1)=(W.length:Int):=by rw[wrap_id (by omega) (by omega)];omega
 have wi:wrap IntKind.i64 (i+1)=i+1:=wrap_id (by omega) (by omega)
 rw[show gatesOf (W.length:Int) 7 a b c m k ks vs=[boolG a] from rfl,show valsOf W x 7 a b c m k ks vs=[] from rfl,show wrongOf W 7 a b m=notBit (vF W a) from rfl] at hK
 by_cases c0:vF W a=0
 ·refine so7z l G (W.map outF) J i a b c m k ks vs (by simp only[AllP,maxLen,decide_eq_true_eq,decide_eq_false_iff_not,List.length_append,List.length_cons,List.length_nil,List.length_map,beq_iff_eq,bne_iff_ne,bne_eq_false_iff_eq,beq_eq_false_iff_ne,Int.toNat_natCast,getV,eq_self_iff_true,if_true,outF_is1,outF_zero,outF_same,Bool.not_eq_true',Bool.not_eq_false',w1,w2];and_intros<;>first | rfl | exact True.intro | omega | assumption) hs fun ac cU aU hs2=>(hK (by unfold notBit;rw[decide_eq_true c0,Bool.or_true];rfl)) _ _ _ ?_
  exact toS hs2 (rfl) (by rw[List.append_nil]) (rfl) (by rw[glen1]) (by rw[List.append_nil]) (by rw[List.append_nil]) wi

 by_cases c1:vF W a=1
 ·refine so7o l G (W.map outF) J i a b c m k ks vs (by simp only[AllP,maxLen,decide_eq_true_eq,decide_eq_false_iff_not,List.length_append,List.length_cons,List.length_nil,List.length_map,beq_iff_eq,bne_iff_ne,bne_eq_false_iff_eq,beq_eq_false_iff_ne,Int.toNat_natCast,getV,eq_self_iff_true,if_true,outF_is1,outF_zero,outF_same,Bool.not_eq_true',Bool.not_eq_false',w1,w2];and_intros<;>first | rfl | exact True.intro | omega | assumption) hs fun ac cU aU hs2=>(hK (by unfold notBit;rw[decide_eq_true c1];rfl)) _ _ _ ?_
  exact toS hs2 (rfl) (by rw[List.append_nil]) (rfl) (by rw[glen1]) (by rw[List.append_nil]) (by rw[List.append_nil]) wi

 ·exact hE (by show notBit (vF W a)=true;unfold notBit;rw[decide_eq_false c1,decide_eq_false c0];rfl) _ _ _ _ (so7w_end l G (W.map outF) J i a b c m k ks vs) (by simp only[AllP,maxLen,decide_eq_true_eq,decide_eq_false_iff_not,List.length_append,List.length_cons,List.length_nil,List.length_map,beq_iff_eq,bne_iff_ne,bne_eq_false_iff_eq,beq_eq_false_iff_ne,Int.toNat_natCast,getV,eq_self_iff_true,if_true,outF_is1,outF_zero,outF_same,Bool.not_eq_true',Bool.not_eq_false',w1,w2];and_intros<;>first | rfl | exact True.intro | omega | assumption) _ _ _ hs
theorem slT11 (h1:W.length≤600000) (h2:G.length≤4096) (h3:0≤i) (h4:i≤1000) (ia:0≤a∧a<(W.length:Int)) (ib:0≤b∧b<(W.length:Int)) (hs:Sim w0 F0 K ac (soO l G (W.map outF) J i 11 a b c m k ks vs) cX aX) (hE:wrongOf W 11 a b m=true→∀(cfg:List KI) (σ:St) (path:List Bool) (ob:List Prop),runEnd sA Try.f13 false 3000 ⟨cfg,.normal,σ⟩ path [] []=some (ob,errSV i,[])→AllP ob→∀ac cY aY,Sim w0 F0 K ac σ cY aY→Wq Try.prog Q cfg ac .normal aY cY.w) 
  (hK:wrongOf W 11 a b m=false→∀ac cY aY,Sim w0 F0 K ac (soS l (G++gatesOf (W.length:Int) 11 a b c m k ks vs) ((W++valsOf W x 11 a b c m k ks vs).map outF) (J) (i+1)) cY aY→Wq Try.prog Q (lpBk slD_k) ac .normal aY cY.w):Wq Try.prog Q soB_k ac .normal aX cX.w:=by
 have w1:wrap IntKind.i64 ((W.length:Int)+1)=(W.length:Int)+1:=wrap_id (by omega) (by omega)
 have w2:wrap IntKind.i64 ((W.length:Int)+1-1)=(W.length:Int):=by rw[wrap_id (by omega) (by omega)];omega
 have wi:wrap IntKind.i64 (i+1)=i+1:=wrap_id (by omega) (by omega)
 rw[show gatesOf (W.length:Int) 11 a b c m k ks vs=[equalG a b] from rfl,show valsOf W x 11 a b c m k ks vs=[] from rfl,show wrongOf W 11 a b m=decide (vF W a≠vF W b) from rfl] at hK
 by_cases c0:vF W a=vF W b
 ·refine so11 l G (W.map outF) J i a b c m k ks vs (by simp only[AllP,maxLen,decide_eq_true_eq,decide_eq_false_iff_not,List.length_append,List.length_cons,List.length_nil,List.length_map,beq_iff_eq,bne_iff_ne,bne_eq_false_iff_eq,beq_eq_false_iff_ne,Int.toNat_natCast,getV,eq_self_iff_true,if_true,outF_is1,outF_zero,outF_same,Bool.not_eq_true',Bool.not_eq_false',w1,w2];and_intros<;>first | rfl | exact True.intro | omega | assumption) hs fun ac cU aU hs2=>(hK (decide_eq_false (not_not_intro c0))) _ _ _ ?_
  exact toS hs2 (rfl) (by rw[List.append_nil]) (rfl) (by rw[glen1]) (by rw[List.append_nil]) (by rw[List.append_nil]) wi

 ·exact hE (decide_eq_true c0) _ _ _ _ (so11w_end l G (W.map outF) J i a b c m k ks vs) (by simp only[AllP,maxLen,decide_eq_true_eq,decide_eq_false_iff_not,List.length_append,List.length_cons,List.length_nil,List.length_map,beq_iff_eq,bne_iff_ne,bne_eq_false_iff_eq,beq_eq_false_iff_ne,Int.toNat_natCast,getV,eq_self_iff_true,if_true,outF_is1,outF_zero,outF_same,Bool.not_eq_true',Bool.not_eq_false',w1,w2];and_intros<;>first | rfl | exact True.intro | omega | assumption) _ _ _ hs
end
end

section
section
variable {w0:World} {F0:Nat→Prop} {K:Kp} {ac:List Act} {Q:Exit→Act→World→Prop} {cX:Ctx} {aX:Act}
--@env sA sA_ok
def so6a_k:List KI:=(run sA false 3000 ((fun (l:List OpD) (G:List GateD) (V J:List U4) (i:Int) (a b c m:Int) (k:U4) (ks:List U4) (vs:List Int)=>(⟨soB_k,.normal,soO l G V J i 6 a b c m k ks vs⟩:Cfg)) default default default default default default default default default default default default) [false,false,false,false,true,false,true]).cfg.k
theorem so6a (l:List OpD) (G:List GateD) (V J:List U4) (i:Int) (a b c m:Int) (k:U4) (ks:List U4) (vs:List Int) (ho:AllP [(((6:Int)==1)=false),(((6:Int)==3)=false),(((6:Int)==4)=false),(((6:Int)==5)=false),(((6:Int)==6)=true),(((vs.length:Int) == (1:Int))=false),(0≤(0:Int)),(0<(ks.length:Int)),(0≤(0:Int)),(0<(vs.length:Int)),(0≤(1:Int)),((1:Int)<(ks.length:Int)),(0≤(1:Int)),((1:Int)<(vs.length:Int)),(0≤(vs.getD 0 0)),((vs.getD 0 0)<(V.length:Int)),(0=0),(((vs.getD 0 0)).toNat<V.length),(0≤(vs.getD 1 0)),((vs.getD 1 0)<(V.length:Int)),(0=0),(((vs.getD 1 0)).toNat<V.length),(((V.length+1)*32)≤140737488355328),((V.length+1)≤maxLen),(V.length=V.length),(1=1),((decide ((G.length:Int)≤(4096:Int)))=true),(((G.length+1)*184)≤140737488355328),((G.length+1)≤maxLen),(G.length=G.length),(1=1)]):Sg Try.prog (soO l G V J i 6 a b c m k ks vs) (mkSt 72 [0,3,7,8] [.pt 464 0,.pt 928 0,(.ii (wrap .i64 ((wrap .i64 ((V.length:Int)+1))-1))),.ii (2:Int)] [32,64,432,464,928] [(eQ (.gate (G++[(GateD.mk 0 (outF (inF (ks.getD 0 0))) (outF (inF (ks.getD 1 0))) mO (0:U4) (vs.getD 0 0) (vs.getD 1 0) (wrap .i64 ((wrap .i64 ((V.length:Int)+1))-1)))]))),(eQ (.fr (V++[(outF ((inF (outF ((inF (ks.getD 0 0))*(inF (List.getD V ((vs.getD 0 0)).toNat 0)))))+(inF (outF ((inF (ks.getD 1 0))*(inF (List.getD V ((vs.getD 1 0)).toNat 0)))))))]))),(eF [(.slc 64 0 (V.length+1) 4),.sl (.fr J),(.bool false)]),(eF [(.slc 32 0 (G.length+1) 23),(.int .i64 (wrap .i64 ((V.length:Int)+1))),(.ptr 432 0)]),(eF [(.int .i64 (6:Int)),(.int .i64 a),(.int .i64 b),(.int .i64 c),(.int .i64 m),.ob (.fr k),.sl (.fr ks),.sl (.int vs)])] 3024 [[],[13,14,47,48,49]] [([],105),([.pt 464 0,.ii i,(.ci (.sl (.op l))),(.ii (l.length:Int)),.ii i],73)]) .normal (so6a_k) (soB_k):=fun hs hK=>
 run_at2 (unroll:=false) (n:=3000) (path:=[false,false,false,false,true,false,true]) (o:=⟨_,_,_,_,_,_,_⟩) sA_ok (by kernel_rfl) (by kernel_rfl) ho hs hK
def so6S (l:List OpD) (G:List GateD) (V J:List U4) (i:Int) (a b c m:Int) (k:U4) (ks:List U4) (vs:List Int) (v j:Int):St:=mkSt 72 [0,3,7,8] [.pt 464 0,.pt 928 0,.v (.c (.int .i64 v)),.v (.c (.int .i64 j))] [32,64,432,464,928] [some (.sq (.gate G)),some (.sq (.fr V)),some (.fl [.slc 64 0 V.length 4,.sl (.fr J),.bool false]),some (.fl [.slc 32 0 G.length 23,.int .i64 (V.length:Int),.ptr 432 0]),(eF [(.int .i64 (6:Int)),(.int .i64 a),(.int .i64 b),(.int .i64 c),(.int .i64 m),.ob (.fr k),.sl (.fr ks),.sl (.int vs)])] 3024 [[],[13,14,47,48,49]] [([],105),([.pt 464 0,.ii i,(.ci (.sl (.op l))),(.ii (l.length:Int)),.ii i],73)]
section
variable (l:List OpD) (G:List GateD) (V J:List U4) (i:Int) (a b c m:Int) (k:U4) (ks:List U4) (vs:List Int) (v j:Int)
theorem so6n (ho:AllP [((decide (j<(vs.length:Int)))=true),(0≤j),(j<(ks.length:Int)),(0≤j),(j<(vs.length:Int)),(0≤v),(v<(V.length:Int)),(0=0),((v).toNat<V.length),(0≤(vs.getD j.toNat 0)),((vs.getD j.toNat 0)<(V.length:Int)),(0=0),(((vs.getD j.toNat 0)).toNat<V.length),(((V.length+1)*32)≤140737488355328),((V.length+1)≤maxLen),(V.length=V.length),(1=1),((decide ((G.length:Int)≤(4096:Int)))=true),(((G.length+1)*184)≤140737488355328),((G.length+1)≤maxLen),(G.length=G.length),(1=1)]):Sg Try.prog (so6S l G V J i a b c m k ks vs v j) (mkSt 72 [0,3,7,8] [.pt 464 0,.pt 928 0,(.ii (wrap .i64 ((wrap .i64 ((V.length:Int)+1))-1))),(.ii (wrap .i64 (j+1)))] [32,64,432,464,928] [(eQ (.gate (G++[(GateD.mk 0 (outF (inF oneU)) (outF (inF (ks.getD j.toNat 0))) mO (0:U4) v (vs.getD j.toNat 0) (wrap .i64 ((wrap .i64 ((V.length:Int)+1))-1)))]))),(eQ (.fr (V++[(outF ((inF (outF ((inF oneU)*(inF (V.getD v.toNat 0)))))+(inF (outF ((inF (ks.getD j.toNat 0))*(inF (List.getD V ((vs.getD j.toNat 0)).toNat 0)))))))]))),(eF [(.slc 64 0 (V.length+1) 4),.sl (.fr J),(.bool false)]),(eF [(.slc 32 0 (G.length+1) 23),(.int .i64 (wrap .i64 ((V.length:Int)+1))),(.ptr 432 0)]),(eF [(.int .i64 (6:Int)),(.int .i64 a),(.int .i64 b),(.int .i64 c),(.int .i64 m),.ob (.fr k),.sl (.fr ks),.sl (.int vs)])] 5088 [[],[13,14,47,48,49]] [([],105),([.pt 464 0,.ii i,(.ci (.sl (.op l))),(.ii (l.length:Int)),.ii i],73)]) .normal (lpBk so6a_k) (lpIn so6a_k):=fun hs hK=>
 run_at2 (unroll:=false) (n:=3000) (path:=[true,true]) (o:=⟨_,_,_,_,_,_,_⟩) sA_ok (by kernel_rfl) (by kernel_rfl) ho hs hK
theorem so6x (ho:AllP [((decide (j<(vs.length:Int)))=false),(false=false)]):Sg Try.prog (so6S l G V J i a b c m k ks vs v j) (mkSt 73 [13,47,48,49] [.pt 464 0,(.ci (.sl (.op l))),(.ii (l.length:Int)),(.ii (wrap .i64 (i+1)))] [32,64,432,464] [(eQ (.gate G)),(eQ (.fr V)),(eF [(.slc 64 0 V.length 4),.sl (.fr J),(.bool false)]),(eF [(.slc 32 0 G.length 23),(.int .i64 (V.length:Int)),(.ptr 432 0)])] 3248 [] []) .normal (lpBk slD_k) (lpIn so6a_k):=fun hs hK=>
 run_at2 (unroll:=false) (n:=3000) (path:=[false,false]) (o:=⟨_,_,_,_,_,_,_⟩) sA_ok (by kernel_rfl) (by kernel_rfl) ho hs hK
def so10a_k:List KI:=(run sA false 3000 ((fun (l:List OpD) (G:List GateD) (V J:List U4) (i:Int) (a b c m:Int) (k:U4) (ks:List U4) (vs:List Int)=>(⟨soB_k,.normal,soO l G V J i 10 a b c m k ks vs⟩:Cfg)) default default default default default default default default default default default default) [false,false,false,false,false,false,false,false,true]).cfg.k
end
theorem so10a (l:List OpD) (G:List GateD) (V J:List U4) (i:Int) (a b c m:Int) (k:U4) (ks:List U4) (vs:List Int) (ho:AllP [(((10:Int)==1)=false),(((10:Int)==3)=false),(((10:Int)==4)=false),(((10:Int)==5)=false),(((10:Int)==6)=false),(((10:Int)==7)=false),(((10:Int)==8)=false),(((10:Int)==9)=false),(((10:Int)==10)=true)]):Sg Try.prog (soO l G V J i 10 a b c m k ks vs) (mkSt 59 [0,2,4,6,16,17] [.pt 464 0,.ii m,.pt 1104 0,(.ii (V.length:Int)),.ii m,.ii (0:Int)] [32,64,432,464,1104] [(eQ (.gate G)),(eQ (.fr V)),(eF [(.slc 64 0 V.length 4),.sl (.fr J),(.bool false)]),(eF [(.slc 32 0 G.length 23),(.int .i64 (V.length:Int)),(.ptr 432 0)]),(eF [(.int .i64 a)])] 1232 [[],[13,14,47,48,49]] [([],105),([.pt 464 0,.ii i,(.ci (.sl (.op l))),(.ii (l.length:Int)),.ii i],73)]) .normal (so10a_k) (soB_k):=fun hs hK=>
 run_at2 (unroll:=false) (n:=3000) (path:=[false,false,false,false,false,false,false,false,true]) (o:=⟨_,_,_,_,_,_,_⟩) sA_ok (by kernel_rfl) (by kernel_rfl) ho hs hK
def so10S (l:List OpD) (G:List GateD) (V J:List U4) (i:Int) (a b c m:Int) (k:U4) (ks:List U4) (vs:List Int) (f j:Int):St:=mkSt 59 [0,2,4,6,16,17] [.pt 464 0,.ii m,.pt 1104 0,.v (.c (.int .i64 f)),.ii m,.v (.c (.int .i64 j))] [32,64,432,464,1104] [some (.sq (.gate G)),some (.sq (.fr V)),some (.fl [.slc 64 0 V.length 4,.sl (.fr J),.bool false]),some (.fl [.slc 32 0 G.length 23,.int .i64 (V.length:Int),.ptr 432 0]),(eF [(.int .i64 a)])] 1232 [[],[13,14,47,48,49]] [([],105),([.pt 464 0,.ii i,(.ci (.sl (.op l))),(.ii (l.length:Int)),.ii i],73)]
section
variable (l:List OpD) (G:List GateD) (V J:List U4) (i:Int) (a b c m:Int) (k:U4) (ks:List U4) (vs:List Int) (f j:Int)
theorem so10n (ho:AllP [((decide (j<m))=true),((64:Int)≠(0:Int)),(0≤a),(a<(V.length:Int)),(0=0),(0≤(wrap .i64 (Int.tdiv j (64:Int)))),((wrap .i64 (Int.tdiv j (64:Int)))<(4:Int)),((a).toNat<V.length),((0+(((wrap .i64 (Int.tdiv j (64:Int)))).toNat*1))<(Ob.k (.fr (V.getD a.toNat 0)))),((64:Int)≠(0:Int)),(0≤(Int.tmod j (64:Int))),(0≤(bitsOp BinOp.and IntKind.u64 (Int.fdiv (limb (Ob.n (.fr (V.getD a.toNat 0))) (0+(((wrap .i64 (Int.tdiv j (64:Int)))).toNat*1))) ((2:Int) ^ (Min.min ((Int.tmod j (64:Int))).toNat 64))) (1:Int))),((bitsOp BinOp.and IntKind.u64 (Int.fdiv (limb (Ob.n (.fr (V.getD a.toNat 0))) (0+(((wrap .i64 (Int.tdiv j (64:Int)))).toNat*1))) ((2:Int) ^ (Min.min ((Int.tmod j (64:Int))).toNat 64))) (1:Int))<(18446744073709551616:Int)),(0≤(0:Int)),(0<(18446744073709551616:Int)),(0≤(0:Int)),(0<(18446744073709551616:Int)),(0≤(0:Int)),(0<(18446744073709551616:Int)),(((V.length+1)*32)≤140737488355328),((V.length+1)≤maxLen),(V.length=V.length),(1=1)]):Sg Try.prog (so10S l G V J i a b c m k ks vs f j) (mkSt 59 [0,2,4,6,16,17] [.pt 464 0,.ii m,.pt 1104 0,.ii f,.ii m,(.ii (wrap .i64 (j+1)))] [32,64,432,464,1104] [(eQ (.gate G)),(eQ (.fr (V++[(Fin.ofNat B4 (((bitsOp BinOp.and IntKind.u64 (Int.fdiv (limb (Ob.n (.fr (V.getD a.toNat 0))) (0+(((wrap .i64 (Int.tdiv j (64:Int)))).toNat*1))) ((2:Int) ^ (Min.min ((Int.tmod j (64:Int))).toNat 64))) (1:Int))).toNat+0))]))),(eF [(.slc 64 0 (V.length+1) 4),.sl (.fr J),(.bool false)]),(eF [(.slc 32 0 G.length 23),(.int .i64 (wrap .i64 ((V.length:Int)+1))),(.ptr 432 0)]),(eF [(.int .i64 a)])] 2336 [[],[13,14,47,48,49]] [([],105),([.pt 464 0,.ii i,(.ci (.sl (.op l))),(.ii (l.length:Int)),.ii i],73)]) .normal (lpBk so10a_k) (lpIn so10a_k):=fun hs hK=>
 run_at2 (unroll:=false) (n:=3000) (path:=[true]) (o:=⟨_,_,_,_,_,_,_⟩) sA_ok (by kernel_rfl) (by kernel_rfl) ho hs hK
def so10b_k:List KI:=(run sA false 3000 ((fun (l:List OpD) (G:List GateD) (V J:List U4) (i:Int) (a b c m:Int) (k:U4) (ks:List U4) (vs:List Int) (f j:Int)=>(⟨lpIn so10a_k,.normal,so10S l G V J i a b c m k ks vs f j⟩:Cfg)) default default default default default default default default default default default default default default) [false]).cfg.k
theorem so10b (ho:AllP [((decide (j<m))=false)]):Sg Try.prog (so10S l G V J i a b c m k ks vs f j) (mkSt 59 [0,2,4,6,24,25] [.pt 464 0,.ii m,.pt 1104 0,.ii f,.ii m,.ii (0:Int)] [32,64,432,464,1104] [(eQ (.gate G)),(eQ (.fr V)),(eF [(.slc 64 0 V.length 4),.sl (.fr J),(.bool false)]),(eF [(.slc 32 0 G.length 23),(.int .i64 (V.length:Int)),(.ptr 432 0)]),(eF [(.int .i64 a)])] 1280 [[],[13,14,47,48,49]] [([],105),([.pt 464 0,.ii i,(.ci (.sl (.op l))),(.ii (l.length:Int)),.ii i],73)]) .normal (so10b_k) (lpIn so10a_k):=fun hs hK=>
 run_at2 (unroll:=false) (n:=3000) (path:=[false]) (o:=⟨_,_,_,_,_,_,_⟩) sA_ok (by kernel_rfl) (by kernel_rfl) ho hs hK
def so10T (l:List OpD) (G:List GateD) (V J:List U4) (i:Int) (a b c m:Int) (k:U4) (ks:List U4) (vs:List Int) (f j:Int):St:=mkSt 59 [0,2,4,6,24,25] [.pt 464 0,.ii m,.pt 1104 0,.ii f,.ii m,.v (.c (.int .i64 j))] [32,64,432,464,1104] [some (.sq (.gate G)),some (.sq (.fr V)),some (.fl [.slc 64 0 V.length 4,.sl (.fr J),.bool false]),some (.fl [.slc 32 0 G.length 23,.int .i64 (V.length:Int),.ptr 432 0]),(eF [(.int .i64 a)])] 1280 [[],[13,14,47,48,49]] [([],105),([.pt 464 0,.ii i,(.ci (.sl (.op l))),(.ii (l.length:Int)),.ii i],73)]
theorem so10mz (ho:AllP [((decide (j<m))=true),((decide ((G.length:Int)≤(4096:Int)))=true),(((G.length+1)*184)≤140737488355328),((G.length+1)≤maxLen),(G.length=G.length),(1=1),(0≤(wrap .i64 (f+j))),((wrap .i64 (f+j))<(V.length:Int)),(0=0),(((wrap .i64 (f+j))).toNat<V.length),((ite (true=true) (decide ((List.getD V ((wrap .i64 (f+j))).toNat 0)=(0:U4))) (Bool.not (decide ((List.getD V ((wrap .i64 (f+j))).toNat 0)=(0:U4)))))=true)]):Sg Try.prog (so10T l G V J i a b c m k ks vs f j) (mkSt 59 [0,2,4,6,24,25] [.pt 464 0,.ii m,.pt 1104 0,.ii f,.ii m,(.ii (wrap .i64 (j+1)))] [32,64,432,464,1104] [(eQ (.gate (G++[(GateD.mk oneU mO 0 0 0 (wrap .i64 (f+j)) (wrap .i64 (f+j)) (-1))]))),(eQ (.fr V)),(eF [(.slc 64 0 V.length 4),.sl (.fr J),(.bool false)]),(eF [(.slc 32 0 (G.length+1) 23),(.int .i64 (V.length:Int)),(.ptr 432 0)]),(eF [(.int .i64 a)])] 2448 [[],[13,14,47,48,49]] [([],105),([.pt 464 0,.ii i,(.ci (.sl (.op l))),(.ii (l.length:Int)),.ii i],73)]) .normal (lpBk so10b_k) (lpIn so10b_k):=fun hs hK=>
 run_at2 (unroll:=false) (n:=3000) (path:=[true,true,true,true]) (o:=⟨_,_,_,_,_,_,_⟩) sA_ok (by kernel_rfl) (by kernel_rfl) ho hs hK
theorem so10mo (ho:AllP [((decide (j<m))=true),((decide ((G.length:Int)≤(4096:Int)))=true),(((G.length+1)*184)≤140737488355328),((G.length+1)≤maxLen),(G.length=G.length),(1=1),(0≤(wrap .i64 (f+j))),((wrap .i64 (f+j))<(V.length:Int)),(0=0),(((wrap .i64 (f+j))).toNat<V.length),((ite (true=true) (decide ((List.getD V ((wrap .i64 (f+j))).toNat 0)=(0:U4))) (Bool.not (decide ((List.getD V ((wrap .i64 (f+j))).toNat 0)=(0:U4)))))=false),(0≤(wrap .i64 (f+j))),((wrap .i64 (f+j))<(V.length:Int)),(0=0),(((wrap .i64 (f+j))).toNat<V.length),((Bool.not (ite (true=true) (decide ((List.getD V ((wrap .i64 (f+j))).toNat 0)=oneU)) (Bool.not (decide ((List.getD V ((wrap .i64 (f+j))).toNat 0)=oneU)))))=false)]):Sg Try.prog (so10T l G V J i a b c m k ks vs f j) (mkSt 59 [0,2,4,6,24,25] [.pt 464 0,.ii m,.pt 1104 0,.ii f,.ii m,(.ii (wrap .i64 (j+1)))] [32,64,432,464,1104] [(eQ (.gate (G++[(GateD.mk oneU mO 0 0 0 (wrap .i64 (f+j)) (wrap .i64 (f+j)) (-1))]))),(eQ (.fr V)),(eF [(.slc 64 0 V.length 4),.sl (.fr J),(.bool false)]),(eF [(.slc 32 0 (G.length+1) 23),(.int .i64 (V.length:Int)),(.ptr 432 0)]),(eF [(.int .i64 a)])] 2448 [[],[13,14,47,48,49]] [([],105),([.pt 464 0,.ii i,(.ci (.sl (.op l))),(.ii (l.length:Int)),.ii i],73)]) .normal (lpBk so10b_k) (lpIn so10b_k):=fun hs hK=>
 run_at2 (unroll:=false) (n:=3000) (path:=[true,true,true,false,false]) (o:=⟨_,_,_,_,_,_,_⟩) sA_ok (by kernel_rfl) (by kernel_rfl) ho hs hK
def so10c_k:List KI:=(run sA false 3000 ((fun (l:List OpD) (G:List GateD) (V J:List U4) (i:Int) (a b c m:Int) (k:U4) (ks:List U4) (vs:List Int) (f j:Int)=>(⟨lpIn so10b_k,.normal,so10T l G V J i a b c m k ks vs f j⟩:Cfg)) default default default default default default default default default default default default default default) [false]).cfg.k
theorem so10c (ho:AllP [((decide (j<m))=false)]):Sg Try.prog (so10T l G V J i a b c m k ks vs f j) (mkSt 59 [0,2,4,6,9,10,11] [.pt 464 0,.ii m,.pt 1104 0,.ii f,.pt 1328 0,.pt 1344 0,.ii (1:Int)] [32,64,432,464,1104,1328,1344] [(eQ (.gate G)),(eQ (.fr V)),(eF [(.slc 64 0 V.length 4),.sl (.fr J),(.bool false)]),(eF [(.slc 32 0 G.length 23),(.int .i64 (V.length:Int)),(.ptr 432 0)]),(eF [(.int .i64 a)]),(eF [(.int .i64 f)]),(eF [.ob (.fr oneU)])] 1408 [[],[13,14,47,48,49]] [([],105),([.pt 464 0,.ii i,(.ci (.sl (.op l))),(.ii (l.length:Int)),.ii i],73)]) .normal (so10c_k) (lpIn so10b_k):=fun hs hK=>
 run_at2 (unroll:=false) (n:=3000) (path:=[false]) (o:=⟨_,_,_,_,_,_,_⟩) sA_ok (by kernel_rfl) (by kernel_rfl) ho hs hK
def so10U (l:List OpD) (G:List GateD) (V J:List U4) (i:Int) (a b c m:Int) (k:U4) (ks:List U4) (vs:List Int) (f j v:Int) (pw:U4):St:=mkSt 59 [0,2,4,6,9,10,11] [.pt 464 0,.ii m,.pt 1104 0,.ii f,.pt 1328 0,.pt 1344 0,.v (.c (.int .i64 j))] [32,64,432,464,1104,1328,1344] [some (.sq (.gate G)),some (.sq (.fr V)),some (.fl [.slc 64 0 V.length 4,.sl (.fr J),.bool false]),some (.fl [.slc 32 0 G.length 23,.int .i64 (V.length:Int),.ptr 432 0]),(eF [(.int .i64 a)]),some (.fl [.int .i64 v]),some (.fl [.ob (.fr pw)])] 1408 [[],[13,14,47,48,49]] [([],105),([.pt 464 0,.ii i,(.ci (.sl (.op l))),(.ii (l.length:Int)),.ii i],73)]
end
section
variable (l:List OpD) (G:List GateD) (V J:List U4) (i:Int) (a b c m:Int) (k:U4) (ks:List U4) (vs:List Int) (f j v:Int) (pw:U4)
theorem so10o (ho:AllP [((decide (j<m))=true),(0≤v),(v<(V.length:Int)),(0=0),((v).toNat<V.length),(0≤(wrap .i64 (f+j))),((wrap .i64 (f+j))<(V.length:Int)),(0=0),(((wrap .i64 (f+j))).toNat<V.length),(((V.length+1)*32)≤140737488355328),((V.length+1)≤maxLen),(V.length=V.length),(1=1),((decide ((G.length:Int)≤(4096:Int)))=true),(((G.length+1)*184)≤140737488355328),((G.length+1)≤maxLen),(G.length=G.length),(1=1)]):Sg Try.prog (so10U l G V J i a b c m k ks vs f j v pw) (mkSt 59 [0,2,4,6,9,10,11] [.pt 464 0,.ii m,.pt 1104 0,.ii f,.pt 1328 0,.pt 1344 0,(.ii (wrap .i64 (j+1)))] [32,64,432,464,1104,1328,1344] [(eQ (.gate (G++[(GateD.mk 0 (outF (inF oneU)) (outF (inF (outF ((inF pw)+(inF pw))))) mO (0:U4) v (wrap .i64 (f+j)) (wrap .i64 ((wrap .i64 ((V.length:Int)+1))-1)))]))),(eQ (.fr (V++[(outF ((inF (outF ((inF oneU)*(inF (V.getD v.toNat 0)))))+(inF (outF ((inF (outF ((inF pw)+(inF pw))))*(inF (List.getD V ((wrap .i64 (f+j))).toNat 0)))))))]))),(eF [(.slc 64 0 (V.length+1) 4),.sl (.fr J),(.bool false)]),(eF [(.slc 32 0 (G.length+1) 23),(.int .i64 (wrap .i64 ((V.length:Int)+1))),(.ptr 432 0)]),(eF [(.int .i64 a)]),(eF [(.int .i64 (wrap .i64 ((wrap .i64 ((V.length:Int)+1))-1)))]),(eF [(.ob (.fr (outF ((inF pw)+(inF pw)))))])] 3408 [[],[13,14,47,48,49]] [([],105),([.pt 464 0,.ii i,(.ci (.sl (.op l))),(.ii (l.length:Int)),.ii i],73)]) .normal (lpBk so10c_k) (lpIn so10c_k):=fun hs hK=>
 run_at2 (unroll:=false) (n:=3000) (path:=[true,true]) (o:=⟨_,_,_,_,_,_,_⟩) sA_ok (by kernel_rfl) (by kernel_rfl) ho hs hK
theorem so10x (ho:AllP [((decide (j<m))=false),((decide ((G.length:Int)≤(4096:Int)))=true),(((G.length+1)*184)≤140737488355328),((G.length+1)≤maxLen),(G.length=G.length),(1=1),(0≤v),(v<(V.length:Int)),(0=0),((v).toNat<V.length),(0≤a),(a<(V.length:Int)),(0=0),((a).toNat<V.length),((Bool.not (ite (true=true) (decide ((V.getD v.toNat 0)=(V.getD a.toNat 0))) (Bool.not (decide ((V.getD v.toNat 0)=(V.getD a.toNat 0))))))=false),(false=false)]):Sg Try.prog (so10U l G V J i a b c m k ks vs f j v pw) (mkSt 73 [13,47,48,49] [.pt 464 0,(.ci (.sl (.op l))),(.ii (l.length:Int)),(.ii (wrap .i64 (i+1)))] [32,64,432,464] [(eQ (.gate (G++[(GateD.mk 0 oneU mO 0 0 v a (-1))]))),(eQ (.fr V)),(eF [(.slc 64 0 V.length 4),.sl (.fr J),(.bool false)]),(eF [(.slc 32 0 (G.length+1) 23),(.int .i64 (V.length:Int)),(.ptr 432 0)])] 2560 [] []) .normal (lpBk slD_k) (lpIn so10c_k):=fun hs hK=>
 run_at2 (unroll:=false) (n:=3000) (path:=[false,true,true,false,false]) (o:=⟨_,_,_,_,_,_,_⟩) sA_ok (by kernel_rfl) (by kernel_rfl) ho hs hK
end
theorem so10w_end (l:List OpD) (G:List GateD) (V J:List U4) (i:Int) (a b c m:Int) (k:U4) (ks:List U4) (vs:List Int) (f j v:Int) (pw:U4):runEnd sA Try.f13 false 3000 (⟨lpIn so10c_k,.normal,so10U l G V J i a b c m k ks vs f j v pw⟩) [false,true,true,true,true] [] []=(some ([((decide (j<m))=false),((decide ((G.length:Int)≤(4096:Int)))=true),(((G.length+1)*184)≤140737488355328),((G.length+1)≤maxLen),(G.length=G.length),(1=1),(0≤v),(v<(V.length:Int)),(0=0),((v).toNat<V.length),(0≤a),(a<(V.length:Int)),(0=0),((a).toNat<V.length),((Bool.not (ite (true=true) (decide ((V.getD v.toNat 0)=(V.getD a.toNat 0))) (Bool.not (decide ((V.getD v.toNat 0)=(V.getD a.toNat 0))))))=true)],((.t [(.c (.val (Value.slice Option.none 0 0))),(.c (.int .i64 (70:Int))),(.c (.int .i64 i))]),[]))):=by kernel_rfl
end
end

set_option linter.unusedSimpArgs false
set_option linter.unusedVariables false
section

section
variable {l:List OpD} {G:List GateD} {W:List Fr} {J:List U4} {x:Fr} {i a b c m:Int} {k:U4} {ks:List U4} {vs:List Int} {w0:World} {F0:Nat→Prop} {K:Kp} {ac:List Act} {Q:Exit→Act→World→Prop} {cX:Ctx} {aX:Act}

theorem Sim.cg {nt nx nx' : Nat} {tl ml:List Nat} {svs svs' : List SV} {ens ens' : List (Option En)} {ftl:List (List Nat)} {fsv:List (List SV×Nat)} (hs:Sim w0 F0 K ac (mkSt nt tl svs ml ens nx ftl fsv) cX aX) (h1:svs=svs') (h2:ens=ens'):Sim w0 F0 K ac (mkSt nt tl svs' ml ens' nx' ftl fsv) cX aX:=by
 subst h1 h2
 exact hs.nx _
theorem ensE {G1 G2:List GateD} {V1 V2:List U4} {gl vl:Nat} {n:Int} {w:It} {R R2:List (Option En)} (hG:G1=G2) (hV:V1=V2) (h1:gl=G2.length) (h2:vl=V2.length) (h3:n=(V2.length:Int)) (hR:R=R2) :
  (some (.sq (.gate G1))::some (.sq (.fr V1))::some (.fl [.slc 64 0 vl 4,.sl (.fr J),w])::some (.fl [.slc 32 0 gl 23,.int .i64 n,.ptr 432 0])::R:List (Option En))=some (.sq (.gate G2))::some (.sq (.fr V2))::some (.fl [.slc 64 0 V2.length 4,.sl (.fr J),w])::some (.fl [.slc 32 0 G2.length 23,.int .i64 (V2.length:Int),.ptr 432 0])::R2:=by
 subst hG hV h1 h2 h3 hR
 rfl
theorem slT6 (h1:W.length≤600000) (h2:G.length+(gatesOf (W.length:Int) 6 a b c m k ks vs).length≤4096) (h3:0≤i) (h4:i≤1000) (hv:1≤vs.length) (hv2:vs.length≤64) (hk:ks.length=vs.length) (hin:∀j,j<vs.length→0≤vs.getD j 0∧vs.getD j 0<(W.length:Int)) (hs:Sim w0 F0 K ac (soO l G (W.map outF) J i 6 a b c m k ks vs) cX aX) 
  (hK:∀ac cY aY,Sim w0 F0 K ac (soS l (G++gatesOf (W.length:Int) 6 a b c m k ks vs) ((W++valsOf W x 6 a b c m k ks vs).map outF) J (i+1)) cY aY→Wq Try.prog Q (lpBk slD_k) ac .normal aY cY.w):Wq Try.prog Q soB_k ac .normal aX cX.w:=by
 have w1:wrap IntKind.i64 ((W.length:Int)+1)=(W.length:Int)+1:=wrap_id (by omega) (by omega)
 have w2:wrap IntKind.i64 ((W.length:Int)+1-1)=(W.length:Int):=by rw[wrap_id (by omega) (by omega)];omega
 have wi:wrap IntKind.i64 (i+1)=i+1:=wrap_id (by omega) (by omega)
 have i0:=hin 0 (by omega)
 by_cases hl:vs.length=1
 ·have eg:gatesOf (W.length:Int) 6 a b c m k ks vs=[linG (ks.getD 0 0) (vs.getD 0 0) (W.length:Int)]:=if_pos hl
  have ev:valsOf W x 6 a b c m k ks vs=[inF (ks.getD 0 0)*vF W (vs.getD 0 0)]:=if_pos hl
  rw[eg] at h2 hK
  rw[ev] at hK
  have h2:G.length+1≤4096:=h2
  refine so6 l G (W.map outF) J i a b c m k ks vs (by simp only[AllP,maxLen,decide_eq_true_eq,decide_eq_false_iff_not,List.length_append,List.length_cons,List.length_nil,List.length_map,beq_iff_eq,bne_iff_ne,bne_eq_false_iff_eq,beq_eq_false_iff_ne,Int.toNat_natCast,getV,eq_self_iff_true,if_true,outF_is1,outF_zero,outF_same,Bool.not_eq_true',Bool.not_eq_false',w1,w2];and_intros<;>first | rfl | exact True.intro | omega | assumption) hs fun ac cU aU hs2=>hK _ _ _ ?_
  exact toS hs2 (by rw[List.length_map,w1,w2];rfl) (by rw[getW,mapA]) rfl (by rw[glen1]) (by rw[List.length_map,vlen1]) (by rw[List.length_map,w1,vlen1];omega) wi
 ·have i1:=hin 1 (by omega)
  have eg:gatesOf (W.length:Int) 6 a b c m k ks vs=linL (W.length:Int) ks vs (vs.length-2):=if_neg hl
  have ev:valsOf W x 6 a b c m k ks vs=linW W ks vs (vs.length-2):=if_neg hl
  rw[eg] at h2 hK
  rw[ev] at hK
  rw[linL_len] at h2
  have last:∀t,vF (W++linW W ks vs t) ((W.length:Int)+(t:Int))=linS W ks vs t:=by
   intro t
   cases t with
   | zero=>rw[show (W.length:Int)+((0:Nat):Int)=(W.length:Int) from by omega];exact vF_new W _
   | succ t=>
    have h:=vF_new (W++linW W ks vs t) (linS W ks vs (t+1))
    rw[List.length_append,linW_len,List.append_assoc] at h
    rw[show (W.length:Int)+((t+1:Nat):Int)=((W.length+(t+1):Nat):Int) from by omega]
    exact h
  have loop:∀ac cY aY,Sim w0 F0 K ac (so6S l (G++linL (W.length:Int) ks vs 0) ((W++linW W ks vs 0).map outF) J i a b c m k ks vs ((W.length:Int)+((0:Nat):Int)) ((0+2:Nat):Int)) cY aY→Wq Try.prog Q so6a_k ac .normal aY cY.w:=by
   intro ac cY aY hs1
   refine loop_rule (ι:={ t:Nat // t+2≤vs.length }) (fun t=>so6S l (G++linL (W.length:Int) ks vs t.1) ((W++linW W ks vs t.1).map outF) J i a b c m k ks vs ((W.length:Int)+(t.1:Int)) ((t.1+2:Nat):Int)) (fun t=>vs.length-t.1) (c:=lpC so6a_k) (k:=lpR so6a_k) (by kernel_rfl) (fun t ih ac cY aY hs=>?_) ⟨0,by omega⟩ hs1
   obtain ⟨t,ht⟩:=t
   simp only at ih hs
   have lG:(G++linL (W.length:Int) ks vs t).length=G.length+(t+1):=by rw[List.length_append,linL_len]
   have lW:(W++linW W ks vs t).length=W.length+(t+1):=by rw[List.length_append,linW_len]
   by_cases h:t+2<vs.length
   ·have ij:=hin (t+2) h
    have x1:wrap IntKind.i64 (((W.length+(t+1):Nat):Int)+1)=((W.length+(t+1):Nat):Int)+1:=wrap_id (by omega) (by omega)
    have x2:wrap IntKind.i64 (((W.length+(t+1):Nat):Int)+1-1)=(W.length:Int)+(t:Int)+1:=by rw[wrap_id (by omega) (by omega)];omega
    have x3:wrap IntKind.i64 (((t+2:Nat):Int)+1)=((t+1+2:Nat):Int):=by rw[wrap_id (by omega) (by omega)];omega
    have e1:=last t
    have e2:vF (W++linW W ks vs t) (vs.getD (t+2) 0)=vF W (vs.getD (t+2) 0):=vF_apps ij
    refine so6n l _ _ J i a b c m k ks vs _ _ (by rw[List.length_map,lG,lW];exact (by simp only[AllP,maxLen,decide_eq_true_eq,decide_eq_false_iff_not,List.length_append,List.length_cons,List.length_nil,List.length_map,beq_iff_eq,bne_iff_ne,bne_eq_false_iff_eq,beq_eq_false_iff_ne,Int.toNat_natCast,getV,eq_self_iff_true,if_true,outF_is1,outF_zero,outF_same,Bool.not_eq_true',Bool.not_eq_false'];and_intros<;>first | rfl | exact True.intro | omega | assumption)) hs fun ac cU aU hs2=>?_
    refine ih ⟨t+1,by omega⟩ (by show vs.length-(t+1)<vs.length-t;omega) ac cU aU ?_
    refine hs2.cg (by rw[List.length_map,lW,x1,x2,x3,show (W.length:Int)+(t:Int)+1=(W.length:Int)+((t+1:Nat):Int) from by omega]) (ensE ?_ ?_ ?_ ?_ ?_ rfl)
    ·rw[List.length_map,lW,x1,x2,Int.toNat_natCast,List.append_assoc]
     rfl
    ·rw[Int.toNat_natCast,getW,getW,e1,e2,in_out,in_out,oneU_in,one_mul_g,mapA,List.append_assoc]
     rfl
    ·rw[lG,List.length_append,linL_len];show G.length+(t+1)+1=G.length+(t+1+1);omega
    ·rw[List.length_map,List.length_map,lW,List.length_append,linW_len];show W.length+(t+1)+1=W.length+(t+1+1);omega
    ·rw[List.length_map,List.length_map,lW,x1,List.length_append,linW_len];show ((W.length+(t+1):Nat):Int)+1=((W.length+(t+1+1):Nat):Int);omega
   ·have et:vs.length-2=t:=by omega
    rw[et] at hK
    refine so6x l _ _ J i a b c m k ks vs _ _ (by simp only[AllP,maxLen,decide_eq_true_eq,decide_eq_false_iff_not,List.length_append,List.length_cons,List.length_nil,List.length_map,beq_iff_eq,bne_iff_ne,bne_eq_false_iff_eq,beq_eq_false_iff_ne,Int.toNat_natCast,getV,eq_self_iff_true,if_true,outF_is1,outF_zero,outF_same,Bool.not_eq_true',Bool.not_eq_false'];and_intros<;>first | rfl | exact True.intro | omega | assumption) hs fun ac cU aU hs2=>hK _ _ _ ?_
    exact toS hs2 rfl rfl rfl rfl rfl rfl wi
  refine so6a l G (W.map outF) J i a b c m k ks vs (by simp only[AllP,maxLen,decide_eq_true_eq,decide_eq_false_iff_not,List.length_append,List.length_cons,List.length_nil,List.length_map,beq_iff_eq,bne_iff_ne,bne_eq_false_iff_eq,beq_eq_false_iff_ne,Int.toNat_natCast,getV,eq_self_iff_true,if_true,outF_is1,outF_zero,outF_same,Bool.not_eq_true',Bool.not_eq_false',w1,w2];and_intros<;>first | rfl | exact True.intro | omega | assumption) hs fun ac cU aU hs2=>loop _ _ _ ?_
  refine hs2.cg (by rw[List.length_map,w1,w2,show (W.length:Int)+((0:Nat):Int)=(W.length:Int) from by omega];rfl) (ensE ?_ ?_ ?_ ?_ ?_ rfl)
  ·rw[List.length_map,w1,w2];rfl
  ·rw[getW,getW,in_out,in_out,mapA];rfl
  ·rw[List.length_append];rfl
  ·rw[List.length_map,List.length_map,List.length_append];rfl
  ·rw[List.length_map,List.length_map,w1,List.length_append];rfl

theorem slT9 (h1:W.length≤600000) (h2:G.length+(gatesOf (W.length:Int) 9 a b c m k ks vs).length≤4096) (h3:0≤i) (h4:i≤1000) (ia:0≤a∧a<(W.length:Int)) (hs:Sim w0 F0 K ac (soO l G (W.map outF) J i 9 a b c m k ks vs) cX aX) 
  (hK:∀ac cY aY,Sim w0 F0 K ac (soS l (G++gatesOf (W.length:Int) 9 a b c m k ks vs) ((W++valsOf W x 9 a b c m k ks vs).map outF) J (i+1)) cY aY→Wq Try.prog Q (lpBk slD_k) ac .normal aY cY.w):Wq Try.prog Q soB_k ac .normal aX cX.w:=by
 have w1:wrap IntKind.i64 ((W.length:Int)+1)=(W.length:Int)+1:=wrap_id (by omega) (by omega)
 have w2:wrap IntKind.i64 ((W.length:Int)+1-1)=(W.length:Int):=by rw[wrap_id (by omega) (by omega)];omega
 have wi:wrap IntKind.i64 (i+1)=i+1:=wrap_id (by omega) (by omega)
 have eg:gatesOf (W.length:Int) 9 a b c m k ks vs=[prodG a (W.length:Int) ((W.length:Int)+1),zeroG ((W.length:Int)+1) ((W.length:Int)+2),zeroH a ((W.length:Int)+2)]:=rfl
 have ev:valsOf W x 9 a b c m k ks vs=[invP (vF W a),vF W a*invP (vF W a),1-vF W a*invP (vF W a)]:=rfl
 rw[eg] at h2 hK
 rw[ev] at hK
 have h2:G.length+3≤4096:=h2
 have h9:=so9 l G (W.map outF) J i a b c m k ks vs (w0:=w0) (F0:=F0) (K:=K) (ac:=ac) (Q:=Q) (cX:=cX) (aX:=aX)
 rw[rN_2] at h9
 have ep:∀y,powN y (rN-2)=invP y:=fun _=>rfl
 simp only[ep,List.length_map] at h9
 generalize hiv:invP (vF W a)=y at hK
 have w3:wrap IntKind.i64 ((W.length:Int)+1+1)=(W.length:Int)+2:=by rw[wrap_id (by omega) (by omega)];omega
 have w4:wrap IntKind.i64 ((W.length:Int)+2-1)=(W.length:Int)+1:=by rw[wrap_id (by omega) (by omega)];omega
 have w5:wrap IntKind.i64 ((W.length:Int)+2+1)=(W.length:Int)+3:=by rw[wrap_id (by omega) (by omega)];omega
 have w6:wrap IntKind.i64 ((W.length:Int)+3-1)=(W.length:Int)+2:=by rw[wrap_id (by omega) (by omega)];omega
 have va1:∀y,vF (W++[y]) a=vF W a:=fun y=>vF_app ia
 have n1:∀y z,vF ((W++[y])++[z]) ((W.length:Int)+1)=z:=fun y z=>by
  have:=vF_new1 W y z
  rwa [show ((W.length+1:Nat):Int)=(W.length:Int)+1 from by omega] at this
 simp only[w1,w2,w3,w4,w5,w6,getW,hiv,in_out,oneU_in,mapA,va1,vF_new,n1] at h9
 refine h9 (by simp only[AllP,maxLen,decide_eq_true_eq,decide_eq_false_iff_not,List.length_append,List.length_cons,List.length_nil,List.length_map,beq_iff_eq,bne_iff_ne,bne_eq_false_iff_eq,beq_eq_false_iff_ne,Int.toNat_natCast,getV,eq_self_iff_true,if_true,outF_is1,outF_zero,outF_same,Bool.not_eq_true',Bool.not_eq_false'];and_intros<;>first | rfl | exact True.intro | omega | assumption) hs fun ac cU aU hs2=>hK _ _ _ ?_
 refine toS hs2 ?_ ?_ rfl ?_ ?_ ?_ wi
 ·simp only[List.append_assoc,List.cons_append,List.nil_append];rfl
 ·simp only[List.append_assoc,List.cons_append,List.nil_append]
 ·simp only[List.length_append,List.length_cons,List.length_nil]
 ·simp only[List.length_append,List.length_cons,List.length_nil,List.length_map]
 ·simp only[List.length_append,List.length_cons,List.length_nil,List.length_map];omega

end
end

set_option linter.unusedSimpArgs false
set_option linter.unusedVariables false
section

section
variable {l:List OpD} {G:List GateD} {W:List Fr} {J:List U4} {x:Fr} {i a b c m:Int} {k:U4} {ks:List U4} {vs:List Int} {w0:World} {F0:Nat→Prop} {K:Kp} {ac:List Act} {Q:Exit→Act→World→Prop} {cX:Ctx} {aX:Act}

theorem bit_lim (u:U4) {t:Nat} (ht:t<256):bitsOp BinOp.and IntKind.u64 (Int.fdiv (limb (Ob.n (Ob.fr u)) (0+(wrap IntKind.i64 (Int.tdiv (t:Int) (64:Int))).toNat*1)) ((2:Int) ^ (Min.min (Int.tmod (t:Int) (64:Int)).toNat 64))) (1:Int)=bitV u t:=by
 have e1:wrap IntKind.i64 (Int.tdiv (t:Int) 64)=((t / 64:Nat):Int):=by
  rw[show Int.tdiv (t:Int) 64=((t / 64:Nat):Int) from by rw[Int.tdiv_eq_ediv_of_nonneg (by omega)];omega]
  exact wrap_id (by omega) (by omega)
 have e2:Int.tmod (t:Int) 64=((t % 64:Nat):Int):=by rw[Int.tmod_eq_emod_of_nonneg (by omega)];omega
 have e3:Min.min (t % 64) 64=t % 64:=by omega
 rw[e1,e2,Int.toNat_natCast,Int.toNat_natCast,e3,Nat.zero_add,Nat.mul_one]
 have hl:limb (Ob.n (Ob.fr u)) (t / 64)=((u.val / 2 ^ (64*(t / 64)) % 18446744073709551616:Nat):Int):=rfl
 have hp:((2:Int) ^ (t % 64))=((2 ^ (t % 64):Nat):Int):=by simp
 rw[hl,hp,Int.fdiv_eq_ediv_of_nonneg _ (Int.natCast_nonneg _),←Int.natCast_ediv,and1,bit_nat]
 rfl
theorem bit_lims {t:Nat} (ht:t<256):0≤wrap IntKind.i64 (Int.tdiv (t:Int) (64:Int))∧wrap IntKind.i64 (Int.tdiv (t:Int) (64:Int))<4∧0≤Int.tmod (t:Int) (64:Int):=by
 have e1:wrap IntKind.i64 (Int.tdiv (t:Int) 64)=((t / 64:Nat):Int):=by
  rw[show Int.tdiv (t:Int) 64=((t / 64:Nat):Int) from by rw[Int.tdiv_eq_ediv_of_nonneg (by omega)];omega]
  exact wrap_id (by omega) (by omega)
 have e2:Int.tmod (t:Int) 64=((t % 64:Nat):Int):=by rw[Int.tmod_eq_emod_of_nonneg (by omega)];omega
 rw[e1,e2]
 omega
theorem in_pwS (t:Nat):inF (pwS t)=pwF t:=by rw[pwS_out,in_out]
theorem slT10 (h1:W.length≤600000) (h2:G.length+(gatesOf (W.length:Int) 10 a b c m k ks vs).length≤4096) (h3:0≤i) (h4:i≤1000) {N:Nat} (hN:1≤N) (hN2:N≤254) (hm:m=(N:Int)) (ia:0≤a∧a<(W.length:Int)) (hs:Sim w0 F0 K ac (soO l G (W.map outF) J i 10 a b c m k ks vs) cX aX) (hE:wrongOf W 10 a b m=true→∀(cfg:List KI) (σ:St) (path:List Bool) (ob:List Prop),runEnd sA Try.f13 false 3000 ⟨cfg,.normal,σ⟩ path [] []=some (ob,errSV i,[])→AllP ob→∀ac cY aY,Sim w0 F0 K ac σ cY aY→Wq Try.prog Q cfg ac .normal aY cY.w) 
  (hK:wrongOf W 10 a b m=false→∀ac cY aY,Sim w0 F0 K ac (soS l (G++gatesOf (W.length:Int) 10 a b c m k ks vs) ((W++valsOf W x 10 a b c m k ks vs).map outF) J (i+1)) cY aY→Wq Try.prog Q (lpBk slD_k) ac .normal aY cY.w):Wq Try.prog Q soB_k ac .normal aX cX.w:=by
 have w1:wrap IntKind.i64 ((W.length:Int)+1)=(W.length:Int)+1:=wrap_id (by omega) (by omega)
 have w2:wrap IntKind.i64 ((W.length:Int)+1-1)=(W.length:Int):=by rw[wrap_id (by omega) (by omega)];omega
 have wi:wrap IntKind.i64 (i+1)=i+1:=wrap_id (by omega) (by omega)
 have eg:gatesOf (W.length:Int) 10 a b c m k ks vs=bitB (W.length:Int) N++bitS (W.length:Int) (N:Int) (N-1)++[equalG (lastV (W.length:Int) (N:Int) (N-1)) a]:=by
  rw[hm];exact congrArg (bitG (W.length:Int) a) (Int.toNat_natCast N)
 have ev:valsOf W x 10 a b c m k ks vs=bitW (vF W a) N++accW (vF W a) (N-1):=by
  rw[hm];exact congrArg (fun n=>bitW (vF W a) n++accW (vF W a) (n-1)) (Int.toNat_natCast N)
 have ew:wrongOf W 10 a b m=decide (accF (vF W a) (N-1)≠vF W a):=by
  rw[hm];exact congrArg (fun n=>decide (accF (vF W a) (n-1)≠vF W a)) (Int.toNat_natCast N)
 rw[eg] at h2
 rw[eg,ev,ew] at hK
 rw[List.length_append,List.length_append,bitB_len,bitS_len] at h2
 have h2:G.length+(N+(N-1)+1)≤4096:=h2
 have h01:¬(1:Fr)=0:=by decide +kernel
 obtain ⟨y,hy⟩:∃y,y=vF W a:=⟨_,rfl⟩
 rw[←hy] at hK
 have ya:∀U,vF (W++U) a=y:=fun U=>(vF_apps ia).trans hy.symm
 -- the last sums
 have loop3:∀ac cY aY,Sim w0 F0 K ac (so10U l (G++(bitB (W.length:Int) N++bitS (W.length:Int) (N:Int) 0)) ((W++(bitW y N++accW y 0)).map outF) J i a b c m k ks vs (W.length:Int) ((0+1:Nat):Int) (lastV (W.length:Int) (N:Int) 0) (pwS 0)) cY aY→Wq Try.prog Q so10c_k ac .normal aY cY.w:=by
  intro ac cY aY hs1
  refine loop_rule (ι:={ t:Nat // t+1≤N }) (fun t=>so10U l (G++(bitB (W.length:Int) N++bitS (W.length:Int) (N:Int) t.1)) ((W++(bitW y N++accW y t.1)).map outF) J i a b c m k ks vs (W.length:Int) ((t.1+1:Nat):Int) (lastV (W.length:Int) (N:Int) t.1) (pwS t.1)) (fun t=>N-t.1) (c:=lpC so10c_k) (k:=lpR so10c_k) (by kernel_rfl) (fun t ih ac cY aY hs=>?_) ⟨0,by omega⟩ hs1
  obtain ⟨t,ht⟩:=t
  simp only at ih hs
  have lG:(G++(bitB (W.length:Int) N++bitS (W.length:Int) (N:Int) t)).length=G.length+(N+t):=by rw[List.length_append,List.length_append,bitB_len,bitS_len]
  have lW:(W++(bitW y N++accW y t)).length=W.length+(N+t):=by rw[List.length_append,List.length_append,bitW_len,accW_len]
  have la:0≤lastV (W.length:Int) (N:Int) t∧lastV (W.length:Int) (N:Int) t<(W.length:Int)+(N:Int)+(t:Int):=by cases t<;>(simp only[lastV];omega)
  have e1:=acc_at W y N t hN
  by_cases h:t+1<N
  ·have x0:wrap IntKind.i64 ((W.length:Int)+((t+1:Nat):Int))=(W.length:Int)+((t+1:Nat):Int):=wrap_id (by omega) (by omega)
   have x1:wrap IntKind.i64 (((W.length+(N+t):Nat):Int)+1)=((W.length+(N+t):Nat):Int)+1:=wrap_id (by omega) (by omega)
   have x2:wrap IntKind.i64 (((W.length+(N+t):Nat):Int)+1-1)=(W.length:Int)+(N:Int)+(t:Int):=by rw[wrap_id (by omega) (by omega)];omega
   have x3:wrap IntKind.i64 (((t+1:Nat):Int)+1)=((t+1+1:Nat):Int):=by rw[wrap_id (by omega) (by omega)];omega
   have e2:=bit_at W y N t (t+1) h
   refine so10o l _ _ J i a b c m k ks vs _ _ _ _ (by rw[List.length_map,lG,lW,x0];exact (by simp only[AllP,maxLen,decide_eq_true_eq,decide_eq_false_iff_not,List.length_append,List.length_cons,List.length_nil,List.length_map,beq_iff_eq,bne_iff_ne,bne_eq_false_iff_eq,beq_eq_false_iff_ne,Int.toNat_natCast,getV,eq_self_iff_true,if_true,outF_is1,outF_zero,outF_same,Bool.not_eq_true',Bool.not_eq_false'];and_intros<;>first | rfl | exact True.intro | omega | assumption)) hs fun ac cU aU hs2=>?_
   refine ih ⟨t+1,by omega⟩ (by show N-(t+1)<N-t;omega) ac cU aU ?_
   refine hs2.cg (by rw[x3]) (ensE ?_ ?_ ?_ ?_ ?_ ?_)
   ·rw[List.length_map,lW,x0,x1,x2]
    show _=G++(bitB (W.length:Int) N++(bitS (W.length:Int) (N:Int) t++[sumG oneU (lastV (W.length:Int) (N:Int) t) (pwS (t+1)) ((W.length:Int)+((t+1:Nat):Int)) ((W.length:Int)+(N:Int)+(t:Int))]))
    simp only[List.append_assoc]
    rfl
   ·rw[x0,getW,getW,e1,e2,in_out,in_out,in_out,oneU_in,one_mul_g,in_pwS,mapA]
    show _=(W++(bitW y N++(accW y t++[accF y (t+1)]))).map outF
    simp only[List.append_assoc]
    rfl
   ·rw[lG,List.length_append,List.length_append,bitB_len,bitS_len];show G.length+(N+t)+1=G.length+(N+(t+1));omega
   ·rw[List.length_map,List.length_map,lW,List.length_append,List.length_append,bitW_len,accW_len];show W.length+(N+t)+1=W.length+(N+(t+1));omega
   ·rw[List.length_map,List.length_map,lW,x1,List.length_append,List.length_append,bitW_len,accW_len];show ((W.length+(N+t):Nat):Int)+1=((W.length+(N+(t+1)):Nat):Int);omega
   ·rw[List.length_map,lW,x1,x2]
    rfl
  ·have et:N-1=t:=by omega
   rw[et] at hK
   have ey:vF (W++(bitW y N++accW y t)) a=y:=ya _
   have ea:vF (W++(bitW y N++accW y t)) (lastV (W.length:Int) (N:Int) t)=accF y t:=e1
   by_cases hq:accF y t=y
   ·refine so10x l _ _ J i a b c m k ks vs _ _ _ _ (by rw[List.length_map,lG,lW,getV,getV,ea,ey,hq];exact (by simp only[AllP,maxLen,decide_eq_true_eq,decide_eq_false_iff_not,List.length_append,List.length_cons,List.length_nil,List.length_map,beq_iff_eq,bne_iff_ne,bne_eq_false_iff_eq,beq_eq_false_iff_ne,Int.toNat_natCast,getV,eq_self_iff_true,if_true,outF_is1,outF_zero,outF_same,Bool.not_eq_true',Bool.not_eq_false'];and_intros<;>first | rfl | exact True.intro | omega | assumption)) hs fun ac cU aU hs2=>hK (decide_eq_false (not_not_intro hq)) _ _ _ ?_
    exact toS hs2 (by simp only[List.append_assoc];rfl) rfl rfl (by simp only[List.length_append,List.length_cons,List.length_nil];omega) rfl rfl wi
   ·exact hE (by rw[ew,et,←hy];exact decide_eq_true hq) _ _ _ _ (so10w_end l _ _ J i a b c m k ks vs _ _ _ _) (by rw[List.length_map,lG,lW,getV,getV,ea,ey];exact (by simp only[AllP,maxLen,decide_eq_true_eq,decide_eq_false_iff_not,List.length_append,List.length_cons,List.length_nil,List.length_map,beq_iff_eq,bne_iff_ne,bne_eq_false_iff_eq,beq_eq_false_iff_ne,Int.toNat_natCast,getV,eq_self_iff_true,if_true,outF_is1,outF_zero,outF_same,Bool.not_eq_true',Bool.not_eq_false'];and_intros<;>first | rfl | exact True.intro | omega | assumption)) _ _ _ hs
 -- each bit is one
 have loop2:∀ac cY aY,Sim w0 F0 K ac (so10T l (G++bitB (W.length:Int) 0) ((W++bitW y N).map outF) J i a b c m k ks vs (W.length:Int) ((0:Nat):Int)) cY aY→Wq Try.prog Q so10b_k ac .normal aY cY.w:=by
  intro ac cY aY hs1
  refine loop_rule (ι:={ t:Nat // t≤N }) (fun t=>so10T l (G++bitB (W.length:Int) t.1) ((W++bitW y N).map outF) J i a b c m k ks vs (W.length:Int) (t.1:Int)) (fun t=>N-t.1) (c:=lpC so10b_k) (k:=lpR so10b_k) (by kernel_rfl) (fun t ih ac cY aY hs=>?_) ⟨0,by omega⟩ hs1
  obtain ⟨t,ht⟩:=t
  simp only at ih hs
  have lG:(G++bitB (W.length:Int) t).length=G.length+t:=by rw[List.length_append,bitB_len]
  have lW:(W++bitW y N).length=W.length+N:=by rw[List.length_append,bitW_len]
  by_cases h:t<N
  ·have x2:wrap IntKind.i64 ((W.length:Int)+(t:Int))=(W.length:Int)+(t:Int):=wrap_id (by omega) (by omega)
   have x3:wrap IntKind.i64 ((t:Int)+1)=((t+1:Nat):Int):=by rw[wrap_id (by omega) (by omega)];omega
   have e2:vF (W++bitW y N) ((W.length:Int)+(t:Int))=bitF y t:=by
    have:=bit_at W y N 0 t h
    rwa [show bitW y N++accW y 0=bitW y N from List.append_nil _] at this
   rcases bitF_01 y t with hb | hb
   ·refine so10mo l _ _ J i a b c m k ks vs _ _ (by rw[List.length_map,lG,lW,x2,getV,e2,hb];exact (by simp only[AllP,maxLen,decide_eq_true_eq,decide_eq_false_iff_not,List.length_append,List.length_cons,List.length_nil,List.length_map,beq_iff_eq,bne_iff_ne,bne_eq_false_iff_eq,beq_eq_false_iff_ne,Int.toNat_natCast,getV,eq_self_iff_true,if_true,outF_is1,outF_zero,outF_same,Bool.not_eq_true',Bool.not_eq_false'];and_intros<;>first | rfl | exact True.intro | omega | assumption)) hs fun ac cU aU hs2=>?_
    refine ih ⟨t+1,by omega⟩ (by show N-(t+1)<N-t;omega) ac cU aU ?_
    refine hs2.cg (by rw[x3]) (ensE ?_ rfl ?_ rfl rfl rfl)
    ·rw[x2,List.append_assoc];rfl
    ·rw[lG,List.length_append,bitB_len];show G.length+t+1=G.length+(t+1);omega
   ·refine so10mz l _ _ J i a b c m k ks vs _ _ (by rw[List.length_map,lG,lW,x2,getV,e2,hb];exact (by simp only[AllP,maxLen,decide_eq_true_eq,decide_eq_false_iff_not,List.length_append,List.length_cons,List.length_nil,List.length_map,beq_iff_eq,bne_iff_ne,bne_eq_false_iff_eq,beq_eq_false_iff_ne,Int.toNat_natCast,getV,eq_self_iff_true,if_true,outF_is1,outF_zero,outF_same,Bool.not_eq_true',Bool.not_eq_false'];and_intros<;>first | rfl | exact True.intro | omega | assumption)) hs fun ac cU aU hs2=>?_
    refine ih ⟨t+1,by omega⟩ (by show N-(t+1)<N-t;omega) ac cU aU ?_
    refine hs2.cg (by rw[x3]) (ensE ?_ rfl ?_ rfl rfl rfl)
    ·rw[x2,List.append_assoc];rfl
    ·rw[lG,List.length_append,bitB_len];show G.length+t+1=G.length+(t+1);omega
  ·have et:t=N:=by omega
   subst et
   refine so10c l _ _ J i a b c m k ks vs _ _ (by simp only[AllP,maxLen,decide_eq_true_eq,decide_eq_false_iff_not,List.length_append,List.length_cons,List.length_nil,List.length_map,beq_iff_eq,bne_iff_ne,bne_eq_false_iff_eq,beq_eq_false_iff_ne,Int.toNat_natCast,getV,eq_self_iff_true,if_true,outF_is1,outF_zero,outF_same,Bool.not_eq_true',Bool.not_eq_false'];and_intros<;>first | rfl | exact True.intro | omega | assumption) hs fun ac cU aU hs2=>loop3 _ _ _ ?_
   rw[show bitB (W.length:Int) t++bitS (W.length:Int) (t:Int) 0=bitB (W.length:Int) t from List.append_nil _,show bitW y t++accW y 0=bitW y t from List.append_nil _]
   exact hs2.nx _
 -- the bits
 have loop1:∀ac cY aY,Sim w0 F0 K ac (so10S l G ((W++bitW y 0).map outF) J i a b c m k ks vs (W.length:Int) ((0:Nat):Int)) cY aY→Wq Try.prog Q so10a_k ac .normal aY cY.w:=by
  intro ac cY aY hs1
  refine loop_rule (ι:={ t:Nat // t≤N }) (fun t=>so10S l G ((W++bitW y t.1).map outF) J i a b c m k ks vs (W.length:Int) (t.1:Int)) (fun t=>N-t.1) (c:=lpC so10a_k) (k:=lpR so10a_k) (by kernel_rfl) (fun t ih ac cY aY hs=>?_) ⟨0,by omega⟩ hs1
  obtain ⟨t,ht⟩:=t
  simp only at ih hs
  have lW:(W++bitW y t).length=W.length+t:=by rw[List.length_append,bitW_len]
  by_cases h:t<N
  ·have x1:wrap IntKind.i64 (((W.length+t:Nat):Int)+1)=((W.length+t:Nat):Int)+1:=wrap_id (by omega) (by omega)
   have x3:wrap IntKind.i64 ((t:Int)+1)=((t+1:Nat):Int):=by rw[wrap_id (by omega) (by omega)];omega
   obtain ⟨bv1,bv2⟩:=bitV_pos (outF y) t
   obtain ⟨bl1,bl2,bl3⟩:=bit_lims (t:=t) (by omega)
   have bl4:0+(wrap IntKind.i64 (Int.tdiv (t:Int) (64:Int))).toNat*1<4:=by omega
   refine so10n l _ _ J i a b c m k ks vs _ _ (by rw[List.length_map,lW,getV,ya,bit_lim _ (by omega)];exact (by simp only[AllP,maxLen,decide_eq_true_eq,decide_eq_false_iff_not,List.length_append,List.length_cons,List.length_nil,List.length_map,beq_iff_eq,bne_iff_ne,bne_eq_false_iff_eq,beq_eq_false_iff_ne,Int.toNat_natCast,getV,eq_self_iff_true,if_true,outF_is1,outF_zero,outF_same,Bool.not_eq_true',Bool.not_eq_false'];and_intros<;>first | rfl | exact True.intro | omega | assumption)) hs fun ac cU aU hs2=>?_
   refine ih ⟨t+1,by omega⟩ (by show N-(t+1)<N-t;omega) ac cU aU ?_
   refine hs2.cg (by rw[x3]) (ensE rfl ?_ rfl ?_ ?_ rfl)
   ·rw[getV,ya,bit_lim _ (by omega),bit_out,mapA,List.append_assoc];rfl
   ·rw[List.length_map,List.length_map,lW,List.length_append,bitW_len];show W.length+t+1=W.length+(t+1);omega
   ·rw[List.length_map,List.length_map,lW,x1,List.length_append,bitW_len];show ((W.length+t:Nat):Int)+1=((W.length+(t+1):Nat):Int);omega
  ·have et:t=N:=by omega
   subst et
   refine so10b l _ _ J i a b c m k ks vs _ _ (by simp only[AllP,maxLen,decide_eq_true_eq,decide_eq_false_iff_not,List.length_append,List.length_cons,List.length_nil,List.length_map,beq_iff_eq,bne_iff_ne,bne_eq_false_iff_eq,beq_eq_false_iff_ne,Int.toNat_natCast,getV,eq_self_iff_true,if_true,outF_is1,outF_zero,outF_same,Bool.not_eq_true',Bool.not_eq_false'];and_intros<;>first | rfl | exact True.intro | omega | assumption) hs fun ac cU aU hs2=>loop2 _ _ _ ?_
   rw[show G++bitB (W.length:Int) 0=G from List.append_nil _]
   exact hs2.nx _
 refine so10a l G (W.map outF) J i a b c m k ks vs (by simp only[AllP,maxLen,decide_eq_true_eq,decide_eq_false_iff_not,List.length_append,List.length_cons,List.length_nil,List.length_map,beq_iff_eq,bne_iff_ne,bne_eq_false_iff_eq,beq_eq_false_iff_ne,Int.toNat_natCast,getV,eq_self_iff_true,if_true,outF_is1,outF_zero,outF_same,Bool.not_eq_true',Bool.not_eq_false'];and_intros<;>first | rfl | exact True.intro | omega | assumption) hs fun ac cU aU hs2=>loop1 _ _ _ ?_
 rw[show W++bitW y 0=W from List.append_nil _]
 refine hs2.cg (by rw[List.length_map];rfl) rfl
end
end

section
section
variable {w0:World} {F0:Nat→Prop} {K:Kp} {ac:List Act} {Q:Exit→Act→World→Prop} {cX:Ctx} {aX:Act}
--@env sA sA_ok
def so8z_k:List KI:=(run sA false 225 ((fun (l:List OpD) (G:List GateD) (V J:List U4) (i:Int) (a b c m:Int) (k:U4) (ks:List U4) (vs:List Int)=>(⟨soB_k,.normal,soO l G V J i 8 a b c m k ks vs⟩:Cfg)) default default default default default default default default default default default default) [false,false,false,false,false,false,true,true,true,true,true]).cfg.k
section
variable (l:List OpD) (G:List GateD) (V J:List U4) (i:Int) (a b c m:Int) (k:U4) (ks:List U4) (vs:List Int)
theorem so8z (ho:AllP [(((8:Int)==1)=false),(((8:Int)==3)=false),(((8:Int)==4)=false),(((8:Int)==5)=false),(((8:Int)==6)=false),(((8:Int)==7)=false),(((8:Int)==8)=true),((decide ((G.length:Int)≤(4096:Int)))=true),(((G.length+1)*184)≤140737488355328),((G.length+1)≤maxLen),(G.length=G.length),(1=1),(0≤a),(a<(V.length:Int)),(0=0),((a).toNat<V.length),((ite (true=true) (decide ((V.getD a.toNat 0)=(0:U4))) (Bool.not (decide ((V.getD a.toNat 0)=(0:U4)))))=true),(0≤b),(b<(V.length:Int)),(0=0),((b).toNat<V.length),(0≤c),(c<(V.length:Int)),(0=0),((c).toNat<V.length),(((V.length+1)*32)≤140737488355328),((V.length+1)≤maxLen),(V.length=V.length),(1=1),((decide ((((G.length+1):Nat):Int)≤(4096:Int)))=true),((((G++[(GateD.mk oneU mO 0 0 0 a a (-1))]).length+1)*184)≤140737488355328),(((G++[(GateD.mk oneU mO 0 0 0 a a (-1))]).length+1)≤maxLen),((G.length+1)=(G++[(GateD.mk oneU mO 0 0 0 a a (-1))]).length),(1=1)]):Sg Try.prog (soO l G V J i 8 a b c m k ks vs) (mkSt 105 [0,3,5] [.pt 464 0,.pt 688 0,(.ii (wrap .i64 ((wrap .i64 ((V.length:Int)+1))-1)))] [32,64,432,464,688] [(eQ (.gate ((G++[(GateD.mk oneU mO 0 0 0 a a (-1))])++[(GateD.mk 0 (outF (inF oneU)) (outF (inF mO)) mO (0:U4) b c (wrap .i64 ((wrap .i64 ((V.length:Int)+1))-1)))]))),(eQ (.fr (V++[(outF ((inF (outF ((inF oneU)*(inF (V.getD b.toNat 0)))))+(inF (outF ((inF mO)*(inF (V.getD c.toNat 0)))))))]))),(eF [(.slc 64 0 (V.length+1) 4),.sl (.fr J),(.bool false)]),(eF [(.slc 32 0 ((G++[(GateD.mk oneU mO 0 0 0 a a (-1))]).length+1) 23),(.int .i64 (wrap .i64 ((V.length:Int)+1))),(.ptr 432 0)]),(eF [(.int .i64 (8:Int)),(.int .i64 a),(.int .i64 b),(.int .i64 c),(.int .i64 m),.ob (.fr k),.sl (.fr ks),.sl (.int vs)])] 3872 [[13,14,47,48,49]] [([.pt 464 0,.ii i,(.ci (.sl (.op l))),(.ii (l.length:Int)),.ii i],73)]) .normal (so8z_k) (soB_k):=fun hs hK=>
 run_at2 (unroll:=false) (n:=225) (path:=[false,false,false,false,false,false,true,true,true,true,true]) (o:=⟨_,_,_,_,_,_,_⟩) sA_ok (by kernel_rfl) (by kernel_rfl) ho hs hK
theorem so8o (ho:AllP [(((8:Int)==1)=false),(((8:Int)==3)=false),(((8:Int)==4)=false),(((8:Int)==5)=false),(((8:Int)==6)=false),(((8:Int)==7)=false),(((8:Int)==8)=true),((decide ((G.length:Int)≤(4096:Int)))=true),(((G.length+1)*184)≤140737488355328),((G.length+1)≤maxLen),(G.length=G.length),(1=1),(0≤a),(a<(V.length:Int)),(0=0),((a).toNat<V.length),((ite (true=true) (decide ((V.getD a.toNat 0)=(0:U4))) (Bool.not (decide ((V.getD a.toNat 0)=(0:U4)))))=false),(0≤a),(a<(V.length:Int)),(0=0),((a).toNat<V.length),((Bool.not (ite (true=true) (decide ((V.getD a.toNat 0)=oneU)) (Bool.not (decide ((V.getD a.toNat 0)=oneU)))))=false),(0≤b),(b<(V.length:Int)),(0=0),((b).toNat<V.length),(0≤c),(c<(V.length:Int)),(0=0),((c).toNat<V.length),(((V.length+1)*32)≤140737488355328),((V.length+1)≤maxLen),(V.length=V.length),(1=1),((decide ((((G.length+1):Nat):Int)≤(4096:Int)))=true),((((G++[(GateD.mk oneU mO 0 0 0 a a (-1))]).length+1)*184)≤140737488355328),(((G++[(GateD.mk oneU mO 0 0 0 a a (-1))]).length+1)≤maxLen),((G.length+1)=(G++[(GateD.mk oneU mO 0 0 0 a a (-1))]).length),(1=1)]):Sg Try.prog (soO l G V J i 8 a b c m k ks vs) (mkSt 105 [0,3,5] [.pt 464 0,.pt 688 0,(.ii (wrap .i64 ((wrap .i64 ((V.length:Int)+1))-1)))] [32,64,432,464,688] [(eQ (.gate ((G++[(GateD.mk oneU mO 0 0 0 a a (-1))])++[(GateD.mk 0 (outF (inF oneU)) (outF (inF mO)) mO (0:U4) b c (wrap .i64 ((wrap .i64 ((V.length:Int)+1))-1)))]))),(eQ (.fr (V++[(outF ((inF (outF ((inF oneU)*(inF (V.getD b.toNat 0)))))+(inF (outF ((inF mO)*(inF (V.getD c.toNat 0)))))))]))),(eF [(.slc 64 0 (V.length+1) 4),.sl (.fr J),(.bool false)]),(eF [(.slc 32 0 ((G++[(GateD.mk oneU mO 0 0 0 a a (-1))]).length+1) 23),(.int .i64 (wrap .i64 ((V.length:Int)+1))),(.ptr 432 0)]),(eF [(.int .i64 (8:Int)),(.int .i64 a),(.int .i64 b),(.int .i64 c),(.int .i64 m),.ob (.fr k),.sl (.fr ks),.sl (.int vs)])] 3872 [[13,14,47,48,49]] [([.pt 464 0,.ii i,(.ci (.sl (.op l))),(.ii (l.length:Int)),.ii i],73)]) .normal (so8z_k) (soB_k):=fun hs hK=>
 run_at2 (unroll:=false) (n:=225) (path:=[false,false,false,false,false,false,true,true,true,false,false,true]) (o:=⟨_,_,_,_,_,_,_⟩) sA_ok (by kernel_rfl) (by kernel_rfl) ho hs hK
theorem so8w (ho:AllP [(((8:Int)==1)=false),(((8:Int)==3)=false),(((8:Int)==4)=false),(((8:Int)==5)=false),(((8:Int)==6)=false),(((8:Int)==7)=false),(((8:Int)==8)=true),((decide ((G.length:Int)≤(4096:Int)))=true),(((G.length+1)*184)≤140737488355328),((G.length+1)≤maxLen),(G.length=G.length),(1=1),(0≤a),(a<(V.length:Int)),(0=0),((a).toNat<V.length),((ite (true=true) (decide ((V.getD a.toNat 0)=(0:U4))) (Bool.not (decide ((V.getD a.toNat 0)=(0:U4)))))=false),(0≤a),(a<(V.length:Int)),(0=0),((a).toNat<V.length),((Bool.not (ite (true=true) (decide ((V.getD a.toNat 0)=oneU)) (Bool.not (decide ((V.getD a.toNat 0)=oneU)))))=true),(0≤b),(b<(V.length:Int)),(0=0),((b).toNat<V.length),(0≤c),(c<(V.length:Int)),(0=0),((c).toNat<V.length),(((V.length+1)*32)≤140737488355328),((V.length+1)≤maxLen),(V.length=V.length),(1=1),((decide ((((G.length+1):Nat):Int)≤(4096:Int)))=true),((((G++[(GateD.mk oneU mO 0 0 0 a a (-1))]).length+1)*184)≤140737488355328),(((G++[(GateD.mk oneU mO 0 0 0 a a (-1))]).length+1)≤maxLen),((G.length+1)=(G++[(GateD.mk oneU mO 0 0 0 a a (-1))]).length),(1=1)]):Sg Try.prog (soO l G V J i 8 a b c m k ks vs) (mkSt 105 [0,3,5] [.pt 464 0,.pt 688 0,(.ii (wrap .i64 ((wrap .i64 ((V.length:Int)+1))-1)))] [32,64,432,464,688] [(eQ (.gate ((G++[(GateD.mk oneU mO 0 0 0 a a (-1))])++[(GateD.mk 0 (outF (inF oneU)) (outF (inF mO)) mO (0:U4) b c (wrap .i64 ((wrap .i64 ((V.length:Int)+1))-1)))]))),(eQ (.fr (V++[(outF ((inF (outF ((inF oneU)*(inF (V.getD b.toNat 0)))))+(inF (outF ((inF mO)*(inF (V.getD c.toNat 0)))))))]))),(eF [(.slc 64 0 (V.length+1) 4),.sl (.fr J),(.lit true)]),(eF [(.slc 32 0 ((G++[(GateD.mk oneU mO 0 0 0 a a (-1))]).length+1) 23),(.int .i64 (wrap .i64 ((V.length:Int)+1))),(.ptr 432 0)]),(eF [(.int .i64 (8:Int)),(.int .i64 a),(.int .i64 b),(.int .i64 c),(.int .i64 m),.ob (.fr k),.sl (.fr ks),.sl (.int vs)])] 3984 [[13,14,47,48,49]] [([.pt 464 0,.ii i,(.ci (.sl (.op l))),(.ii (l.length:Int)),.ii i],73)]) .normal (so8z_k) (soB_k):=fun hs hK=>
 run_at2 (unroll:=false) (n:=233) (path:=[false,false,false,false,false,false,true,true,true,false,true,true]) (o:=⟨_,_,_,_,_,_,_⟩) sA_ok (by kernel_rfl) (by kernel_rfl) ho hs hK
def so8S (l:List OpD) (G:List GateD) (V J:List U4) (wr:Bool) (i:Int) (a b c m:Int) (k:U4) (ks:List U4) (vs:List Int) (v:Int):St:=mkSt 105 [0,3,5] [.pt 464 0,.pt 688 0,.v (.c (.int .i64 v))] [32,64,432,464,688] [some (.sq (.gate G)),some (.sq (.fr V)),some (.fl [.slc 64 0 V.length 4,.sl (.fr J),.bool wr]),some (.fl [.slc 32 0 G.length 23,.int .i64 (V.length:Int),.ptr 432 0]),(eF [(.int .i64 (8:Int)),(.int .i64 a),(.int .i64 b),(.int .i64 c),(.int .i64 m),.ob (.fr k),.sl (.fr ks),.sl (.int vs)])] 3872 [[13,14,47,48,49]] [([.pt 464 0,.ii i,(.ci (.sl (.op l))),(.ii (l.length:Int)),.ii i],73)]
end
end
end

section
section
variable {w0:World} {F0:Nat→Prop} {K:Kp} {ac:List Act} {Q:Exit→Act→World→Prop} {cX:Ctx} {aX:Act}

--@env sA sA_ok
def so8C (l:List OpD) (G:List GateD) (V J:List U4) (wr:Bool) (i:Int) (a b c m:Int) (k:U4) (ks:List U4) (vs:List Int) (v:Int) (D R:List Nat):Cfg:=⟨.ops ((anyOps so8z_k).extract 0 7) 6 [] :: .any (anyOps so8z_k) 6 (pickI (anyOps so8z_k) R)::anyRest so8z_k,.normal,drawSt sA (anyOps so8z_k) D (so8S l G V J wr i a b c m k ks vs v)⟩
theorem so8b_at (l:List OpD) (G:List GateD) (V J:List U4) (wr:Bool) (i:Int) (a b c m:Int) (k:U4) (ks:List U4) (vs:List Int) (v:Int):runAt sA false 3000 ((⟨.ops ((anyOps so8z_k).extract 0 7) 6 [] :: .any (anyOps so8z_k) 6 (pickI (anyOps so8z_k) [7,10])::anyRest so8z_k,.normal,drawSt sA (anyOps so8z_k) [0,1,2,3,4,5,8,9] (so8S l G V J wr i a b c m k ks vs v)⟩:Cfg)) [true,true,false] [13,47,48,49] [32,64,432,464] []=some ⟨[((0:Int)≤a),(a<(V.length:Int)),(0=0),((a).toNat<V.length),((0:Int)≤v),(v<(V.length:Int)),(0=0),((v).toNat<V.length),(((V.length+1)*32)≤140737488355328),((V.length+1)≤maxLen),(V.length=V.length),(1=1),((decide ((G.length:Int)≤(4096:Int)))=true),(((G.length+1)*184)≤140737488355328),((G.length+1)≤maxLen),(G.length=G.length),(1=1),((0:Int)≤(wrap IntKind.i64 ((wrap IntKind.i64 ((V.length:Int)+(1:Int)))-(1:Int)))),((wrap IntKind.i64 ((wrap IntKind.i64 ((V.length:Int)+(1:Int)))-(1:Int)))<(((V.length+1):Nat):Int)),(0=0),(((wrap IntKind.i64 ((wrap IntKind.i64 ((V.length:Int)+(1:Int)))-(1:Int)))).toNat<(V++[(outF ((inF (List.getD V (a).toNat (0:U4)))*(inF (List.getD V (v).toNat (0:U4)))))]).length),((0:Int)≤c),(c<(((V.length+1):Nat):Int)),(0=0),((c).toNat<(V++[(outF ((inF (List.getD V (a).toNat (0:U4)))*(inF (List.getD V (v).toNat (0:U4)))))]).length),((((V++[(outF ((inF (List.getD V (a).toNat (0:U4)))*(inF (List.getD V (v).toNat (0:U4)))))]).length+1)*32)≤140737488355328),(((V++[(outF ((inF (List.getD V (a).toNat (0:U4)))*(inF (List.getD V (v).toNat (0:U4)))))]).length+1)≤maxLen),((V.length+1)=(V++[(outF ((inF (List.getD V (a).toNat (0:U4)))*(inF (List.getD V (v).toNat (0:U4)))))]).length),(1=1),((decide ((((G.length+1):Nat):Int)≤(4096:Int)))=true),((((G++[(GateD.mk oneU (0:U4) (0:U4) mO (0:U4) a v (wrap IntKind.i64 ((wrap IntKind.i64 ((V.length:Int)+(1:Int)))-(1:Int))))]).length+1)*184)≤140737488355328),(((G++[(GateD.mk oneU (0:U4) (0:U4) mO (0:U4) a v (wrap IntKind.i64 ((wrap IntKind.i64 ((V.length:Int)+(1:Int)))-(1:Int))))]).length+1)≤maxLen),((G.length+1)=(G++[(GateD.mk oneU (0:U4) (0:U4) mO (0:U4) a v (wrap IntKind.i64 ((wrap IntKind.i64 ((V.length:Int)+(1:Int)))-(1:Int))))]).length),(1=1),(wr=false)],Exit.normal,[(SV.v (V1.c (It.ptr 464 0))),(SV.v (V1.c (It.sl (.op l)))),(SV.v (V1.c (It.int IntKind.i64 (l.length:Int)))),(SV.v (V1.c (It.int IntKind.i64 (wrap IntKind.i64 (i+(1:Int))))))],[(Option.some (En.sq (.gate ((G++[(GateD.mk oneU (0:U4) (0:U4) mO (0:U4) a v (wrap IntKind.i64 ((wrap IntKind.i64 ((V.length:Int)+(1:Int)))-(1:Int))))])++[(GateD.mk (0:U4) (outF (inF oneU)) (outF (inF oneU)) mO (0:U4) (wrap IntKind.i64 ((wrap IntKind.i64 ((V.length:Int)+(1:Int)))-(1:Int))) c (wrap IntKind.i64 ((wrap IntKind.i64 ((wrap IntKind.i64 ((V.length:Int)+(1:Int)))+(1:Int)))-(1:Int))))])))),(Option.some (En.sq (Sq.fr ((V++[(outF ((inF (List.getD V (a).toNat (0:U4)))*(inF (List.getD V (v).toNat (0:U4)))))])++[(outF ((inF (outF ((inF oneU)*(inF (List.getD (V++[(outF ((inF (List.getD V (a).toNat (0:U4)))*(inF (List.getD V (v).toNat (0:U4)))))]) ((wrap IntKind.i64 ((wrap IntKind.i64 ((V.length:Int)+(1:Int)))-(1:Int)))).toNat (0:U4))))))+(inF (outF ((inF oneU)*(inF (List.getD (V++[(outF ((inF (List.getD V (a).toNat (0:U4)))*(inF (List.getD V (v).toNat (0:U4)))))]) (c).toNat (0:U4))))))))])))),(Option.some (En.fl [(It.slc 64 0 ((V++[(outF ((inF (List.getD V (a).toNat (0:U4)))*(inF (List.getD V (v).toNat (0:U4)))))]).length+1) 4),(It.sl (Sq.fr J)),(It.bool wr)])),(Option.some (En.fl [(It.slc 32 0 ((G++[(GateD.mk oneU (0:U4) (0:U4) mO (0:U4) a v (wrap IntKind.i64 ((wrap IntKind.i64 ((V.length:Int)+(1:Int)))-(1:Int))))]).length+1) 23),(It.int IntKind.i64 (wrap IntKind.i64 ((wrap IntKind.i64 ((V.length:Int)+(1:Int)))+(1:Int)))),(It.ptr 432 0)]))],73,7408,[]⟩:=by kernel_rfl
end
end

set_option linter.unusedSimpArgs false
set_option linter.unusedVariables false
section
section
variable {w0:World} {F0:Nat→Prop} {K:Kp} {ac:List Act} {Q:Exit→Act→World→Prop} {cX:Ctx} {aX:Act}

theorem s8k:so8z_k = .code (.region 18 (anyOps so8z_k) true)::anyRest so8z_k:=by kernel_rfl
theorem s8size:(anyOps so8z_k).size=11:=by kernel_rfl
theorem s8anc:ancs (anyOps so8z_k).toList []=anc8:=by kernel_rfl
theorem s8ok:drawOkX sA (anyOps so8z_k) (ancs (anyOps so8z_k).toList []) 6 (anyOps so8z_k).toList 0=true:=by kernel_rfl
theorem s8g:((anyOps so8z_k)[6]?.bind (·.guard)).isNone=true:=by kernel_rfl
theorem s8get:∃oc,(anyOps so8z_k)[6]? = some oc∧oc.guard=none:=by
 have h:6<(anyOps so8z_k).size:=by rw[s8size];decide
 refine ⟨(anyOps so8z_k)[6],Array.getElem?_eq_getElem h,?_⟩
 have g:=s8g
 rw[Array.getElem?_eq_getElem h] at g
 simpa using g
theorem s8run (l:List OpD) (G:List GateD) (V J:List U4) (wr:Bool) (i:Int) (a b c m:Int) (k:U4) (ks:List U4) (vs:List Int) (v:Int):(runs8.map fun r=>(drawRun sA [] (anyOps so8z_k).toList (ancs (anyOps so8z_k).toList []) [] [] (so8S l G V J wr i a b c m k ks vs v).nx (pickI (anyOps so8z_k) r.1) (so8S l G V J wr i a b c m k ks vs v)).map (·.1))=List.replicate 6 (some []):=by kernel_rfl
theorem s8all (l:List OpD) (G:List GateD) (V J:List U4) (wr:Bool) (i:Int) (a b c m:Int) (k:U4) (ks:List U4) (vs:List Int) (v:Int):(runs8.map fun r=>(runAt sA false 3000 (so8C l G V J wr i a b c m k ks vs v r.1 r.2) [true,true,false] [13,47,48,49] [32,64,432,464] [],(run sA false 3000 (so8C l G V J wr i a b c m k ks vs v r.1 r.2) [true,true,false]).cfg.k)) =
  List.replicate 6 (runAt sA false 3000 (so8C l G V J wr i a b c m k ks vs v [0,1,2,3,4,5,8,9] [7,10]) [true,true,false] [13,47,48,49] [32,64,432,464] [],lpBk slD_k):=by kernel_rfl
theorem s8end (l:List OpD) (G:List GateD) (V J:List U4) (wr:Bool) (i:Int) (a b c m:Int) (k:U4) (ks:List U4) (vs:List Int) (v:Int):(runs8.map fun r=>runEnd sA Try.f13 false 3000 (so8C l G V J wr i a b c m k ks vs v r.1 r.2) [true,true,true] [] [])=List.replicate 6 (some ([((0:Int)≤a),(a<(V.length:Int)),(0=0),((a).toNat<V.length),((0:Int)≤v),(v<(V.length:Int)),(0=0),((v).toNat<V.length),(((V.length+1)*32)≤140737488355328),((V.length+1)≤maxLen),(V.length=V.length),(1=1),((decide ((G.length:Int)≤(4096:Int)))=true),(((G.length+1)*184)≤140737488355328),((G.length+1)≤maxLen),(G.length=G.length),(1=1),((0:Int)≤(wrap IntKind.i64 ((wrap IntKind.i64 ((V.length:Int)+(1:Int)))-(1:Int)))),((wrap IntKind.i64 ((wrap IntKind.i64 ((V.length:Int)+(1:Int)))-(1:Int)))<(((V.length+1):Nat):Int)),(0=0),(((wrap IntKind.i64 ((wrap IntKind.i64 ((V.length:Int)+(1:Int)))-(1:Int)))).toNat<(V++[(outF ((inF (List.getD V (a).toNat (0:U4)))*(inF (List.getD V (v).toNat (0:U4)))))]).length),((0:Int)≤c),(c<(((V.length+1):Nat):Int)),(0=0),((c).toNat<(V++[(outF ((inF (List.getD V (a).toNat (0:U4)))*(inF (List.getD V (v).toNat (0:U4)))))]).length),((((V++[(outF ((inF (List.getD V (a).toNat (0:U4)))*(inF (List.getD V (v).toNat (0:U4)))))]).length+1)*32)≤140737488355328),(((V++[(outF ((inF (List.getD V (a).toNat (0:U4)))*(inF (List.getD V (v).toNat (0:U4)))))]).length+1)≤maxLen),((V.length+1)=(V++[(outF ((inF (List.getD V (a).toNat (0:U4)))*(inF (List.getD V (v).toNat (0:U4)))))]).length),(1=1),((decide ((((G.length+1):Nat):Int)≤(4096:Int)))=true),((((G++[(GateD.mk oneU (0:U4) (0:U4) mO (0:U4) a v (wrap IntKind.i64 ((wrap IntKind.i64 ((V.length:Int)+(1:Int)))-(1:Int))))]).length+1)*184)≤140737488355328),(((G++[(GateD.mk oneU (0:U4) (0:U4) mO (0:U4) a v (wrap IntKind.i64 ((wrap IntKind.i64 ((V.length:Int)+(1:Int)))-(1:Int))))]).length+1)≤maxLen),((G.length+1)=(G++[(GateD.mk oneU (0:U4) (0:U4) mO (0:U4) a v (wrap IntKind.i64 ((wrap IntKind.i64 ((V.length:Int)+(1:Int)))-(1:Int))))]).length),(1=1),(wr=true)],errSV i,[])):=by kernel_rfl
theorem s8endR (l:List OpD) (G:List GateD) (V J:List U4) (wr:Bool) (i:Int) (a b c m:Int) (k:U4) (ks:List U4) (vs:List Int) (v:Int) {r:List Nat×List Nat} (hr:r∈runs8):runEnd sA Try.f13 false 3000 (so8C l G V J wr i a b c m k ks vs v r.1 r.2) [true,true,true] [] []=some ([((0:Int)≤a),(a<(((List.length V):Nat):Int)),(0=0),((a).toNat<(List.length V)),((0:Int)≤v),(v<(((List.length V):Nat):Int)),(0=0),((v).toNat<(List.length V)),((((List.length V)+1)*32)≤140737488355328),(((List.length V)+1)≤maxLen),((List.length V)=(List.length V)),(1=1),((decide ((((List.length G):Nat):Int)≤(4096:Int)))=true),((((List.length G)+1)*184)≤140737488355328),(((List.length G)+1)≤maxLen),((List.length G)=(List.length G)),(1=1),((0:Int)≤(wrap IntKind.i64 ((wrap IntKind.i64 ((((List.length V):Nat):Int)+(1:Int)))-(1:Int)))),((wrap IntKind.i64 ((wrap IntKind.i64 ((((List.length V):Nat):Int)+(1:Int)))-(1:Int)))<((((List.length V)+1):Nat):Int)),(0=0),(((wrap IntKind.i64 ((wrap IntKind.i64 ((((List.length V):Nat):Int)+(1:Int)))-(1:Int)))).toNat<(List.length (V++[(outF ((inF (List.getD V (a).toNat (0:U4)))*(inF (List.getD V (v).toNat (0:U4)))))]))),((0:Int)≤c),(c<((((List.length V)+1):Nat):Int)),(0=0),((c).toNat<(List.length (V++[(outF ((inF (List.getD V (a).toNat (0:U4)))*(inF (List.getD V (v).toNat (0:U4)))))]))),((((List.length (V++[(outF ((inF (List.getD V (a).toNat (0:U4)))*(inF (List.getD V (v).toNat (0:U4)))))]))+1)*32)≤140737488355328),(((List.length (V++[(outF ((inF (List.getD V (a).toNat (0:U4)))*(inF (List.getD V (v).toNat (0:U4)))))]))+1)≤maxLen),(((List.length V)+1)=(List.length (V++[(outF ((inF (List.getD V (a).toNat (0:U4)))*(inF (List.getD V (v).toNat (0:U4)))))]))),(1=1),((decide (((((List.length G)+1):Nat):Int)≤(4096:Int)))=true),((((List.length (G++[(GateD.mk oneU (0:U4) (0:U4) mO (0:U4) a v (wrap IntKind.i64 ((wrap IntKind.i64 ((((List.length V):Nat):Int)+(1:Int)))-(1:Int))))]))+1)*184)≤140737488355328),(((List.length (G++[(GateD.mk oneU (0:U4) (0:U4) mO (0:U4) a v (wrap IntKind.i64 ((wrap IntKind.i64 ((((List.length V):Nat):Int)+(1:Int)))-(1:Int))))]))+1)≤maxLen),(((List.length G)+1)=(List.length (G++[(GateD.mk oneU (0:U4) (0:U4) mO (0:U4) a v (wrap IntKind.i64 ((wrap IntKind.i64 ((((List.length V):Nat):Int)+(1:Int)))-(1:Int))))]))),(1=1),(wr=true)],errSV i,[]):=by
 have h1:runEnd sA Try.f13 false 3000 (so8C l G V J wr i a b c m k ks vs v r.1 r.2) [true,true,true] [] []∈List.replicate 6 (some ([((0:Int)≤a),(a<(((List.length V):Nat):Int)),(0=0),((a).toNat<(List.length V)),((0:Int)≤v),(v<(((List.length V):Nat):Int)),(0=0),((v).toNat<(List.length V)),((((List.length V)+1)*32)≤140737488355328),(((List.length V)+1)≤maxLen),((List.length V)=(List.length V)),(1=1),((decide ((((List.length G):Nat):Int)≤(4096:Int)))=true),((((List.length G)+1)*184)≤140737488355328),(((List.length G)+1)≤maxLen),((List.length G)=(List.length G)),(1=1),((0:Int)≤(wrap IntKind.i64 ((wrap IntKind.i64 ((((List.length V):Nat):Int)+(1:Int)))-(1:Int)))),((wrap IntKind.i64 ((wrap IntKind.i64 ((((List.length V):Nat):Int)+(1:Int)))-(1:Int)))<((((List.length V)+1):Nat):Int)),(0=0),(((wrap IntKind.i64 ((wrap IntKind.i64 ((((List.length V):Nat):Int)+(1:Int)))-(1:Int)))).toNat<(List.length (V++[(outF ((inF (List.getD V (a).toNat (0:U4)))*(inF (List.getD V (v).toNat (0:U4)))))]))),((0:Int)≤c),(c<((((List.length V)+1):Nat):Int)),(0=0),((c).toNat<(List.length (V++[(outF ((inF (List.getD V (a).toNat (0:U4)))*(inF (List.getD V (v).toNat (0:U4)))))]))),((((List.length (V++[(outF ((inF (List.getD V (a).toNat (0:U4)))*(inF (List.getD V (v).toNat (0:U4)))))]))+1)*32)≤140737488355328),(((List.length (V++[(outF ((inF (List.getD V (a).toNat (0:U4)))*(inF (List.getD V (v).toNat (0:U4)))))]))+1)≤maxLen),(((List.length V)+1)=(List.length (V++[(outF ((inF (List.getD V (a).toNat (0:U4)))*(inF (List.getD V (v).toNat (0:U4)))))]))),(1=1),((decide (((((List.length G)+1):Nat):Int)≤(4096:Int)))=true),((((List.length (G++[(GateD.mk oneU (0:U4) (0:U4) mO (0:U4) a v (wrap IntKind.i64 ((wrap IntKind.i64 ((((List.length V):Nat):Int)+(1:Int)))-(1:Int))))]))+1)*184)≤140737488355328),(((List.length (G++[(GateD.mk oneU (0:U4) (0:U4) mO (0:U4) a v (wrap IntKind.i64 ((wrap IntKind.i64 ((((List.length V):Nat):Int)+(1:Int)))-(1:Int))))]))+1)≤maxLen),(((List.length G)+1)=(List.length (G++[(GateD.mk oneU (0:U4) (0:U4) mO (0:U4) a v (wrap IntKind.i64 ((wrap IntKind.i64 ((((List.length V):Nat):Int)+(1:Int)))-(1:Int))))]))),(1=1),(wr=true)],errSV i,[])):=by rw[←s8end];exact List.mem_map.2 ⟨r,hr,rfl⟩
 exact List.eq_of_mem_replicate h1
theorem so8bR {r:List Nat×List Nat} (hr:r∈runs8) (l:List OpD) (G:List GateD) (V J:List U4) (wr:Bool) (i:Int) (a b c m:Int) (k:U4) (ks:List U4) (vs:List Int) (v:Int) (ho:AllP [(0≤a),(a<(V.length:Int)),(0=0),((a).toNat<V.length),(0≤v),(v<(V.length:Int)),(0=0),((v).toNat<V.length),(((V.length+1)*32)≤140737488355328),((V.length+1)≤maxLen),(V.length=V.length),(1=1),((decide ((G.length:Int)≤(4096:Int)))=true),(((G.length+1)*184)≤140737488355328),((G.length+1)≤maxLen),(G.length=G.length),(1=1),(0≤(wrap .i64 ((wrap .i64 ((V.length:Int)+1))-1))),((wrap .i64 ((wrap .i64 ((V.length:Int)+1))-1))<(((V.length+1):Nat):Int)),(0=0),(((wrap .i64 ((wrap .i64 ((V.length:Int)+1))-1))).toNat<(V++[(outF ((inF (V.getD a.toNat 0))*(inF (V.getD v.toNat 0))))]).length),(0≤c),(c<(((V.length+1):Nat):Int)),(0=0),((c).toNat<(V++[(outF ((inF (V.getD a.toNat 0))*(inF (V.getD v.toNat 0))))]).length),((((V++[(outF ((inF (V.getD a.toNat 0))*(inF (V.getD v.toNat 0))))]).length+1)*32)≤140737488355328),(((V++[(outF ((inF (V.getD a.toNat 0))*(inF (V.getD v.toNat 0))))]).length+1)≤maxLen),((V.length+1)=(V++[(outF ((inF (V.getD a.toNat 0))*(inF (V.getD v.toNat 0))))]).length),(1=1),((decide ((((G.length+1):Nat):Int)≤(4096:Int)))=true),((((G++[(GateD.mk oneU 0 0 mO 0 a v (wrap .i64 ((wrap .i64 ((V.length:Int)+1))-1)))]).length+1)*184)≤140737488355328),(((G++[(GateD.mk oneU 0 0 mO 0 a v (wrap .i64 ((wrap .i64 ((V.length:Int)+1))-1)))]).length+1)≤maxLen),((G.length+1)=(G++[(GateD.mk oneU 0 0 mO 0 a v (wrap .i64 ((wrap .i64 ((V.length:Int)+1))-1)))]).length),(1=1),(wr=false)]) (hs:Sim w0 F0 K ac (drawSt sA (anyOps so8z_k) r.1 (so8S l G V J wr i a b c m k ks vs v)) cX aX) (hK:∀ac cY aY,Sim w0 F0 K ac (mkSt 73 [13,47,48,49] [.pt 464 0,(.ci (.sl (.op l))),(.ii (l.length:Int)),(.ii (wrap .i64 (i+1)))] [32,64,432,464] [(eQ (.gate ((G++[(GateD.mk oneU 0 0 mO 0 a v (wrap .i64 ((wrap .i64 ((V.length:Int)+1))-1)))])++[(GateD.mk 0 (outF (inF oneU)) (outF (inF oneU)) mO (0:U4) (wrap .i64 ((wrap .i64 ((V.length:Int)+1))-1)) c (wrap .i64 ((wrap .i64 ((wrap .i64 ((V.length:Int)+1))+1))-1)))]))),(eQ (.fr ((V++[(outF ((inF (V.getD a.toNat 0))*(inF (V.getD v.toNat 0))))])++[(outF ((inF (outF ((inF oneU)*(inF (List.getD (V++[(outF ((inF (V.getD a.toNat 0))*(inF (V.getD v.toNat 0))))]) ((wrap .i64 ((wrap .i64 ((V.length:Int)+1))-1))).toNat 0)))))+(inF (outF ((inF oneU)*(inF (List.getD (V++[(outF ((inF (V.getD a.toNat 0))*(inF (V.getD v.toNat 0))))]) (c).toNat 0)))))))]))),(eF [(.slc 64 0 ((V++[(outF ((inF (V.getD a.toNat 0))*(inF (V.getD v.toNat 0))))]).length+1) 4),.sl (.fr J),(.bool wr)]),(eF [(.slc 32 0 ((G++[(GateD.mk oneU 0 0 mO 0 a v (wrap .i64 ((wrap .i64 ((V.length:Int)+1))-1)))]).length+1) 23),(.int .i64 (wrap .i64 ((wrap .i64 ((V.length:Int)+1))+1))),(.ptr 432 0)])] 7408 [] []) cY aY→Wq Try.prog Q (lpBk slD_k) ac Exit.normal aY cY.w):Wq Try.prog Q (.ops ((anyOps so8z_k).extract 0 7) 6 [] :: .any (anyOps so8z_k) 6 (pickI (anyOps so8z_k) r.2)::anyRest so8z_k) ac .normal aX cX.w:=
 run_at (env:=sA) sA_ok (c:=so8C l G V J wr i a b c m k ks vs v r.1 r.2) ((of_runs (C:=fun r=>so8C l G V J wr i a b c m k ks vs v r.1 r.2) (s8all l G V J wr i a b c m k ks vs v) hr).1.trans (so8b_at l G V J wr i a b c m k ks vs v)) (of_runs (C:=fun r=>so8C l G V J wr i a b c m k ks vs v r.1 r.2) (s8all l G V J wr i a b c m k ks vs v) hr).2 ho hs hK

section
variable {l:List OpD} {G:List GateD} {W:List Fr} {J:List U4} {x:Fr} {i a b c m:Int} {k:U4} {ks:List U4} {vs:List Int} {w0:World} {F0:Nat→Prop} {K:Kp} {ac:List Act} {Q:Exit→Act→World→Prop} {cX:Ctx} {aX:Act}

theorem boolW {nt nx:Nat} {tl:List Nat} {svs:List SV} {A B C D:Option En} {p q:It} {ftl:List (List Nat)} {fsv:List (List SV×Nat)} (hs:Sim w0 F0 K ac (mkSt nt tl svs [32,64,432,464,688] [A,B,some (.fl [p,q,.lit true]),D,C] nx ftl fsv) cX aX):Sim w0 F0 K ac (mkSt nt tl svs [32,64,432,464,688] [A,B,some (.fl [p,q,.bool true]),D,C] nx ftl fsv) cX aX:=
 hs.reBlk (z:=432) (l' := [p,q,.bool true]) rfl ⟨.inl rfl,.inl rfl,.inr ⟨true,rfl,rfl⟩,trivial⟩ fun r=>by
  simp only[look]
  by_cases h1:r=32
  ·subst h1;rfl
  by_cases h2:r=64
  ·subst h2;rfl
  by_cases h3:r=432
  ·subst h3;rfl
  by_cases h4:r=464
  ·subst h4;rfl
  by_cases h5:r=688
  ·subst h5;rfl
  simp only[h1,h2,h3,h4,h5,if_false]
/-- Behind the first sum. -/
theorem so8c {wr:Bool} {y d:Fr} (h1:W.length≤600000) (h2:G.length+2≤4096) (h3:0≤i) (h4:i≤1000) (va:vF (W++[d]) a=y) (ia:0≤a∧a<(W.length:Int)) (ic:0≤c∧c<(W.length:Int)) (hs:Sim w0 F0 K ac (so8S l G ((W++[d]).map outF) J wr i a b c m k ks vs (W.length:Int)) cX aX) (hE:wr=true→∀(cfg:List KI) (σ:St) (path:List Bool) (ob:List Prop),runEnd sA Try.f13 false 3000 ⟨cfg,.normal,σ⟩ path [] []=some (ob,errSV i,[])→AllP ob→∀ac cY aY,Sim w0 F0 K ac σ cY aY→Wq Try.prog Q cfg ac .normal aY cY.w)
  (hK:wr=false→∀ac cY aY,Sim w0 F0 K ac (soS l ((G++[prodG a (W.length:Int) ((W.length:Int)+1)])++[sumG oneU ((W.length:Int)+1) oneU c ((W.length:Int)+2)]) ((((W++[d])++[y*d])++[y*d+vF W c]).map outF) J (i+1)) cY aY→Wq Try.prog Q (lpBk slD_k) ac .normal aY cY.w):Wq Try.prog Q so8z_k ac .normal aX cX.w:=by
 have wi:wrap IntKind.i64 (i+1)=i+1:=wrap_id (by omega) (by omega)
 have lW:(W++[d]).length=W.length+1:=by rw[List.length_append];rfl
 have w1:wrap IntKind.i64 (((W.length+1:Nat):Int)+1)=(W.length:Int)+2:=by rw[wrap_id (by omega) (by omega)];omega
 have w2:wrap IntKind.i64 ((W.length:Int)+2-1)=(W.length:Int)+1:=by rw[wrap_id (by omega) (by omega)];omega
 have w3:wrap IntKind.i64 ((W.length:Int)+2+1)=(W.length:Int)+3:=by rw[wrap_id (by omega) (by omega)];omega
 have w4:wrap IntKind.i64 ((W.length:Int)+3-1)=(W.length:Int)+2:=by rw[wrap_id (by omega) (by omega)];omega
 have vd:vF (W++[d]) (W.length:Int)=d:=vF_new W d
 have vn:vF ((W++[d])++[y*d]) ((W.length:Int)+1)=y*d:=by
  have:=vF_new1 W d (y*d)
  rwa [show ((W.length+1:Nat):Int)=(W.length:Int)+1 from by omega] at this
 have vc:vF ((W++[d])++[y*d]) c=vF W c:=(vF_app (by rw[lW];omega)).trans (vF_app ic)
 obtain ⟨oc,ho1,ho2⟩:=s8get
 rw[s8k]
 refine split8 (ops:=anyOps so8z_k) (σ:=so8S l G ((W++[d]).map outF) J wr i a b c m k ks vs (W.length:Int)) (id:=18) (k:=anyRest so8z_k) sA_ok hs s8size s8anc s8ok ho1 ho2 (s8run l G ((W++[d]).map outF) J wr i a b c m k ks vs (W.length:Int)) ?_
 intro r hr y' a' hs'
 cases wr with
 | true=>exact hE rfl _ _ _ _ (s8endR l G ((W++[d]).map outF) J true i a b c m k ks vs (W.length:Int) hr) (by simp only[AllP,maxLen,decide_eq_true_eq,decide_eq_false_iff_not,List.length_append,List.length_cons,List.length_nil,List.length_map,beq_iff_eq,bne_iff_ne,bne_eq_false_iff_eq,beq_eq_false_iff_ne,Int.toNat_natCast,getV,eq_self_iff_true,if_true,outF_is1,outF_zero,outF_same,Bool.not_eq_true',Bool.not_eq_false',Nat.zero_add,w1,w2,w3,w4];and_intros<;>first | rfl | exact True.intro | omega | assumption) _ _ _ hs'
 | false=>
  refine so8bR hr l G ((W++[d]).map outF) J false i a b c m k ks vs (W.length:Int) (by simp only[AllP,maxLen,decide_eq_true_eq,decide_eq_false_iff_not,List.length_append,List.length_cons,List.length_nil,List.length_map,beq_iff_eq,bne_iff_ne,bne_eq_false_iff_eq,beq_eq_false_iff_ne,Int.toNat_natCast,getV,eq_self_iff_true,if_true,outF_is1,outF_zero,outF_same,Bool.not_eq_true',Bool.not_eq_false',Nat.zero_add,w1,w2,w3,w4];and_intros<;>first | rfl | exact True.intro | omega | assumption) hs' fun ac cU aU hs2=>hK rfl _ _ _ ?_
  refine toS hs2 ?_ ?_ rfl ?_ ?_ ?_ wi
  ·rw[List.length_map,lW,w1,w2,w3,w4];rfl
  ·simp only[List.length_map,lW,w1,w2,getW,mapA,va,vd,vn,vc,in_out,oneU_in,one_mul_g]
  ·simp only[List.length_append,List.length_cons,List.length_nil]
  ·simp only[List.length_append,List.length_cons,List.length_nil,List.length_map]
  ·simp only[List.length_append,List.length_cons,List.length_nil,List.length_map,Nat.zero_add,w1,w3];omega
theorem slT8 (h1:W.length≤600000) (h2:G.length+(gatesOf (W.length:Int) 8 a b c m k ks vs).length≤4096) (h3:0≤i) (h4:i≤1000) (ia:0≤a∧a<(W.length:Int)) (ib:0≤b∧b<(W.length:Int)) (ic:0≤c∧c<(W.length:Int)) (hs:Sim w0 F0 K ac (soO l G (W.map outF) J i 8 a b c m k ks vs) cX aX) (hE:wrongOf W 8 a b m=true→∀(cfg:List KI) (σ:St) (path:List Bool) (ob:List Prop),runEnd sA Try.f13 false 3000 ⟨cfg,.normal,σ⟩ path [] []=some (ob,errSV i,[])→AllP ob→∀ac cY aY,Sim w0 F0 K ac σ cY aY→Wq Try.prog Q cfg ac .normal aY cY.w) 
  (hK:wrongOf W 8 a b m=false→∀ac cY aY,Sim w0 F0 K ac (soS l (G++gatesOf (W.length:Int) 8 a b c m k ks vs) ((W++valsOf W x 8 a b c m k ks vs).map outF) J (i+1)) cY aY→Wq Try.prog Q (lpBk slD_k) ac .normal aY cY.w):Wq Try.prog Q soB_k ac .normal aX cX.w:=by
 have w1:wrap IntKind.i64 ((W.length:Int)+1)=(W.length:Int)+1:=wrap_id (by omega) (by omega)
 have w2:wrap IntKind.i64 ((W.length:Int)+1-1)=(W.length:Int):=by rw[wrap_id (by omega) (by omega)];omega
 have wi:wrap IntKind.i64 (i+1)=i+1:=wrap_id (by omega) (by omega)
 have eg:gatesOf (W.length:Int) 8 a b c m k ks vs=[boolG a,sumG oneU b mO c (W.length:Int),prodG a (W.length:Int) ((W.length:Int)+1),sumG oneU ((W.length:Int)+1) oneU c ((W.length:Int)+2)]:=rfl
 rw[eg] at h2 hK
 have h2:G.length+4≤4096:=h2
 rw[show valsOf W x 8 a b c m k ks vs=[vF W b-vF W c,vF W a*(vF W b-vF W c),vF W a*(vF W b-vF W c)+vF W c] from rfl,show wrongOf W 8 a b m=notBit (vF W a) from rfl] at hK
 have h01:¬(1:Fr)=0:=by decide +kernel
 have go:∀wr,wr=notBit (vF W a)→∀ac cY aY,Sim w0 F0 K ac (so8S l ((G++[boolG a])++[sumG oneU b mO c (W.length:Int)]) ((W++[vF W b-vF W c]).map outF) J wr i a b c m k ks vs (W.length:Int)) cY aY→Wq Try.prog Q so8z_k ac .normal aY cY.w:=fun wr hw ac cY aY hs3=>
  so8c h1 (by simp only[List.length_append,List.length_cons,List.length_nil];omega) h3 h4 (vF_app ia) ia ic hs3 (fun hf=>hE (hw.symm.trans hf)) fun hf ac cU aU hs4=>hK (hw.symm.trans hf) _ _ _ (by
   simp only[List.append_assoc,List.cons_append,List.nil_append] at hs4
   exact hs4)
 by_cases c0:vF W a=0
 ·refine so8z l G (W.map outF) J i a b c m k ks vs (by simp only[AllP,maxLen,decide_eq_true_eq,decide_eq_false_iff_not,List.length_append,List.length_cons,List.length_nil,List.length_map,beq_iff_eq,bne_iff_ne,bne_eq_false_iff_eq,beq_eq_false_iff_ne,Int.toNat_natCast,getV,eq_self_iff_true,if_true,outF_is1,outF_zero,outF_same,Bool.not_eq_true',Bool.not_eq_false',Nat.zero_add,w1,w2];and_intros<;>first | rfl | exact True.intro | omega | assumption) hs fun ac cU aU hs2=>go false (by unfold notBit;rw[decide_eq_true c0,Bool.or_true];rfl) _ _ _ ?_
  refine Sim.cg hs2 (by rw[List.length_map,w1,w2]) (ensE ?_ ?_ ?_ ?_ ?_ rfl)
  ·rw[List.length_map,w1,w2];rfl
  ·rw[getW,getW,in_out,in_out,oneU_in,mO_in,one_mul_g,mapA,one_mul_add _ _ mF rfl]
  ·simp only[List.length_append,List.length_cons,List.length_nil]
  ·simp only[List.length_append,List.length_cons,List.length_nil,List.length_map]
  ·rw[List.length_map,List.length_map,w1,List.length_append];rfl

 by_cases c1:vF W a=1
 ·refine so8o l G (W.map outF) J i a b c m k ks vs (by simp only[AllP,maxLen,decide_eq_true_eq,decide_eq_false_iff_not,List.length_append,List.length_cons,List.length_nil,List.length_map,beq_iff_eq,bne_iff_ne,bne_eq_false_iff_eq,beq_eq_false_iff_ne,Int.toNat_natCast,getV,eq_self_iff_true,if_true,outF_is1,outF_zero,outF_same,Bool.not_eq_true',Bool.not_eq_false',Nat.zero_add,w1,w2];and_intros<;>first | rfl | exact True.intro | omega | assumption) hs fun ac cU aU hs2=>go false (by unfold notBit;rw[decide_eq_true c1];rfl) _ _ _ ?_
  refine Sim.cg hs2 (by rw[List.length_map,w1,w2]) (ensE ?_ ?_ ?_ ?_ ?_ rfl)
  ·rw[List.length_map,w1,w2];rfl
  ·rw[getW,getW,in_out,in_out,oneU_in,mO_in,one_mul_g,mapA,one_mul_add _ _ mF rfl]
  ·simp only[List.length_append,List.length_cons,List.length_nil]
  ·simp only[List.length_append,List.length_cons,List.length_nil,List.length_map]
  ·rw[List.length_map,List.length_map,w1,List.length_append];rfl

 ·refine so8w l G (W.map outF) J i a b c m k ks vs (by simp only[AllP,maxLen,decide_eq_true_eq,decide_eq_false_iff_not,List.length_append,List.length_cons,List.length_nil,List.length_map,beq_iff_eq,bne_iff_ne,bne_eq_false_iff_eq,beq_eq_false_iff_ne,Int.toNat_natCast,getV,eq_self_iff_true,if_true,outF_is1,outF_zero,outF_same,Bool.not_eq_true',Bool.not_eq_false',Nat.zero_add,w1,w2];and_intros<;>first | rfl | exact True.intro | omega | assumption) hs fun ac cU aU hs2=>go true (by unfold notBit;rw[decide_eq_false c1,decide_eq_false c0];rfl) _ _ _ ?_
  refine Sim.cg (boolW hs2) (by rw[List.length_map,w1,w2]) (ensE ?_ ?_ ?_ ?_ ?_ rfl)
  ·rw[List.length_map,w1,w2];rfl
  ·rw[getW,getW,in_out,in_out,oneU_in,mO_in,one_mul_g,mapA,one_mul_add _ _ mF rfl]
  ·simp only[List.length_append,List.length_cons,List.length_nil]
  ·simp only[List.length_append,List.length_cons,List.length_nil,List.length_map]
  ·rw[List.length_map,List.length_map,w1,List.length_append];rfl

end
end
end

set_option linter.unusedSimpArgs false
set_option linter.unusedVariables false
section

theorem nil_tf {x:Ctx} {L:List V1} {v:Value} (h:denS x (.t (.c (.val (.slice none 0 0))::L)) v):denS x (.t (.c (.sl (.fr []))::L)) v:=by
 obtain ⟨vs,rfl,h⟩:=h
 cases h with
 | cons h1 h2=>exact ⟨_,rfl,.cons (nil_sl h1) h2⟩
theorem nIn_drop (l:List OpD) {i:Nat} (h:i<l.length):nIn (l.drop i)=(if (l.getD i op0).tag=1 then 1 else 0)+nIn (l.drop (i+1)):=by
 rw[drop_getO l h];rfl

theorem solve_fnd (l:List OpD) (I:List U4):FnD Try.prog 13 [.v (.c (.sl (.op l))),.v (.c (.sl (.fr I)))] (solSV (solR l I)) []:=by
 by_cases he:(compR l).2.1=0
 case neg=>
  rw[show solR l I=([],(compR l).2.1,(compR l).2.2) from if_pos he]
  exact (fn_sound sA_ok Try.func13 (slE l I) ⟨bne_iff_ne.2 he,trivial⟩).conv (fun _ _ h=>h) fun y v hd=>nil_tf hd
 obtain ⟨hl,hok,hG,hT,_⟩:=comp_ok he
 have e0:solR l I=if nIn l≠I.length then ([],3,0) else solE (solL l (b0 I) 0):=if_neg (not_not_intro he)
 have hnl:=nIn_le l
 refine fn_start (fn:=Try.f13) (c:=bodyOf Try.f13) Try.func13 rfl rfl fun x0 a0 hk hF hs0=>?_
 refine slA l I ⟨bne_eq_false_iff_eq.2 he,trivial⟩ hs0 fun ac cY aY hs1=>?_
 refine loop_rule (ι:={ s:Nat×Nat // s.1≤l.length∧s.2≤s.1∧s.2+nIn (l.drop s.1)=nIn l }) (fun s=>slS l I (s.1.2:Int) (s.1.1:Int)) (fun s=>l.length-s.1.1) (c:=lpC slA_k) (k:=lpR slA_k) (by kernel_rfl) (fun s ih ac cY aY hs=>?_) ⟨(0,0),Nat.zero_le _,Nat.zero_le _,Nat.zero_add _⟩ (hs1.nx _)
 obtain ⟨⟨i,n⟩,hi,hn,hc⟩:=s
 simp only at ih hs hi hn hc
 by_cases h:i<l.length
 ·have wi:wrap IntKind.i64 ((i:Int)+1)=((i+1:Nat):Int):=by rw[wrap_id (by omega) (by omega)];omega
  have wn:wrap IntKind.i64 ((n:Int)+1)=((n+1:Nat):Int):=by rw[wrap_id (by omega) (by omega)];omega
  have hd:=nIn_drop l h
  by_cases ht:(l.getD i op0).tag=1
  ·rw[if_pos ht] at hd
   refine slB l I n i ⟨decide_eq_true (by omega),by omega,by omega,by rw[Int.toNat_natCast];exact beq_iff_eq.2 ht,trivial⟩ hs fun ac cU aU hs2=>?_
   rw[wi,wn] at hs2
   exact ih ⟨(i+1,n+1),h,by show n+1≤i+1;omega,by show n+1+nIn (l.drop (i+1))=nIn l;omega⟩ (by show l.length-(i+1)<l.length-i;omega) ac cU aU (hs2.nx _)
  ·rw[if_neg ht] at hd
   refine slC l I n i ⟨decide_eq_true (by omega),by omega,by omega,by rw[Int.toNat_natCast];exact beq_eq_false_iff_ne.2 ht,trivial⟩ hs fun ac cU aU hs2=>?_
   rw[wi] at hs2
   exact ih ⟨(i+1,n),h,by show n≤i+1;omega,by show n+nIn (l.drop (i+1))=nIn l;omega⟩ (by show l.length-(i+1)<l.length-i;omega) ac cU aU (hs2.nx _)
 have en:n=nIn l:=by rw[List.drop_eq_nil_of_le (by omega)] at hc;exact hc
 subst en
 by_cases hI:nIn l≠I.length
 ·rw[e0,if_pos hI]
  exact run_end2 sA_ok hk hF (slL_end l I _ i) ⟨decide_eq_false (by omega),bne_iff_ne.2 (by omega),trivial⟩ (fun y v hd=>nil_tf hd) hs
 rw[e0,if_neg hI]
 have hI:nIn l=I.length:=Decidable.not_not.1 hI
 refine slD l I _ i ⟨decide_eq_false (by omega),bne_eq_false_iff_eq.2 (by omega),trivial⟩ hs fun ac cY aY hs2=>?_
 clear ih hs hs0 hs1
 have hs3:=hs2.nilBlk (p:=32) (z:=464) (l' := [.slc 32 0 0 23,.int .i64 0,.ptr 432 0]) (ml' := [32,432,464]) (ens' := [some (.sq (.gate [])),some (.fl [.val (.slice none 0 0),.sl (.fr I),.lit false]),some (.fl [.slc 32 0 0 23,.int .i64 0,.ptr 432 0])]) (q:=.gate []) rfl (by decide) rfl rfl
  ⟨.inr (.inl ⟨23,rfl,rfl⟩),.inl rfl,.inl rfl,trivial⟩
  (fun r=>by
   simp only[look]
   by_cases h1:r=32
   ·subst h1;rfl
   by_cases h2:r=432
   ·subst h2;rfl
   by_cases h3:r=464
   ·subst h3;rfl
   simp only[h1,h2,h3,if_false])
 have hs4:=hs3.nilBlk (p:=64) (z:=432) (l' := [.slc 64 0 0 4,.sl (.fr I),.bool false]) (ml' := [32,64,432,464]) (ens' := [some (.sq (.gate [])),some (.sq (.fr [])),some (.fl [.slc 64 0 0 4,.sl (.fr I),.bool false]),some (.fl [.slc 32 0 0 23,.int .i64 0,.ptr 432 0])]) (q:=.fr []) rfl (by decide) rfl rfl
  ⟨.inr (.inl ⟨4,rfl,rfl⟩),.inl rfl,.inr (.inr ⟨false,rfl,rfl⟩),trivial⟩
  (fun r=>by
   simp only[look]
   by_cases h1:r=32
   ·subst h1;rfl
   by_cases h4:r=64
   ·subst h4;rfl
   by_cases h2:r=432
   ·subst h2;rfl
   by_cases h3:r=464
   ·subst h3;rfl
   simp only[h1,h2,h3,h4,if_false])
 have hs5:Sim x0.w x0.F kAll ac (soS l [] (([]:List Fr).map outF) I ((0:Nat):Int)) (nilCtx (nilCtx cY 32) 64) aY:=hs4
 clear hs2 hs3 hs4
 change Wq Try.prog _ _ _ _ _ (nilCtx (nilCtx cY 32) 64).w
 obtain ⟨hokI,hlike⟩:=alike_all l (b0 []) (b0 I) ⟨rfl,rfl⟩ hok
 have hGI:(finL l (b0 I)).g.length≤4096:=by rw[←hlike.1];omega
 obtain ⟨R,hR⟩:∃R,R=solL l (b0 I) 0:=⟨_,rfl⟩
 rw[←hR]
 refine loop_rule (ι:={ s:Nat×BD // s.1≤l.length∧(s.2.w.length:Int)≤508*(s.1:Int)∧okL (l.drop s.1) s.2∧(finL (l.drop s.1) s.2).g.length≤4096∧s.2.j.length=nIn (l.drop s.1)∧s.2.wr=false∧R=solL (l.drop s.1) s.2 (s.1:Int) })
  (fun s=>soS l s.1.2.g (s.1.2.w.map outF) s.1.2.j (s.1.1:Int)) (fun s=>l.length-s.1.1) (c:=lpC slD_k) (k:=lpR slD_k) (by kernel_rfl) (fun s ih ac cY aY hs=>?_) ⟨(0,b0 I),Nat.zero_le _,Int.le_refl _,hokI,hGI,hI.symm,rfl,hR⟩ hs5
 obtain ⟨⟨i,⟨G,W,J,wr⟩⟩,hi,hW,hk2,hg,hj,hw,hr⟩:=s
 simp only at ih hs hi hW hk2 hg hj hw hr
 subst hw
 by_cases h:i<l.length
 ·obtain ⟨o,ho⟩:∃o,o=l.getD i op0:=⟨_,rfl⟩
  have hjd:=nIn_drop l h
  rw[drop_getO l h,←ho] at hr hk2 hg
  rw[←ho] at hjd
  rw[hjd] at hj
  obtain ⟨hc,hk3⟩:=hk2
  have hc:chkO o (W.length:Int)=0:=hc
  have hg1:=finL_g (l.drop (i+1)) (opB ⟨G,W,J,false⟩ o)
  rw[finL_cons] at hg
  have hg2:(opB ⟨G,W,J,false⟩ o).g.length=G.length+(gatesO (W.length:Int) o).length:=List.length_append
  have hvl:=nv_vals W (inX J) hc
  have hnv:=nv_bound hc
  refine soB l G (W.map outF) J i ⟨decide_eq_true (by omega),by omega,by omega,trivial⟩ hs fun ac cU aU hs2=>?_
  rw[Int.toNat_natCast,←ho] at hs2
  have lw:((opB ⟨G,W,J,false⟩ o).w.length:Int)≤508*((i+1:Nat):Int):=by
   show ((W++valsOf W (inX J) o.tag o.a o.b o.c o.n o.k o.ks o.vars).length:Int)≤_
   rw[List.length_append]
   omega
  have lj:(opB ⟨G,W,J,false⟩ o).j.length=nIn (l.drop (i+1)):=by
   show (if o.tag=1 then nextJ J else J).length=_
   by_cases ht:o.tag=1
   ·rw[if_pos ht] at hj ⊢
    have e:nextJ J=(J.drop 1).take (J.length-1):=if_pos (by omega)
    rw[e,List.length_take,List.length_drop]
    omega
   ·rw[if_neg ht] at hj ⊢
    omega
  obtain ⟨t,a,b,c,m,k,ks,vs⟩:=o
  have hs3:Sim x0.w x0.F kAll ac (soO l G (W.map outF) J i t a b c m k ks vs) cU aU:=hs2.nx _
  have hc' : checkE t a b c m k ks vs (W.length:Int)=0:=hc
  have bG:G.length+(gatesOf (W.length:Int) t a b c m k ks vs).length≤4096:=by
   have:(gatesO (W.length:Int) ⟨t,a,b,c,m,k,ks,vs⟩).length=(gatesOf (W.length:Int) t a b c m k ks vs).length:=rfl
   omega
  have bG1:G.length≤4096:=by omega
  have bW:W.length≤600000:=by omega
  have bi:(0:Int)≤(i:Int):=by omega
  have bi2:(i:Int)≤1000:=by omega
  have wrg:(opB ⟨G,W,J,false⟩ ⟨t,a,b,c,m,k,ks,vs⟩).wr=wrongOf W t a b m:=Bool.false_or _
  -- not met
  have hE:wrongOf W t a b m=true→∀(cfg:List KI) (σ:St) (path:List Bool) (ob:List Prop),runEnd sA Try.f13 false 3000 ⟨cfg,.normal,σ⟩ path [] []=some (ob,errSV i,[])→AllP ob→∀ac cY aY,Sim x0.w x0.F kAll ac σ cY aY→Wq Try.prog (Post Try.prog Try.f13 x0 (solSV (solE R)) []) cfg ac .normal aY cY.w:=fun hq cfg σ path ob hrun hob ac cY aY hs4=>by
   have e:R = .inr (i:Int):=hr.trans (if_pos (wrg.trans hq))
   rw[e]
   exact run_end2 sA_ok hk hF hrun hob (fun y v hd=>nil_tf hd) hs4
  -- met
  have fin:wrongOf W t a b m=false→∀ac cY aY,Sim x0.w x0.F kAll ac (soS l (G++gatesOf (W.length:Int) t a b c m k ks vs) ((W++valsOf W (inX J) t a b c m k ks vs).map outF) (if t=1 then nextJ J else J) ((i:Int)+1)) cY aY→Wq Try.prog (Post Try.prog Try.f13 x0 (solSV (solE R)) []) (lpBk slD_k) ac .normal aY cY.w:=fun hq ac cY aY hs4=>by
   have e:R=solL (l.drop (i+1)) (opB ⟨G,W,J,false⟩ ⟨t,a,b,c,m,k,ks,vs⟩) ((i:Int)+1):=hr.trans (if_neg (by rw[wrg,hq];exact Bool.false_ne_true))
   exact ih ⟨(i+1,opB ⟨G,W,J,false⟩ ⟨t,a,b,c,m,k,ks,vs⟩),h,lw,hk3,hg,lj,wrg.trans hq,e⟩ (by show l.length-(i+1)<l.length-i;omega) ac cY aY hs4
  by_cases g1:t=1
  ·subst g1
   have hj1:0<J.length:=by
    have:(if (1:Int)=1 then 1 else 0)=1:=rfl
    rw[show (⟨1,a,b,c,m,k,ks,vs⟩:OpD).tag=1 from rfl,if_pos rfl] at hj
    omega
   exact slT1 bW bG1 bi bi2 hj1 hs3 (fin rfl)
  rw[if_neg g1] at fin
  by_cases g2:t=2
  ·subst g2;exact slT2 bW bG1 bi bi2 hs3 (fin rfl)
  by_cases g3:t=3
  ·subst g3;exact slT3 bW (Nat.le_trans (Nat.le_add_right _ _) bG) bi bi2 hs3 (fin rfl)
  by_cases g4:t=4
  ·subst g4;exact slT4 bW bG1 bi bi2 (chk_a hc' (by simp)) (chk_b hc' (by simp)) hs3 (fin rfl)
  by_cases g5:t=5
  ·subst g5;exact slT5 bW bG1 bi bi2 (chk_a hc' (by simp)) (chk_b hc' (by simp)) hs3 (fin rfl)
  by_cases g6:t=6
  ·subst g6
   obtain ⟨q1,q2,q3⟩:=chk_lin hc'
   exact slT6 bW bG bi bi2 q1 q2 q3 (chk_vs hc') hs3 (fin rfl)
  by_cases g7:t=7
  ·subst g7
   exact slT7 (x:=inX J) bW bG1 bi bi2 (chk_a hc' (by simp)) hs3 hE fin
  by_cases g8:t=8
  ·subst g8;exact slT8 bW bG bi bi2 (chk_a hc' (by simp)) (chk_b hc' (by simp)) (chk_c hc') hs3 hE fin
  by_cases g9:t=9
  ·subst g9;exact slT9 bW bG bi bi2 (chk_a hc' (by simp)) hs3 (fin rfl)
  by_cases g10:t=10
  ·subst g10
   obtain ⟨q1,q2⟩:=chk_bits hc'
   exact slT10 (N:=m.toNat) bW bG bi bi2 (by omega) (by omega) (by omega) (chk_a hc' (by simp)) hs3 hE fin
  by_cases g11:t=11
  ·subst g11;exact slT11 (x:=inX J) bW bG1 bi bi2 (chk_a hc' (by simp)) (chk_b hc' (by simp)) hs3 hE fin
  ·exfalso
   have:checkE t a b c m k ks vs (W.length:Int)=61:=by simp [checkE, *]
   rw[this] at hc'
   cases hc'
 ·have e:R = .inl ⟨G,W,J,false⟩:=by rw[hr,List.drop_eq_nil_of_le (by omega)];rfl
  rw[e]
  exact run_end2 sA_ok hk hF (soX_end l G (W.map outF) J i) ⟨decide_eq_false (by omega),rfl,trivial⟩ (fun y v hd=>hd) hs
end

section
section
variable {w0:World} {F0:Nat→Prop} {K:Kp} {ac:List Act} {Q:Exit→Act→World→Prop} {cX:Ctx} {aX:Act}

def allSpec:FnSpec
 | [.v (.c (.sl (.op l))),.v (.c (.sl (.fr I)))]=>some ([],refSV (refA l I),[.fl [.slc 1 0 (refA l I).1.g.length 23,.slc 2 0 ((refA l I).1.w.map outF).length 4,.sl (.fr (refA l I).1.j),.bool (refA l I).1.wr],.sq (.gate (refA l I).1.g),.sq (.fr ((refA l I).1.w.map outF))])
 | _=>none
def rS1:Env:=rG.set (addT rG.fn 26 allSpec)
theorem rS1_ok:EnvOk Try.prog rS1:=env_add rG_ok 26 allSpec (enters_of Try.func26 rfl rfl) fun args o r es h _=>by
 unfold allSpec at h
 split at h
 ·cases h;exact all_fnd _ _
 ·cases h
--@env rS1 rS1_ok
theorem srE (l:List OpD) (I:List U4):fnRes rS1 Try.f19 3000 [.v (.c (.sl (.op l))),.v (.c (.sl (.fr I)))] [true] [] []=(some ([(((Prod.fst (Prod.snd (compR l))) != (0:Int))=true)],((.t [(.c (.val (Value.slice Option.none 0 0))),(.c (.int .i64 (Prod.fst (Prod.snd (compR l))))),(.c (.int .i64 (Prod.snd (Prod.snd (compR l)))))]),[]))):=by kernel_rfl
def srA_k:List KI:=(run rS1 false 3000 ((fun (l:List OpD) (I:List U4)=>(⟨[.code (bodyOf Try.f19)],.normal,initSt Try.f19.ntmps [.v (.c (.sl (.op l))),.v (.c (.sl (.fr I)))]⟩:Cfg)) default default) [false]).cfg.k
theorem srA (l:List OpD) (I:List U4) (ho:AllP [(((Prod.fst (Prod.snd (compR l))) != (0:Int))=false)]):Sg Try.prog (initSt Try.f19.ntmps [.v (.c (.sl (.op l))),.v (.c (.sl (.fr I)))]) (mkSt 58 [0,1,10,27,28,29] [(.ci (.sl (.op l))),(.ci (.sl (.fr I))),.ii (0:Int),(.ci (.sl (.op l))),(.ii (l.length:Int)),.ii (0:Int)] [] [] 320 [] []) .normal (srA_k) ([.code (bodyOf Try.f19)]):=fun hs hK=>
 run_at2 (unroll:=false) (n:=3000) (path:=[false]) (o:=⟨_,_,_,_,_,_,_⟩) rS1_ok (by kernel_rfl) (by kernel_rfl) ho hs hK
def srS (l:List OpD) (I:List U4) (n i:Int):St:=mkSt 58 [0,1,10,27,28,29] [(.ci (.sl (.op l))),(.ci (.sl (.fr I))),.v (.c (.int .i64 n)),(.ci (.sl (.op l))),(.ii (l.length:Int)),.v (.c (.int .i64 i))] [] [] 320 [] []
section
variable (l:List OpD) (I:List U4) (n i:Int)
theorem srB (ho:AllP [((decide (i<(l.length:Int)))=true),(0≤i),(i<(l.length:Int)),(((OpD.tag (List.getD l (i).toNat op0)) == (1:Int))=true)]):Sg Try.prog (srS l I n i) (mkSt 58 [0,1,10,27,28,29] [(.ci (.sl (.op l))),(.ci (.sl (.fr I))),(.ii (wrap .i64 (n+1))),(.ci (.sl (.op l))),(.ii (l.length:Int)),(.ii (wrap .i64 (i+1)))] [] [] 528 [] []) .normal (lpBk srA_k) (lpIn srA_k):=fun hs hK=>
 run_at2 (unroll:=false) (n:=3000) (path:=[true,true]) (o:=⟨_,_,_,_,_,_,_⟩) rS1_ok (by kernel_rfl) (by kernel_rfl) ho hs hK
theorem srC (ho:AllP [((decide (i<(l.length:Int)))=true),(0≤i),(i<(l.length:Int)),(((OpD.tag (List.getD l (i).toNat op0)) == (1:Int))=false)]):Sg Try.prog (srS l I n i) (mkSt 58 [0,1,10,27,28,29] [(.ci (.sl (.op l))),(.ci (.sl (.fr I))),.ii n,(.ci (.sl (.op l))),(.ii (l.length:Int)),(.ii (wrap .i64 (i+1)))] [] [] 480 [] []) .normal (lpBk srA_k) (lpIn srA_k):=fun hs hK=>
 run_at2 (unroll:=false) (n:=3000) (path:=[true,false]) (o:=⟨_,_,_,_,_,_,_⟩) rS1_ok (by kernel_rfl) (by kernel_rfl) ho hs hK
end
theorem srL_end (l:List OpD) (I:List U4) (n i:Int):runEnd rS1 Try.f19 false 3000 (⟨lpIn srA_k,.normal,srS l I n i⟩) [false,true] [] []=(some ([((decide (i<(l.length:Int)))=false),((n != (I.length:Int))=true)],((.t [(.c (.val (Value.slice Option.none 0 0))),(.c (.int .i64 (3:Int))),(.c (.int .i64 (0:Int)))]),[]))):=by kernel_rfl
theorem srW_end (l:List OpD) (I:List U4) (n i:Int):runEnd rS1 Try.f19 false 3000 (⟨lpIn srA_k,.normal,srS l I n i⟩) [false,false,true] [] []=(some ([((decide (i<(l.length:Int)))=false),((n != (I.length:Int))=false),((decide ((Prod.snd (Prod.snd (Prod.snd (refA l I)))) ≥ (0:Int)))=true)],((.t [(.c (.val (Value.slice Option.none 0 0))),(.c (.int .i64 (70:Int))),(.c (.int .i64 (Prod.snd (Prod.snd (Prod.snd (refA l I))))))]),[]))):=by kernel_rfl
theorem srX_end (l:List OpD) (I:List U4) (n i:Int):runEnd rS1 Try.f19 false 3000 (⟨lpIn srA_k,.normal,srS l I n i⟩) [false,false,false] [] [434]=(some ([((decide (i<(l.length:Int)))=false),((n != (I.length:Int))=false),((decide ((Prod.snd (Prod.snd (Prod.snd (refA l I)))) ≥ (0:Int)))=false),((List.map outF (BD.w (Prod.fst (refA l I)))).length=(List.map outF (BD.w (Prod.fst (refA l I)))).length)],((.t [(.c (.sl (.fr (List.map outF (BD.w (Prod.fst (refA l I))))))),(.c (.int .i64 (0:Int))),(.c (.int .i64 (0:Int)))]),[]))):=by kernel_rfl
--@env sA sA_ok
theorem pbE (l:List OpD) (V:List U4):fnRes sA Try.f20 3000 [.v (.c (.sl (.op l))),.v (.c (.sl (.fr V)))] [true] [] []=(some ([(((Prod.fst (Prod.snd (compR l))) != (0:Int))=true)],((.t [(.c (.val (Value.slice Option.none 0 0))),(.c (.int .i64 (Prod.fst (Prod.snd (compR l)))))]),[]))):=by kernel_rfl
theorem pbL (l:List OpD) (V:List U4):fnRes sA Try.f20 3000 [.v (.c (.sl (.op l))),.v (.c (.sl (.fr V)))] [false,true] [] []=(some ([(((Prod.fst (Prod.snd (compR l))) != (0:Int))=false),(((V.length:Int) != (Prod.snd (Prod.snd (Prod.fst (compR l)))))=true)],((.t [(.c (.val (Value.slice Option.none 0 0))),(.c (.int .i64 (3:Int)))]),[]))):=by kernel_rfl
def pbA_k:List KI:=(run sA false 3000 ((fun (l:List OpD) (V:List U4)=>(⟨[.code (bodyOf Try.f20)],.normal,initSt Try.f20.ntmps [.v (.c (.sl (.op l))),.v (.c (.sl (.fr V)))]⟩:Cfg)) default default) [false,false]).cfg.k
theorem pbA (l:List OpD) (V:List U4) (ho:AllP [(((Prod.fst (Prod.snd (compR l))) != (0:Int))=false),(((V.length:Int) != (Prod.snd (Prod.snd (Prod.fst (compR l)))))=false),(0≤(Prod.fst (Prod.snd (Prod.fst (compR l))))),((Prod.fst (Prod.snd (Prod.fst (compR l))))≤(((Prod.fst (Prod.fst (compR l))).length:Nat):Int))]):Sg Try.prog (initSt Try.f20.ntmps [.v (.c (.sl (.op l))),.v (.c (.sl (.fr V)))]) (mkSt 50 [1,9,32,33,34] [(.ci (.sl (.fr V))),(.ci (.val (Value.slice Option.none 0 0))),(.ci (.sl (.gate (List.take ((Prod.fst (Prod.snd (Prod.fst (compR l))))).toNat (List.drop 0 (Prod.fst (Prod.fst (compR l)))))))),(.ii (((List.take ((Prod.fst (Prod.snd (Prod.fst (compR l))))).toNat (List.drop 0 (Prod.fst (Prod.fst (compR l))))).length:Nat):Int)),.ii (0:Int)] [] [] 480 [] []) .normal (pbA_k) ([.code (bodyOf Try.f20)]):=fun hs hK=>
 run_at2 (unroll:=false) (n:=3000) (path:=[false,false]) (o:=⟨_,_,_,_,_,_,_⟩) sA_ok (by kernel_rfl) (by kernel_rfl) ho hs hK
def pbS (V:List U4) (T:List GateD) (O:List U4) (i:Int):St:=mkSt 50 [1,9,32,33,34] [(.ci (.sl (.fr V))),.v (.c (.slc 32 0 O.length 4)),.v (.c (.sl (.gate T))),.v (.c (.int .i64 (T.length:Int))),.v (.c (.int .i64 i))] [32] [some (.sq (.fr O))] 480 [] []
theorem pbB (V:List U4) (T:List GateD) (O:List U4) (i:Int) (ho:AllP [((decide (i<(T.length:Int)))=true),(0≤i),(i<(T.length:Int)),(0≤(0:Int)),(0<(3:Int)),(0≤(GateD.a (List.getD T (i).toNat gate0))),((GateD.a (List.getD T (i).toNat gate0))<(V.length:Int)),(((O.length+1)*32)≤140737488355328),((O.length+1)≤maxLen),(O.length=O.length),(1=1)]):Sg Try.prog (pbS V T O i) (mkSt 50 [1,9,32,33,34] [(.ci (.sl (.fr V))),(.ci (.slc 32 0 (O.length+1) 4)),(.ci (.sl (.gate T))),(.ii (T.length:Int)),(.ii (wrap .i64 (i+1)))] [32] [(eQ (.fr (O++[(outF (inF (List.getD V ((GateD.a (List.getD T (i).toNat gate0))).toNat 0)))])))] 768 [] []) .normal (lpBk pbA_k) (lpIn pbA_k):=fun hs hK=>
 run_at2 (unroll:=false) (n:=3000) (path:=[true]) (o:=⟨_,_,_,_,_,_,_⟩) sA_ok (by kernel_rfl) (by kernel_rfl) ho hs hK
theorem pbX_end (V:List U4) (T:List GateD) (O:List U4) (i:Int):runEnd sA Try.f20 false 3000 (⟨lpIn pbA_k,.normal,pbS V T O i⟩) [false] [] [32]=(some ([((decide (i<(T.length:Int)))=false),(O.length=O.length)],((.t [(.c (.sl (.fr O))),(.c (.int .i64 (0:Int)))]),[]))):=by kernel_rfl
--@env rF rF_ok
def lfB_k:List KI:=(run rF false 3000 ((fun (V U:List U4)=>(⟨[.code (bodyOf Try.f14)],.normal,initSt Try.f14.ntmps [.v (.c (.sl (.fr V))),.v (.c (.sl (.fr U)))]⟩:Cfg)) default default) [false]).cfg.k
theorem lfB (V U:List U4) (ho:AllP [(((V.length:Int) != (U.length:Int))=false)]):Sg Try.prog (initSt Try.f14.ntmps [.v (.c (.sl (.fr V))),.v (.c (.sl (.fr U)))]) (mkSt 26 [0,1,12,13] [(.ci (.sl (.fr V))),(.ci (.sl (.fr U))),(.ii (V.length:Int)),.ii (0:Int)] [] [] 160 [] []) .normal (lfB_k) ([.code (bodyOf Try.f14)]):=fun hs hK=>
 run_at2 (unroll:=false) (n:=3000) (path:=[false]) (o:=⟨_,_,_,_,_,_,_⟩) rF_ok (by kernel_rfl) (by kernel_rfl) ho hs hK
def lfS (V U:List U4) (i:Int):St:=mkSt 26 [0,1,12,13] [(.ci (.sl (.fr V))),(.ci (.sl (.fr U))),(.ii (V.length:Int)),.v (.c (.int .i64 i))] [] [] 160 [] []
theorem lfC (V U:List U4) (i:Int) (ho:AllP [((decide (i<(V.length:Int)))=true),(0≤i),(i<(V.length:Int)),(0≤i),(i<(U.length:Int)),((ite (false=true) (decide ((V.getD i.toNat 0)=(U.getD i.toNat 0))) (Bool.not (decide ((V.getD i.toNat 0)=(U.getD i.toNat 0)))))=false)]):Sg Try.prog (lfS V U i) (mkSt 26 [0,1,12,13] [(.ci (.sl (.fr V))),(.ci (.sl (.fr U))),(.ii (V.length:Int)),(.ii (wrap .i64 (i+1)))] [] [] 384 [] []) .normal (lpBk lfB_k) (lpIn lfB_k):=fun hs hK=>
 run_at2 (unroll:=false) (n:=3000) (path:=[true,false]) (o:=⟨_,_,_,_,_,_,_⟩) rF_ok (by kernel_rfl) (by kernel_rfl) ho hs hK
theorem lfX_end (V U:List U4) (i:Int):runEnd rF Try.f14 false 3000 (⟨lpIn lfB_k,.normal,lfS V U i⟩) [false] [] []=(some ([((decide (i<(V.length:Int)))=false)],((.ci (.lit true)),[]))):=by kernel_rfl
end
end

set_option linter.unusedSimpArgs false
set_option linter.unusedVariables false
section

theorem refSolve_fnd (l:List OpD) (I:List U4):FnD Try.prog 19 [.v (.c (.sl (.op l))),.v (.c (.sl (.fr I)))] (solSV (solR l I)) []:=by
 by_cases he:(compR l).2.1=0
 case neg=>
  rw[show solR l I=([],(compR l).2.1,(compR l).2.2) from if_pos he]
  exact (fn_sound rS1_ok Try.func19 (srE l I) ⟨bne_iff_ne.2 he,trivial⟩).conv (fun _ _ h=>h) fun y v hd=>nil_tf hd
 obtain ⟨hl,hok,hG,hT,_⟩:=comp_ok he
 have e0:solR l I=if nIn l≠I.length then ([],3,0) else solE (solL l (b0 I) 0):=if_neg (not_not_intro he)
 have hnl:=nIn_le l
 refine fn_start (fn:=Try.f19) (c:=bodyOf Try.f19) Try.func19 rfl rfl fun x0 a0 hk hF hs0=>?_
 refine srA l I ⟨bne_eq_false_iff_eq.2 he,trivial⟩ hs0 fun ac cY aY hs1=>?_
 refine loop_rule (ι:={ s:Nat×Nat // s.1≤l.length∧s.2≤s.1∧s.2+nIn (l.drop s.1)=nIn l }) (fun s=>srS l I (s.1.2:Int) (s.1.1:Int)) (fun s=>l.length-s.1.1) (c:=lpC srA_k) (k:=lpR srA_k) (by kernel_rfl) (fun s ih ac cY aY hs=>?_) ⟨(0,0),Nat.zero_le _,Nat.zero_le _,Nat.zero_add _⟩ (hs1.nx _)
 obtain ⟨⟨i,n⟩,hi,hn,hc⟩:=s
 simp only at ih hs hi hn hc
 by_cases h:i<l.length
 ·have wi:wrap IntKind.i64 ((i:Int)+1)=((i+1:Nat):Int):=by rw[wrap_id (by omega) (by omega)];omega
  have wn:wrap IntKind.i64 ((n:Int)+1)=((n+1:Nat):Int):=by rw[wrap_id (by omega) (by omega)];omega
  have hd:=nIn_drop l h
  by_cases ht:(l.getD i op0).tag=1
  ·rw[if_pos ht] at hd
   refine srB l I n i ⟨decide_eq_true (by omega),by omega,by omega,by rw[Int.toNat_natCast];exact beq_iff_eq.2 ht,trivial⟩ hs fun ac cU aU hs2=>?_
   rw[wi,wn] at hs2
   exact ih ⟨(i+1,n+1),h,by show n+1≤i+1;omega,by show n+1+nIn (l.drop (i+1))=nIn l;omega⟩ (by show l.length-(i+1)<l.length-i;omega) ac cU aU (hs2.nx _)
  ·rw[if_neg ht] at hd
   refine srC l I n i ⟨decide_eq_true (by omega),by omega,by omega,by rw[Int.toNat_natCast];exact beq_eq_false_iff_ne.2 ht,trivial⟩ hs fun ac cU aU hs2=>?_
   rw[wi] at hs2
   exact ih ⟨(i+1,n),h,by show n≤i+1;omega,by show n+nIn (l.drop (i+1))=nIn l;omega⟩ (by show l.length-(i+1)<l.length-i;omega) ac cU aU (hs2.nx _)
 have en:n=nIn l:=by rw[List.drop_eq_nil_of_le (by omega)] at hc;exact hc
 subst en
 by_cases hI:nIn l≠I.length
 ·rw[e0,if_pos hI]
  exact run_end2 rS1_ok hk hF (srL_end l I _ i) ⟨decide_eq_false (by omega),bne_iff_ne.2 (by omega),trivial⟩ (fun y v hd=>nil_tf hd) hs
 rw[e0,if_neg hI]
 have hI:nIn l=I.length:=Decidable.not_not.1 hI
 obtain ⟨hokI,_⟩:=alike_all l (b0 []) (b0 I) ⟨rfl,rfl⟩ hok
 have eR:refA l I=refL l (b0 I) (-1) 0:=if_neg (by omega)
 rcases ref_sol l (b0 I) 0 hokI (Int.le_refl _) with ⟨k,h1,h2,h3⟩ | ⟨h1,h3⟩
 ·rw[←eR] at h3
  rw[h1]
  refine run_end2 rS1_ok hk hF (srW_end l I _ i) ⟨decide_eq_false (by omega),bne_eq_false_iff_eq.2 (by omega),decide_eq_true (by omega),trivial⟩ (fun y v hd=>?_) hs
  rw[h3] at hd
  exact nil_tf hd
 ·rw[←eR] at h3
  obtain ⟨_,h4⟩:=refL_of_ok l (b0 I) (-1) 0 hokI
  rw[←eR] at h4
  rw[h1]
  refine run_end2 rS1_ok hk hF (srX_end l I _ i) ⟨decide_eq_false (by omega),bne_eq_false_iff_eq.2 (by omega),decide_eq_false (by omega),rfl,trivial⟩ (fun y v hd=>?_) hs
  rw[h4] at hd
  exact hd

theorem likeF_fnd (V:List U4) (hV:V.length≤9000000000000000000):FnD Try.prog 14 [.v (.c (.sl (.fr V))),.v (.c (.sl (.fr V)))] (.v (.c (.bool true))) []:=by
 refine fn_start (fn:=Try.f14) (c:=bodyOf Try.f14) Try.func14 rfl rfl fun x0 a0 hk hF hs0=>?_
 refine lfB V V ⟨bne_eq_false_iff_eq.2 rfl,trivial⟩ hs0 fun ac cY aY hs1=>?_
 refine loop_rule (ι:={ i:Nat // i≤V.length }) (fun s=>lfS V V (s.1:Int)) (fun s=>V.length-s.1) (c:=lpC lfB_k) (k:=lpR lfB_k) (by kernel_rfl) (fun s ih ac cY aY hs=>?_) ⟨0,Nat.zero_le _⟩ (hs1.nx _)
 obtain ⟨i,hi⟩:=s
 simp only at ih hs hi
 by_cases h:i<V.length
 ·have wi:wrap IntKind.i64 ((i:Int)+1)=((i+1:Nat):Int):=by rw[wrap_id (by omega) (by omega)];omega
  refine lfC V V i ⟨decide_eq_true (by omega),by omega,by omega,by omega,by omega,?_,trivial⟩ hs fun ac cU aU hs2=>?_
  ·rw[if_neg (by decide)];simp
  ·rw[wi] at hs2
   exact ih ⟨i+1,by omega⟩ (by show V.length-(i+1)<V.length-i;omega) ac cU aU (hs2.nx _)
 ·exact run_end2 rF_ok hk hF (lfX_end V V i) ⟨decide_eq_false (by omega),trivial⟩ (fun y v hd=>by obtain ⟨h1,d,h2⟩:=hd;exact ⟨h1,d,by cases d<;>exact h2⟩) hs

/-- What is told. -/
def tellV (V:List U4) (T:List GateD):List U4:=T.map fun g=>outF (inF (V.getD g.a.toNat 0))
def pubR (l:List OpD) (V:List U4):List U4×Int:=
 if (compR l).2.1≠0 then ([],(compR l).2.1) else if (V.length:Int)≠(compR l).1.2.2 then ([],3) else (tellV V (toldL l),0)
def pubSV (r:List U4×Int):SV:=.t [.c (.sl (.fr r.1)),.c (.int .i64 r.2)]

theorem finL_mono:∀(l:List OpD) (B:BD),B.w.length≤(finL l B).w.length
 | [],_=>Nat.le_refl _
 | o::r,B=>by
  have h1:=finL_mono r (opB B o)
  have h2:(opB B o).w.length=B.w.length+(valsOf B.w (inX B.j) o.tag o.a o.b o.c o.n o.k o.ks o.vars).length:=List.length_append
  show _≤(finL r (opB B o)).w.length
  omega
theorem chk_tell {o:OpD} {n:Int} (h:chkO o n=0) (ht:o.tag=2):0≤o.a∧o.a<n:=by
 obtain ⟨t,a,b,c,m,k,ks,vs⟩:=o
 have ht:t=2:=ht
 subst ht
 have h:checkE 2 a b c m k ks vs n=0:=h
 apply inV_get
 cases hv:inV n a with
 | true=>rfl
 | false=>exfalso;simp [checkE,hv] at h
theorem told_in:∀(l:List OpD) (B:BD),okL l B→∀g∈toldL l,(0≤g.a∧g.a<((finL l B).w.length:Int))∧g=toldG g.a
 | [],_,_,g,hg=>by cases hg
 | o::r,B,h,g,hg=>by
  rcases List.mem_append.1 (show g∈tellO o++toldL r from hg) with hg | hg
  ·unfold tellO at hg
   split at hg
   ·rename_i ht
    rw[List.mem_singleton] at hg
    subst hg
    have h1:=chk_tell h.1 ht
    have h2:=finL_mono (o::r) B
    refine ⟨?_,rfl⟩
    show 0≤o.a∧o.a<_
    omega
   ·cases hg
  ·exact told_in r (opB B o) h.2 g hg

theorem publics_fnd (l:List OpD) (V:List U4):FnD Try.prog 20 [.v (.c (.sl (.op l))),.v (.c (.sl (.fr V)))] (pubSV (pubR l V)) []:=by
 by_cases he:(compR l).2.1=0
 case neg=>
  rw[show pubR l V=([],(compR l).2.1) from if_pos he]
  exact (fn_sound sA_ok Try.func20 (pbE l V) ⟨bne_iff_ne.2 he,trivial⟩).conv (fun _ _ h=>h) fun y v hd=>nil_tf hd
 obtain ⟨hl,hok,hG,hT,hcr⟩:=comp_ok he
 by_cases hv:(V.length:Int)=(compR l).1.2.2
 case neg=>
  rw[show pubR l V=([],3) from (if_neg (not_not_intro he)).trans (if_pos hv)]
  exact (fn_sound sA_ok Try.func20 (pbL l V) ⟨bne_eq_false_iff_eq.2 he,bne_iff_ne.2 hv,trivial⟩).conv (fun _ _ h=>h) fun y v hd=>nil_tf hd
 rw[show pubR l V=(tellV V (toldL l),0) from (if_neg (not_not_intro he)).trans (if_neg (not_not_intro hv))]
 have e1:(compR l).1.2.1=((toldL l).length:Int):=by rw[hcr]
 have e2:(compR l).1.1=toldL l++(finL l (b0 [])).g:=by rw[hcr]
 have e3:(compR l).1.2.2=((finL l (b0 [])).w.length:Int):=by rw[hcr]
 refine fn_start (fn:=Try.f20) (c:=bodyOf Try.f20) Try.func20 rfl rfl fun x0 a0 hk hF hs0=>?_
 refine pbA l V ⟨bne_eq_false_iff_eq.2 he,bne_eq_false_iff_eq.2 hv,by omega,by rw[e1,e2,List.length_append];omega,trivial⟩ hs0 fun ac cY aY hs1=>?_
 rw[e1,e2,Int.toNat_natCast,List.drop_zero,List.take_left] at hs1
 obtain ⟨T,hTd⟩:∃T,T=toldL l:=⟨_,rfl⟩
 have hin:∀i,i<T.length→0≤(T.getD i gate0).a∧(T.getD i gate0).a<(V.length:Int):=fun i hi=>by
  rw[hv,e3]
  refine (told_in l (b0 []) hok _ ?_).1
  rw[←hTd,List.getD_eq_getElem?_getD,List.getElem?_eq_getElem hi]
  exact List.getElem_mem hi
 rw[←hTd] at hs1 hT ⊢
 have hs2:=hs1.nilRow (p:=32) (svs' := [.v (.c (.sl (.fr V))),.v (.c (.slc 32 0 0 4)),.v (.c (.sl (.gate T))),.v (.c (.int .i64 (T.length:Int))),.v (.c (.int .i64 0))])
  (ml' := [32]) (ens' := [some (.sq (.fr []))]) (q:=.fr []) (by decide) (by decide) rfl
  (fun r=>by
   simp only[look])
  ⟨.inl rfl,.inr ⟨4,rfl,rfl⟩,.inl rfl,.inl rfl,.inl rfl,trivial⟩
 have hs3:Sim x0.w x0.F kAll ac (pbS V T (tellV V (T.take 0)) ((0:Nat):Int)) (nilCtx cY 32) aY:=hs2.nx _
 change Wq Try.prog _ _ _ _ _ (nilCtx cY 32).w
 refine loop_rule (ι:={ i:Nat // i≤T.length }) (fun s=>pbS V T (tellV V (T.take s.1)) (s.1:Int)) (fun s=>T.length-s.1) (c:=lpC pbA_k) (k:=lpR pbA_k) (by kernel_rfl) (fun s ih ac cY aY hs=>?_) ⟨0,Nat.zero_le _⟩ hs3
 obtain ⟨i,hi⟩:=s
 simp only at ih hs hi
 have lO:(tellV V (T.take i)).length=i:=by unfold tellV;rw[List.length_map,List.length_take];omega
 by_cases h:i<T.length
 ·have wi:wrap IntKind.i64 ((i:Int)+1)=((i+1:Nat):Int):=by rw[wrap_id (by omega) (by omega)];omega
  have hii:=hin i h
  refine pbB V T _ i (by rw[Int.toNat_natCast,lO];exact (by simp only[AllP,maxLen,decide_eq_true_eq];and_intros<;>first | rfl | exact True.intro | omega)) hs fun ac cU aU hs4=>?_
  rw[wi,Int.toNat_natCast] at hs4
  refine ih ⟨i+1,h⟩ (by show T.length-(i+1)<T.length-i;omega) ac cU aU ?_
  have et:tellV V (T.take (i+1))=tellV V (T.take i)++[outF (inF (V.getD (T.getD i gate0).a.toNat 0))]:=by
   unfold tellV
   rw[List.take_succ_eq_append_getElem h,List.map_append,List.getD_eq_getElem?_getD (l:=T),List.getElem?_eq_getElem h]
   rfl
  show Sim x0.w x0.F kAll ac (pbS V T (tellV V (T.take (i+1))) ((i+1:Nat):Int)) cU aU
  rw[et]
  unfold pbS
  rw[List.length_append]
  exact hs4.nx _
 ·obtain rfl:i=T.length:=by omega
  rw[List.take_length] at hs
  exact run_end2 sA_ok hk hF (pbX_end V T (tellV V T) _) ⟨decide_eq_false (by omega),rfl,trivial⟩ (fun y v hd=>hd) hs
end

section
section
variable {w0:World} {F0:Nat→Prop} {K:Kp} {ac:List Act} {Q:Exit→Act→World→Prop} {cX:Ctx} {aX:Act}

def solveSpec:FnSpec
 | [.v (.c (.sl (.op l))),.v (.c (.sl (.fr I)))]=>some ([],solSV (solR l I),[])
 | _=>none
def zA1:Env:=rG.set (addT rG.fn 13 solveSpec)
theorem zA1_ok:EnvOk Try.prog zA1:=env_add rG_ok 13 solveSpec (enters_of Try.func13 rfl rfl) fun args o r es h _=>by
 unfold solveSpec at h
 split at h
 ·cases h;exact solve_fnd _ _
 ·cases h
def pubSpec:FnSpec
 | [.v (.c (.sl (.op l))),.v (.c (.sl (.fr V)))]=>some ([],pubSV (pubR l V),[])
 | _=>none
def zA2:Env:=zA1.set (addT zA1.fn 20 pubSpec)
theorem zA2_ok:EnvOk Try.prog zA2:=env_add zA1_ok 20 pubSpec (enters_of Try.func20 rfl rfl) fun args o r es h _=>by
 unfold pubSpec at h
 split at h
 ·cases h;exact publics_fnd _ _
 ·cases h
def refSolveSpec:FnSpec
 | [.v (.c (.sl (.op l))),.v (.c (.sl (.fr I)))]=>some ([],solSV (solR l I),[])
 | _=>none
def zA4:Env:=zA2.set (addT zA2.fn 19 refSolveSpec)
theorem zA4_ok:EnvOk Try.prog zA4:=env_add zA2_ok 19 refSolveSpec (enters_of Try.func19 rfl rfl) fun args o r es h _=>by
 unfold refSolveSpec at h
 split at h
 ·cases h;exact refSolve_fnd _ _
 ·cases h
def likeFSpec:FnSpec
 | [.v (.c (.sl (.fr V))),.v (.c (.sl (.fr U)))]=>some ([V=U,V.length≤9000000000000000000],.v (.c (.bool true)),[])
 | _=>none
def zA5:Env:=zA4.set (addT zA4.fn 14 likeFSpec)
theorem zA5_ok:EnvOk Try.prog zA5:=env_add zA4_ok 14 likeFSpec (enters_of Try.func14 rfl rfl) fun args o r es h ho=>by
 unfold likeFSpec at h
 split at h
 ·cases h;exact (by obtain ⟨rfl,h,_⟩:=ho;exact likeF_fnd _ h)
 ·cases h
def aliveTSpec:FnSpec
 | []=>some ([],.v (.c (.bool true)),[])
 | _=>none
def zA:Env:=zA5.set (addT zA5.fn 11 aliveTSpec)
theorem zA_ok:EnvOk Try.prog zA:=env_add zA5_ok 11 aliveTSpec (enters_of Try.func11 rfl rfl) fun args o r es h _=>by
 unfold aliveTSpec at h
 split at h
 ·cases h;exact aliveC_fnd
 ·cases h
--@env zA zA_ok
theorem ssA (l:List OpD) (I V:List U4):fnRes zA Try.f6 3000 [.v (.c (.sl (.op l))),.v (.c (.sl (.fr I))),.v (.c (.sl (.fr V)))] [false,false,false,false,false,true,true] [] []=(some ([((l.length*120)≤140737488355328),((Bool.not true)=false),(((Prod.fst (Prod.snd (solR (ownL l) I))) != (Prod.fst (Prod.snd (solR (ownL l) I))))=false),(((Prod.snd (Prod.snd (solR (ownL l) I))) != (Prod.snd (Prod.snd (solR (ownL l) I))))=false),((List.map outF (Prod.fst (solR (ownL l) I)))=(List.map outF (Prod.fst (solR (ownL l) I)))),((List.map outF (Prod.fst (solR (ownL l) I))).length≤9000000000000000000),((Bool.not true)=false),(((Prod.fst (Prod.snd (solR (ownL l) I))) == (0:Int))=false),(((Prod.fst (Prod.snd (compR (ownL l)))) != (0:Int))=true),(((Prod.snd (pubR (ownL l) V)) == (Prod.fst (Prod.snd (compR (ownL l)))))=true)],((.ci (.bool ((((Prod.fst (pubR (ownL l) V)).length:Nat):Int) == (0:Int)))),[]))):=by kernel_rfl
theorem ssB (l:List OpD) (I V:List U4):fnRes zA Try.f6 3000 [.v (.c (.sl (.op l))),.v (.c (.sl (.fr I))),.v (.c (.sl (.fr V)))] [false,false,false,false,false,false,true,true] [] []=(some ([((l.length*120)≤140737488355328),((Bool.not true)=false),(((Prod.fst (Prod.snd (solR (ownL l) I))) != (Prod.fst (Prod.snd (solR (ownL l) I))))=false),(((Prod.snd (Prod.snd (solR (ownL l) I))) != (Prod.snd (Prod.snd (solR (ownL l) I))))=false),((List.map outF (Prod.fst (solR (ownL l) I)))=(List.map outF (Prod.fst (solR (ownL l) I)))),((List.map outF (Prod.fst (solR (ownL l) I))).length≤9000000000000000000),((Bool.not true)=false),(((Prod.fst (Prod.snd (solR (ownL l) I))) == (0:Int))=false),(((Prod.fst (Prod.snd (compR (ownL l)))) != (0:Int))=false),(((V.length:Int) != (Prod.snd (Prod.snd (Prod.fst (compR (ownL l))))))=true),(((Prod.snd (pubR (ownL l) V)) == (3:Int))=true)],((.ci (.bool ((((Prod.fst (pubR (ownL l) V)).length:Nat):Int) == (0:Int)))),[]))):=by kernel_rfl
def ssC_k:List KI:=(run zA false 3000 ((fun (l:List OpD) (I V:List U4)=>(⟨[.code (bodyOf Try.f6)],.normal,initSt Try.f6.ntmps [.v (.c (.sl (.op l))),.v (.c (.sl (.fr I))),.v (.c (.sl (.fr V)))]⟩:Cfg)) default default default) [false,false,false,false,false,false,false]).cfg.k
theorem ssC (l:List OpD) (I V:List U4) {w0:World} {F0:Nat→Prop} {K:Kp} {ac:List Act} {Q:Exit→Act→World→Prop} {cX:Ctx} {aX:Act} (ho:AllP [((l.length*120)≤140737488355328),((Bool.not true)=false),(((Prod.fst (Prod.snd (solR (ownL l) I))) != (Prod.fst (Prod.snd (solR (ownL l) I))))=false),(((Prod.snd (Prod.snd (solR (ownL l) I))) != (Prod.snd (Prod.snd (solR (ownL l) I))))=false),((List.map outF (Prod.fst (solR (ownL l) I)))=(List.map outF (Prod.fst (solR (ownL l) I)))),((List.map outF (Prod.fst (solR (ownL l) I))).length≤9000000000000000000),((Bool.not true)=false),(((Prod.fst (Prod.snd (solR (ownL l) I))) == (0:Int))=false),(((Prod.fst (Prod.snd (compR (ownL l)))) != (0:Int))=false),(((V.length:Int) != (Prod.snd (Prod.snd (Prod.fst (compR (ownL l))))))=false),(0≤(Prod.fst (Prod.snd (Prod.fst (compR (ownL l)))))),((Prod.fst (Prod.snd (Prod.fst (compR (ownL l)))))≤(((Prod.fst (Prod.fst (compR (ownL l)))).length:Nat):Int))]) (hs:Sim w0 F0 K ac (initSt Try.f6.ntmps [.v (.c (.sl (.op l))),.v (.c (.sl (.fr I))),.v (.c (.sl (.fr V)))]) cX aX) (hK:∀ac cY aY,Sim w0 F0 K ac (mkSt 120 [2,16,17,18,96,97,98] [(.ci (.sl (.fr V))),(.ci (.sl (.fr (Prod.fst (pubR (ownL l) V))))),(.ii (Prod.snd (pubR (ownL l) V))),(.ci (.val (Value.slice Option.none 0 0))),(.ci (.sl (.gate (List.take ((Prod.fst (Prod.snd (Prod.fst (compR (ownL l)))))).toNat (List.drop 0 (Prod.fst (Prod.fst (compR (ownL l))))))))),(.ii (((List.take ((Prod.fst (Prod.snd (Prod.fst (compR (ownL l)))))).toNat (List.drop 0 (Prod.fst (Prod.fst (compR (ownL l)))))).length:Nat):Int)),.ii (0:Int)] [] [] 1248 [] []) cY aY→Wq Try.prog Q (ssC_k) ac Exit.normal aY cY.w):Wq Try.prog Q ([.code (bodyOf Try.f6)]) ac .normal aX cX.w:=
 run_at2 (unroll:=false) (n:=3000) (path:=[false,false,false,false,false,false,false]) (o:=⟨_,_,_,_,_,_,_⟩) zA_ok (by kernel_rfl) (by kernel_rfl) ho hs hK
theorem ssD (l:List OpD) (I V:List U4) {w0:World} {F0:Nat→Prop} {K:Kp} {ac:List Act} {Q:Exit→Act→World→Prop} {cX:Ctx} {aX:Act} (ho:AllP [((l.length*120)≤140737488355328),((Bool.not true)=false),(((Prod.fst (Prod.snd (solR (ownL l) I))) != (Prod.fst (Prod.snd (solR (ownL l) I))))=false),(((Prod.snd (Prod.snd (solR (ownL l) I))) != (Prod.snd (Prod.snd (solR (ownL l) I))))=false),((List.map outF (Prod.fst (solR (ownL l) I)))=(List.map outF (Prod.fst (solR (ownL l) I)))),((List.map outF (Prod.fst (solR (ownL l) I))).length≤9000000000000000000),((Bool.not true)=false),(((Prod.fst (Prod.snd (solR (ownL l) I))) == (0:Int))=true),(((Prod.fst (Prod.snd (compR (ownL l)))) != (0:Int))=false),(((((List.map outF (Prod.fst (solR (ownL l) I))).length:Nat):Int) != (Prod.snd (Prod.snd (Prod.fst (compR (ownL l))))))=false),(0≤(Prod.fst (Prod.snd (Prod.fst (compR (ownL l)))))),((Prod.fst (Prod.snd (Prod.fst (compR (ownL l)))))≤(((Prod.fst (Prod.fst (compR (ownL l)))).length:Nat):Int))]) (hs:Sim w0 F0 K ac (initSt Try.f6.ntmps [.v (.c (.sl (.op l))),.v (.c (.sl (.fr I))),.v (.c (.sl (.fr V)))]) cX aX) (hK:∀ac cY aY,Sim w0 F0 K ac (mkSt 120 [2,16,17,18,96,97,98] [(.ci (.sl (.fr (List.map outF (Prod.fst (solR (ownL l) I)))))),(.ci (.sl (.fr (Prod.fst (pubR (ownL l) (List.map outF (Prod.fst (solR (ownL l) I)))))))),(.ii (Prod.snd (pubR (ownL l) (List.map outF (Prod.fst (solR (ownL l) I)))))),(.ci (.val (Value.slice Option.none 0 0))),(.ci (.sl (.gate (List.take ((Prod.fst (Prod.snd (Prod.fst (compR (ownL l)))))).toNat (List.drop 0 (Prod.fst (Prod.fst (compR (ownL l))))))))),(.ii (((List.take ((Prod.fst (Prod.snd (Prod.fst (compR (ownL l)))))).toNat (List.drop 0 (Prod.fst (Prod.fst (compR (ownL l)))))).length:Nat):Int)),.ii (0:Int)] [] [] 1280 [] []) cY aY→Wq Try.prog Q (ssC_k) ac Exit.normal aY cY.w):Wq Try.prog Q ([.code (bodyOf Try.f6)]) ac .normal aX cX.w:=
 run_at2 (unroll:=false) (n:=3000) (path:=[false,false,false,false,true,false,false]) (o:=⟨_,_,_,_,_,_,_⟩) zA_ok (by kernel_rfl) (by kernel_rfl) ho hs hK
def ssS (V P:List U4) (h:Int) (T:List GateD) (O:List U4) (i:Int):St:=mkSt 120 [2,16,17,18,96,97,98] [.v (.c (.sl (.fr V))),.v (.c (.sl (.fr P))),.v (.c (.int .i64 h)),.v (.c (.slc 32 0 O.length 4)),.v (.c (.sl (.gate T))),.v (.c (.int .i64 (T.length:Int))),.v (.c (.int .i64 i))] [32] [some (.sq (.fr O))] 1248 [] []
theorem ssL (V P:List U4) (h:Int) (T:List GateD) (O:List U4) (i:Int) (ho:AllP [((decide (i<(T.length:Int)))=true),(0≤i),(i<(T.length:Int)),(0≤(0:Int)),(0<(3:Int)),(0≤(GateD.a (List.getD T (i).toNat gate0))),((GateD.a (List.getD T (i).toNat gate0))<(V.length:Int)),(((O.length+1)*32)≤140737488355328),((O.length+1)≤maxLen),(O.length=O.length),(1=1)]):Sg Try.prog (ssS V P h T O i) (mkSt 120 [2,16,17,18,96,97,98] [(.ci (.sl (.fr V))),(.ci (.sl (.fr P))),.ii h,(.ci (.slc 32 0 (O.length+1) 4)),(.ci (.sl (.gate T))),(.ii (T.length:Int)),(.ii (wrap .i64 (i+1)))] [32] [(eQ (.fr (O++[(cleanU (List.getD V ((GateD.a (List.getD T (i).toNat gate0))).toNat 0))])))] 1536 [] []) .normal (lpBk ssC_k) (lpIn ssC_k):=fun hs hK=>
 run_at2 (unroll:=false) (n:=3000) (path:=[true]) (o:=⟨_,_,_,_,_,_,_⟩) zA_ok (by kernel_rfl) (by kernel_rfl) ho hs hK
theorem ssX_end (V P:List U4) (h:Int) (T:List GateD) (O:List U4) (i:Int):runEnd zA Try.f6 false 3000 (⟨lpIn ssC_k,.normal,ssS V P h T O i⟩) [false,true] [] []=(some ([((decide (i<(T.length:Int)))=false),((h == (0:Int))=true),(0=0),(O.length=O.length),(4=4),(P=O),(P.length≤9000000000000000000)],((.ci (.bool true)),[]))):=by kernel_rfl
end
end

set_option linter.unusedVariables false
section

/-- When the values are told, and which. -/
theorem sol_ok {l:List OpD} {I:List U4} (h:(solR l I).2.1=0):(compR l).2.1=0∧nIn l=I.length∧solL l (b0 I) 0 = .inl (finL l (b0 I))∧solR l I=((finL l (b0 I)).w,0,0):=by
 by_cases he:(compR l).2.1=0
 case neg=>
  rw[show solR l I=([],(compR l).2.1,(compR l).2.2) from if_pos he] at h
  exact absurd h he
 have e0:solR l I=if nIn l≠I.length then ([],3,0) else solE (solL l (b0 I) 0):=if_neg (not_not_intro he)
 by_cases hI:nIn l=I.length
 case neg=>
  rw[e0,if_pos hI] at h
  cases h
 rw[e0,if_neg (not_not_intro hI)] at h ⊢
 obtain ⟨hl,hok,_⟩:=comp_ok he
 obtain ⟨hokI,_⟩:=alike_all l (b0 []) (b0 I) ⟨rfl,rfl⟩ hok
 rcases ref_sol l (b0 I) 0 hokI (Int.le_refl _) with ⟨k,h1,_⟩ | ⟨h1,_⟩
 ·rw[h1] at h
  cases h
 ·rw[h1]
  exact ⟨he,hI,rfl,rfl⟩
theorem sol_err {l:List OpD} {I:List U4} (h:(solR l I).2.1≠0):(solR l I).1=[]:=by
 unfold solR at h ⊢
 split
 ·rfl
 rename_i h1
 rw[if_neg h1] at h
 split
 ·rfl
 rename_i h2
 rw[if_neg h2] at h
 cases hs:solL l (b0 I) 0 with
 | inl B=>rw[hs] at h;exact absurd rfl h
 | inr k=>rfl
theorem sol_len (l:List OpD) (I:List U4):((solR l I).1.map outF).length≤9000000000000000000:=by
 rw[List.length_map]
 by_cases h:(solR l I).2.1=0
 ·obtain ⟨he,hI,hs,hr⟩:=sol_ok h
  obtain ⟨hl,hok,hG,hT,hcr⟩:=comp_ok he
  obtain ⟨hokI,_⟩:=alike_all l (b0 []) (b0 I) ⟨rfl,rfl⟩ hok
  have hw:=finL_w l (b0 I) hokI
  rw[hr]
  show (finL l (b0 I)).w.length≤_
  have:(b0 I).w.length=0:=rfl
  omega
 ·rw[sol_err h]
  exact Nat.zero_le _

end

set_option linter.unusedVariables false
section

theorem circuitSolves_fnd (l:List OpD) (I V:List U4) (hz:l.length*120≤140737488355328):FnD Try.prog 6 [.v (.c (.sl (.op l))),.v (.c (.sl (.fr I))),.v (.c (.sl (.fr V)))] (.v (.c (.bool true))) []:=by
 obtain ⟨L,hL⟩:∃L,L=ownL l:=⟨_,rfl⟩
 have hlen:=sol_len L I
 have rA:=ssA l I V
 have rB:=ssB l I V
 have n1:(!true)=false:=rfl
 by_cases he:(compR L).2.1=0
 case neg=>
  have h0:(solR L I).2.1≠0:=fun h=>he (sol_ok h).1
  have hp:pubR L V=([],(compR L).2.1):=if_pos he
  rw[←hL,hp] at rA
  exact fn_sound zA_ok Try.func6 rA ⟨hz,n1,bne_self_eq_false _,bne_self_eq_false _,rfl,hlen,n1,beq_eq_false_iff_ne.2 h0,bne_iff_ne.2 he,beq_self_eq_true _,trivial⟩
 obtain ⟨hl,hok,hG,hT,hcr⟩:=comp_ok he
 by_cases hw:(solR L I).2.1≠0∧¬(V.length:Int)=(compR L).1.2.2
 ·have hp:pubR L V=([],3):=(if_neg (not_not_intro he)).trans (if_pos hw.2)
  rw[←hL,hp] at rB
  exact fn_sound zA_ok Try.func6 rB ⟨hz,n1,bne_self_eq_false _,bne_self_eq_false _,rfl,hlen,n1,beq_eq_false_iff_ne.2 hw.1,bne_eq_false_iff_eq.2 he,bne_iff_ne.2 hw.2,beq_self_eq_true _,trivial⟩
 have e1:(compR L).1.2.1=((toldL L).length:Int):=by rw[hcr]
 have e2:(compR L).1.1=toldL L++(finL L (b0 [])).g:=by rw[hcr]
 have e3:(compR L).1.2.2=((finL L (b0 [])).w.length:Int):=by rw[hcr]
 have hc1:(0:Int)≤(compR L).1.2.1:=by omega
 have hc2:(compR L).1.2.1≤((compR L).1.1.length:Int):=by rw[e1,e2,List.length_append];omega
 refine fn_start (fn:=Try.f6) (c:=bodyOf Try.f6) Try.func6 rfl rfl fun x0 a0 hk hF hs0=>?_
 -- what is told
 have go:∀(U:List U4),(U.length:Int)=(compR L).1.2.2→∀ac cY aY nx,Sim x0.w x0.F kAll ac (mkSt 120 [2,16,17,18,96,97,98] [.v (.c (.sl (.fr U))),.v (.c (.sl (.fr (pubR L U).1))),.v (.c (.int .i64 (pubR L U).2)),.v (.c (.val (.slice none 0 0))),.v (.c (.sl (.gate (List.take (compR L).1.2.1.toNat (List.drop 0 (compR L).1.1))))),.v (.c (.int .i64 ((List.take (compR L).1.2.1.toNat (List.drop 0 (compR L).1.1)).length:Int))),.v (.c (.int .i64 0))] [] [] nx [] []) cY aY →
   Wq Try.prog (Post Try.prog Try.f6 x0 (.v (.c (.bool true))) []) ssC_k ac .normal aY cY.w:=by
  intro U hv ac cY aY nx hs1
  have hp:pubR L U=(tellV U (toldL L),0):=(if_neg (not_not_intro he)).trans (if_neg (not_not_intro hv))
  rw[hp,e1,e2,Int.toNat_natCast,List.drop_zero,List.take_left] at hs1
  obtain ⟨T,hTd⟩:∃T,T=toldL L:=⟨_,rfl⟩
  have hin:∀i,i<T.length→0≤(T.getD i gate0).a∧(T.getD i gate0).a<(U.length:Int):=fun i hi=>by
   rw[hv,e3]
   refine (told_in L (b0 []) hok _ ?_).1
   rw[←hTd,List.getD_eq_getElem?_getD,List.getElem?_eq_getElem hi]
   exact List.getElem_mem hi
  rw[←hTd] at hs1 hT
  have hs2:=hs1.nilRow (p:=32) (svs' := [.v (.c (.sl (.fr U))),.v (.c (.sl (.fr (tellV U T)))),.v (.c (.int .i64 0)),.v (.c (.slc 32 0 0 4)),.v (.c (.sl (.gate T))),.v (.c (.int .i64 (T.length:Int))),.v (.c (.int .i64 0))])
   (ml' := [32]) (ens' := [some (.sq (.fr []))]) (q:=.fr []) (by decide) (by decide) rfl
   (fun r=>by
    simp only[look])
   ⟨.inl rfl,.inl rfl,.inl rfl,.inr ⟨4,rfl,rfl⟩,.inl rfl,.inl rfl,.inl rfl,trivial⟩
  have hs3:Sim x0.w x0.F kAll ac (ssS U (tellV U T) 0 T (tellV U (T.take 0)) ((0:Nat):Int)) (nilCtx cY 32) aY:=hs2.nx _
  change Wq Try.prog _ _ _ _ _ (nilCtx cY 32).w
  refine loop_rule (ι:={ i:Nat // i≤T.length }) (fun s=>ssS U (tellV U T) 0 T (tellV U (T.take s.1)) (s.1:Int)) (fun s=>T.length-s.1) (c:=lpC ssC_k) (k:=lpR ssC_k) (by kernel_rfl) (fun s ih ac cY aY hs=>?_) ⟨0,Nat.zero_le _⟩ hs3
  obtain ⟨i,hi⟩:=s
  simp only at ih hs hi
  have lO:(tellV U (T.take i)).length=i:=by unfold tellV;rw[List.length_map,List.length_take];omega
  by_cases h:i<T.length
  ·have wi:wrap IntKind.i64 ((i:Int)+1)=((i+1:Nat):Int):=by rw[wrap_id (by omega) (by omega)];omega
   have hii:=hin i h
   refine ssL U _ 0 T _ i (by rw[Int.toNat_natCast,lO];exact (by simp only[AllP,maxLen,decide_eq_true_eq];and_intros<;>first | rfl | exact True.intro | omega)) hs fun ac cU aU hs4=>?_
   rw[wi,Int.toNat_natCast,clean_out] at hs4
   refine ih ⟨i+1,h⟩ (by show T.length-(i+1)<T.length-i;omega) ac cU aU ?_
   have et:tellV U (T.take (i+1))=tellV U (T.take i)++[outF (inF (U.getD (T.getD i gate0).a.toNat 0))]:=by
    unfold tellV
    rw[List.take_succ_eq_append_getElem h,List.map_append,List.getD_eq_getElem?_getD (l:=T),List.getElem?_eq_getElem h]
    rfl
   show Sim x0.w x0.F kAll ac (ssS U (tellV U T) 0 T (tellV U (T.take (i+1))) ((i+1:Nat):Int)) cU aU
   rw[et]
   unfold ssS
   rw[List.length_append]
   exact hs4.nx _
  ·obtain rfl:i=T.length:=by omega
   rw[List.take_length] at hs
   have lT:(tellV U T).length=T.length:=by unfold tellV;rw[List.length_map]
   exact run_end2 zA_ok hk hF (ssX_end U (tellV U T) 0 T (tellV U T) _) ⟨decide_eq_false (by omega),rfl,rfl,rfl,rfl,rfl,by omega,trivial⟩ (fun y v hd=>hd) hs
 by_cases h0:(solR L I).2.1=0
 ·obtain ⟨_,hI,hs,hr⟩:=sol_ok h0
  obtain ⟨_,hlg,hlw⟩:=alike_all L (b0 []) (b0 I) ⟨rfl,rfl⟩ hok
  have hu:(((solR L I).1.map outF).length:Int)=(compR L).1.2.2:=by rw[hr,e3,List.length_map,hlw]
  have rD:=@ssD l I V x0.w x0.F kAll [] (Post Try.prog Try.f6 x0 (.v (.c (.bool true))) []) x0 a0
  rw[←hL] at rD
  exact rD ⟨hz,n1,bne_self_eq_false _,bne_self_eq_false _,rfl,hlen,n1,beq_iff_eq.2 h0,bne_eq_false_iff_eq.2 he,bne_eq_false_iff_eq.2 hu,hc1,hc2,trivial⟩ hs0 fun ac cY aY hs1=>go _ hu ac cY aY _ hs1
 ·have hv:(V.length:Int)=(compR L).1.2.2:=Decidable.not_not.1 fun h=>hw ⟨h0,h⟩
  have rC:=@ssC l I V x0.w x0.F kAll [] (Post Try.prog Try.f6 x0 (.v (.c (.bool true))) []) x0 a0
  rw[←hL] at rC
  exact rC ⟨hz,n1,bne_self_eq_false _,bne_self_eq_false _,rfl,hlen,n1,beq_eq_false_iff_ne.2 h0,bne_eq_false_iff_eq.2 he,bne_eq_false_iff_eq.2 hv,hc1,hc2,trivial⟩ hs0 fun ac cY aY hs1=>go _ hv ac cY aY _ hs1
end

end
end Go.Proofs.Ytobdghmmbddfnaa
